/-
  Losses: Closed, the check of a cut and Loss in the reference, Loss in the program.
-/
import Derived.Test.YtennlgngdjegoaaGreatLoB
namespace Go.Proofs.YtennlgngdjegoaaGreat
open Go Go.Sx Go.RowKit Classical

set_option maxRecDepth 100000
set_option maxHeartbeats 4000000

namespace Hs
open Fo (inSh scSh evSh pcH litK headK allB allB_ok lhsOf lhs_ok)

/-- is a list a closed set of writes of a correct history, in the reference? -/
def rcsB (h : Hi) (l : Il) : Bool := (rfE h == 0 && !(anyB (setB (toInt64 h.w.n) l.ρ) l.n)) && rclB h l
noncomputable def Gcs : List A1 → Option (Bool × AV)
  | [.agg [.sl [.int .i64] n ρ, .sl [.int .i64, .int .i64, .sl [.int .u8, .int .u8, .int .u8, .int .u8, .int .u8, .int .u8, .int .u8, .int .u8]] m ω, .sl [.int .i64, .int .i64] q ε], .c (.sl [.int .i64] k κ)] => some (dec (fewH ⟨⟨n, ρ⟩, ⟨m, ω⟩, ⟨q, ε⟩⟩ ∧ fewN k), bo (rcsB ⟨⟨n, ρ⟩, ⟨m, ω⟩, ⟨q, ε⟩⟩ ⟨k, κ⟩))
  | _ => none
theorem p32 : TcOne Tryz.prog 32 (nG Gcs) := tcOne_of_tree h22 10 32 fun args r hr => by
  unfold Gcs at hr; split at hr
  · rename_i n ρ m ω q ε k κ
    obtain ⟨hp, rfl⟩ := Prod.mk.inj (Option.some.inj hr)
    obtain ⟨f1, f4⟩ := dec_iff.1 hp
    refine ⟨rfl, .need (dec (fewH ⟨⟨n, ρ⟩, ⟨m, ω⟩, ⟨q, ε⟩⟩)) (.need (!(((rfE ⟨⟨n, ρ⟩, ⟨m, ω⟩, ⟨q, ε⟩⟩ == 0) == true) && true) || dec (fewN k)) (.need (!(((rfE ⟨⟨n, ρ⟩, ⟨m, ω⟩, ⟨q, ε⟩⟩ == 0 && !(anyB (setB (toInt64 m) κ) k)) == true) && true) || dec (fewH ⟨⟨n, ρ⟩, ⟨m, ω⟩, ⟨q, ε⟩⟩ ∧ fewN k))
      (.leaf (bo (rcsB ⟨⟨n, ρ⟩, ⟨m, ω⟩, ⟨q, ε⟩⟩ ⟨k, κ⟩))))), by kernel_rfl, dec_iff.2 f1, by rw [dec_iff.2 f4, Bool.or_true], by rw [hp, Bool.or_true], rfl⟩
  · cases hr
noncomputable abbrev H23 : Hd := ⟨(32, nG Gcs) :: H22.pc, H22.hc, H22.lh, H22.mc⟩
theorem h22b : HdOk Tryz.prog ⟨(32, nG Gcs) :: (79, nG Grcl) :: (31, nG Grc) :: H18.pc, H18.hc, [], H18.mc⟩ := ((h18.tcCons p31).tcCons p79).tcCons p32
theorem h23 : HdOk Tryz.prog H23 := HdOk.lhCons (HdOk.lhCons (HdOk.lhCons (HdOk.lhCons h22b Gc.ok) Gn.ok) Gm.ok) Gd.ok

/-- the error of a cut, in the reference -/
def rctE (h : Hi) (l : Il) : Int := bif rfE h != 0 then rfE h else bif anyB (setB (toInt64 h.w.n) l.ρ) l.n then 2 else bif !(rcsB h l) then 27 else 0
noncomputable def Grct : List A1 → Option (Bool × AV)
  | [.agg [.sl [.int .i64] n ρ, .sl [.int .i64, .int .i64, .sl [.int .u8, .int .u8, .int .u8, .int .u8, .int .u8, .int .u8, .int .u8, .int .u8]] m ω, .sl [.int .i64, .int .i64] q ε], .c (.sl [.int .i64] k κ)] => some (dec (fewH ⟨⟨n, ρ⟩, ⟨m, ω⟩, ⟨q, ε⟩⟩ ∧ fewN k), in1 (rctE ⟨⟨n, ρ⟩, ⟨m, ω⟩, ⟨q, ε⟩⟩ ⟨k, κ⟩))
  | _ => none
noncomputable def rctX (h : Hi) (l : Il) : Tree AV := .need (dec (fewH h ∧ fewN l.n)) (.br (!(rcsB h l)) (.leaf (in1 27)) (.leaf (in1 0)))
theorem p65 : TcOne Tryz.prog 65 (nG Grct) := tcOne_of_tree h23 10 65 fun args r hr => by
  unfold Grct at hr; split at hr
  · rename_i n ρ m ω q ε k κ
    obtain ⟨hp, rfl⟩ := Prod.mk.inj (Option.some.inj hr)
    obtain ⟨f1, f4⟩ := dec_iff.1 hp
    refine ⟨rfl, .need (dec (fewH ⟨⟨n, ρ⟩, ⟨m, ω⟩, ⟨q, ε⟩⟩)) (.br (rfE ⟨⟨n, ρ⟩, ⟨m, ω⟩, ⟨q, ε⟩⟩ != 0) (.br (rfE ⟨⟨n, ρ⟩, ⟨m, ω⟩, ⟨q, ε⟩⟩ != 0) (.leaf (in1 (rfE ⟨⟨n, ρ⟩, ⟨m, ω⟩, ⟨q, ε⟩⟩))) (rctX ⟨⟨n, ρ⟩, ⟨m, ω⟩, ⟨q, ε⟩⟩ ⟨k, κ⟩))
      (.need (dec (fewN k)) (.br (!(!(anyB (setB (toInt64 m) κ) k))) (.br true (.leaf (in1 2)) (rctX ⟨⟨n, ρ⟩, ⟨m, ω⟩, ⟨q, ε⟩⟩ ⟨k, κ⟩)) (.br false (.leaf (in1 0)) (rctX ⟨⟨n, ρ⟩, ⟨m, ω⟩, ⟨q, ε⟩⟩ ⟨k, κ⟩))))), by kernel_rfl,
      dec_iff.2 f1, fun a1 => ⟨fun _ => ?_, fun a2 => ?_⟩, fun a1 => ⟨dec_iff.2 f4, fun a2 => ⟨fun _ => ?_, fun h => (by cases h)⟩, fun a2 => ⟨fun h => (by cases h), fun _ => ⟨hp, fun a3 => ?_, fun a3 => ?_⟩⟩⟩⟩
    · show in1 _ = in1 (rctE _ _); unfold rctE; simp only [a1]; rfl
    · rw [a1] at a2; cases a2
    · rw [Bool.not_not] at a2
      show in1 _ = in1 (rctE _ _); unfold rctE; simp only [a1, a2]; rfl
    · rw [Bool.not_not] at a2
      show in1 _ = in1 (rctE _ _); unfold rctE; simp only [a1, a2, a3]; rfl
    · rw [Bool.not_not] at a2
      show in1 _ = in1 (rctE _ _); unfold rctE; simp only [a1, a2, a3]; rfl
  · cases hr

/-! ### Loss -/

noncomputable def lossR (e : Int) (h : Hi) (l : Il) : AV := .tup [.c (.sl inSh (okN e (ls l h.w.n).1) (ls l h.w.n).2), .c (I e)]
theorem loss_bad {e E : Int} {h : Hi} {l : Il} (he : E = e) (h0 : e ≠ 0) : leA (.tup [.c .nils, .c (I e)]) (lossR E h l) := by
  subst he
  have : ∀ n, okN E n = 0 := fun n => by
    unfold okN
    have : (E == 0) = false := by rw [beq_eq_false_iff_ne]; exact h0
    rw [this]; rfl
  unfold lossR
  rw [this]
  exact leA_nils2
theorem loss_ok {E : Int} {h : Hi} {l : Il} (he : E = 0) : leA (.tup [.c (.sl inSh (ls l h.w.n).1 (ls l h.w.n).2), .c (I 0)]) (lossR E h l) := by
  subst he; exact leA.refl
noncomputable def Glos : List A1 → Option (Bool × AV)
  | [.agg [.sl [.int .i64] n ρ, .sl [.int .i64, .int .i64, .sl [.int .u8, .int .u8, .int .u8, .int .u8, .int .u8, .int .u8, .int .u8, .int .u8]] m ω, .sl [.int .i64, .int .i64] q ε], .c (.sl [.int .i64] k κ)] => some (dec ((fewH ⟨⟨n, ρ⟩, ⟨m, ω⟩, ⟨q, ε⟩⟩ ∧ m ≤ 64) ∧ fewN k), lossR (cutE ⟨⟨n, ρ⟩, ⟨m, ω⟩, ⟨q, ε⟩⟩ ⟨k, κ⟩) ⟨⟨n, ρ⟩, ⟨m, ω⟩, ⟨q, ε⟩⟩ ⟨k, κ⟩)
  | _ => none
theorem u21 : UcOne Tryz.prog 21 (nG Glos) := ucOne_of_tree h23 10 21 fun args r hr => by
  unfold Glos at hr; split at hr
  · rename_i n ρ m ω q ε k κ
    obtain ⟨hp, rfl⟩ := Prod.mk.inj (Option.some.inj hr)
    obtain ⟨⟨f1, f2⟩, f4⟩ := dec_iff.1 hp
    refine ⟨.need (dec ((fewH ⟨⟨n, ρ⟩, ⟨m, ω⟩, ⟨q, ε⟩⟩ ∧ m ≤ 64) ∧ fewN k)) (.br (cutE ⟨⟨n, ρ⟩, ⟨m, ω⟩, ⟨q, ε⟩⟩ ⟨k, κ⟩ != 0) (.leaf (.tup [.c .nils, .c (I (cutE ⟨⟨n, ρ⟩, ⟨m, ω⟩, ⟨q, ε⟩⟩ ⟨k, κ⟩))])) (.need (dec (Gd.good ⟨⟨k, κ⟩, toInt64 m⟩ ∧ (⟨0, .zero, 0⟩ : Gd.V) = Gd.st ⟨⟨k, κ⟩, toInt64 m⟩ 0)) (.leaf (.tup [.c (.sl inSh (ls ⟨k, κ⟩ m).1 (ls ⟨k, κ⟩ m).2), .c (I 0)])))), by kernel_rfl,
      hp, fun a1 => ?_, fun a1 => ⟨dec_iff.2 ⟨⟨⟨?_, ?_⟩, f4⟩, rfl⟩, ?_⟩⟩
    · exact loss_bad rfl (by simpa [bne] using a1)
    · show (0 : Int) ≤ (m : Int); omega
    · show (m : Int) ≤ 1000; omega
    · exact loss_ok (h := ⟨⟨n, ρ⟩, ⟨m, ω⟩, ⟨q, ε⟩⟩) (l := ⟨k, κ⟩) (by simpa [bne] using a1)
  · cases hr
noncomputable abbrev H24 : Hd := ⟨(65, nG Grct) :: H23.pc, (21, nG Glos) :: H23.hc, H23.lh, H23.mc⟩
theorem h24 : HdOk Tryz.prog H24 := HdOk.lhCons (HdOk.lhCons (HdOk.lhCons (HdOk.lhCons ((h22b.ucCons u21).tcCons p65) Gc.ok) Gn.ok) Gm.ok) Gd.ok
noncomputable def Glor : List A1 → Option (Bool × AV)
  | [.agg [.sl [.int .i64] n ρ, .sl [.int .i64, .int .i64, .sl [.int .u8, .int .u8, .int .u8, .int .u8, .int .u8, .int .u8, .int .u8, .int .u8]] m ω, .sl [.int .i64, .int .i64] q ε], .c (.sl [.int .i64] k κ)] => some (dec ((fewH ⟨⟨n, ρ⟩, ⟨m, ω⟩, ⟨q, ε⟩⟩ ∧ m ≤ 64) ∧ fewN k), lossR (rctE ⟨⟨n, ρ⟩, ⟨m, ω⟩, ⟨q, ε⟩⟩ ⟨k, κ⟩) ⟨⟨n, ρ⟩, ⟨m, ω⟩, ⟨q, ε⟩⟩ ⟨k, κ⟩)
  | _ => none
theorem u22' : UcOne Tryz.prog 22 (nG Glor) := ucOne_of_tree h24 10 22 fun args r hr => by
  unfold Glor at hr; split at hr
  · rename_i n ρ m ω q ε k κ
    obtain ⟨hp, rfl⟩ := Prod.mk.inj (Option.some.inj hr)
    obtain ⟨⟨f1, f2⟩, f4⟩ := dec_iff.1 hp
    refine ⟨.need (dec (fewH ⟨⟨n, ρ⟩, ⟨m, ω⟩, ⟨q, ε⟩⟩ ∧ fewN k)) (.br (rctE ⟨⟨n, ρ⟩, ⟨m, ω⟩, ⟨q, ε⟩⟩ ⟨k, κ⟩ != 0) (.leaf (.tup [.c .nils, .c (I (rctE ⟨⟨n, ρ⟩, ⟨m, ω⟩, ⟨q, ε⟩⟩ ⟨k, κ⟩))])) (.need (dec (Gm.good ⟨⟨k, κ⟩, ⟨⟨n, ρ⟩, ⟨m, ω⟩, ⟨q, ε⟩⟩⟩ ∧ (⟨0, .zero, 0⟩ : Gm.V) = Gm.st ⟨⟨k, κ⟩, ⟨⟨n, ρ⟩, ⟨m, ω⟩, ⟨q, ε⟩⟩⟩ 0)) (.leaf (.tup [.c (.sl inSh (ls ⟨k, κ⟩ m).1 (ls ⟨k, κ⟩ m).2), .c (I 0)])))), by kernel_rfl,
      dec_iff.2 ⟨f1, f4⟩, fun a1 => ?_, fun a1 => ⟨dec_iff.2 ⟨⟨?_, f4⟩, rfl⟩, ?_⟩⟩
    · exact loss_bad rfl (by simpa [bne] using a1)
    · show m ≤ 1000; omega
    · exact loss_ok (h := ⟨⟨n, ρ⟩, ⟨m, ω⟩, ⟨q, ε⟩⟩) (l := ⟨k, κ⟩) (by simpa [bne] using a1)
  · cases hr
noncomputable abbrev H25 : Hd := ⟨H24.pc, (22, nG Glor) :: H24.hc, [((24, 0), Gn.L), ((114, 0), Gc.L)], H24.mc⟩
theorem h25 : HdOk Tryz.prog H25 := HdOk.lhCons (HdOk.lhCons (((h22b.ucCons u21).tcCons p65).ucCons u22') Gc.ok) Gn.ok

end Hs
end Go.Proofs.YtennlgngdjegoaaGreat
/-
  Losses: Point in the program and in the reference.
-/
namespace Go.Proofs.YtennlgngdjegoaaGreat
open Go Go.Sx Go.RowKit Classical

set_option maxRecDepth 100000
set_option maxHeartbeats 4000000

namespace Hs
open Fo (inSh scSh evSh pcH litK headK allB allB_ok lhsOf lhs_ok)

theorem ls_in (l : Il) : ∀ n j, j < (ls l n).1 → 0 ≤ vI (ls l n).2 j ∧ vI (ls l n).2 j < n
  | 0, j, h => by
    have h : j < 0 := h
    omega
  | n + 1, j, h => by
    have ih := ls_in l n
    have e : ls l (n + 1) = bif !(inB l n) then ((ls l n).1 + 1, Val.cat (ls l n).1 (ls l n).2 (Val.ofFlat 1 [I n])) else ls l n := rfl
    rw [e] at h ⊢
    cases hb : !(inB l n)
    · rw [hb] at h
      have := ih j h
      show 0 ≤ vI (ls l n).2 j ∧ vI (ls l n).2 j < _
      omega
    · rw [hb] at h
      have h : j < (ls l n).1 + 1 := h
      show 0 ≤ vI (Val.cat (ls l n).1 (ls l n).2 (Val.ofFlat 1 [I n])) j ∧ vI (Val.cat (ls l n).1 (ls l n).2 (Val.ofFlat 1 [I n])) j < _
      unfold vI
      rw [cat_at]
      by_cases hj : j < (ls l n).1
      · rw [if_pos hj]
        have := ih j hj
        unfold vI at this
        omega
      · have : j = (ls l n).1 := by omega
        subst this
        rw [if_neg hj, Nat.sub_self]
        show 0 ≤ (n : Int) ∧ (n : Int) < _
        omega

/-- a point, and an error -/
def pt (x e : Int) : AV := .tup [.c (I x), .c (I e)]
/-- the point where there is no error -/
def ptV (h : Hi) (l t : Il) (w : Int) : Int := bif toInt64 (ls l h.w.n).1 == 0 then 0 else w64 (w - vI t.ρ (vI (ls l h.w.n).2 0).toNat)
/-- the answer: the error of the cut, whether the times are wrong -/
def ptX (E : Int) (bad : Bool) (h : Hi) (l t : Il) (w : Int) : Int := bif E != 0 then 0 else bif toInt64 t.n != toInt64 h.w.n then 0 else bif bad then 0 else ptV h l t w
def ptY (E : Int) (bad : Bool) (h : Hi) (t : Il) : Int := bif E != 0 then E else bif toInt64 t.n != toInt64 h.w.n then 6 else bif bad then 24 else 0
def ptR (E : Int) (bad : Bool) (h : Hi) (l t : Il) (w : Int) : AV := pt (ptX E bad h l t w) (ptY E bad h t)
def ptT (E : Int) (h : Hi) (l t : Il) (w : Int) : Tree AV := .br (toInt64 (okN E (ls l h.w.n).1) == 0) (.leaf (pt 0 0)) (.need (inRange 0 (okN E (ls l h.w.n).1)) (.need (inRange (vI (ls l h.w.n).2 0) t.n) (.leaf (pt (w64 (w - vI t.ρ (vI (ls l h.w.n).2 0).toNat)) 0))))

theorem ptT_all {E : Int} {h : Hi} {l t : Il} {w : Int} (h0 : E = 0) (ht : t.n = h.w.n) : (ptT E h l t w).All (fun z => z = pt (ptV h l t w) 0) := by
  have e : okN E (ls l h.w.n).1 = (ls l h.w.n).1 := by unfold okN; rw [h0]; rfl
  unfold ptT ptV
  rw [e]
  refine ⟨fun a => ?_, fun a => ?_⟩
  · show pt 0 0 = pt _ 0
    rw [a]; rfl
  · have hp : 0 < (ls l h.w.n).1 := by
      rw [beq_eq_false_iff_ne] at a
      have a : ((ls l h.w.n).1 : Int) ≠ 0 := a
      omega
    obtain ⟨b1, b2⟩ := ls_in l h.w.n 0 hp
    refine ⟨?_, ?_, ?_⟩
    · unfold inRange; rw [Bool.and_eq_true, le_iff, lt_iff]; exact ⟨Int.le_refl _, by show (0 : Int) < ((ls l h.w.n).1 : Int); omega⟩
    · unfold inRange; rw [Bool.and_eq_true, le_iff, lt_iff]; exact ⟨b1, by show _ < (t.n : Int); rw [ht]; exact b2⟩
    · show pt _ 0 = pt _ 0
      rw [a]; rfl

/-- are the times wrong, in the program and in the reference? -/
def tmB (h : Hi) (t : Il) (w : Int) : Bool := lt 1073741824 w || (!(srtB t) || anyB (Gc.bad ⟨t, h, w, toInt64 t.n⟩) t.n)
def tmR (t : Il) (w : Int) (l : Il) : Bool := lt 1073741824 w || anyB (Gn.bad ⟨t, w, l⟩) t.n
noncomputable def Gpt : List A1 → Option (Bool × AV)
  | [.agg [.sl [.int .i64] n ρ, .sl [.int .i64, .int .i64, .sl [.int .u8, .int .u8, .int .u8, .int .u8, .int .u8, .int .u8, .int .u8, .int .u8]] m ω, .sl [.int .i64, .int .i64] q ε], .c (.sl [.int .i64] k κ), .c (.sl [.int .i64] t τ), .c (.int .i64 w)] =>
    let h : Hi := ⟨⟨n, ρ⟩, ⟨m, ω⟩, ⟨q, ε⟩⟩
    some (dec ((fewH h ∧ m ≤ 64) ∧ fewN k), ptR (cutE h ⟨k, κ⟩) (tmB h ⟨t, τ⟩ w) h ⟨k, κ⟩ ⟨t, τ⟩ w)
  | _ => none
noncomputable def Gpr : List A1 → Option (Bool × AV)
  | [.agg [.sl [.int .i64] n ρ, .sl [.int .i64, .int .i64, .sl [.int .u8, .int .u8, .int .u8, .int .u8, .int .u8, .int .u8, .int .u8, .int .u8]] m ω, .sl [.int .i64, .int .i64] q ε], .c (.sl [.int .i64] k κ), .c (.sl [.int .i64] t τ), .c (.int .i64 w)] =>
    let h : Hi := ⟨⟨n, ρ⟩, ⟨m, ω⟩, ⟨q, ε⟩⟩
    some (dec ((fewH h ∧ m ≤ 64) ∧ fewN k), ptR (rctE h ⟨k, κ⟩) (tmR ⟨t, τ⟩ w ⟨okN (rctE h ⟨k, κ⟩) (ls ⟨k, κ⟩ m).1, (ls ⟨k, κ⟩ m).2⟩) h ⟨k, κ⟩ ⟨t, τ⟩ w)
  | _ => none

noncomputable def tree23 (E : Int) (h : Hi) (l t : Il) (w : Int) : Tree AV :=
  let c : Gc.C := ⟨t, h, w, toInt64 t.n⟩
  .br (E != 0) (.leaf (pt 0 E)) (.br (toInt64 t.n != toInt64 h.w.n) (.leaf (pt 0 6)) (.br (lt 1073741824 w) (.br (lt 1073741824 w) (.leaf (pt 0 24)) (ptT E h l t w)) (.need (dec (t.n ≤ 1000)) (.br (!(srtB t)) (.br (!(srtB t)) (.leaf (pt 0 24)) (ptT E h l t w))
    (.need (dec (Gc.good c ∧ (⟨0, 0⟩ : Gc.V) = Gc.st c 0)) (.br (anyB (Gc.bad c) t.n) (.br (le 0 ((firstB (Gc.bad c) t.n : Nat) : Int)) (.leaf (pt 0 24)) (ptT E h l t w)) (.br false (.leaf (pt 0 24)) (ptT E h l t w))))))))
noncomputable def tree24 (E : Int) (h : Hi) (l t : Il) (w : Int) : Tree AV :=
  let c : Gn.C := ⟨t, w, ⟨okN E (ls l h.w.n).1, (ls l h.w.n).2⟩⟩
  .br (E != 0) (.leaf (pt 0 E)) (.br (toInt64 t.n != toInt64 h.w.n) (.leaf (pt 0 6)) (.br (lt 1073741824 w) (.leaf (pt 0 24)) (.need (dec (Gn.good c ∧ (⟨0, 0, 0, 0⟩ : Gn.V) = Gn.st c 0)) (.br (anyB (Gn.bad c) t.n) (.leaf (pt 0 24)) (ptT E h l t w)))))

theorem p23 : TcOne Tryz.prog 23 (nG Gpt) := tcOne_of_tree h25 10 23 fun args r hr => by
  unfold Gpt at hr; split at hr
  · rename_i n ρ m ω q ε k κ t τ w
    obtain ⟨hp, rfl⟩ := Prod.mk.inj (Option.some.inj hr)
    obtain ⟨⟨f1, f2⟩, f4⟩ := dec_iff.1 hp
    refine ⟨rfl, .need (dec ((fewH ⟨⟨n, ρ⟩, ⟨m, ω⟩, ⟨q, ε⟩⟩ ∧ m ≤ 64) ∧ fewN k)) (tree23 (cutE ⟨⟨n, ρ⟩, ⟨m, ω⟩, ⟨q, ε⟩⟩ ⟨k, κ⟩) ⟨⟨n, ρ⟩, ⟨m, ω⟩, ⟨q, ε⟩⟩ ⟨k, κ⟩ ⟨t, τ⟩ w), by kernel_rfl, hp, ?_⟩
    obtain ⟨h, hh⟩ : ∃ h : Hi, (⟨⟨n, ρ⟩, ⟨m, ω⟩, ⟨q, ε⟩⟩ : Hi) = h := ⟨_, rfl⟩
    have hm : m = h.w.n := by rw [← hh]
    obtain ⟨E, hE⟩ : ∃ E, cutE h ⟨k, κ⟩ = E := ⟨_, rfl⟩
    rw [hh, hE]
    rw [hm] at f2
    refine ⟨fun a1 => ?_, fun a1 => ⟨fun a2 => ?_, fun a2 => ⟨fun a3 => ⟨fun _ => ?_, fun a4 => ?_⟩, fun a3 => ?_⟩⟩⟩
    · show pt 0 E = ptR E _ h _ _ w; unfold ptR ptX ptY; rw [a1]; rfl
    · show pt 0 6 = ptR E _ h _ _ w; unfold ptR ptX ptY; rw [a1, a2]; rfl
    · have : tmB h ⟨t, τ⟩ w = true := by unfold tmB; rw [a3]; rfl
      show pt 0 24 = ptR E _ h _ _ w; unfold ptR ptX ptY; rw [a1, a2, this]; rfl
    · rw [a3] at a4; cases a4
    · have a2' : toInt64 t = toInt64 h.w.n := by simpa [bne] using a2
      have ht : t = h.w.n := Int.ofNat.inj a2'
      have hE0 : E = 0 := by simpa [bne] using a1
      have hT := ptT_all (w := w) (l := ⟨k, κ⟩) (t := ⟨t, τ⟩) hE0 ht
      refine ⟨dec_iff.2 (by show t ≤ 1000; omega), fun a4 => ⟨fun _ => ?_, fun a5 => ?_⟩, fun a4 => ⟨dec_iff.2 ⟨⟨rfl, by show fewN t; unfold fewN; omega⟩, rfl⟩, fun a5 => ⟨fun _ => ?_, fun a6 => ?_⟩, fun a5 => ⟨fun h => (by cases h), fun _ => ?_⟩⟩⟩
      · have : tmB h ⟨t, τ⟩ w = true := by unfold tmB; rw [a3, a4]; rfl
        show pt 0 24 = ptR E _ h _ _ w; unfold ptR ptX ptY; rw [a1, a2, this]; rfl
      · rw [a4] at a5; cases a5
      · have : tmB h ⟨t, τ⟩ w = true := by
          unfold tmB
          have a5 : anyB (Gc.bad ⟨⟨t, τ⟩, h, w, toInt64 t⟩) t = true := a5
          show (lt 1073741824 w || (!(srtB ⟨t, τ⟩) || anyB (Gc.bad ⟨⟨t, τ⟩, h, w, toInt64 t⟩) t)) = true
          rw [a3, a4, a5]; rfl
        show pt 0 24 = ptR E _ h _ _ w; unfold ptR ptX ptY; rw [a1, a2, this]; rfl
      · rw [le0_nat] at a6; cases a6
      · have : tmB h ⟨t, τ⟩ w = false := by
          unfold tmB
          have a5 : anyB (Gc.bad ⟨⟨t, τ⟩, h, w, toInt64 t⟩) t = false := a5
          show (lt 1073741824 w || (!(srtB ⟨t, τ⟩) || anyB (Gc.bad ⟨⟨t, τ⟩, h, w, toInt64 t⟩) t)) = false
          rw [a3, a4, a5]; rfl
        have e : ptR E (tmB h ⟨t, τ⟩ w) h ⟨k, κ⟩ ⟨t, τ⟩ w = pt (ptV h ⟨k, κ⟩ ⟨t, τ⟩ w) 0 := by unfold ptR ptX ptY; rw [a1, a2, this]; rfl
        rw [e]; exact hT
  · cases hr

theorem p24 : TcOne Tryz.prog 24 (nG Gpr) := tcOne_of_tree h25 10 24 fun args r hr => by
  unfold Gpr at hr; split at hr
  · rename_i n ρ m ω q ε k κ t τ w
    obtain ⟨hp, rfl⟩ := Prod.mk.inj (Option.some.inj hr)
    obtain ⟨⟨f1, f2⟩, f4⟩ := dec_iff.1 hp
    refine ⟨rfl, .need (dec ((fewH ⟨⟨n, ρ⟩, ⟨m, ω⟩, ⟨q, ε⟩⟩ ∧ m ≤ 64) ∧ fewN k)) (tree24 (rctE ⟨⟨n, ρ⟩, ⟨m, ω⟩, ⟨q, ε⟩⟩ ⟨k, κ⟩) ⟨⟨n, ρ⟩, ⟨m, ω⟩, ⟨q, ε⟩⟩ ⟨k, κ⟩ ⟨t, τ⟩ w), by kernel_rfl, hp, ?_⟩
    obtain ⟨h, hh⟩ : ∃ h : Hi, (⟨⟨n, ρ⟩, ⟨m, ω⟩, ⟨q, ε⟩⟩ : Hi) = h := ⟨_, rfl⟩
    have hm : m = h.w.n := by rw [← hh]
    obtain ⟨E, hE⟩ : ∃ E, rctE h ⟨k, κ⟩ = E := ⟨_, rfl⟩
    rw [hh, hE]
    rw [hm] at f2 ⊢
    obtain ⟨L, hL⟩ : ∃ L : Il, (⟨okN E (ls ⟨k, κ⟩ h.w.n).1, (ls ⟨k, κ⟩ h.w.n).2⟩ : Il) = L := ⟨_, rfl⟩
    refine ⟨fun a1 => ?_, fun a1 => ⟨fun a2 => ?_, fun a2 => ⟨fun a3 => ?_, fun a3 => ?_⟩⟩⟩
    · show pt 0 E = ptR E _ h _ _ w; unfold ptR ptX ptY; rw [a1]; rfl
    · show pt 0 6 = ptR E _ h _ _ w; unfold ptR ptX ptY; rw [a1, a2]; rfl
    · have : tmR ⟨t, τ⟩ w ⟨okN E (ls ⟨k, κ⟩ h.w.n).1, (ls ⟨k, κ⟩ h.w.n).2⟩ = true := by unfold tmR; rw [a3]; rfl
      show pt 0 24 = ptR E _ h _ _ w; unfold ptR ptX ptY; rw [a1, a2, this]; rfl
    · have a2' : toInt64 t = toInt64 h.w.n := by simpa [bne] using a2
      have ht : t = h.w.n := Int.ofNat.inj a2'
      have hE0 : E = 0 := by simpa [bne] using a1
      have hT := ptT_all (w := w) (l := ⟨k, κ⟩) (t := ⟨t, τ⟩) hE0 ht
      refine ⟨dec_iff.2 ⟨by show fewN t; unfold fewN; omega, rfl⟩, fun a4 => ?_, fun a4 => ?_⟩
      · have : tmR ⟨t, τ⟩ w ⟨okN E (ls ⟨k, κ⟩ h.w.n).1, (ls ⟨k, κ⟩ h.w.n).2⟩ = true := by
          unfold tmR
          have a4 : anyB (Gn.bad ⟨⟨t, τ⟩, w, ⟨okN E (ls ⟨k, κ⟩ h.w.n).1, (ls ⟨k, κ⟩ h.w.n).2⟩⟩) t = true := a4
          show (lt 1073741824 w || anyB _ t) = true
          rw [a3, a4]; rfl
        show pt 0 24 = ptR E _ h _ _ w; unfold ptR ptX ptY; rw [a1, a2, this]; rfl
      · have : tmR ⟨t, τ⟩ w ⟨okN E (ls ⟨k, κ⟩ h.w.n).1, (ls ⟨k, κ⟩ h.w.n).2⟩ = false := by
          unfold tmR
          have a4 : anyB (Gn.bad ⟨⟨t, τ⟩, w, ⟨okN E (ls ⟨k, κ⟩ h.w.n).1, (ls ⟨k, κ⟩ h.w.n).2⟩⟩) t = false := a4
          show (lt 1073741824 w || anyB _ t) = false
          rw [a3, a4]; rfl
        have e : ptR E (tmR ⟨t, τ⟩ w ⟨okN E (ls ⟨k, κ⟩ h.w.n).1, (ls ⟨k, κ⟩ h.w.n).2⟩) h ⟨k, κ⟩ ⟨t, τ⟩ w = pt (ptV h ⟨k, κ⟩ ⟨t, τ⟩ w) 0 := by unfold ptR ptX ptY; rw [a1, a2, this]; rfl
        rw [e]; exact hT
  · cases hr

end Hs
end Go.Proofs.YtennlgngdjegoaaGreat
/-
  Losses: the law's tree.
-/
namespace Go.Proofs.YtennlgngdjegoaaGreat
open Go Go.Sx Go.RowKit Classical

set_option maxRecDepth 100000
set_option maxHeartbeats 4000000

namespace Hs
open Fo (inSh scSh evSh pcH litK headK allB allB_ok lhsOf lhs_ok)

noncomputable abbrev H26 : Hd := ⟨(10, oG Fo.Gawk) :: (24, nG Gpr) :: (23, nG Gpt) :: H24.pc, (22, nG Glor) :: H24.hc, [], H24.mc⟩
theorem h26 : HdOk Tryz.prog H26 := ((((h22b.ucCons u21).tcCons p65).ucCons u22').tcCons p23 |>.tcCons p24).pcCons Fo.pAwake

end Hs
end Go.Proofs.YtennlgngdjegoaaGreat
/-
  Losses: the program and the reference agree: the error of a history.
-/
namespace Go.Proofs.YtennlgngdjegoaaGreat
open Go Go.Sx Go.RowKit Classical

set_option maxRecDepth 100000

namespace Hs

/-- two sequences of errors that agree up to the first one -/
theorem first_same {f g : Nat → Int} {n : Nat} (h : ∀ i, i < n → (∀ j, j < i → f j = 0) → f i = g i) :
    anyB (fun i => f i != 0) n = anyB (fun i => g i != 0) n ∧ (anyB (fun i => f i != 0) n = true → f (firstB (fun i => f i != 0) n) = g (firstB (fun i => g i != 0) n)) ∧ (anyB (fun i => f i != 0) n = false → ∀ i, i < n → f i = 0 ∧ g i = 0) := by
  have z : ∀ {x : Int}, (x != 0) = false → x = 0 := fun {x} hx => by simpa [bne] using hx
  cases ha : anyB (fun i => f i != 0) n
  · have f0 : ∀ i, i < n → f i = 0 := fun i hi => by
      cases hx : f i != 0
      · exact z hx
      · rw [anyB_iff.2 ⟨i, hi, hx⟩] at ha; cases ha
    have g0 : ∀ i, i < n → g i = 0 := fun i hi => by rw [← h i hi fun j hj => f0 j (by omega)]; exact f0 i hi
    refine ⟨?_, fun hh => (by cases hh), fun _ i hi => ⟨f0 i hi, g0 i hi⟩⟩
    symm
    exact anyB_none fun i hi => by rw [g0 i hi]; rfl
  · obtain ⟨h1, h2, h3⟩ := firstB_ok ha
    have f0 : ∀ j, j < firstB (fun i => f i != 0) n → f j = 0 := fun j hj => z (h3 j hj)
    have e := h _ h1 f0
    have h2 : (f (firstB (fun i => f i != 0) n) != 0) = true := h2
    obtain ⟨b1, b2⟩ := firstB_eq (bad := fun i => g i != 0) h1 (by show (g _ != 0) = true; rw [← e]; exact h2) fun j hj => by
      show (g j != 0) = false
      rw [← h j (by omega) fun l hl => f0 l (by omega), f0 j hj]; rfl
    exact ⟨b1.symm, fun _ => by rw [b2]; exact e, fun hh => (by cases hh)⟩

/-- what the places of the events say, where no event was wrong -/
structure Inv (ε : Val) (i : Nat) : Prop where
  k : ik ε i = ((evS ε i).k : Int)
  le : (evS ε i).k ≤ i
  iss : ∀ x : Int, anyB (evQ ε 0 x) i = true ↔ 0 ≤ x ∧ x < (evS ε i).k
  ack : ∀ x : Nat, x < (evS ε i).k → (0 ≤ vI (evS ε i).τ x ↔ anyB (evQ ε 1 x) i = true)
  old : ∀ x : Int, anyB (evQ ε 1 x) i = true → 0 ≤ x ∧ x < (evS ε i).k

theorem evQ_iff {ε : Val} {x y : Int} {i : Nat} : evQ ε x y i = true ↔ vI ε i = x ∧ vJ ε i = y := by
  unfold evQ
  rw [Bool.and_true, Bool.and_eq_true, beq_iff_eq, beq_iff_eq]

theorem any_succ {p : Nat → Bool} {n : Nat} : anyB p (n + 1) = true ↔ anyB p n = true ∨ p n = true := by
  show (anyB p n || p n) = true ↔ _
  rw [Bool.or_eq_true]

theorem at_pos {n : Nat} {ε : Val} {x y : Int} : le 0 (atI n ε x y) = anyB (evQ ε x y) n := by
  unfold atI
  cases h : anyB (evQ ε x y) n
  · rfl
  · show le 0 ((firstB (evQ ε x y) n : Nat) : Int) = true
    exact le0_nat _
theorem at_neg {n : Nat} {ε : Val} {x y : Int} : lt (atI n ε x y) 0 = !(anyB (evQ ε x y) n) := by
  rw [← at_pos, Bool.eq_iff_iff, lt_iff, Bool.not_eq_true', ← Bool.not_eq_true, le_iff]; omega

theorem vI_upds (σ : Val) (k : Nat) (y : Int) (j : Nat) : vI (σ.upds k 0 [I y]) j = if j = k then y else vI σ j := by
  show (((Val.upd σ k 0 (I y)).at j).at 0).N [] = _
  by_cases h : j = k
  · subst h
    rw [if_pos rfl]
    show ((pickV (Nat.beq j j) (.byFst fun g => pickV (Nat.beq g 0) (.ofC (I y)) ((σ.at j).at g)) (σ.at j)).at 0).N [] = y
    have : Nat.beq j j = true := by simp
    rw [this]; rfl
  · rw [if_neg h]
    show ((pickV (Nat.beq j k) (.byFst fun g => pickV (Nat.beq g 0) (.ofC (I y)) ((σ.at k).at g)) (σ.at j)).at 0).N [] = _
    have : Nat.beq j k = false := by rw [← Bool.not_eq_true]; intro hh; exact h (Nat.eq_of_beq_eq_true hh)
    rw [this]; rfl
theorem vI_cat (n : Nat) (a b : Val) (i : Nat) : vI (Val.cat n a b) i = if i < n then vI a i else vI b (i - n) := by
  unfold vI
  rw [cat_at]
  split <;> rfl

theorem inv_same {nw : Nat} {ε : Val} {i : Nat} (h : Inv ε i) : evE nw ε i (evS ε i) = eR nw ε i := by
  unfold evE eR
  cases h0 : vI ε i == 0
  · cases h1 : vI ε i == 1
    · have : (vI ε i != 1) = true := by rw [bne, h1]; rfl
      rw [this]; rfl
    · have e1 : vI ε i = 1 := by simpa using h1
      have : (vI ε i != 1) = false := by rw [bne, h1]; rfl
      rw [this]
      have a7 : (lt (vJ ε i) 0 || le (toInt64 (evS ε i).k) (vJ ε i)) = lt (atI i ε 0 (vJ ε i)) 0 := by
        rw [at_neg, Bool.eq_iff_iff, Bool.not_eq_true', ← Bool.not_eq_true, h.iss, Bool.or_eq_true, lt_iff, le_iff]
        show vJ ε i < 0 ∨ ((evS ε i).k : Int) ≤ vJ ε i ↔ _
        omega
      rw [a7]
      cases h7 : lt (atI i ε 0 (vJ ε i)) 0
      · rw [at_neg, Bool.not_eq_false'] at h7
        have h7' := (h.iss _).1 h7
        have a8 : le 0 (vI (evS ε i).τ (vJ ε i).toNat) = le 0 (atI i ε (vI ε i) (vJ ε i)) := by
          rw [at_pos, Bool.eq_iff_iff, le_iff, h.ack _ (by omega), e1]
          have : (((vJ ε i).toNat : Nat) : Int) = vJ ε i := by omega
          rw [this]
        rw [a8]; rfl
      · rfl
  · have e : (vJ ε i != toInt64 (evS ε i).k || le (toInt64 nw) (vJ ε i)) = (vJ ε i != ik ε i || le (toInt64 nw) (ik ε i)) := by
      rw [h.k]
      show (vJ ε i != ((evS ε i).k : Int) || _) = _
      cases hv : vJ ε i != ((evS ε i).k : Int)
      · have : vJ ε i = ((evS ε i).k : Int) := by simpa [bne] using hv
        rw [this]
      · rfl
    rw [e]; rfl

theorem inv_zero (ε : Val) : Inv ε 0 := ⟨rfl, Nat.le_refl _, fun x => by
  show (false = true) ↔ 0 ≤ x ∧ x < (0 : Nat)
  constructor
  · intro h; cases h
  · intro h; omega, fun x hx => by
  have hx : x < 0 := hx
  omega, fun x h => by cases h⟩

theorem inv_step {nw : Nat} {ε : Val} {i : Nat} (hi : i < 100000) (h : Inv ε i) (h0 : evE nw ε i (evS ε i) = 0) : Inv ε (i + 1) := by
  have hS : evS ε (i + 1) = evN ε i (evS ε i) := rfl
  have hI : ik ε (i + 1) = bif vI ε i == 0 then w64 (ik ε i + 1) else ik ε i := rfl
  have hle := h.le
  unfold evE at h0
  cases c0 : vI ε i == 0
  · rw [c0] at h0
    have n0 : vI ε i ≠ 0 := by simpa using c0
    have eS : evS ε (i + 1) = ⟨(evS ε i).k, (evS ε i).σ, (evS ε i).τ.upds (vJ ε i).toNat 0 [I i]⟩ := by rw [hS]; unfold evN; rw [c0]; rfl
    cases c1 : vI ε i == 1
    · rw [c1] at h0; cases h0
    · rw [c1] at h0
      have n1 : vI ε i = 1 := by simpa using c1
      cases c7 : lt (vJ ε i) 0 || le (toInt64 (evS ε i).k) (vJ ε i)
      · rw [c7] at h0
        rw [Bool.or_eq_false_iff, ← Bool.not_eq_true, ← Bool.not_eq_true, lt_iff, le_iff] at c7
        have c7b : ¬ ((evS ε i).k : Int) ≤ vJ ε i := c7.2
        refine ⟨?_, ?_, fun x => ?_, fun x hx => ?_, fun x hx => ?_⟩
        · rw [hI, c0, eS]; exact h.k
        · rw [eS]; show (evS ε i).k ≤ i + 1; omega
        · rw [eS, any_succ, evQ_iff, h.iss]
          show _ ↔ 0 ≤ x ∧ x < ((evS ε i).k : Int)
          constructor
          · rintro (hh | ⟨hh, _⟩)
            · exact hh
            · exact (n0 hh).elim
          · exact .inl
        · rw [eS] at hx ⊢
          have hx : x < (evS ε i).k := hx
          show 0 ≤ vI ((evS ε i).τ.upds (vJ ε i).toNat 0 [I i]) x ↔ _
          rw [vI_upds, any_succ, evQ_iff]
          by_cases hw : x = (vJ ε i).toNat
          · rw [if_pos hw]
            constructor
            · intro _; exact .inr ⟨n1, by omega⟩
            · intro _; omega
          · rw [if_neg hw, h.ack x hx]
            constructor
            · exact .inl
            · rintro (hh | ⟨_, hh⟩)
              · exact hh
              · omega
        · rw [any_succ, evQ_iff] at hx
          rw [eS]
          show 0 ≤ x ∧ x < ((evS ε i).k : Int)
          rcases hx with hh | ⟨_, hh⟩
          · exact h.old x hh
          · omega
      · rw [c7] at h0; cases h0
  · rw [c0] at h0
    have n0 : vI ε i = 0 := by simpa using c0
    have eS : evS ε (i + 1) = ⟨(evS ε i).k + 1, Val.cat (evS ε i).k (evS ε i).σ (Val.ofFlat 1 [I i]), Val.cat (evS ε i).k (evS ε i).τ (Val.ofFlat 1 [I (-1)])⟩ := by rw [hS]; unfold evN; rw [c0]; rfl
    cases c3 : vJ ε i != toInt64 (evS ε i).k || le (toInt64 nw) (vJ ε i)
    · rw [Bool.or_eq_false_iff] at c3
      have e3 : vJ ε i = toInt64 (evS ε i).k := by simpa [bne] using c3.1
      have e3 : vJ ε i = ((evS ε i).k : Int) := e3
      refine ⟨?_, ?_, fun x => ?_, fun x hx => ?_, fun x hx => ?_⟩
      · rw [hI, c0, eS, h.k]
        show w64 (((evS ε i).k : Int) + 1) = (((evS ε i).k + 1 : Nat) : Int)
        rw [show w64 (((evS ε i).k : Int) + 1) = ((evS ε i).k : Int) + 1 from w64_id (by omega) (by omega)]
        omega
      · rw [eS]; show (evS ε i).k + 1 ≤ i + 1; omega
      · rw [eS, any_succ, evQ_iff, h.iss]
        show _ ↔ 0 ≤ x ∧ x < (((evS ε i).k + 1 : Nat) : Int)
        constructor
        · rintro (hh | ⟨_, hh⟩)
          · omega
          · omega
        · intro hh
          by_cases hx : x = (evS ε i).k
          · exact .inr ⟨n0, by omega⟩
          · exact .inl (by omega)
      · rw [eS] at hx ⊢
        have hx : x < (evS ε i).k + 1 := hx
        show 0 ≤ vI (Val.cat (evS ε i).k (evS ε i).τ (Val.ofFlat 1 [I (-1)])) x ↔ _
        rw [vI_cat, any_succ, evQ_iff]
        by_cases hk : x < (evS ε i).k
        · rw [if_pos hk, h.ack x hk]
          constructor
          · exact .inl
          · rintro (hh | ⟨hh, _⟩)
            · exact hh
            · omega
        · have : x = (evS ε i).k := by omega
          subst this
          rw [if_neg hk, Nat.sub_self]
          show 0 ≤ (-1 : Int) ↔ _
          constructor
          · intro hh; omega
          · rintro (hh | ⟨hh, _⟩)
            · have := h.old _ hh
              omega
            · omega
      · rw [any_succ, evQ_iff] at hx
        rw [eS]
        show 0 ≤ x ∧ x < (((evS ε i).k + 1 : Nat) : Int)
        rcases hx with hh | ⟨hh, _⟩
        · have := h.old x hh
          omega
        · omega
    · rw [c3] at h0; cases h0

theorem inv_all {nw : Nat} {ε : Val} : ∀ n, n ≤ 1000 → (∀ i, i < n → evE nw ε i (evS ε i) = 0) → Inv ε n
  | 0, _, _ => inv_zero ε
  | n + 1, hn, h => inv_step (by omega) (inv_all n (by omega) fun i hi => h i (by omega)) (h n (by omega))

/-- data of writes are small -/
def datOk (h : Hi) : Prop := ∀ i, i < h.w.n → fewN (vL h.w.ρ 2 i)

theorem wr_same {h : Hi} (h0 : szE h.s = 0) (hd : datOk h) {i : Nat} (hi : i < h.w.n) : wE h i = wR h i := by
  unfold wE wrE wR
  refine (fit_same (hd i hi) fun j hj => ?_).symm
  obtain ⟨_, _, c⟩ := szE_few (n := h.s.n) (ρ := h.s.ρ) h0
  have := c j hj
  unfold bsz at this
  rw [Bool.or_eq_false_iff, ← Bool.not_eq_true, ← Bool.not_eq_true, lt_iff, lt_iff] at this
  omega

theorem ev_same {h : Hi} (hn : h.e.n ≤ 1000) : ∀ i, i < h.e.n → (∀ j, j < i → eE h j = 0) → eE h i = Gk.er ⟨h⟩ i := fun i hi hj =>
  inv_same (inv_all (nw := h.w.n) i (by omega) hj)

/-- the program and the reference find the same error -/
theorem his_same {h : Hi} (hf : fewH h) (hd : datOk h) : rfE h = hisE h := by
  unfold rfE hisE
  cases a1 : szE h.s != 0
  · have h0 : szE h.s = 0 := by simpa [bne] using a1
    cases a2 : lt 4096 (toInt64 h.w.n)
    · obtain ⟨w1, w2, w3⟩ := first_same (f := wE h) (g := wR h) (n := h.w.n) fun i hi _ => wr_same h0 hd hi
      have w1 : anyB (wB h) h.w.n = anyB (Gj.bad ⟨h⟩) h.w.n := w1
      rw [← w1]
      cases a3 : anyB (wB h) h.w.n
      · obtain ⟨e1, e2, e3⟩ := first_same (f := eE h) (g := Gk.er ⟨h⟩) (n := h.e.n) (ev_same hf.2.2)
        have e1 : anyB (eB h) h.e.n = anyB (Gk.bad ⟨h⟩) h.e.n := e1
        rw [← e1]
        cases a4 : anyB (eB h) h.e.n
        · have hi := inv_all (nw := h.w.n) h.e.n hf.2.2 fun i hi => (e3 a4 i hi).1
          rw [hi.k]; rfl
        · exact (e2 a4).symm
      · exact (w2 a3).symm
    · rfl
  · rfl

end Hs
end Go.Proofs.YtennlgngdjegoaaGreat
/-
  Losses: the program and the reference agree: cuts.
-/
namespace Go.Proofs.YtennlgngdjegoaaGreat
open Go Go.Sx Go.RowKit Classical

set_option maxRecDepth 100000

namespace Hs
open Fo (inSh)

theorem his_ok {h : Hi} (h0 : hisE h = 0) : (∀ i, i < h.e.n → eE h i = 0) ∧ h.w.n ≤ (evS h.e.ρ h.e.n).k := by
  have hb : anyB (eB h) h.e.n = false ∧ h.w.n ≤ (evS h.e.ρ h.e.n).k := by
    unfold hisE at h0
    cases a1 : szE h.s != 0
    · rw [a1] at h0
      cases a2 : lt 4096 (toInt64 h.w.n)
      · rw [a2] at h0
        cases a3 : anyB (wB h) h.w.n
        · rw [a3] at h0
          cases a4 : anyB (eB h) h.e.n
          · rw [a4] at h0
            refine ⟨rfl, ?_⟩
            cases a5 : lt (toInt64 (evS h.e.ρ h.e.n).k) (toInt64 h.w.n)
            · rw [← Bool.not_eq_true, lt_iff] at a5
              have a5 : ¬ ((evS h.e.ρ h.e.n).k : Int) < (h.w.n : Int) := a5
              omega
            · rw [a5] at h0; cases h0
          · rw [a4] at h0
            exact (first_ne a4 h0).elim
        · rw [a3] at h0
          exact (first_ne a3 h0).elim
      · rw [a2] at h0; cases h0
    · rw [a1] at h0
      have : szE h.s = 0 := h0
      rw [this] at a1; cases a1
  refine ⟨fun i hi => ?_, hb.2⟩
  cases hh : eB h i
  · unfold eB at hh; simpa [bne] using hh
  · rw [anyB_iff.2 ⟨i, hi, hh⟩] at hb; cases hb.1

/-- the place of an event, or a number where it isn't there -/
def atJ (N : Int) (n : Nat) (ε : Val) (x y : Int) : Int := bif anyB (evQ ε x y) n then ((firstB (evQ ε x y) n : Nat) : Int) else N
theorem atJ_old {N : Int} {n : Nat} {ε : Val} {x y : Int} (h : evQ ε x y n = false) : atJ N (n + 1) ε x y = atJ N n ε x y := by
  unfold atJ
  have e : anyB (evQ ε x y) (n + 1) = anyB (evQ ε x y) n := by show (anyB _ n || evQ ε x y n) = _; rw [h, Bool.or_false]
  rw [e]
  cases ha : anyB (evQ ε x y) n
  · rfl
  · show ((firstB (evQ ε x y) (n + 1) : Nat) : Int) = _
    show (((bif anyB (evQ ε x y) n then firstB (evQ ε x y) n else n) : Nat) : Int) = _
    rw [ha]; rfl
theorem atJ_new {N : Int} {n : Nat} {ε : Val} {x y : Int} (h : evQ ε x y n = true) (ha : anyB (evQ ε x y) n = false) : atJ N (n + 1) ε x y = n := by
  unfold atJ
  have e : anyB (evQ ε x y) (n + 1) = true := by show (anyB _ n || evQ ε x y n) = _; rw [h, Bool.or_true]
  rw [e]
  show (((bif anyB (evQ ε x y) n then firstB (evQ ε x y) n else n) : Nat) : Int) = _
  rw [ha]; rfl

theorem rl_at {nw : Nat} {ε : Val} {N : Int} : ∀ n, n ≤ 1000 → (∀ i, i < n → evE nw ε i (evS ε i) = 0) → ∀ b : Nat,
    vI (Fh.rl ε (Fg.cst N) (Fg.cst N) n).1 b = atJ N n ε 0 b ∧ vI (Fh.rl ε (Fg.cst N) (Fg.cst N) n).2 b = atJ N n ε 1 b
  | 0, _, _, b => ⟨rfl, rfl⟩
  | n + 1, hn, h, b => by
    obtain ⟨i1, i2⟩ := rl_at n (by omega) (fun i hi => h i (by omega)) b
    have hv := inv_all (nw := nw) n (by omega) fun i hi => h i (by omega)
    have h0 := h n (by omega)
    unfold evE at h0
    have hS : Fh.rl ε (Fg.cst N) (Fg.cst N) (n + 1) = bif vI ε n == 0 then ((Fh.rl ε (Fg.cst N) (Fg.cst N) n).1.upds (vJ ε n).toNat 0 [I n], (Fh.rl ε (Fg.cst N) (Fg.cst N) n).2) else ((Fh.rl ε (Fg.cst N) (Fg.cst N) n).1, (Fh.rl ε (Fg.cst N) (Fg.cst N) n).2.upds (vJ ε n).toNat 0 [I n]) := rfl
    have nev : ∀ {x y : Int}, ¬ (vI ε n = x ∧ vJ ε n = y) → evQ ε x y n = false := fun hh => by rw [← Bool.not_eq_true, evQ_iff]; exact hh
    rw [hS]
    cases c0 : vI ε n == 0
    · rw [c0] at h0
      have n0 : vI ε n ≠ 0 := by simpa using c0
      cases c1 : vI ε n == 1
      · rw [c1] at h0; cases h0
      · rw [c1] at h0
        have n1 : vI ε n = 1 := by simpa using c1
        cases c7 : lt (vJ ε n) 0 || le (toInt64 (evS ε n).k) (vJ ε n)
        · rw [c7] at h0
          rw [Bool.or_eq_false_iff, ← Bool.not_eq_true, ← Bool.not_eq_true, lt_iff, le_iff] at c7
          have c7b : ¬ ((evS ε n).k : Int) ≤ vJ ε n := c7.2
          refine ⟨?_, ?_⟩
          · show vI (Fh.rl ε (Fg.cst N) (Fg.cst N) n).1 b = _
            rw [i1, atJ_old (nev fun hh => n0 hh.1)]
          · show vI ((Fh.rl ε (Fg.cst N) (Fg.cst N) n).2.upds (vJ ε n).toNat 0 [I n]) b = _
            rw [vI_upds]
            by_cases hb : b = (vJ ε n).toNat
            · rw [if_pos hb]
              symm
              refine atJ_new (evQ_iff.2 ⟨n1, by omega⟩) ?_
              rw [← Bool.not_eq_true, ← hv.ack b (by omega), hb]
              intro hh
              cases c8 : le 0 (vI (evS ε n).τ (vJ ε n).toNat)
              · rw [← Bool.not_eq_true, le_iff] at c8; exact c8 hh
              · rw [c8] at h0; cases h0
            · rw [if_neg hb, i2, atJ_old (nev fun hh => hb (by omega))]
        · rw [c7] at h0; cases h0
    · rw [c0] at h0
      have n0 : vI ε n = 0 := by simpa using c0
      cases c3 : vJ ε n != toInt64 (evS ε n).k || le (toInt64 nw) (vJ ε n)
      · rw [Bool.or_eq_false_iff] at c3
        have e3 : vJ ε n = toInt64 (evS ε n).k := by simpa [bne] using c3.1
        have e3 : vJ ε n = ((evS ε n).k : Int) := e3
        refine ⟨?_, ?_⟩
        · show vI ((Fh.rl ε (Fg.cst N) (Fg.cst N) n).1.upds (vJ ε n).toNat 0 [I n]) b = _
          rw [vI_upds]
          by_cases hb : b = (vJ ε n).toNat
          · rw [if_pos hb]
            symm
            refine atJ_new (evQ_iff.2 ⟨n0, by omega⟩) ?_
            rw [← Bool.not_eq_true, hv.iss]
            omega
          · rw [if_neg hb, i1, atJ_old (nev fun hh => hb (by omega))]
        · show vI (Fh.rl ε (Fg.cst N) (Fg.cst N) n).2 b = _
          rw [i2, atJ_old (nev fun hh => by omega)]
      · rw [c3] at h0; cases h0

/-- one write before another one -/
theorem bef_same {h : Hi} (h0 : hisE h = 0) (hn : h.e.n ≤ 1000) (a b : Nat) (hb : b < h.w.n) : lt (vI (relA h) a) (vI (relI h) b) = befB h a b := by
  obtain ⟨o1, o2⟩ := his_ok h0
  obtain ⟨rI, -⟩ := rl_at (nw := h.w.n) (N := toInt64 h.e.n) h.e.n hn o1 b
  obtain ⟨-, rA⟩ := rl_at (nw := h.w.n) (N := toInt64 h.e.n) h.e.n hn o1 a
  have hv := inv_all (nw := h.w.n) h.e.n hn o1
  have hi : anyB (evQ h.e.ρ 0 b) h.e.n = true := (hv.iss _).2 ⟨by omega, by omega⟩
  have hf := (firstB_ok hi).1
  have eI : vI (relI h) b = ((firstB (evQ h.e.ρ 0 b) h.e.n : Nat) : Int) := by
    show vI (Fh.rl h.e.ρ (Fg.cst (toInt64 h.e.n)) (Fg.cst (toInt64 h.e.n)) h.e.n).1 b = _
    rw [rI]; unfold atJ; rw [hi]; rfl
  have eA : vI (relA h) a = atJ (toInt64 h.e.n) h.e.n h.e.ρ 1 a := rA
  rw [eI, eA]
  unfold befB atI atJ
  rw [hi]
  cases ha : anyB (evQ h.e.ρ 1 a) h.e.n
  · show lt (toInt64 h.e.n) _ = (bif le 0 (-1 : Int) then _ else false)
    show lt (h.e.n : Int) _ = false
    rw [← Bool.not_eq_true, lt_iff]; omega
  · show _ = (bif le 0 ((firstB (evQ h.e.ρ 1 a) h.e.n : Nat) : Int) then _ else false)
    rw [le0_nat]; rfl

theorem vB_upds (σ : Val) (k : Nat) (y : Bool) (j : Nat) : vB (σ.upds k 0 [.bool y]) j = if j = k then y else vB σ j := by
  show (((Val.upd σ k 0 (.bool y)).at j).at 0).B [] = _
  by_cases h : j = k
  · subst h
    rw [if_pos rfl]
    show ((pickV (Nat.beq j j) (.byFst fun g => pickV (Nat.beq g 0) (.ofC (.bool y)) ((σ.at j).at g)) (σ.at j)).at 0).B [] = y
    have : Nat.beq j j = true := by simp
    rw [this]; rfl
  · rw [if_neg h]
    show ((pickV (Nat.beq j k) (.byFst fun g => pickV (Nat.beq g 0) (.ofC (.bool y)) ((σ.at k).at g)) (σ.at j)).at 0).B [] = _
    have : Nat.beq j k = false := by rw [← Bool.not_eq_true]; intro hh; exact h (Nat.eq_of_beq_eq_true hh)
    rw [this]; rfl

theorem mark_at {κ : Val} : ∀ k, (∀ j, j < k → 0 ≤ vI κ j) → ∀ i : Nat, vB (mkS' κ zB k) i = anyB (fun j => vI κ j == (i : Int)) k
  | 0, _, i => rfl
  | k + 1, h, i => by
    have ih := mark_at k (fun j hj => h j (by omega)) i
    have h0 := h k (by omega)
    show vB ((mkS' κ zB k).upds (vI κ k).toNat 0 [.bool true]) i = (anyB (fun j => vI κ j == (i : Int)) k || vI κ k == (i : Int))
    rw [vB_upds]
    by_cases hi : i = (vI κ k).toNat
    · rw [if_pos hi]
      have : (vI κ k == (i : Int)) = true := by rw [beq_iff_eq]; omega
      rw [this, Bool.or_true]
    · rw [if_neg hi, ih]
      have : (vI κ k == (i : Int)) = false := by rw [beq_eq_false_iff_ne]; omega
      rw [this, Bool.or_false]

/-- the same answer about a cut -/
theorem cut_same {h : Hi} (hf : fewH h) (hd : datOk h) (l : Il) : rctE h l = cutE h l := by
  unfold rctE cutE
  rw [his_same hf hd]
  cases a1 : hisE h != 0
  · have h0 : hisE h = 0 := by simpa [bne] using a1
    have eS : anyB (Fi.bad (iC h l.n l.ρ)) l.n = anyB (setB (toInt64 h.w.n) l.ρ) l.n := rfl
    rw [eS]
    cases a2 : anyB (setB (toInt64 h.w.n) l.ρ) l.n
    · have hin : ∀ j, j < l.n → 0 ≤ vI l.ρ j ∧ vI l.ρ j < h.w.n := fun j hj => by
        have : setB (toInt64 h.w.n) l.ρ j = false := by
          cases hc : setB (toInt64 h.w.n) l.ρ j
          · rfl
          · rw [anyB_iff.2 ⟨j, hj, hc⟩] at a2; cases a2
        unfold setB at this
        rw [Bool.or_eq_false_iff, Bool.or_eq_false_iff, ← Bool.not_eq_true, ← Bool.not_eq_true, lt_iff, le_iff] at this
        have h2 : ¬ (h.w.n : Int) ≤ vI l.ρ j := this.1.2
        omega
      have hm := mark_at (κ := l.ρ) l.n fun j hj => (hin j hj).1
      have hmk : ∀ i : Nat, vB (mP h l.n l.ρ).ρ i = anyB (fun j => vI l.ρ j == (i : Int)) l.n := fun i => by
        rw [← hm i]
        have e : ∀ k, mkS' (KV l.n l.ρ) zB k = mkS' l.ρ zB k := fun k => by
          induction k with
          | zero => rfl
          | succ k ih =>
            show (mkS' (KV l.n l.ρ) zB k).upds (vI (KV l.n l.ρ) k).toNat 0 [.bool true] = _
            rw [ih]; rfl
        show vB (mkS' (KV l.n l.ρ) zB l.n) i = _
        rw [e]
      have hb : anyB (Fk.bad (kC h l.n l.ρ)) h.w.n = !(rclB h l) := by
        unfold rclB
        rw [Bool.not_not, Bool.eq_iff_iff, anyB_iff, anyB_iff]
        have am : (kC h l.n l.ρ).a.toNat = h.w.n := Int.toNat_natCast _
        constructor
        · rintro ⟨i, hi, hb⟩
          have hb : (vB (mP h l.n l.ρ).ρ i && anyB (fun a => lt (vI (relA h) a) (vI (relI h) i) && !(vB (mP h l.n l.ρ).ρ a)) (kC h l.n l.ρ).a.toNat) = true := hb
          rw [am, Bool.and_eq_true, hmk, anyB_iff, anyB_iff] at hb
          obtain ⟨⟨j, hj, e1⟩, a, ha, e2⟩ := hb
          have e1 : vI l.ρ j = (i : Int) := by simpa using e1
          have e2 : (lt (vI (relA h) a) (vI (relI h) i) && !(vB (mP h l.n l.ρ).ρ a)) = true := e2
          rw [bef_same h0 hf.2.2 a i hi, hmk] at e2
          refine ⟨j, hj, ?_⟩
          show anyB (fun a => befB h a (vI l.ρ j) && !(anyB (fun k => vI l.ρ k == (a : Int)) l.n)) h.w.n = true
          rw [e1]
          exact anyB_iff.2 ⟨a, ha, e2⟩
        · rintro ⟨j, hj, hb⟩
          have hb : anyB (fun a => befB h a (vI l.ρ j) && !(anyB (fun k => vI l.ρ k == (a : Int)) l.n)) h.w.n = true := hb
          obtain ⟨a, ha, e2⟩ := anyB_iff.1 hb
          obtain ⟨b1, b2⟩ := hin j hj
          have ei : vI l.ρ j = (((vI l.ρ j).toNat : Nat) : Int) := by omega
          refine ⟨(vI l.ρ j).toNat, by omega, ?_⟩
          show (vB (mP h l.n l.ρ).ρ (vI l.ρ j).toNat && anyB (fun a => lt (vI (relA h) a) (vI (relI h) (vI l.ρ j).toNat) && !(vB (mP h l.n l.ρ).ρ a)) (kC h l.n l.ρ).a.toNat) = true
          rw [am, Bool.and_eq_true, hmk, anyB_iff, anyB_iff]
          refine ⟨⟨j, hj, by rw [beq_iff_eq]; exact ei⟩, a, ha, ?_⟩
          rw [bef_same h0 hf.2.2 a _ (by omega), hmk, ← ei]
          exact e2
      have hr : rcsB h l = rclB h l := by
        unfold rcsB
        rw [his_same hf hd, h0, a2]; rfl
      rw [hb, hr]
    · rfl
  · rfl

end Hs
end Go.Proofs.YtennlgngdjegoaaGreat
/-
  Losses: the law.
-/
namespace Go.Proofs.YtennlgngdjegoaaGreat
open Go Go.Sx Go.RowKit Classical

set_option maxRecDepth 100000
set_option maxHeartbeats 4000000

namespace Hs
open Fo (inSh scSh evSh pcH litK headK)

theorem fw_ok {h : Hi} (hf : fwB h = true) : (fewH h ∧ h.w.n ≤ 64) ∧ datOk h := by
  unfold fwB at hf
  rw [Bool.and_eq_true, Bool.and_eq_true, Bool.not_eq_true', Bool.or_eq_false_iff, Bool.or_eq_false_iff, ← Bool.not_eq_true, ← Bool.not_eq_true, ← Bool.not_eq_true, lt_iff, lt_iff, lt_iff] at hf
  obtain ⟨⟨⟨a1, a2⟩, a3⟩, a4, a5⟩ := hf
  have a1 : ¬ (9 : Int) < (h.s.n : Int) := a1
  have a2 : ¬ (40 : Int) < (h.w.n : Int) := a2
  have a3 : ¬ (90 : Int) < (h.e.n : Int) := a3
  refine ⟨⟨⟨by unfold fewN; omega, by unfold fewN; omega, by omega⟩, by omega⟩, fun i hi => ?_⟩
  rw [Bool.not_eq_true', ← Bool.not_eq_true, anyB_iff] at a5
  have hb : ¬ (lt 30 (toInt64 (vL h.w.ρ 2 i)) = true) := fun hh => a5 ⟨i, hi, hh⟩
  rw [lt_iff] at hb
  have hb : ¬ (30 : Int) < ((vL h.w.ρ 2 i : Nat) : Int) := hb
  unfold fewN; omega

theorem sm_refl (a : Il) : smB a a = true := by
  unfold smB
  have e : anyB (Gp.bad ⟨a, a⟩) a.n = false := anyB_none fun i _ => by
    show (vI a.ρ i != vI a.ρ i) = false
    simp
  rw [e]
  have : (toInt64 a.n != toInt64 a.n) = false := by simp
  rw [this]; rfl

theorem tm_same {h : Hi} {t : Il} {w : Int} {l : Il} : tmB h t w = tmR t w l := by
  unfold tmB tmR
  cases hq : lt 1073741824 w
  · show (!(srtB t) || anyB (Gc.bad ⟨t, h, w, toInt64 t.n⟩) t.n) = anyB (Gn.bad ⟨t, w, l⟩) t.n
    unfold srtB
    rw [Bool.not_not, Bool.eq_iff_iff, Bool.or_eq_true, anyB_iff, anyB_iff, anyB_iff]
    have gc : ∀ i, Gc.bad ⟨t, h, w, toInt64 t.n⟩ i = true ↔ vI t.ρ i < 0 ∨ w < vI t.ρ i := fun i => by
      show (lt (vI t.ρ i) 0 || lt w (vI t.ρ i)) = true ↔ _
      rw [Bool.or_eq_true, lt_iff, lt_iff]
    have gb : ∀ i, Gb.bad ⟨t⟩ i = true ↔ vI t.ρ (t.n - 1 - i) < vI t.ρ (t.n - 1 - i - 1) := fun i => by
      show lt (vI t.ρ (t.n - 1 - i)) (vI t.ρ (t.n - 1 - i - 1)) = true ↔ _
      rw [lt_iff]
    have gn : ∀ i, Gn.bad ⟨t, w, l⟩ i = true ↔ vI t.ρ i < Gn.last ⟨t, w, l⟩ i ∨ w < vI t.ρ i := fun i => by
      show (lt (vI t.ρ i) (Gn.last ⟨t, w, l⟩ i) || lt w (vI t.ρ i)) = true ↔ _
      rw [Bool.or_eq_true, lt_iff, lt_iff]
    constructor
    · rintro (⟨i, hi, hb⟩ | ⟨i, hi, hb⟩)
      · rw [gb] at hb
        refine ⟨t.n - 1 - i, by omega, (gn _).2 (.inl ?_)⟩
        obtain ⟨k, hk⟩ : ∃ k, t.n - 1 - i = k + 1 := ⟨t.n - 1 - i - 1, by omega⟩
        rw [hk] at hb ⊢
        exact hb
      · rw [gc] at hb
        rcases hb with hb | hb
        · apply Classical.byContradiction
          intro hno
          have hp : ∀ j, j ≤ i → 0 ≤ vI t.ρ j := by
            intro j
            induction j with
            | zero =>
              intro _
              apply Classical.byContradiction
              intro hx
              exact hno ⟨0, by omega, (gn 0).2 (.inl (by show vI t.ρ 0 < 0; omega))⟩
            | succ j ih =>
              intro hj
              have := ih (by omega)
              apply Classical.byContradiction
              intro hx
              exact hno ⟨j + 1, by omega, (gn _).2 (.inl (by show vI t.ρ (j + 1) < vI t.ρ j; omega))⟩
          have := hp i (Nat.le_refl _)
          omega
        · exact ⟨i, hi, (gn i).2 (.inr hb)⟩
    · rintro ⟨i, hi, hb⟩
      rw [gn] at hb
      rcases hb with hb | hb
      · cases i with
        | zero => exact .inr ⟨0, hi, (gc 0).2 (.inl hb)⟩
        | succ k =>
          refine .inl ⟨t.n - 1 - (k + 1), by omega, (gb _).2 ?_⟩
          have e : t.n - 1 - (t.n - 1 - (k + 1)) = k + 1 := by omega
          rw [e]
          exact hb
      · exact .inr ⟨i, hi, (gc i).2 (.inr hb)⟩
  · rfl

theorem okN_le (E : Int) (n : Nat) : okN E n ≤ n := by
  unfold okN
  cases E == 0
  · exact Nat.zero_le _
  · exact Nat.le_refl _

/-- what the law answers -/
noncomputable def lawB (h : Hi) (k t : Il) (w : Int) : Bool :=
  (((smB ⟨okN (cutE h k) (ls k h.w.n).1, (ls k h.w.n).2⟩ ⟨okN (rctE h k) (ls k h.w.n).1, (ls k h.w.n).2⟩ && cutE h k == rctE h k) && ptX (cutE h k) (tmB h t w) h k t w == ptX (rctE h k) (tmR t w ⟨okN (rctE h k) (ls k h.w.n).1, (ls k h.w.n).2⟩) h k t w) && ptY (cutE h k) (tmB h t w) h t == ptY (rctE h k) (tmR t w ⟨okN (rctE h k) (ls k h.w.n).1, (ls k h.w.n).2⟩) h t)
theorem law_true {h : Hi} {k t : Il} {w : Int} (hf : fwB h = true) : lawB h k t w = true := by
  obtain ⟨⟨f1, _⟩, f3⟩ := fw_ok hf
  unfold lawB
  rw [cut_same f1 f3 k, ← tm_same (h := h), sm_refl]
  simp

end Hs
end Go.Proofs.YtennlgngdjegoaaGreat
/-
  Losses: the law holds.
-/
namespace Go.Proofs.YtennlgngdjegoaaGreat
open Go Go.Sx Go.RowKit Classical

set_option maxRecDepth 100000
set_option maxHeartbeats 4000000

namespace Hs
open Fo (inSh scSh evSh pcH litK headK)

theorem law6 (n : Nat) (ρ : Val) (m : Nat) (ω : Val) (q : Nat) (ε : Val) (k : Nat) (κ : Val) (t : Nat) (τ : Val) (w : Int) {F : Nat → Prop} {W : World} {vs : List Value}
    (h : All2 (A1.Rel F W []) [.agg [.sl inSh n ρ, .sl wrSh m ω, .sl evSh q ε], .c (.sl inSh k κ), .agg [.sl inSh t τ, I w]] vs) :
    Calls Tryz.prog 6 vs.toArray W (fun e W' => e = .returned (.bool true) ∧ Below W.heap.size W W') := by
  refine law_of_tree h26 10 6 (u := .need true (.br ((!(fwB ⟨⟨n, ρ⟩, ⟨m, ω⟩, ⟨q, ε⟩⟩) || lt 60 (toInt64 k)) || lt 60 (toInt64 t)) (.leaf (.one (.c (.bool true)))) (.need (dec ((fewH ⟨⟨n, ρ⟩, ⟨m, ω⟩, ⟨q, ε⟩⟩ ∧ m ≤ 64) ∧ fewN k)) (.need (dec ((fewH ⟨⟨n, ρ⟩, ⟨m, ω⟩, ⟨q, ε⟩⟩ ∧ m ≤ 64) ∧ fewN k)) (.need (dec ((fewH ⟨⟨n, ρ⟩, ⟨m, ω⟩, ⟨q, ε⟩⟩ ∧ m ≤ 64) ∧ fewN k)) (.need (dec ((fewH ⟨⟨n, ρ⟩, ⟨m, ω⟩, ⟨q, ε⟩⟩ ∧ m ≤ 64) ∧ fewN k))
    (.need (!(true && true) || dec (fewN (okN (cutE ⟨⟨n, ρ⟩, ⟨m, ω⟩, ⟨q, ε⟩⟩ ⟨k, κ⟩) (ls ⟨k, κ⟩ m).1))) (.leaf (.one (.c (.bool (lawB ⟨⟨n, ρ⟩, ⟨m, ω⟩, ⟨q, ε⟩⟩ ⟨k, κ⟩ ⟨t, τ⟩ w))))))))))))
    (by kernel_rfl) ⟨rfl, fun _ => rfl, fun hc => ?_⟩ h
  rw [Bool.or_eq_false_iff, Bool.or_eq_false_iff, Bool.not_eq_false', ← Bool.not_eq_true, lt_iff] at hc
  obtain ⟨⟨c1, c2⟩, _⟩ := hc
  have c2 : ¬ (60 : Int) < (k : Int) := c2
  obtain ⟨⟨f1, f2⟩, f3⟩ := fw_ok c1
  have f2 : m ≤ 64 := f2
  have fk : fewN k := by unfold fewN; omega
  have hd := dec_iff.2 (⟨⟨f1, f2⟩, fk⟩ : (fewH ⟨⟨n, ρ⟩, ⟨m, ω⟩, ⟨q, ε⟩⟩ ∧ m ≤ 64) ∧ fewN k)
  refine ⟨hd, hd, hd, hd, ?_, ?_⟩
  · have h1 := okN_le (cutE ⟨⟨n, ρ⟩, ⟨m, ω⟩, ⟨q, ε⟩⟩ ⟨k, κ⟩) (ls ⟨k, κ⟩ m).1
    have h2 := ls_le ⟨k, κ⟩ m
    rw [dec_iff.2 (show fewN (okN (cutE ⟨⟨n, ρ⟩, ⟨m, ω⟩, ⟨q, ε⟩⟩ ⟨k, κ⟩) (ls ⟨k, κ⟩ m).1) by unfold fewN; omega), Bool.or_true]
  · show AV.one (.c (.bool _)) = .one (.c (.bool true))
    rw [law_true c1]

theorem argH_eq (ρ : Val) : argOf Tryz.prog 53 [.sl inSh, .sl wrSh, .sl evSh] ρ = .agg [.sl inSh ((ρ.at 0).L []) (ρ.at 0), .sl wrSh ((ρ.at 1).L []) (ρ.at 1), .sl evSh ((ρ.at 2).L []) (ρ.at 2)] := by kernel_rfl
theorem argN_eq (ρ : Val) : argOf Tryz.prog 49 [.sl inSh] ρ = .c (.sl inSh ((ρ.at 0).L []) (ρ.at 0)) := by kernel_rfl
theorem argT_eq (ρ : Val) : argOf Tryz.prog 55 [.sl inSh, .int .i64] ρ = .agg [.sl inSh ((ρ.at 0).L []) (ρ.at 0), I ((ρ.at 1).N [])] := by kernel_rfl

end Hs
end Go.Proofs.YtennlgngdjegoaaGreat
