/-
  Part TlZC of the proof: CasB.
-/
import Derived.Test.YtennlgngdjegoaaGreatTlZB
import Derived.Test.YtennlgngdjegoaaGreatTlR
namespace Go.Proofs.YtennlgngdjegoaaGreat
open Go Go.Sx Go.RowKit Classical
set_option maxRecDepth 100000
set_option maxHeartbeats 4000000
namespace Fo
noncomputable def pcC : List (Nat × (List A1 → Tree AV)) := [concK, tailK, litK, headK, (69, Gk')]
theorem hC0 : HdOk Tryz.prog ⟨pcC, [], [], HK.mc⟩ := by
  have h0 : HdOk Tryz.prog ⟨[], [], [], HK.mc⟩ := ⟨⟨HdOk.nil.pc.pc, HdOk.nil.pc.hc, hK.pc.mc⟩, HdOk.nil.lh⟩
  have h2 := h0.tcCons k23
  have h3 := h2.tcCons (f := 4294967291) (G := fun _ => .fail) (fun _ _ h => by simp [Tree.sel] at h)
  have h4 := h3.tcCons (f := 4294967292) (G := fun _ => .fail) (fun _ _ h => by simp [Tree.sel] at h)
  exact (h4.tail).tcCons concK_ok
def loopsC : List (Nat × Nat) := [(80, 0), (150, 0), (153, 0), (30, 0), (172, 0), (173, 0), (119, 0)]
noncomputable def lc0 : Hd := ⟨pcC, [], [], HK.mc⟩
noncomputable def lc1 : Hd := ⟨pcC, [], lhsOf Tryz.prog lc0 12 loopsC, HK.mc⟩
noncomputable def lc2 : Hd := ⟨pcC, [], lhsOf Tryz.prog lc1 12 loopsC, HK.mc⟩
noncomputable def lc3 : Hd := ⟨pcC, [], lhsOf Tryz.prog lc2 12 loopsC, HK.mc⟩
noncomputable def lc4 : Hd := ⟨pcC, [], lhsOf Tryz.prog lc3 12 loopsC, HK.mc⟩
theorem lc0_ok : HdOk Tryz.prog lc0 := hC0
theorem lc1_ok : HdOk Tryz.prog lc1 := lhs_ok hC0 lc0_ok 12 loopsC
theorem lc2_ok : HdOk Tryz.prog lc2 := lhs_ok hC0 lc1_ok 12 loopsC
theorem lc3_ok : HdOk Tryz.prog lc3 := lhs_ok hC0 lc2_ok 12 loopsC
theorem lc4_ok : HdOk Tryz.prog lc4 := lhs_ok hC0 lc3_ok 12 loopsC
def cpR (c : Int) : AV := .tup [.c (.sl siSh (pairS c 1).n (pairS c 1).ρ), .c (.bool true)]
theorem cp2 : UcOne Tryz.prog 80 (canG [.c (I 2)] (cpR 3)) := canG_ok lc4_ok 30 80 (by kernel_rfl)
end Fo
end Go.Proofs.YtennlgngdjegoaaGreat
