/-
  The roles of sites: the first error of a transition.
-/
import Derived.Test.YtjiennnkbompkaaRolJ
import Derived.Test.YtjiennnkbompkaaEngMc
namespace Go.Proofs.Ytjiennnkbompkaa
open Go Go.Sx Classical

set_option maxRecDepth 100000

noncomputable abbrev H12 : Hd := ⟨(12, oG G12) :: H11.pc, [], [], H11.mc⟩
theorem h12 : HdOk Try.prog H12 := h11.pcCons p12

/-- the first error -/
def dmd (ok : Bool) (x e : Int) : Int := bif !ok && e == 0 then x else e

/-- a condition is demanded -/
def G40 : List A1 → Mem → Tree (AV × Mem)
  | [.c (.ptr 5 0), .c (.bool ok), .c (.int .i64 x)], m0 :: m1 :: m2 :: m3 :: m4 :: some (71, [.int .i64 c0, c1, c2, c3, c4, c5, c6, c7, .int .i64 e]) :: r => .leaf (.tup [], m0 :: m1 :: m2 :: m3 :: m4 :: some (71, [.int .i64 c0, c1, c2, c3, c4, c5, c6, c7, .int .i64 (dmd ok x e)]) :: r)
  | [.c (.ptr 6 0), .c (.bool ok), .c (.int .i64 x)], m0 :: m1 :: m2 :: m3 :: m4 :: m5 :: some (71, [.int .i64 c0, c1, c2, c3, c4, c5, c6, c7, .int .i64 e]) :: r => .leaf (.tup [], m0 :: m1 :: m2 :: m3 :: m4 :: m5 :: some (71, [.int .i64 c0, c1, c2, c3, c4, c5, c6, c7, .int .i64 (dmd ok x e)]) :: r)
  | _, _ => .fail

theorem q40 : McOne Try.prog 40 G40 := mcOne_of_tree h12 10 40 fun args mem r mem' h => by
  unfold G40 at h
  split at h
  · rename_i ok x m0 m1 m2 m3 m4 c0 c1 c2 c3 c4 c5 c6 c7 e rest
    simp only [Tree.sel, Option.some.injEq, Prod.mk.injEq] at h
    obtain ⟨rfl, rfl⟩ := h
    refine ⟨.br (!ok && e == 0) (.leaf (.tup [], m0 :: m1 :: m2 :: m3 :: m4 :: some (71, [.int .i64 c0, c1, c2, c3, c4, c5, c6, c7, .int .i64 x]) :: rest)) (.leaf (.tup [], m0 :: m1 :: m2 :: m3 :: m4 :: some (71, [.int .i64 c0, c1, c2, c3, c4, c5, c6, c7, .int .i64 e]) :: rest)), by kernel_rfl, fun hc => ?_, fun hc => ?_⟩
    · show _ = _
      unfold dmd
      rw [hc]; rfl
    · show _ = _
      unfold dmd
      rw [hc]; rfl
  · rename_i ok x m0 m1 m2 m3 m4 m5 c0 c1 c2 c3 c4 c5 c6 c7 e rest
    simp only [Tree.sel, Option.some.injEq, Prod.mk.injEq] at h
    obtain ⟨rfl, rfl⟩ := h
    refine ⟨.br (!ok && e == 0) (.leaf (.tup [], m0 :: m1 :: m2 :: m3 :: m4 :: m5 :: some (71, [.int .i64 c0, c1, c2, c3, c4, c5, c6, c7, .int .i64 x]) :: rest)) (.leaf (.tup [], m0 :: m1 :: m2 :: m3 :: m4 :: m5 :: some (71, [.int .i64 c0, c1, c2, c3, c4, c5, c6, c7, .int .i64 e]) :: rest)), by kernel_rfl, fun hc => ?_, fun hc => ?_⟩
    · show _ = _
      unfold dmd
      rw [hc]; rfl
    · show _ = _
      unfold dmd
      rw [hc]; rfl
  · simp [Tree.sel] at h

noncomputable abbrev H13 : Hd := ⟨H12.pc, [], [], (40, G40) :: H12.mc⟩
theorem h13 : HdOk Try.prog H13 := h12.mcCons q40

end Go.Proofs.Ytjiennnkbompkaa
