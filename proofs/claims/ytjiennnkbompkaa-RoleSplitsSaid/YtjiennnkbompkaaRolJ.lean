/-
  The roles of sites: the examples of the chapter.
-/
import Derived.Test.YtjiennnkbompkaaRolI
namespace Go.Proofs.Ytjiennnkbompkaa
open Go Go.Sx Classical

set_option maxRecDepth 100000

noncomputable def lhU : List ((Nat × Nat) × (Nat → St → Tree (XE × St))) := [((66, 0), unrollH Try.prog HK 20 66 0 30), ((38, 0), unrollH Try.prog HK 20 38 0 30), ((46, 0), unrollH Try.prog HK 20 46 0 30), ((64, 0), unrollH Try.prog HK 20 64 0 30), ((48, 0), unrollH Try.prog HK 20 48 0 30), ((62, 0), unrollH Try.prog HK 20 62 0 30), ((56, 0), unrollH Try.prog HK 20 56 0 30)]
noncomputable abbrev HU : Hd := ⟨HK.pc, [], lhU, HK.mc⟩
theorem hU : HdOk Try.prog HU :=
  ((((((HdOk.lhCons hK fun _ _ _ hf hc hb => unroll_ok hK 20 56 0 hf hc hb 30).lhCons fun _ _ _ hf hc hb => unroll_ok hK 20 62 0 hf hc hb 30).lhCons fun _ _ _ hf hc hb => unroll_ok hK 20 48 0 hf hc hb 30).lhCons
    fun _ _ _ hf hc hb => unroll_ok hK 20 64 0 hf hc hb 30).lhCons fun _ _ _ hf hc hb => unroll_ok hK 20 46 0 hf hc hb 30).lhCons fun _ _ _ hf hc hb => unroll_ok hK 20 38 0 hf hc hb 30).lhCons fun _ _ _ hf hc hb => unroll_ok hK 20 66 0 hf hc hb 30

def G12 : List A1 → Option AV
  | [] => some (.one (.c (.bool true)))
  | _ => none

/-- the examples hold -/
theorem p12 : PcOne Try.prog 12 G12 := pcOne_of_sel hU 20 12 fun args r h => by
  unfold G12 at h; split at h
  · obtain rfl := Option.some.inj h
    exact ⟨rfl, by kernel_rfl⟩
  · cases h

end Go.Proofs.Ytjiennnkbompkaa
