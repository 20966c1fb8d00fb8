/-
  The session: the chapter's examples.
-/
import Derived.Test.YtgkgepgkeljclaaSesB
import Derived.Test.YtgkgepgkeljclaaEngV
namespace Go.Proofs.Ytgkgepgkeljclaa
open Go Go.Sx

set_option maxRecDepth 100000

noncomputable abbrev HU : Hd := ⟨H5.pc, H5.hc, [((28, 0), unrollH Try.prog H5 10 28 0 5)]⟩
theorem hu : HdOk Try.prog HU := HdOk.lhCons h5 fun _ _ _ hf hc hb => unroll_ok h5 10 28 0 hf hc hb 5

def Gawake : List A1 → Option AV
  | [] => some (.one (.c (.bool true)))
  | _ => none
theorem p10 : PcOne Try.prog 10 Gawake := pcOne_of_sel hu 10 10 fun args r h => by
  unfold Gawake at h; split at h
  · obtain rfl := Option.some.inj h
    exact ⟨rfl, by kernel_rfl⟩
  · cases h

noncomputable abbrev H6 : Hd := ⟨(10, oG Gawake) :: H5.pc, H5.hc, []⟩
theorem h6 : HdOk Try.prog H6 := h5.pcCons p10

end Go.Proofs.Ytgkgepgkeljclaa
