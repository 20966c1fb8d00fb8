/-
  The roles of sites: Check.
-/
import Derived.Test.YtjiennnkbompkaaRolD
namespace Go.Proofs.Ytjiennnkbompkaa
open Go Go.Sx Classical

set_option maxRecDepth 100000

noncomputable abbrev H5 : Hd := ⟨(54, nG G66) :: H4.pc, [], [], H4.mc⟩
theorem h5 : HdOk Try.prog H5 := h4.tcCons p54

def sit (a : Int) : Bool := le 0 a && lt a 4
/-- does a role receive? -/
def rcv (r : Int) : Bool := r == 2 || r == 4

def G47 : List A1 → Option AV
  | [.c (.int .i64 a), .c (.int .i64 b), .c (.int .i64 c)] => some (.one (.c (.bool (le b a && le a c))))
  | _ => none
theorem p47 : PcOne Try.prog 47 G47 := pcOne_of_ev h5 10 47 fun args r h => by
  unfold G47 at h; split at h
  · obtain rfl := Option.some.inj h
    exact ⟨rfl, by kernel_rfl, by kernel_rfl⟩
  · cases h
def G55 : List A1 → Option AV
  | [.c (.int .i64 a)] => some (.one (.c (.bool (rcv a))))
  | _ => none
theorem p55 : PcOne Try.prog 55 G55 := pcOne_of_ev h5 10 55 fun args r h => by
  unfold G55 at h; split at h
  · obtain rfl := Option.some.inj h
    exact ⟨rfl, by kernel_rfl, by kernel_rfl⟩
  · cases h
theorem p59 : PcOne Try.prog 59 G55 := pcOne_of_ev h5 10 59 fun args r h => by
  unfold G55 at h; split at h
  · obtain rfl := Option.some.inj h
    exact ⟨rfl, by kernel_rfl, by kernel_rfl⟩
  · cases h
def G45 : List A1 → Option AV
  | [.c (.int .i64 a)] => some (.one (.c (.bool (sit a))))
  | _ => none
theorem p45 : PcOne Try.prog 45 G45 := pcOne_of_ev h5 10 45 fun args r h => by
  unfold G45 at h; split at h
  · obtain rfl := Option.some.inj h
    exact ⟨rfl, by kernel_rfl, by kernel_rfl⟩
  · cases h
def G57 : List A1 → Option AV
  | [.c (.int .i64 a)] => some (.one (.c (.bool (tim a))))
  | _ => none
theorem p57 : PcOne Try.prog 57 G57 := pcOne_of_ev h5 10 57 fun args r h => by
  unfold G57 at h; split at h
  · obtain rfl := Option.some.inj h
    exact ⟨rfl, by kernel_rfl, by kernel_rfl⟩
  · cases h

noncomputable abbrev H6 : Hd := ⟨(47, oG G47) :: (55, oG G55) :: (59, oG G55) :: (45, oG G45) :: (57, oG G57) :: H5.pc, [], [], H5.mc⟩
theorem h6 : HdOk Try.prog H6 := ((((h5.pcCons p57).pcCons p45).pcCons p59).pcCons p55).pcCons p47

/-- another site's number -/
def oth (m a : Int) : Bool := (le 0 m && le m 3) && m != a
def G44 : List A1 → Option AV
  | [.agg [.int .i64 a, .int .i64 _, .int .i64 _, .int .i64 _, .sl [.int .i64, .int .i64, .int .i64] _ _, .int .i64 _, .bool _, .bool _], .c (.int .i64 m)] => some (.one (.c (.bool (oth m a))))
  | _ => none
theorem p44 : PcOne Try.prog 44 G44 := pcOne_of_ev h6 10 44 fun args r h => by
  unfold G44 at h; split at h
  · obtain rfl := Option.some.inj h
    exact ⟨rfl, by kernel_rfl, by kernel_rfl⟩
  · cases h

noncomputable abbrev H7 : Hd := ⟨(44, oG G44) :: H6.pc, [], [], H6.mc⟩
theorem h7 : HdOk Try.prog H7 := h6.pcCons p44

end Go.Proofs.Ytjiennnkbompkaa
