/-
  The roles of sites: few spans.
-/
import Derived.Test.YtjiennnkbompkaaRolG
namespace Go.Proofs.Ytjiennnkbompkaa
open Go Go.Sx Classical

set_option maxRecDepth 100000

def G11 : List A1 → Option AV
  | [.agg [.int .i64 _, .int .i64 _, .int .i64 _, .int .i64 _, .sl [.int .i64, .int .i64, .int .i64] n _, .int .i64 _, .bool _, .bool _]] => some (.one (.c (.bool (le (toInt64 n) 20))))
  | _ => none

theorem p11 : PcOne Try.prog 11 G11 := pcOne_of_ev h10 10 11 fun args r h => by
  unfold G11 at h; split at h
  · obtain rfl := Option.some.inj h
    exact ⟨rfl, by kernel_rfl, by kernel_rfl⟩
  · cases h

noncomputable abbrev H11 : Hd := ⟨(11, oG G11) :: H10.pc, [], [], H10.mc⟩
theorem h11 : HdOk Try.prog H11 := h10.pcCons p11

/-- nil slices read as empty ones of spans -/
def unC : CV → CV
  | .nils => .sl spSh 0 Val.zero
  | x => x
def un1 : A1 → A1
  | .c x => .c (unC x)
  | .agg l => .agg (l.map unC)

theorem unC_ok {F : Nat → Prop} {w : World} {bs : List BI} {x : CV} {v : Value} (h : CV.Rel F w bs x v) : CV.Rel F w bs (unC x) v := by
  cases x <;> first | exact h | (cases h; exact .slnil)

theorem un1_ok {F : Nat → Prop} {w : World} {bs : List BI} {x : A1} {v : Value} (h : A1.Rel F w bs x v) : A1.Rel F w bs (un1 x) v := by
  cases x with
  | c x => exact unC_ok h
  | agg l =>
    obtain ⟨vs, rfl, h⟩ := h
    exact ⟨vs, rfl, h.map_left fun _ _ h => unC_ok h⟩

/-- a summary for plain slices serves nil ones, and under a stronger condition -/
theorem tcOne_weak {P : Program} {f : Nat} {G G' : List A1 → Tree AV} (h : TcOne P f G) (hw : ∀ args r, (G' args).sel = some r → (G (args.map un1)).sel = some r ∧ (args.map un1).all closedA = true) : TcOne P f G' :=
  fun args r hr _ F w vs ha => h (args.map un1) r (hw args r hr).1 (hw args r hr).2 F w vs (ha.map_left fun _ _ h => un1_ok h)

end Go.Proofs.Ytjiennnkbompkaa
