/-
  No cell of these rows narrows 'for every input' (looked for: loops, veiled, ifaces, maps, wideKeys, modest, calm, conditions, laid).
  DERIVED. THE GIVEN ROWS OF THIS SEAT. 6 by the template 'for every input the law returns true; each argument reads behind the call as it read before'; 0 by the template 'total and deterministic' (their statements: YtennlgngdjegoaaGreatTotals.lean).
  GIVEN WITH THE SEED: the statements are not yours to turn. If you find one false, say at which input.
  Laid BY PROGRAM, IN A SANDBOX (cutbox-rows.mjs): the forced cells as the released guide's own fill.sh prints them over the translation d1a9424ac0221d34… (all of the seat's roots in one cut). By AI agents, Wed Nov 11 2026. No macro, syntax, notation, axiom, sorry.
-/
import Derived.Test.YtennlgngdjegoaaGreatChecked
import GoSem.Claim
import GoSem.ClaimJoined
import GoSem.ClaimMapViews
import Derived.JoinedTies
import Derived.KernelRfl
namespace Go.Proofs.YtennlgngdjegoaaGreat
/- THE CELL 'sum', in the pinned program and in every row, IS THE sha256 OF THE DUMP (.gsa) THAT YtennlgngdjegoaaGreatProg.lean LOADS. Nothing in Lean hashes anything: it is a label: what it is worth is what the hold of that sum in a sandbox is worth. -/
noncomputable def Tryz.pinned : Pinned := { name := "ytennlgngdjegoaagreat", sum := "d1a9424ac0221d3475a03861062d2006092546759e4ac2b59de68515ae5d7284", checked := Tryz.checked }
namespace Rows
def none {H : Type} : Left H := { results := [], args := [] }

/-- 'standbylaw53.FailoverChooses': WHATEVER THE INPUT: true; the input reads as it did. -/
def failoverChoosesSpec : ChangeSpec := { name := "failoverChooses", fn := fun _ => fun
  | [d1, d2] => { results := [.lit (.bool true)], args := [d1, d2] }
  | _ => none }
def failoverChoosesRow : OpenClaim := { program := "ytennlgngdjegoaagreat", sum := "d1a9424ac0221d3475a03861062d2006092546759e4ac2b59de68515ae5d7284", func := "standby/standbylaw53.FailoverChooses", spec := "failoverChooses", unfollowed := true, recurses := true, apart := false }
def FailoverChoosesSaid : Prop := failoverChoosesRow.holds Tryz.pinned (OpenSpec.ofChange failoverChoosesSpec)

/-- ITS FALSE NEIGHBOUR: 'it returns false'. Refute it at one input. -/
def failoverChoosesWrong : ChangeSpec := { name := "failoverChooses", fn := fun _ => fun
  | [d1, d2] => { results := [.lit (.bool false)], args := [d1, d2] }
  | _ => none }
def FailoverChoosesWrongFalsely : Prop := failoverChoosesRow.holds Tryz.pinned (OpenSpec.ofChange failoverChoosesWrong)

/-- 'standbylaw53.FailoverBegins': WHATEVER THE INPUT: true; the input reads as it did. -/
def failoverBeginsSpec : ChangeSpec := { name := "failoverBegins", fn := fun _ => fun
  | [d1, d2, d3] => { results := [.lit (.bool true)], args := [d1, d2, d3] }
  | _ => none }
def failoverBeginsRow : OpenClaim := { program := "ytennlgngdjegoaagreat", sum := "d1a9424ac0221d3475a03861062d2006092546759e4ac2b59de68515ae5d7284", func := "standby/standbylaw53.FailoverBegins", spec := "failoverBegins", unfollowed := true, recurses := true, apart := false }
def FailoverBeginsSaid : Prop := failoverBeginsRow.holds Tryz.pinned (OpenSpec.ofChange failoverBeginsSpec)

/-- ITS FALSE NEIGHBOUR: 'it returns false'. Refute it at one input. -/
def failoverBeginsWrong : ChangeSpec := { name := "failoverBegins", fn := fun _ => fun
  | [d1, d2, d3] => { results := [.lit (.bool false)], args := [d1, d2, d3] }
  | _ => none }
def FailoverBeginsWrongFalsely : Prop := failoverBeginsRow.holds Tryz.pinned (OpenSpec.ofChange failoverBeginsWrong)

/-- 'standbylaw53.FailoverSteps': WHATEVER THE INPUT: true; the input reads as it did. -/
def failoverStepsSpec : ChangeSpec := { name := "failoverSteps", fn := fun _ => fun
  | [d1, d2, d3] => { results := [.lit (.bool true)], args := [d1, d2, d3] }
  | _ => none }
def failoverStepsRow : OpenClaim := { program := "ytennlgngdjegoaagreat", sum := "d1a9424ac0221d3475a03861062d2006092546759e4ac2b59de68515ae5d7284", func := "standby/standbylaw53.FailoverSteps", spec := "failoverSteps", unfollowed := true, recurses := true, apart := false }
def FailoverStepsSaid : Prop := failoverStepsRow.holds Tryz.pinned (OpenSpec.ofChange failoverStepsSpec)

/-- ITS FALSE NEIGHBOUR: 'it returns false'. Refute it at one input. -/
def failoverStepsWrong : ChangeSpec := { name := "failoverSteps", fn := fun _ => fun
  | [d1, d2, d3] => { results := [.lit (.bool false)], args := [d1, d2, d3] }
  | _ => none }
def FailoverStepsWrongFalsely : Prop := failoverStepsRow.holds Tryz.pinned (OpenSpec.ofChange failoverStepsWrong)

/-- 'standbylaw53.FailoverLosses': WHATEVER THE INPUT: true; the input reads as it did. -/
def failoverLossesSpec : ChangeSpec := { name := "failoverLosses", fn := fun _ => fun
  | [d1, d2, d3] => { results := [.lit (.bool true)], args := [d1, d2, d3] }
  | _ => none }
def failoverLossesRow : OpenClaim := { program := "ytennlgngdjegoaagreat", sum := "d1a9424ac0221d3475a03861062d2006092546759e4ac2b59de68515ae5d7284", func := "standby/standbylaw53.FailoverLosses", spec := "failoverLosses", unfollowed := true, recurses := true, apart := false }
def FailoverLossesSaid : Prop := failoverLossesRow.holds Tryz.pinned (OpenSpec.ofChange failoverLossesSpec)

/-- ITS FALSE NEIGHBOUR: 'it returns false'. Refute it at one input. -/
def failoverLossesWrong : ChangeSpec := { name := "failoverLosses", fn := fun _ => fun
  | [d1, d2, d3] => { results := [.lit (.bool false)], args := [d1, d2, d3] }
  | _ => none }
def FailoverLossesWrongFalsely : Prop := failoverLossesRow.holds Tryz.pinned (OpenSpec.ofChange failoverLossesWrong)

/-- 'standbylaw53.FailoverPromotes': WHATEVER THE INPUT: true; the input reads as it did. -/
def failoverPromotesSpec : ChangeSpec := { name := "failoverPromotes", fn := fun _ => fun
  | [d1, d2, d3] => { results := [.lit (.bool true)], args := [d1, d2, d3] }
  | _ => none }
def failoverPromotesRow : OpenClaim := { program := "ytennlgngdjegoaagreat", sum := "d1a9424ac0221d3475a03861062d2006092546759e4ac2b59de68515ae5d7284", func := "standby/standbylaw53.FailoverPromotes", spec := "failoverPromotes", unfollowed := true, recurses := true, apart := false }
def FailoverPromotesSaid : Prop := failoverPromotesRow.holds Tryz.pinned (OpenSpec.ofChange failoverPromotesSpec)

/-- ITS FALSE NEIGHBOUR: 'it returns false'. Refute it at one input. -/
def failoverPromotesWrong : ChangeSpec := { name := "failoverPromotes", fn := fun _ => fun
  | [d1, d2, d3] => { results := [.lit (.bool false)], args := [d1, d2, d3] }
  | _ => none }
def FailoverPromotesWrongFalsely : Prop := failoverPromotesRow.holds Tryz.pinned (OpenSpec.ofChange failoverPromotesWrong)

/-- 'standbytop.TopFailoverLoses': WHATEVER THE INPUT: true; the input reads as it did. -/
def topFailoverLosesSpec : ChangeSpec := { name := "topFailoverLoses", fn := fun _ => fun
  | [d1, d2, d3] => { results := [.lit (.bool true)], args := [d1, d2, d3] }
  | _ => none }
def topFailoverLosesRow : OpenClaim := { program := "ytennlgngdjegoaagreat", sum := "d1a9424ac0221d3475a03861062d2006092546759e4ac2b59de68515ae5d7284", func := "standby/standbytop.TopFailoverLoses", spec := "topFailoverLoses", unfollowed := true, recurses := true, apart := false }
def TopFailoverLosesSaid : Prop := topFailoverLosesRow.holds Tryz.pinned (OpenSpec.ofChange topFailoverLosesSpec)

/-- ITS FALSE NEIGHBOUR: 'it returns false'. Refute it at one input. -/
def topFailoverLosesWrong : ChangeSpec := { name := "topFailoverLoses", fn := fun _ => fun
  | [d1, d2, d3] => { results := [.lit (.bool false)], args := [d1, d2, d3] }
  | _ => none }
def TopFailoverLosesWrongFalsely : Prop := topFailoverLosesRow.holds Tryz.pinned (OpenSpec.ofChange topFailoverLosesWrong)

/- THE SECOND FORM. 'bulk': how many values and letters a reading holds, each counted each time it is reached (what is shared counts as often as it is met; a slice's spare places count too). A statement '..UptoSaid' is the law's where the arguments, and the package variables that the reading takes, are together of bulk at most 1048576: NARROWER than '..Said'. Prove '..Said' where nothing that the law and all that it calls make is longer than what came in: it says more and counts as full. Else prove '..UptoSaid'. A law counts once. -/
mutual
def uptoBulk {H : Type} : DataW H → Nat
  | .lit (.string bytes) => bytes.length + 1
  | .lit _ => 1
  | .nil => 1
  | .ptr d => uptoBulk d + 1
  | .slice elems spare => uptoBulkAll elems + uptoBulkAll spare + 1
  | .agg parts => uptoBulkAll parts + 1
  | .iface _ d => uptoBulk d + 1
  | .map entries => uptoBulkEntries entries + 1
  | .held _ => 1
def uptoBulkAll {H : Type} : List (DataW H) → Nat
  | [] => 0
  | d :: r => uptoBulk d + uptoBulkAll r
def uptoBulkEntries {H : Type} : List (Lit × DataW H) → Nat
  | [] => 0
  | x :: r => uptoBulkEntry x + uptoBulkEntries r
def uptoBulkEntry {H : Type} : Lit × DataW H → Nat
  | (.string bytes, d) => bytes.length + uptoBulk d + 1
  | (_, d) => uptoBulk d + 1
 end
def uptoSmall : (H : Type) → List (DataW H) → Bool := fun _ ds => decide (uptoBulkAll ds ≤ 1048576)
def OpenSpec.upto (s : _root_.Go.ChangeSpec) : _root_.Go.OpenSpec := { _root_.Go.OpenSpec.ofChange s with cond := some uptoSmall }

/-- 'standbylaw53.FailoverChooses', WHERE WHAT IT READS IS OF BULK AT MOST 1048576: true; the input reads as it did. -/
def failoverChoosesUptoRow : OpenClaim := { program := "ytennlgngdjegoaagreat", sum := "d1a9424ac0221d3475a03861062d2006092546759e4ac2b59de68515ae5d7284", func := "standby/standbylaw53.FailoverChooses", spec := "failoverChooses", unfollowed := true, recurses := true, apart := false, narrowed := true }
def FailoverChoosesUptoSaid : Prop := failoverChoosesUptoRow.holds Tryz.pinned (OpenSpec.upto failoverChoosesSpec)

/-- 'standbylaw53.FailoverBegins', WHERE WHAT IT READS IS OF BULK AT MOST 1048576: true; the input reads as it did. -/
def failoverBeginsUptoRow : OpenClaim := { program := "ytennlgngdjegoaagreat", sum := "d1a9424ac0221d3475a03861062d2006092546759e4ac2b59de68515ae5d7284", func := "standby/standbylaw53.FailoverBegins", spec := "failoverBegins", unfollowed := true, recurses := true, apart := false, narrowed := true }
def FailoverBeginsUptoSaid : Prop := failoverBeginsUptoRow.holds Tryz.pinned (OpenSpec.upto failoverBeginsSpec)

/-- 'standbylaw53.FailoverSteps', WHERE WHAT IT READS IS OF BULK AT MOST 1048576: true; the input reads as it did. -/
def failoverStepsUptoRow : OpenClaim := { program := "ytennlgngdjegoaagreat", sum := "d1a9424ac0221d3475a03861062d2006092546759e4ac2b59de68515ae5d7284", func := "standby/standbylaw53.FailoverSteps", spec := "failoverSteps", unfollowed := true, recurses := true, apart := false, narrowed := true }
def FailoverStepsUptoSaid : Prop := failoverStepsUptoRow.holds Tryz.pinned (OpenSpec.upto failoverStepsSpec)

/-- 'standbylaw53.FailoverLosses', WHERE WHAT IT READS IS OF BULK AT MOST 1048576: true; the input reads as it did. -/
def failoverLossesUptoRow : OpenClaim := { program := "ytennlgngdjegoaagreat", sum := "d1a9424ac0221d3475a03861062d2006092546759e4ac2b59de68515ae5d7284", func := "standby/standbylaw53.FailoverLosses", spec := "failoverLosses", unfollowed := true, recurses := true, apart := false, narrowed := true }
def FailoverLossesUptoSaid : Prop := failoverLossesUptoRow.holds Tryz.pinned (OpenSpec.upto failoverLossesSpec)

/-- 'standbylaw53.FailoverPromotes', WHERE WHAT IT READS IS OF BULK AT MOST 1048576: true; the input reads as it did. -/
def failoverPromotesUptoRow : OpenClaim := { program := "ytennlgngdjegoaagreat", sum := "d1a9424ac0221d3475a03861062d2006092546759e4ac2b59de68515ae5d7284", func := "standby/standbylaw53.FailoverPromotes", spec := "failoverPromotes", unfollowed := true, recurses := true, apart := false, narrowed := true }
def FailoverPromotesUptoSaid : Prop := failoverPromotesUptoRow.holds Tryz.pinned (OpenSpec.upto failoverPromotesSpec)

/-- 'standbytop.TopFailoverLoses', WHERE WHAT IT READS IS OF BULK AT MOST 1048576: true; the input reads as it did. -/
def topFailoverLosesUptoRow : OpenClaim := { program := "ytennlgngdjegoaagreat", sum := "d1a9424ac0221d3475a03861062d2006092546759e4ac2b59de68515ae5d7284", func := "standby/standbytop.TopFailoverLoses", spec := "topFailoverLoses", unfollowed := true, recurses := true, apart := false, narrowed := true }
def TopFailoverLosesUptoSaid : Prop := topFailoverLosesUptoRow.holds Tryz.pinned (OpenSpec.upto topFailoverLosesSpec)

end Rows
end Go.Proofs.YtennlgngdjegoaaGreat
