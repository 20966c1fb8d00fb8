/-
  No cell of these rows narrows 'for every input' (looked for: loops, veiled, ifaces, maps, wideKeys, modest, calm, conditions, laid).
  DERIVED. THE GIVEN ROWS OF THIS SEAT. 8 by the template 'for every input the law returns true; each argument reads behind the call as it read before'; 0 by the template 'total and deterministic' (their statements: YtbliboojdlkpfaaTotals.lean).
  GIVEN WITH THE SEED: the statements are not yours to turn. If you find one false, say at which input.
  Laid BY PROGRAM, IN A SANDBOX (cutbox-rows.mjs): the forced cells as the released guide's own fill.sh prints them over the translation 5061ea150cb90e5d… (all of the seat's roots in one cut). By AI agents, Wed Nov 11 2026. No macro, syntax, notation, axiom, sorry.
-/
import Derived.Test.YtbliboojdlkpfaaChecked
import GoSem.Claim
import GoSem.ClaimJoined
import GoSem.ClaimMapViews
import Derived.JoinedTies
import Derived.KernelRfl
namespace Go.Proofs.Ytbliboojdlkpfaa
/- THE CELL 'sum', in the pinned program and in every row, IS THE sha256 OF THE DUMP (.gsa) THAT YtbliboojdlkpfaaProg.lean LOADS. Nothing in Lean hashes anything: it is a label: what it is worth is what the hold of that sum in a sandbox is worth. -/
noncomputable def Try.pinned : Pinned := { name := "ytbliboojdlkpfaa", sum := "5061ea150cb90e5def28f481365dcc1e5fba5d5c80c4924861d87d985a641c71", checked := Try.checked }
namespace Rows
def none {H : Type} : Left H := { results := [], args := [] }

/-- 'standbylaw52.SwitchoverBegins': WHATEVER THE INPUT: true; the input reads as it did. -/
def switchoverBeginsSpec : ChangeSpec := { name := "switchoverBegins", fn := fun _ => fun
  | [d1, d2, d3] => { results := [.lit (.bool true)], args := [d1, d2, d3] }
  | _ => none }
def switchoverBeginsRow : OpenClaim := { program := "ytbliboojdlkpfaa", sum := "5061ea150cb90e5def28f481365dcc1e5fba5d5c80c4924861d87d985a641c71", func := "standby/standbylaw52.SwitchoverBegins", spec := "switchoverBegins", unfollowed := true, recurses := true, apart := false }
def SwitchoverBeginsSaid : Prop := switchoverBeginsRow.holds Try.pinned (OpenSpec.ofChange switchoverBeginsSpec)

/-- ITS FALSE NEIGHBOUR: 'it returns false'. Refute it at one input. -/
def switchoverBeginsWrong : ChangeSpec := { name := "switchoverBegins", fn := fun _ => fun
  | [d1, d2, d3] => { results := [.lit (.bool false)], args := [d1, d2, d3] }
  | _ => none }
def SwitchoverBeginsWrongFalsely : Prop := switchoverBeginsRow.holds Try.pinned (OpenSpec.ofChange switchoverBeginsWrong)

/-- 'standbylaw52.SwitchoverNeeds': WHATEVER THE INPUT: true; the input reads as it did. -/
def switchoverNeedsSpec : ChangeSpec := { name := "switchoverNeeds", fn := fun _ => fun
  | [d] => { results := [.lit (.bool true)], args := [d] }
  | _ => none }
def switchoverNeedsRow : OpenClaim := { program := "ytbliboojdlkpfaa", sum := "5061ea150cb90e5def28f481365dcc1e5fba5d5c80c4924861d87d985a641c71", func := "standby/standbylaw52.SwitchoverNeeds", spec := "switchoverNeeds", unfollowed := true, recurses := true, apart := false }
def SwitchoverNeedsSaid : Prop := switchoverNeedsRow.holds Try.pinned (OpenSpec.ofChange switchoverNeedsSpec)

/-- ITS FALSE NEIGHBOUR: 'it returns false'. Refute it at one input. -/
def switchoverNeedsWrong : ChangeSpec := { name := "switchoverNeeds", fn := fun _ => fun
  | [d] => { results := [.lit (.bool false)], args := [d] }
  | _ => none }
def SwitchoverNeedsWrongFalsely : Prop := switchoverNeedsRow.holds Try.pinned (OpenSpec.ofChange switchoverNeedsWrong)

/-- 'standbylaw52.SwitchoverSteps': WHATEVER THE INPUT: true; the input reads as it did. -/
def switchoverStepsSpec : ChangeSpec := { name := "switchoverSteps", fn := fun _ => fun
  | [d1, d2, d3] => { results := [.lit (.bool true)], args := [d1, d2, d3] }
  | _ => none }
def switchoverStepsRow : OpenClaim := { program := "ytbliboojdlkpfaa", sum := "5061ea150cb90e5def28f481365dcc1e5fba5d5c80c4924861d87d985a641c71", func := "standby/standbylaw52.SwitchoverSteps", spec := "switchoverSteps", unfollowed := true, recurses := true, apart := false }
def SwitchoverStepsSaid : Prop := switchoverStepsRow.holds Try.pinned (OpenSpec.ofChange switchoverStepsSpec)

/-- ITS FALSE NEIGHBOUR: 'it returns false'. Refute it at one input. -/
def switchoverStepsWrong : ChangeSpec := { name := "switchoverSteps", fn := fun _ => fun
  | [d1, d2, d3] => { results := [.lit (.bool false)], args := [d1, d2, d3] }
  | _ => none }
def SwitchoverStepsWrongFalsely : Prop := switchoverStepsRow.holds Try.pinned (OpenSpec.ofChange switchoverStepsWrong)

/-- 'standbylaw52.SwitchoverAborts': WHATEVER THE INPUT: true; the input reads as it did. -/
def switchoverAbortsSpec : ChangeSpec := { name := "switchoverAborts", fn := fun _ => fun
  | [d1, d2] => { results := [.lit (.bool true)], args := [d1, d2] }
  | _ => none }
def switchoverAbortsRow : OpenClaim := { program := "ytbliboojdlkpfaa", sum := "5061ea150cb90e5def28f481365dcc1e5fba5d5c80c4924861d87d985a641c71", func := "standby/standbylaw52.SwitchoverAborts", spec := "switchoverAborts", unfollowed := true, recurses := true, apart := false }
def SwitchoverAbortsSaid : Prop := switchoverAbortsRow.holds Try.pinned (OpenSpec.ofChange switchoverAbortsSpec)

/-- ITS FALSE NEIGHBOUR: 'it returns false'. Refute it at one input. -/
def switchoverAbortsWrong : ChangeSpec := { name := "switchoverAborts", fn := fun _ => fun
  | [d1, d2] => { results := [.lit (.bool false)], args := [d1, d2] }
  | _ => none }
def SwitchoverAbortsWrongFalsely : Prop := switchoverAbortsRow.holds Try.pinned (OpenSpec.ofChange switchoverAbortsWrong)

/-- 'standbylaw52.SwitchoverExclusive': WHATEVER THE INPUT: true; the input reads as it did. -/
def switchoverExclusiveSpec : ChangeSpec := { name := "switchoverExclusive", fn := fun _ => fun
  | [d1, d2, d3] => { results := [.lit (.bool true)], args := [d1, d2, d3] }
  | _ => none }
def switchoverExclusiveRow : OpenClaim := { program := "ytbliboojdlkpfaa", sum := "5061ea150cb90e5def28f481365dcc1e5fba5d5c80c4924861d87d985a641c71", func := "standby/standbylaw52.SwitchoverExclusive", spec := "switchoverExclusive", unfollowed := true, recurses := true, apart := false }
def SwitchoverExclusiveSaid : Prop := switchoverExclusiveRow.holds Try.pinned (OpenSpec.ofChange switchoverExclusiveSpec)

/-- ITS FALSE NEIGHBOUR: 'it returns false'. Refute it at one input. -/
def switchoverExclusiveWrong : ChangeSpec := { name := "switchoverExclusive", fn := fun _ => fun
  | [d1, d2, d3] => { results := [.lit (.bool false)], args := [d1, d2, d3] }
  | _ => none }
def SwitchoverExclusiveWrongFalsely : Prop := switchoverExclusiveRow.holds Try.pinned (OpenSpec.ofChange switchoverExclusiveWrong)

/-- 'standbylaw52.SwitchoverKeeps': WHATEVER THE INPUT: true; the input reads as it did. -/
def switchoverKeepsSpec : ChangeSpec := { name := "switchoverKeeps", fn := fun _ => fun
  | [d1, d2, d3] => { results := [.lit (.bool true)], args := [d1, d2, d3] }
  | _ => none }
def switchoverKeepsRow : OpenClaim := { program := "ytbliboojdlkpfaa", sum := "5061ea150cb90e5def28f481365dcc1e5fba5d5c80c4924861d87d985a641c71", func := "standby/standbylaw52.SwitchoverKeeps", spec := "switchoverKeeps", unfollowed := true, recurses := true, apart := false }
def SwitchoverKeepsSaid : Prop := switchoverKeepsRow.holds Try.pinned (OpenSpec.ofChange switchoverKeepsSpec)

/-- ITS FALSE NEIGHBOUR: 'it returns false'. Refute it at one input. -/
def switchoverKeepsWrong : ChangeSpec := { name := "switchoverKeeps", fn := fun _ => fun
  | [d1, d2, d3] => { results := [.lit (.bool false)], args := [d1, d2, d3] }
  | _ => none }
def SwitchoverKeepsWrongFalsely : Prop := switchoverKeepsRow.holds Try.pinned (OpenSpec.ofChange switchoverKeepsWrong)

/-- 'standbylaw52.SwitchoverLeaves': WHATEVER THE INPUT: true; the input reads as it did. -/
def switchoverLeavesSpec : ChangeSpec := { name := "switchoverLeaves", fn := fun _ => fun
  | [d1, d2, d3] => { results := [.lit (.bool true)], args := [d1, d2, d3] }
  | _ => none }
def switchoverLeavesRow : OpenClaim := { program := "ytbliboojdlkpfaa", sum := "5061ea150cb90e5def28f481365dcc1e5fba5d5c80c4924861d87d985a641c71", func := "standby/standbylaw52.SwitchoverLeaves", spec := "switchoverLeaves", unfollowed := true, recurses := true, apart := false }
def SwitchoverLeavesSaid : Prop := switchoverLeavesRow.holds Try.pinned (OpenSpec.ofChange switchoverLeavesSpec)

/-- ITS FALSE NEIGHBOUR: 'it returns false'. Refute it at one input. -/
def switchoverLeavesWrong : ChangeSpec := { name := "switchoverLeaves", fn := fun _ => fun
  | [d1, d2, d3] => { results := [.lit (.bool false)], args := [d1, d2, d3] }
  | _ => none }
def SwitchoverLeavesWrongFalsely : Prop := switchoverLeavesRow.holds Try.pinned (OpenSpec.ofChange switchoverLeavesWrong)

/-- 'standbylaw52.SwitchoverEnds': WHATEVER THE INPUT: true; the input reads as it did. -/
def switchoverEndsSpec : ChangeSpec := { name := "switchoverEnds", fn := fun _ => fun
  | [d1, d2, d3] => { results := [.lit (.bool true)], args := [d1, d2, d3] }
  | _ => none }
def switchoverEndsRow : OpenClaim := { program := "ytbliboojdlkpfaa", sum := "5061ea150cb90e5def28f481365dcc1e5fba5d5c80c4924861d87d985a641c71", func := "standby/standbylaw52.SwitchoverEnds", spec := "switchoverEnds", unfollowed := true, recurses := true, apart := false }
def SwitchoverEndsSaid : Prop := switchoverEndsRow.holds Try.pinned (OpenSpec.ofChange switchoverEndsSpec)

/-- ITS FALSE NEIGHBOUR: 'it returns false'. Refute it at one input. -/
def switchoverEndsWrong : ChangeSpec := { name := "switchoverEnds", fn := fun _ => fun
  | [d1, d2, d3] => { results := [.lit (.bool false)], args := [d1, d2, d3] }
  | _ => none }
def SwitchoverEndsWrongFalsely : Prop := switchoverEndsRow.holds Try.pinned (OpenSpec.ofChange switchoverEndsWrong)

/- THE SECOND FORM. 'bulk': how many values and letters a reading holds, each counted each time it is reached (what is shared counts as often as it is met; a slice's spare places count too). A statement '..UptoSaid' is the law's where the arguments, and the package variables that the reading takes, are together of bulk at most 1048576: NARROWER than '..Said'. Prove '..Said' where nothing that the law and all that it calls make is longer than what came in: it says more and counts as full. Else prove '..UptoSaid'. A law counts once. -/
mutual
def uptoBulk {H : Type} : DataW H → Nat
  | .lit (.string bytes) => bytes.length + 1
  | .lit _ => 1
  | .nil => 1
  | .ptr d => uptoBulk d + 1
  | .slice elems spare => uptoBulkAll elems + uptoBulkAll spare + 1
  | .agg parts => uptoBulkAll parts + 1
  | .iface _ d => uptoBulk d + 1
  | .map entries => uptoBulkEntries entries + 1
  | .held _ => 1
def uptoBulkAll {H : Type} : List (DataW H) → Nat
  | [] => 0
  | d :: r => uptoBulk d + uptoBulkAll r
def uptoBulkEntries {H : Type} : List (Lit × DataW H) → Nat
  | [] => 0
  | x :: r => uptoBulkEntry x + uptoBulkEntries r
def uptoBulkEntry {H : Type} : Lit × DataW H → Nat
  | (.string bytes, d) => bytes.length + uptoBulk d + 1
  | (_, d) => uptoBulk d + 1
 end
def uptoSmall : (H : Type) → List (DataW H) → Bool := fun _ ds => decide (uptoBulkAll ds ≤ 1048576)
def OpenSpec.upto (s : _root_.Go.ChangeSpec) : _root_.Go.OpenSpec := { _root_.Go.OpenSpec.ofChange s with cond := some uptoSmall }

/-- 'standbylaw52.SwitchoverBegins', WHERE WHAT IT READS IS OF BULK AT MOST 1048576: true; the input reads as it did. -/
def switchoverBeginsUptoRow : OpenClaim := { program := "ytbliboojdlkpfaa", sum := "5061ea150cb90e5def28f481365dcc1e5fba5d5c80c4924861d87d985a641c71", func := "standby/standbylaw52.SwitchoverBegins", spec := "switchoverBegins", unfollowed := true, recurses := true, apart := false, narrowed := true }
def SwitchoverBeginsUptoSaid : Prop := switchoverBeginsUptoRow.holds Try.pinned (OpenSpec.upto switchoverBeginsSpec)

/-- 'standbylaw52.SwitchoverNeeds', WHERE WHAT IT READS IS OF BULK AT MOST 1048576: true; the input reads as it did. -/
def switchoverNeedsUptoRow : OpenClaim := { program := "ytbliboojdlkpfaa", sum := "5061ea150cb90e5def28f481365dcc1e5fba5d5c80c4924861d87d985a641c71", func := "standby/standbylaw52.SwitchoverNeeds", spec := "switchoverNeeds", unfollowed := true, recurses := true, apart := false, narrowed := true }
def SwitchoverNeedsUptoSaid : Prop := switchoverNeedsUptoRow.holds Try.pinned (OpenSpec.upto switchoverNeedsSpec)

/-- 'standbylaw52.SwitchoverSteps', WHERE WHAT IT READS IS OF BULK AT MOST 1048576: true; the input reads as it did. -/
def switchoverStepsUptoRow : OpenClaim := { program := "ytbliboojdlkpfaa", sum := "5061ea150cb90e5def28f481365dcc1e5fba5d5c80c4924861d87d985a641c71", func := "standby/standbylaw52.SwitchoverSteps", spec := "switchoverSteps", unfollowed := true, recurses := true, apart := false, narrowed := true }
def SwitchoverStepsUptoSaid : Prop := switchoverStepsUptoRow.holds Try.pinned (OpenSpec.upto switchoverStepsSpec)

/-- 'standbylaw52.SwitchoverAborts', WHERE WHAT IT READS IS OF BULK AT MOST 1048576: true; the input reads as it did. -/
def switchoverAbortsUptoRow : OpenClaim := { program := "ytbliboojdlkpfaa", sum := "5061ea150cb90e5def28f481365dcc1e5fba5d5c80c4924861d87d985a641c71", func := "standby/standbylaw52.SwitchoverAborts", spec := "switchoverAborts", unfollowed := true, recurses := true, apart := false, narrowed := true }
def SwitchoverAbortsUptoSaid : Prop := switchoverAbortsUptoRow.holds Try.pinned (OpenSpec.upto switchoverAbortsSpec)

/-- 'standbylaw52.SwitchoverExclusive', WHERE WHAT IT READS IS OF BULK AT MOST 1048576: true; the input reads as it did. -/
def switchoverExclusiveUptoRow : OpenClaim := { program := "ytbliboojdlkpfaa", sum := "5061ea150cb90e5def28f481365dcc1e5fba5d5c80c4924861d87d985a641c71", func := "standby/standbylaw52.SwitchoverExclusive", spec := "switchoverExclusive", unfollowed := true, recurses := true, apart := false, narrowed := true }
def SwitchoverExclusiveUptoSaid : Prop := switchoverExclusiveUptoRow.holds Try.pinned (OpenSpec.upto switchoverExclusiveSpec)

/-- 'standbylaw52.SwitchoverKeeps', WHERE WHAT IT READS IS OF BULK AT MOST 1048576: true; the input reads as it did. -/
def switchoverKeepsUptoRow : OpenClaim := { program := "ytbliboojdlkpfaa", sum := "5061ea150cb90e5def28f481365dcc1e5fba5d5c80c4924861d87d985a641c71", func := "standby/standbylaw52.SwitchoverKeeps", spec := "switchoverKeeps", unfollowed := true, recurses := true, apart := false, narrowed := true }
def SwitchoverKeepsUptoSaid : Prop := switchoverKeepsUptoRow.holds Try.pinned (OpenSpec.upto switchoverKeepsSpec)

/-- 'standbylaw52.SwitchoverLeaves', WHERE WHAT IT READS IS OF BULK AT MOST 1048576: true; the input reads as it did. -/
def switchoverLeavesUptoRow : OpenClaim := { program := "ytbliboojdlkpfaa", sum := "5061ea150cb90e5def28f481365dcc1e5fba5d5c80c4924861d87d985a641c71", func := "standby/standbylaw52.SwitchoverLeaves", spec := "switchoverLeaves", unfollowed := true, recurses := true, apart := false, narrowed := true }
def SwitchoverLeavesUptoSaid : Prop := switchoverLeavesUptoRow.holds Try.pinned (OpenSpec.upto switchoverLeavesSpec)

/-- 'standbylaw52.SwitchoverEnds', WHERE WHAT IT READS IS OF BULK AT MOST 1048576: true; the input reads as it did. -/
def switchoverEndsUptoRow : OpenClaim := { program := "ytbliboojdlkpfaa", sum := "5061ea150cb90e5def28f481365dcc1e5fba5d5c80c4924861d87d985a641c71", func := "standby/standbylaw52.SwitchoverEnds", spec := "switchoverEnds", unfollowed := true, recurses := true, apart := false, narrowed := true }
def SwitchoverEndsUptoSaid : Prop := switchoverEndsUptoRow.holds Try.pinned (OpenSpec.upto switchoverEndsSpec)

end Rows
end Go.Proofs.Ytbliboojdlkpfaa
