/-
  No cell of these rows narrows 'for every input' (looked for: loops, veiled, ifaces, maps, wideKeys, modest, calm, conditions, laid).
  DERIVED. THE GIVEN ROWS OF THIS SEAT. 4 by the template 'for every input the law returns true; each argument reads behind the call as it read before'; 0 by the template 'total and deterministic' (their statements: YtiefjlcakpdfeaaGreatTotals.lean).
  GIVEN WITH THE SEED: the statements are not yours to turn. If you find one false, say at which input.
  Laid BY PROGRAM, IN A SANDBOX (cutbox-rows.mjs): the forced cells as the released guide's own fill.sh prints them over the translation 77509774d3a11b23… (all of the seat's roots in one cut). By AI agents, Wed Nov 11 2026. No macro, syntax, notation, axiom, sorry.
-/
import Derived.Test.YtiefjlcakpdfeaaGreatChecked
import GoSem.Claim
import GoSem.ClaimJoined
import GoSem.ClaimMapViews
import Derived.JoinedTies
import Derived.KernelRfl
namespace Go.Proofs.YtiefjlcakpdfeaaGreat
/- THE CELL 'sum', in the pinned program and in every row, IS THE sha256 OF THE DUMP (.gsa) THAT YtiefjlcakpdfeaaGreatProg.lean LOADS. Nothing in Lean hashes anything: it is a label: what it is worth is what the hold of that sum in a sandbox is worth. -/
noncomputable def Tryz.pinned : Pinned := { name := "ytiefjlcakpdfeaagreat", sum := "77509774d3a11b238da09a9d8198e18ace43e14626784da2546ebcc984f3681d", checked := Tryz.checked }
namespace Rows
def none {H : Type} : Left H := { results := [], args := [] }

/-- 'standbylaw58.RunbookParses': WHATEVER THE INPUT: true; the input reads as it did. -/
def runbookParsesSpec : ChangeSpec := { name := "runbookParses", fn := fun _ => fun
  | [d] => { results := [.lit (.bool true)], args := [d] }
  | _ => none }
def runbookParsesRow : OpenClaim := { program := "ytiefjlcakpdfeaagreat", sum := "77509774d3a11b238da09a9d8198e18ace43e14626784da2546ebcc984f3681d", func := "standby/standbylaw58.RunbookParses", spec := "runbookParses", inPlace := ["internal/bytealg.IndexByteString", "internal/bytealg.IndexString", "internal/abi.NoEscape", "internal/bytealg.MakeNoZero"], unfollowed := true, recurses := true, named := ["internal/bytealg.MaxLen"], apart := false }
def RunbookParsesSaid : Prop := runbookParsesRow.holds Tryz.pinned (OpenSpec.ofChange runbookParsesSpec)

/-- ITS FALSE NEIGHBOUR: 'it returns false'. Refute it at one input. -/
def runbookParsesWrong : ChangeSpec := { name := "runbookParses", fn := fun _ => fun
  | [d] => { results := [.lit (.bool false)], args := [d] }
  | _ => none }
def RunbookParsesWrongFalsely : Prop := runbookParsesRow.holds Tryz.pinned (OpenSpec.ofChange runbookParsesWrong)

/-- 'standbylaw58.RunbookUndoes': WHATEVER THE INPUT: true; the input reads as it did. -/
def runbookUndoesSpec : ChangeSpec := { name := "runbookUndoes", fn := fun _ => fun
  | [d1, d2, d3] => { results := [.lit (.bool true)], args := [d1, d2, d3] }
  | _ => none }
def runbookUndoesRow : OpenClaim := { program := "ytiefjlcakpdfeaagreat", sum := "77509774d3a11b238da09a9d8198e18ace43e14626784da2546ebcc984f3681d", func := "standby/standbylaw58.RunbookUndoes", spec := "runbookUndoes", inPlace := ["internal/bytealg.IndexByteString", "internal/bytealg.IndexString", "internal/abi.NoEscape", "internal/bytealg.MakeNoZero"], unfollowed := true, recurses := true, named := ["internal/bytealg.MaxLen"], apart := false }
def RunbookUndoesSaid : Prop := runbookUndoesRow.holds Tryz.pinned (OpenSpec.ofChange runbookUndoesSpec)

/-- ITS FALSE NEIGHBOUR: 'it returns false'. Refute it at one input. -/
def runbookUndoesWrong : ChangeSpec := { name := "runbookUndoes", fn := fun _ => fun
  | [d1, d2, d3] => { results := [.lit (.bool false)], args := [d1, d2, d3] }
  | _ => none }
def RunbookUndoesWrongFalsely : Prop := runbookUndoesRow.holds Tryz.pinned (OpenSpec.ofChange runbookUndoesWrong)

/-- 'standbylaw58.RunbookSpaces': WHATEVER THE INPUT: true; the input reads as it did. -/
def runbookSpacesSpec : ChangeSpec := { name := "runbookSpaces", fn := fun _ => fun
  | [d1, d2] => { results := [.lit (.bool true)], args := [d1, d2] }
  | _ => none }
def runbookSpacesRow : OpenClaim := { program := "ytiefjlcakpdfeaagreat", sum := "77509774d3a11b238da09a9d8198e18ace43e14626784da2546ebcc984f3681d", func := "standby/standbylaw58.RunbookSpaces", spec := "runbookSpaces", inPlace := ["internal/bytealg.IndexByteString", "internal/bytealg.IndexString", "internal/abi.NoEscape", "internal/bytealg.MakeNoZero"], unfollowed := true, recurses := true, named := ["internal/bytealg.MaxLen"], apart := false }
def RunbookSpacesSaid : Prop := runbookSpacesRow.holds Tryz.pinned (OpenSpec.ofChange runbookSpacesSpec)

/-- ITS FALSE NEIGHBOUR: 'it returns false'. Refute it at one input. -/
def runbookSpacesWrong : ChangeSpec := { name := "runbookSpaces", fn := fun _ => fun
  | [d1, d2] => { results := [.lit (.bool false)], args := [d1, d2] }
  | _ => none }
def RunbookSpacesWrongFalsely : Prop := runbookSpacesRow.holds Tryz.pinned (OpenSpec.ofChange runbookSpacesWrong)

/-- 'standbytop.TopRunbooksFailOver': WHATEVER THE INPUT: true; the input reads as it did. -/
def topRunbooksFailOverSpec : ChangeSpec := { name := "topRunbooksFailOver", fn := fun _ => fun
  | [d1, d2, d3] => { results := [.lit (.bool true)], args := [d1, d2, d3] }
  | _ => none }
def topRunbooksFailOverRow : OpenClaim := { program := "ytiefjlcakpdfeaagreat", sum := "77509774d3a11b238da09a9d8198e18ace43e14626784da2546ebcc984f3681d", func := "standby/standbytop.TopRunbooksFailOver", spec := "topRunbooksFailOver", inPlace := ["internal/bytealg.IndexByteString", "internal/bytealg.IndexString", "internal/abi.NoEscape", "internal/bytealg.MakeNoZero"], unfollowed := true, recurses := true, named := ["internal/bytealg.MaxLen"], apart := false }
def TopRunbooksFailOverSaid : Prop := topRunbooksFailOverRow.holds Tryz.pinned (OpenSpec.ofChange topRunbooksFailOverSpec)

/-- ITS FALSE NEIGHBOUR: 'it returns false'. Refute it at one input. -/
def topRunbooksFailOverWrong : ChangeSpec := { name := "topRunbooksFailOver", fn := fun _ => fun
  | [d1, d2, d3] => { results := [.lit (.bool false)], args := [d1, d2, d3] }
  | _ => none }
def TopRunbooksFailOverWrongFalsely : Prop := topRunbooksFailOverRow.holds Tryz.pinned (OpenSpec.ofChange topRunbooksFailOverWrong)

/- THE SECOND FORM. 'bulk': how many values and letters a reading holds, each counted each time it is reached (what is shared counts as often as it is met; a slice's spare places count too). A statement '..UptoSaid' is the law's where the arguments, and the package variables that the reading takes, are together of bulk at most 1048576: NARROWER than '..Said'. Prove '..Said' where nothing that the law and all that it calls make is longer than what came in: it says more and counts as full. Else prove '..UptoSaid'. A law counts once. -/
mutual
def uptoBulk {H : Type} : DataW H → Nat
  | .lit (.string bytes) => bytes.length + 1
  | .lit _ => 1
  | .nil => 1
  | .ptr d => uptoBulk d + 1
  | .slice elems spare => uptoBulkAll elems + uptoBulkAll spare + 1
  | .agg parts => uptoBulkAll parts + 1
  | .iface _ d => uptoBulk d + 1
  | .map entries => uptoBulkEntries entries + 1
  | .held _ => 1
def uptoBulkAll {H : Type} : List (DataW H) → Nat
  | [] => 0
  | d :: r => uptoBulk d + uptoBulkAll r
def uptoBulkEntries {H : Type} : List (Lit × DataW H) → Nat
  | [] => 0
  | x :: r => uptoBulkEntry x + uptoBulkEntries r
def uptoBulkEntry {H : Type} : Lit × DataW H → Nat
  | (.string bytes, d) => bytes.length + uptoBulk d + 1
  | (_, d) => uptoBulk d + 1
 end
def uptoSmall : (H : Type) → List (DataW H) → Bool := fun _ ds => decide (uptoBulkAll ds ≤ 1048576)
def OpenSpec.upto (s : _root_.Go.ChangeSpec) : _root_.Go.OpenSpec := { _root_.Go.OpenSpec.ofChange s with cond := some uptoSmall }

/-- 'standbylaw58.RunbookParses', WHERE WHAT IT READS IS OF BULK AT MOST 1048576: true; the input reads as it did. -/
def runbookParsesUptoRow : OpenClaim := { program := "ytiefjlcakpdfeaagreat", sum := "77509774d3a11b238da09a9d8198e18ace43e14626784da2546ebcc984f3681d", func := "standby/standbylaw58.RunbookParses", spec := "runbookParses", inPlace := ["internal/bytealg.IndexByteString", "internal/bytealg.IndexString", "internal/abi.NoEscape", "internal/bytealg.MakeNoZero"], unfollowed := true, recurses := true, named := ["internal/bytealg.MaxLen"], apart := false, narrowed := true }
def RunbookParsesUptoSaid : Prop := runbookParsesUptoRow.holds Tryz.pinned (OpenSpec.upto runbookParsesSpec)

/-- 'standbylaw58.RunbookUndoes', WHERE WHAT IT READS IS OF BULK AT MOST 1048576: true; the input reads as it did. -/
def runbookUndoesUptoRow : OpenClaim := { program := "ytiefjlcakpdfeaagreat", sum := "77509774d3a11b238da09a9d8198e18ace43e14626784da2546ebcc984f3681d", func := "standby/standbylaw58.RunbookUndoes", spec := "runbookUndoes", inPlace := ["internal/bytealg.IndexByteString", "internal/bytealg.IndexString", "internal/abi.NoEscape", "internal/bytealg.MakeNoZero"], unfollowed := true, recurses := true, named := ["internal/bytealg.MaxLen"], apart := false, narrowed := true }
def RunbookUndoesUptoSaid : Prop := runbookUndoesUptoRow.holds Tryz.pinned (OpenSpec.upto runbookUndoesSpec)

/-- 'standbylaw58.RunbookSpaces', WHERE WHAT IT READS IS OF BULK AT MOST 1048576: true; the input reads as it did. -/
def runbookSpacesUptoRow : OpenClaim := { program := "ytiefjlcakpdfeaagreat", sum := "77509774d3a11b238da09a9d8198e18ace43e14626784da2546ebcc984f3681d", func := "standby/standbylaw58.RunbookSpaces", spec := "runbookSpaces", inPlace := ["internal/bytealg.IndexByteString", "internal/bytealg.IndexString", "internal/abi.NoEscape", "internal/bytealg.MakeNoZero"], unfollowed := true, recurses := true, named := ["internal/bytealg.MaxLen"], apart := false, narrowed := true }
def RunbookSpacesUptoSaid : Prop := runbookSpacesUptoRow.holds Tryz.pinned (OpenSpec.upto runbookSpacesSpec)

/-- 'standbytop.TopRunbooksFailOver', WHERE WHAT IT READS IS OF BULK AT MOST 1048576: true; the input reads as it did. -/
def topRunbooksFailOverUptoRow : OpenClaim := { program := "ytiefjlcakpdfeaagreat", sum := "77509774d3a11b238da09a9d8198e18ace43e14626784da2546ebcc984f3681d", func := "standby/standbytop.TopRunbooksFailOver", spec := "topRunbooksFailOver", inPlace := ["internal/bytealg.IndexByteString", "internal/bytealg.IndexString", "internal/abi.NoEscape", "internal/bytealg.MakeNoZero"], unfollowed := true, recurses := true, named := ["internal/bytealg.MaxLen"], apart := false, narrowed := true }
def TopRunbooksFailOverUptoSaid : Prop := topRunbooksFailOverUptoRow.holds Tryz.pinned (OpenSpec.upto topRunbooksFailOverSpec)

end Rows
end Go.Proofs.YtiefjlcakpdfeaaGreat
