/-
  No cell of these rows narrows 'for every input' (looked for: loops, veiled, ifaces, maps, wideKeys, modest, calm, conditions, laid).
  DERIVED. THE GIVEN ROWS OF THIS SEAT. 6 by the template 'for every input the law returns true; each argument reads behind the call as it read before'; 0 by the template 'total and deterministic' (their statements: YtennlgngdjegoaaTotals.lean).
  GIVEN WITH THE SEED: the statements are not yours to turn. If you find one false, say at which input.
  Laid BY PROGRAM, IN A SANDBOX (cutbox-rows.mjs): the forced cells as the released guide's own fill.sh prints them over the translation c78c63796071583d… (all of the seat's roots in one cut). By AI agents, Wed Nov 11 2026. No macro, syntax, notation, axiom, sorry.
-/
import Derived.Test.YtennlgngdjegoaaChecked
import GoSem.Claim
import GoSem.ClaimJoined
import GoSem.ClaimMapViews
import Derived.JoinedTies
import Derived.KernelRfl
namespace Go.Proofs.Ytennlgngdjegoaa
/- THE CELL 'sum', in the pinned program and in every row, IS THE sha256 OF THE DUMP (.gsa) THAT YtennlgngdjegoaaProg.lean LOADS. Nothing in Lean hashes anything: it is a label: what it is worth is what the hold of that sum in a sandbox is worth. -/
noncomputable def Try.pinned : Pinned := { name := "ytennlgngdjegoaa", sum := "c78c63796071583d38b07a6d535f67f616aa5aca2d9f5395a21c465062589d71", checked := Try.checked }
namespace Rows
def none {H : Type} : Left H := { results := [], args := [] }

/-- 'standbytop.TopSplitsResolved': WHATEVER THE INPUT: true; the input reads as it did. -/
def topSplitsResolvedSpec : ChangeSpec := { name := "topSplitsResolved", fn := fun _ => fun
  | [d1, d2, d3] => { results := [.lit (.bool true)], args := [d1, d2, d3] }
  | _ => none }
def topSplitsResolvedRow : OpenClaim := { program := "ytennlgngdjegoaa", sum := "c78c63796071583d38b07a6d535f67f616aa5aca2d9f5395a21c465062589d71", func := "standby/standbytop.TopSplitsResolved", spec := "topSplitsResolved", unfollowed := true, recurses := true, apart := false }
def TopSplitsResolvedSaid : Prop := topSplitsResolvedRow.holds Try.pinned (OpenSpec.ofChange topSplitsResolvedSpec)

/-- ITS FALSE NEIGHBOUR: 'it returns false'. Refute it at one input. -/
def topSplitsResolvedWrong : ChangeSpec := { name := "topSplitsResolved", fn := fun _ => fun
  | [d1, d2, d3] => { results := [.lit (.bool false)], args := [d1, d2, d3] }
  | _ => none }
def TopSplitsResolvedWrongFalsely : Prop := topSplitsResolvedRow.holds Try.pinned (OpenSpec.ofChange topSplitsResolvedWrong)

/-- 'standbytop.TopSwitchoverKeeps': WHATEVER THE INPUT: true; the input reads as it did. -/
def topSwitchoverKeepsSpec : ChangeSpec := { name := "topSwitchoverKeeps", fn := fun _ => fun
  | [d1, d2] => { results := [.lit (.bool true)], args := [d1, d2] }
  | _ => none }
def topSwitchoverKeepsRow : OpenClaim := { program := "ytennlgngdjegoaa", sum := "c78c63796071583d38b07a6d535f67f616aa5aca2d9f5395a21c465062589d71", func := "standby/standbytop.TopSwitchoverKeeps", spec := "topSwitchoverKeeps", unfollowed := true, recurses := true, apart := false }
def TopSwitchoverKeepsSaid : Prop := topSwitchoverKeepsRow.holds Try.pinned (OpenSpec.ofChange topSwitchoverKeepsSpec)

/-- ITS FALSE NEIGHBOUR: 'it returns false'. Refute it at one input. -/
def topSwitchoverKeepsWrong : ChangeSpec := { name := "topSwitchoverKeeps", fn := fun _ => fun
  | [d1, d2] => { results := [.lit (.bool false)], args := [d1, d2] }
  | _ => none }
def TopSwitchoverKeepsWrongFalsely : Prop := topSwitchoverKeepsRow.holds Try.pinned (OpenSpec.ofChange topSwitchoverKeepsWrong)

/-- 'standbytop.TopFailoverChooses': WHATEVER THE INPUT: true; the input reads as it did. -/
def topFailoverChoosesSpec : ChangeSpec := { name := "topFailoverChooses", fn := fun _ => fun
  | [d1, d2] => { results := [.lit (.bool true)], args := [d1, d2] }
  | _ => none }
def topFailoverChoosesRow : OpenClaim := { program := "ytennlgngdjegoaa", sum := "c78c63796071583d38b07a6d535f67f616aa5aca2d9f5395a21c465062589d71", func := "standby/standbytop.TopFailoverChooses", spec := "topFailoverChooses", unfollowed := true, recurses := true, apart := false }
def TopFailoverChoosesSaid : Prop := topFailoverChoosesRow.holds Try.pinned (OpenSpec.ofChange topFailoverChoosesSpec)

/-- ITS FALSE NEIGHBOUR: 'it returns false'. Refute it at one input. -/
def topFailoverChoosesWrong : ChangeSpec := { name := "topFailoverChooses", fn := fun _ => fun
  | [d1, d2] => { results := [.lit (.bool false)], args := [d1, d2] }
  | _ => none }
def TopFailoverChoosesWrongFalsely : Prop := topFailoverChoosesRow.holds Try.pinned (OpenSpec.ofChange topFailoverChoosesWrong)

/-- 'standbylaw53.FailoverBest': WHATEVER THE INPUT: true; the input reads as it did. -/
def failoverBestSpec : ChangeSpec := { name := "failoverBest", fn := fun _ => fun
  | [d1, d2] => { results := [.lit (.bool true)], args := [d1, d2] }
  | _ => none }
def failoverBestRow : OpenClaim := { program := "ytennlgngdjegoaa", sum := "c78c63796071583d38b07a6d535f67f616aa5aca2d9f5395a21c465062589d71", func := "standby/standbylaw53.FailoverBest", spec := "failoverBest", unfollowed := true, recurses := true, apart := false }
def FailoverBestSaid : Prop := failoverBestRow.holds Try.pinned (OpenSpec.ofChange failoverBestSpec)

/-- ITS FALSE NEIGHBOUR: 'it returns false'. Refute it at one input. -/
def failoverBestWrong : ChangeSpec := { name := "failoverBest", fn := fun _ => fun
  | [d1, d2] => { results := [.lit (.bool false)], args := [d1, d2] }
  | _ => none }
def FailoverBestWrongFalsely : Prop := failoverBestRow.holds Try.pinned (OpenSpec.ofChange failoverBestWrong)

/-- 'standbylaw53.FailoverRefused': WHATEVER THE INPUT: true; the input reads as it did. -/
def failoverRefusedSpec : ChangeSpec := { name := "failoverRefused", fn := fun _ => fun
  | [d1, d2, d3] => { results := [.lit (.bool true)], args := [d1, d2, d3] }
  | _ => none }
def failoverRefusedRow : OpenClaim := { program := "ytennlgngdjegoaa", sum := "c78c63796071583d38b07a6d535f67f616aa5aca2d9f5395a21c465062589d71", func := "standby/standbylaw53.FailoverRefused", spec := "failoverRefused", unfollowed := true, recurses := true, apart := false }
def FailoverRefusedSaid : Prop := failoverRefusedRow.holds Try.pinned (OpenSpec.ofChange failoverRefusedSpec)

/-- ITS FALSE NEIGHBOUR: 'it returns false'. Refute it at one input. -/
def failoverRefusedWrong : ChangeSpec := { name := "failoverRefused", fn := fun _ => fun
  | [d1, d2, d3] => { results := [.lit (.bool false)], args := [d1, d2, d3] }
  | _ => none }
def FailoverRefusedWrongFalsely : Prop := failoverRefusedRow.holds Try.pinned (OpenSpec.ofChange failoverRefusedWrong)

/-- 'standbylaw53.FailoverShrinks': WHATEVER THE INPUT: true; the input reads as it did. -/
def failoverShrinksSpec : ChangeSpec := { name := "failoverShrinks", fn := fun _ => fun
  | [d1, d2, d3] => { results := [.lit (.bool true)], args := [d1, d2, d3] }
  | _ => none }
def failoverShrinksRow : OpenClaim := { program := "ytennlgngdjegoaa", sum := "c78c63796071583d38b07a6d535f67f616aa5aca2d9f5395a21c465062589d71", func := "standby/standbylaw53.FailoverShrinks", spec := "failoverShrinks", unfollowed := true, recurses := true, apart := false }
def FailoverShrinksSaid : Prop := failoverShrinksRow.holds Try.pinned (OpenSpec.ofChange failoverShrinksSpec)

/-- ITS FALSE NEIGHBOUR: 'it returns false'. Refute it at one input. -/
def failoverShrinksWrong : ChangeSpec := { name := "failoverShrinks", fn := fun _ => fun
  | [d1, d2, d3] => { results := [.lit (.bool false)], args := [d1, d2, d3] }
  | _ => none }
def FailoverShrinksWrongFalsely : Prop := failoverShrinksRow.holds Try.pinned (OpenSpec.ofChange failoverShrinksWrong)

/- THE SECOND FORM. 'bulk': how many values and letters a reading holds, each counted each time it is reached (what is shared counts as often as it is met; a slice's spare places count too). A statement '..UptoSaid' is the law's where the arguments, and the package variables that the reading takes, are together of bulk at most 1048576: NARROWER than '..Said'. Prove '..Said' where nothing that the law and all that it calls make is longer than what came in: it says more and counts as full. Else prove '..UptoSaid'. A law counts once. -/
mutual
def uptoBulk {H : Type} : DataW H → Nat
  | .lit (.string bytes) => bytes.length + 1
  | .lit _ => 1
  | .nil => 1
  | .ptr d => uptoBulk d + 1
  | .slice elems spare => uptoBulkAll elems + uptoBulkAll spare + 1
  | .agg parts => uptoBulkAll parts + 1
  | .iface _ d => uptoBulk d + 1
  | .map entries => uptoBulkEntries entries + 1
  | .held _ => 1
def uptoBulkAll {H : Type} : List (DataW H) → Nat
  | [] => 0
  | d :: r => uptoBulk d + uptoBulkAll r
def uptoBulkEntries {H : Type} : List (Lit × DataW H) → Nat
  | [] => 0
  | x :: r => uptoBulkEntry x + uptoBulkEntries r
def uptoBulkEntry {H : Type} : Lit × DataW H → Nat
  | (.string bytes, d) => bytes.length + uptoBulk d + 1
  | (_, d) => uptoBulk d + 1
 end
def uptoSmall : (H : Type) → List (DataW H) → Bool := fun _ ds => decide (uptoBulkAll ds ≤ 1048576)
def OpenSpec.upto (s : _root_.Go.ChangeSpec) : _root_.Go.OpenSpec := { _root_.Go.OpenSpec.ofChange s with cond := some uptoSmall }

/-- 'standbytop.TopSplitsResolved', WHERE WHAT IT READS IS OF BULK AT MOST 1048576: true; the input reads as it did. -/
def topSplitsResolvedUptoRow : OpenClaim := { program := "ytennlgngdjegoaa", sum := "c78c63796071583d38b07a6d535f67f616aa5aca2d9f5395a21c465062589d71", func := "standby/standbytop.TopSplitsResolved", spec := "topSplitsResolved", unfollowed := true, recurses := true, apart := false, narrowed := true }
def TopSplitsResolvedUptoSaid : Prop := topSplitsResolvedUptoRow.holds Try.pinned (OpenSpec.upto topSplitsResolvedSpec)

/-- 'standbytop.TopSwitchoverKeeps', WHERE WHAT IT READS IS OF BULK AT MOST 1048576: true; the input reads as it did. -/
def topSwitchoverKeepsUptoRow : OpenClaim := { program := "ytennlgngdjegoaa", sum := "c78c63796071583d38b07a6d535f67f616aa5aca2d9f5395a21c465062589d71", func := "standby/standbytop.TopSwitchoverKeeps", spec := "topSwitchoverKeeps", unfollowed := true, recurses := true, apart := false, narrowed := true }
def TopSwitchoverKeepsUptoSaid : Prop := topSwitchoverKeepsUptoRow.holds Try.pinned (OpenSpec.upto topSwitchoverKeepsSpec)

/-- 'standbytop.TopFailoverChooses', WHERE WHAT IT READS IS OF BULK AT MOST 1048576: true; the input reads as it did. -/
def topFailoverChoosesUptoRow : OpenClaim := { program := "ytennlgngdjegoaa", sum := "c78c63796071583d38b07a6d535f67f616aa5aca2d9f5395a21c465062589d71", func := "standby/standbytop.TopFailoverChooses", spec := "topFailoverChooses", unfollowed := true, recurses := true, apart := false, narrowed := true }
def TopFailoverChoosesUptoSaid : Prop := topFailoverChoosesUptoRow.holds Try.pinned (OpenSpec.upto topFailoverChoosesSpec)

/-- 'standbylaw53.FailoverBest', WHERE WHAT IT READS IS OF BULK AT MOST 1048576: true; the input reads as it did. -/
def failoverBestUptoRow : OpenClaim := { program := "ytennlgngdjegoaa", sum := "c78c63796071583d38b07a6d535f67f616aa5aca2d9f5395a21c465062589d71", func := "standby/standbylaw53.FailoverBest", spec := "failoverBest", unfollowed := true, recurses := true, apart := false, narrowed := true }
def FailoverBestUptoSaid : Prop := failoverBestUptoRow.holds Try.pinned (OpenSpec.upto failoverBestSpec)

/-- 'standbylaw53.FailoverRefused', WHERE WHAT IT READS IS OF BULK AT MOST 1048576: true; the input reads as it did. -/
def failoverRefusedUptoRow : OpenClaim := { program := "ytennlgngdjegoaa", sum := "c78c63796071583d38b07a6d535f67f616aa5aca2d9f5395a21c465062589d71", func := "standby/standbylaw53.FailoverRefused", spec := "failoverRefused", unfollowed := true, recurses := true, apart := false, narrowed := true }
def FailoverRefusedUptoSaid : Prop := failoverRefusedUptoRow.holds Try.pinned (OpenSpec.upto failoverRefusedSpec)

/-- 'standbylaw53.FailoverShrinks', WHERE WHAT IT READS IS OF BULK AT MOST 1048576: true; the input reads as it did. -/
def failoverShrinksUptoRow : OpenClaim := { program := "ytennlgngdjegoaa", sum := "c78c63796071583d38b07a6d535f67f616aa5aca2d9f5395a21c465062589d71", func := "standby/standbylaw53.FailoverShrinks", spec := "failoverShrinks", unfollowed := true, recurses := true, apart := false, narrowed := true }
def FailoverShrinksUptoSaid : Prop := failoverShrinksUptoRow.holds Try.pinned (OpenSpec.upto failoverShrinksSpec)

end Rows
end Go.Proofs.Ytennlgngdjegoaa
