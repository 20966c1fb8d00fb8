/-
  No cell of these rows narrows 'for every input' (looked for: loops, veiled, ifaces, maps, wideKeys, modest, calm, conditions, laid).
  DERIVED. THE GIVEN ROWS OF THIS SEAT. 8 by the template 'for every input the law returns true; each argument reads behind the call as it read before'; 0 by the template 'total and deterministic' (their statements: YtjiennnkbompkaaTotals.lean).
  GIVEN WITH THE SEED: the statements are not yours to turn. If you find one false, say at which input.
  Laid BY PROGRAM, IN A SANDBOX (cutbox-rows.mjs): the forced cells as the released guide's own fill.sh prints them over the translation c15c11127e5a2fe9… (all of the seat's roots in one cut). By AI agents, Wed Nov 11 2026. No macro, syntax, notation, axiom, sorry.
-/
import Derived.Test.YtjiennnkbompkaaChecked
import GoSem.Claim
import GoSem.ClaimJoined
import GoSem.ClaimMapViews
import Derived.JoinedTies
import Derived.KernelRfl
namespace Go.Proofs.Ytjiennnkbompkaa
/- THE CELL 'sum', in the pinned program and in every row, IS THE sha256 OF THE DUMP (.gsa) THAT YtjiennnkbompkaaProg.lean LOADS. Nothing in Lean hashes anything: it is a label: what it is worth is what the hold of that sum in a sandbox is worth. -/
noncomputable def Try.pinned : Pinned := { name := "ytjiennnkbompkaa", sum := "c15c11127e5a2fe97b9b7700954436366443fa4e235029a728f8d6775a7e002b", checked := Try.checked }
namespace Rows
def none {H : Type} : Left H := { results := [], args := [] }

/-- 'standbylaw51.RolePromotes': WHATEVER THE INPUT: true; the input reads as it did. -/
def rolePromotesSpec : ChangeSpec := { name := "rolePromotes", fn := fun _ => fun
  | [d1, d2, d3] => { results := [.lit (.bool true)], args := [d1, d2, d3] }
  | _ => none }
def rolePromotesRow : OpenClaim := { program := "ytjiennnkbompkaa", sum := "c15c11127e5a2fe97b9b7700954436366443fa4e235029a728f8d6775a7e002b", func := "standby/standbylaw51.RolePromotes", spec := "rolePromotes", unfollowed := true, recurses := true, apart := false }
def RolePromotesSaid : Prop := rolePromotesRow.holds Try.pinned (OpenSpec.ofChange rolePromotesSpec)

/-- ITS FALSE NEIGHBOUR: 'it returns false'. Refute it at one input. -/
def rolePromotesWrong : ChangeSpec := { name := "rolePromotes", fn := fun _ => fun
  | [d1, d2, d3] => { results := [.lit (.bool false)], args := [d1, d2, d3] }
  | _ => none }
def RolePromotesWrongFalsely : Prop := rolePromotesRow.holds Try.pinned (OpenSpec.ofChange rolePromotesWrong)

/-- 'standbylaw51.RoleApplies': WHATEVER THE INPUT: true; the input reads as it did. -/
def roleAppliesSpec : ChangeSpec := { name := "roleApplies", fn := fun _ => fun
  | [d1, d2, d3] => { results := [.lit (.bool true)], args := [d1, d2, d3] }
  | _ => none }
def roleAppliesRow : OpenClaim := { program := "ytjiennnkbompkaa", sum := "c15c11127e5a2fe97b9b7700954436366443fa4e235029a728f8d6775a7e002b", func := "standby/standbylaw51.RoleApplies", spec := "roleApplies", unfollowed := true, recurses := true, apart := false }
def RoleAppliesSaid : Prop := roleAppliesRow.holds Try.pinned (OpenSpec.ofChange roleAppliesSpec)

/-- ITS FALSE NEIGHBOUR: 'it returns false'. Refute it at one input. -/
def roleAppliesWrong : ChangeSpec := { name := "roleApplies", fn := fun _ => fun
  | [d1, d2, d3] => { results := [.lit (.bool false)], args := [d1, d2, d3] }
  | _ => none }
def RoleAppliesWrongFalsely : Prop := roleAppliesRow.holds Try.pinned (OpenSpec.ofChange roleAppliesWrong)

/-- 'standbylaw51.RoleAllows': WHATEVER THE INPUT: true; the input reads as it did. -/
def roleAllowsSpec : ChangeSpec := { name := "roleAllows", fn := fun _ => fun
  | [d1, d2] => { results := [.lit (.bool true)], args := [d1, d2] }
  | _ => none }
def roleAllowsRow : OpenClaim := { program := "ytjiennnkbompkaa", sum := "c15c11127e5a2fe97b9b7700954436366443fa4e235029a728f8d6775a7e002b", func := "standby/standbylaw51.RoleAllows", spec := "roleAllows", unfollowed := true, recurses := true, apart := false }
def RoleAllowsSaid : Prop := roleAllowsRow.holds Try.pinned (OpenSpec.ofChange roleAllowsSpec)

/-- ITS FALSE NEIGHBOUR: 'it returns false'. Refute it at one input. -/
def roleAllowsWrong : ChangeSpec := { name := "roleAllows", fn := fun _ => fun
  | [d1, d2] => { results := [.lit (.bool false)], args := [d1, d2] }
  | _ => none }
def RoleAllowsWrongFalsely : Prop := roleAllowsRow.holds Try.pinned (OpenSpec.ofChange roleAllowsWrong)

/-- 'standbylaw51.RoleRejoins': WHATEVER THE INPUT: true; the input reads as it did. -/
def roleRejoinsSpec : ChangeSpec := { name := "roleRejoins", fn := fun _ => fun
  | [d1, d2, d3] => { results := [.lit (.bool true)], args := [d1, d2, d3] }
  | _ => none }
def roleRejoinsRow : OpenClaim := { program := "ytjiennnkbompkaa", sum := "c15c11127e5a2fe97b9b7700954436366443fa4e235029a728f8d6775a7e002b", func := "standby/standbylaw51.RoleRejoins", spec := "roleRejoins", unfollowed := true, recurses := true, apart := false }
def RoleRejoinsSaid : Prop := roleRejoinsRow.holds Try.pinned (OpenSpec.ofChange roleRejoinsSpec)

/-- ITS FALSE NEIGHBOUR: 'it returns false'. Refute it at one input. -/
def roleRejoinsWrong : ChangeSpec := { name := "roleRejoins", fn := fun _ => fun
  | [d1, d2, d3] => { results := [.lit (.bool false)], args := [d1, d2, d3] }
  | _ => none }
def RoleRejoinsWrongFalsely : Prop := roleRejoinsRow.holds Try.pinned (OpenSpec.ofChange roleRejoinsWrong)

/-- 'standbylaw51.RoleKeeps': WHATEVER THE INPUT: true; the input reads as it did. -/
def roleKeepsSpec : ChangeSpec := { name := "roleKeeps", fn := fun _ => fun
  | [d1, d2] => { results := [.lit (.bool true)], args := [d1, d2] }
  | _ => none }
def roleKeepsRow : OpenClaim := { program := "ytjiennnkbompkaa", sum := "c15c11127e5a2fe97b9b7700954436366443fa4e235029a728f8d6775a7e002b", func := "standby/standbylaw51.RoleKeeps", spec := "roleKeeps", unfollowed := true, recurses := true, apart := false }
def RoleKeepsSaid : Prop := roleKeepsRow.holds Try.pinned (OpenSpec.ofChange roleKeepsSpec)

/-- ITS FALSE NEIGHBOUR: 'it returns false'. Refute it at one input. -/
def roleKeepsWrong : ChangeSpec := { name := "roleKeeps", fn := fun _ => fun
  | [d1, d2] => { results := [.lit (.bool false)], args := [d1, d2] }
  | _ => none }
def RoleKeepsWrongFalsely : Prop := roleKeepsRow.holds Try.pinned (OpenSpec.ofChange roleKeepsWrong)

/-- 'standbylaw51.RoleWays': WHATEVER THE INPUT: true; the input reads as it did. -/
def roleWaysSpec : ChangeSpec := { name := "roleWays", fn := fun _ => fun
  | [d1, d2] => { results := [.lit (.bool true)], args := [d1, d2] }
  | _ => none }
def roleWaysRow : OpenClaim := { program := "ytjiennnkbompkaa", sum := "c15c11127e5a2fe97b9b7700954436366443fa4e235029a728f8d6775a7e002b", func := "standby/standbylaw51.RoleWays", spec := "roleWays", unfollowed := true, recurses := true, apart := false }
def RoleWaysSaid : Prop := roleWaysRow.holds Try.pinned (OpenSpec.ofChange roleWaysSpec)

/-- ITS FALSE NEIGHBOUR: 'it returns false'. Refute it at one input. -/
def roleWaysWrong : ChangeSpec := { name := "roleWays", fn := fun _ => fun
  | [d1, d2] => { results := [.lit (.bool false)], args := [d1, d2] }
  | _ => none }
def RoleWaysWrongFalsely : Prop := roleWaysRow.holds Try.pinned (OpenSpec.ofChange roleWaysWrong)

/-- 'standbylaw51.RoleChecks': WHATEVER THE INPUT: true; the input reads as it did. -/
def roleChecksSpec : ChangeSpec := { name := "roleChecks", fn := fun _ => fun
  | [d1, d2] => { results := [.lit (.bool true)], args := [d1, d2] }
  | _ => none }
def roleChecksRow : OpenClaim := { program := "ytjiennnkbompkaa", sum := "c15c11127e5a2fe97b9b7700954436366443fa4e235029a728f8d6775a7e002b", func := "standby/standbylaw51.RoleChecks", spec := "roleChecks", unfollowed := true, recurses := true, apart := false }
def RoleChecksSaid : Prop := roleChecksRow.holds Try.pinned (OpenSpec.ofChange roleChecksSpec)

/-- ITS FALSE NEIGHBOUR: 'it returns false'. Refute it at one input. -/
def roleChecksWrong : ChangeSpec := { name := "roleChecks", fn := fun _ => fun
  | [d1, d2] => { results := [.lit (.bool false)], args := [d1, d2] }
  | _ => none }
def RoleChecksWrongFalsely : Prop := roleChecksRow.holds Try.pinned (OpenSpec.ofChange roleChecksWrong)

/-- 'standbylaw51.RoleSplits': WHATEVER THE INPUT: true; the input reads as it did. -/
def roleSplitsSpec : ChangeSpec := { name := "roleSplits", fn := fun _ => fun
  | [d] => { results := [.lit (.bool true)], args := [d] }
  | _ => none }
def roleSplitsRow : OpenClaim := { program := "ytjiennnkbompkaa", sum := "c15c11127e5a2fe97b9b7700954436366443fa4e235029a728f8d6775a7e002b", func := "standby/standbylaw51.RoleSplits", spec := "roleSplits", unfollowed := true, recurses := true, apart := false }
def RoleSplitsSaid : Prop := roleSplitsRow.holds Try.pinned (OpenSpec.ofChange roleSplitsSpec)

/-- ITS FALSE NEIGHBOUR: 'it returns false'. Refute it at one input. -/
def roleSplitsWrong : ChangeSpec := { name := "roleSplits", fn := fun _ => fun
  | [d] => { results := [.lit (.bool false)], args := [d] }
  | _ => none }
def RoleSplitsWrongFalsely : Prop := roleSplitsRow.holds Try.pinned (OpenSpec.ofChange roleSplitsWrong)

/- THE SECOND FORM. 'bulk': how many values and letters a reading holds, each counted each time it is reached (what is shared counts as often as it is met; a slice's spare places count too). A statement '..UptoSaid' is the law's where the arguments, and the package variables that the reading takes, are together of bulk at most 1048576: NARROWER than '..Said'. Prove '..Said' where nothing that the law and all that it calls make is longer than what came in: it says more and counts as full. Else prove '..UptoSaid'. A law counts once. -/
mutual
def uptoBulk {H : Type} : DataW H → Nat
  | .lit (.string bytes) => bytes.length + 1
  | .lit _ => 1
  | .nil => 1
  | .ptr d => uptoBulk d + 1
  | .slice elems spare => uptoBulkAll elems + uptoBulkAll spare + 1
  | .agg parts => uptoBulkAll parts + 1
  | .iface _ d => uptoBulk d + 1
  | .map entries => uptoBulkEntries entries + 1
  | .held _ => 1
def uptoBulkAll {H : Type} : List (DataW H) → Nat
  | [] => 0
  | d :: r => uptoBulk d + uptoBulkAll r
def uptoBulkEntries {H : Type} : List (Lit × DataW H) → Nat
  | [] => 0
  | x :: r => uptoBulkEntry x + uptoBulkEntries r
def uptoBulkEntry {H : Type} : Lit × DataW H → Nat
  | (.string bytes, d) => bytes.length + uptoBulk d + 1
  | (_, d) => uptoBulk d + 1
 end
def uptoSmall : (H : Type) → List (DataW H) → Bool := fun _ ds => decide (uptoBulkAll ds ≤ 1048576)
def OpenSpec.upto (s : _root_.Go.ChangeSpec) : _root_.Go.OpenSpec := { _root_.Go.OpenSpec.ofChange s with cond := some uptoSmall }

/-- 'standbylaw51.RolePromotes', WHERE WHAT IT READS IS OF BULK AT MOST 1048576: true; the input reads as it did. -/
def rolePromotesUptoRow : OpenClaim := { program := "ytjiennnkbompkaa", sum := "c15c11127e5a2fe97b9b7700954436366443fa4e235029a728f8d6775a7e002b", func := "standby/standbylaw51.RolePromotes", spec := "rolePromotes", unfollowed := true, recurses := true, apart := false, narrowed := true }
def RolePromotesUptoSaid : Prop := rolePromotesUptoRow.holds Try.pinned (OpenSpec.upto rolePromotesSpec)

/-- 'standbylaw51.RoleApplies', WHERE WHAT IT READS IS OF BULK AT MOST 1048576: true; the input reads as it did. -/
def roleAppliesUptoRow : OpenClaim := { program := "ytjiennnkbompkaa", sum := "c15c11127e5a2fe97b9b7700954436366443fa4e235029a728f8d6775a7e002b", func := "standby/standbylaw51.RoleApplies", spec := "roleApplies", unfollowed := true, recurses := true, apart := false, narrowed := true }
def RoleAppliesUptoSaid : Prop := roleAppliesUptoRow.holds Try.pinned (OpenSpec.upto roleAppliesSpec)

/-- 'standbylaw51.RoleAllows', WHERE WHAT IT READS IS OF BULK AT MOST 1048576: true; the input reads as it did. -/
def roleAllowsUptoRow : OpenClaim := { program := "ytjiennnkbompkaa", sum := "c15c11127e5a2fe97b9b7700954436366443fa4e235029a728f8d6775a7e002b", func := "standby/standbylaw51.RoleAllows", spec := "roleAllows", unfollowed := true, recurses := true, apart := false, narrowed := true }
def RoleAllowsUptoSaid : Prop := roleAllowsUptoRow.holds Try.pinned (OpenSpec.upto roleAllowsSpec)

/-- 'standbylaw51.RoleRejoins', WHERE WHAT IT READS IS OF BULK AT MOST 1048576: true; the input reads as it did. -/
def roleRejoinsUptoRow : OpenClaim := { program := "ytjiennnkbompkaa", sum := "c15c11127e5a2fe97b9b7700954436366443fa4e235029a728f8d6775a7e002b", func := "standby/standbylaw51.RoleRejoins", spec := "roleRejoins", unfollowed := true, recurses := true, apart := false, narrowed := true }
def RoleRejoinsUptoSaid : Prop := roleRejoinsUptoRow.holds Try.pinned (OpenSpec.upto roleRejoinsSpec)

/-- 'standbylaw51.RoleKeeps', WHERE WHAT IT READS IS OF BULK AT MOST 1048576: true; the input reads as it did. -/
def roleKeepsUptoRow : OpenClaim := { program := "ytjiennnkbompkaa", sum := "c15c11127e5a2fe97b9b7700954436366443fa4e235029a728f8d6775a7e002b", func := "standby/standbylaw51.RoleKeeps", spec := "roleKeeps", unfollowed := true, recurses := true, apart := false, narrowed := true }
def RoleKeepsUptoSaid : Prop := roleKeepsUptoRow.holds Try.pinned (OpenSpec.upto roleKeepsSpec)

/-- 'standbylaw51.RoleWays', WHERE WHAT IT READS IS OF BULK AT MOST 1048576: true; the input reads as it did. -/
def roleWaysUptoRow : OpenClaim := { program := "ytjiennnkbompkaa", sum := "c15c11127e5a2fe97b9b7700954436366443fa4e235029a728f8d6775a7e002b", func := "standby/standbylaw51.RoleWays", spec := "roleWays", unfollowed := true, recurses := true, apart := false, narrowed := true }
def RoleWaysUptoSaid : Prop := roleWaysUptoRow.holds Try.pinned (OpenSpec.upto roleWaysSpec)

/-- 'standbylaw51.RoleChecks', WHERE WHAT IT READS IS OF BULK AT MOST 1048576: true; the input reads as it did. -/
def roleChecksUptoRow : OpenClaim := { program := "ytjiennnkbompkaa", sum := "c15c11127e5a2fe97b9b7700954436366443fa4e235029a728f8d6775a7e002b", func := "standby/standbylaw51.RoleChecks", spec := "roleChecks", unfollowed := true, recurses := true, apart := false, narrowed := true }
def RoleChecksUptoSaid : Prop := roleChecksUptoRow.holds Try.pinned (OpenSpec.upto roleChecksSpec)

/-- 'standbylaw51.RoleSplits', WHERE WHAT IT READS IS OF BULK AT MOST 1048576: true; the input reads as it did. -/
def roleSplitsUptoRow : OpenClaim := { program := "ytjiennnkbompkaa", sum := "c15c11127e5a2fe97b9b7700954436366443fa4e235029a728f8d6775a7e002b", func := "standby/standbylaw51.RoleSplits", spec := "roleSplits", unfollowed := true, recurses := true, apart := false, narrowed := true }
def RoleSplitsUptoSaid : Prop := roleSplitsUptoRow.holds Try.pinned (OpenSpec.upto roleSplitsSpec)

end Rows
end Go.Proofs.Ytjiennnkbompkaa
