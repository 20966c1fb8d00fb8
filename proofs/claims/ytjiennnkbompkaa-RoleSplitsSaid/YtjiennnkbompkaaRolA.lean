/-
  The roles of sites: small functions; lineages.
-/
import Derived.Test.YtjiennnkbompkaaRows
import Derived.Test.YtjiennnkbompkaaEngZ
namespace Go.Proofs.Ytjiennnkbompkaa
open Go Go.Sx Classical

set_option maxRecDepth 100000

abbrev I (n : Int) : CV := .int .i64 n
abbrev spSh : List Sh := [.int .i64, .int .i64, .int .i64]

theorem n63 : NcOne Try.prog 63 (cloneG 61 spSh 3 24) := clone_nc Try.func63 rfl rfl rfl rfl rfl rfl rfl rfl (by kernel_rfl) rfl (fun n ρ => by kernel_rfl)
  (fun n ρ => stC spSh n ρ true) (fun n ρ => mkS 8 [(0, .one (.c (.sl spSh n ρ))), (2, .one (.c (.os 1 3))), (3, .one (.c (.sl spSh n ρ))), (4, .one (.c (.bool false))), (5, .one (.c (.os 0 3))), (6, .one (.c (.sl spSh n ρ))), (7, .one (.c (.os 1 3)))] [none, some (61, [.row false spSh (0 + n) (Val.cat 0 (Val.ofFlat 3 []) ρ)])])
  (fun n ρ => by kernel_rfl) (fun n ρ => by kernel_rfl) (fun n ρ => rfl) (fun n ρ => by kernel_rfl) (fun n ρ => by kernel_rfl) (fun n ρ => rfl)

end Go.Proofs.Ytjiennnkbompkaa
