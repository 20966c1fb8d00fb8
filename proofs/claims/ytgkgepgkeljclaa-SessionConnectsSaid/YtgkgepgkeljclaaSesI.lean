/-
  The session: numbers and epochs never decrease: the steps.
-/
import Derived.Test.YtgkgepgkeljclaaSesH
namespace Go.Proofs.Ytgkgepgkeljclaa
open Go Go.Sx Classical

set_option maxRecDepth 100000
set_option maxHeartbeats 4000000

def TX6 (k : K6) (v : V6) : Tree (XE × V6) :=
  .br (lt v.i (toInt64 k.n))
    (.need (inRange v.i k.n) ((stepT (stp k.σ v.i.toNat) v.i v.s0 v.s1 v.t).bind fun y =>
      .br (bad6 v.s0 y.1 v.o0) (.leaf (.ret, ⟨y.1, y.2.1, y.2.2, v.o0, v.o1, v.i⟩))
        (.br (bad6 v.s1 y.2.1 v.o1) (.leaf (.ret, ⟨y.1, y.2.1, y.2.2, new6 v.s0 y.1 v.o0, v.o1, v.i⟩))
          (.leaf (.normal, ⟨y.1, y.2.1, y.2.2, new6 v.s0 y.1 v.o0, new6 v.s1 y.2.1 v.o1, IntKind.i64.wrap (v.i + 1)⟩)))))
    (.leaf (.exit 0, v))

theorem t6 (k : K6) (v : V6) : ((evCode Try.prog HK (evFn Try.prog HK 10) 6 0 1 (loopBody Try.prog 6 0) (S6 k v)).bind fun y => gcT [1, 4, 5, 7, 8, 9] 0 y) = (TX6 k v).bind fun y => .leaf (y.1, S6 k y.2) := by
  kernel_rfl

end Go.Proofs.Ytgkgepgkeljclaa
