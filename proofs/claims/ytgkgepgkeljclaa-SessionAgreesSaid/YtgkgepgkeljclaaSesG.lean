/-
  The session: a step of two ends, as a tree.
-/
import Derived.Test.YtgkgepgkeljclaaSesF
namespace Go.Proofs.Ytgkgepgkeljclaa
open Go Go.Sx Classical

set_option maxRecDepth 100000

noncomputable abbrev HC : Hd := ⟨concK :: H10.pc, H10.hc, []⟩
theorem hc : HdOk Try.prog HC := h10.tcCons concK_ok

def Ses.cells (s : Ses) : List CV := [I s.a, I s.b, I s.c, I s.d, I s.e, I s.f]

/-- all messages that were sent -/
structure Sent where
  n : Nat
  ρ : Val

/-- what is sent besides: none, or so many (0 or 1) -/
abbrev Out := Option (Nat × Val)

def Sent.add (t : Sent) : Out → Sent
  | none => t
  | some (c, m) => ⟨t.n + c, Val.cat t.n t.ρ m⟩

/-- the message that is received -/
def pos (t : Sent) (w : Int) : Int := (IntKind.i64.wrap w).tmod (toInt64 t.n)

def recvE (s : Ses) (x : Ms) : Ses := recvS s x.k x.a x.b x.d x.c
def rcE (s : Ses) (x : Ms) : R := rcS s x.k x.a x.b x.d x.c

def outDial (s : Ses) (n m : Int) : Nat × Val := (bif dlO s.a s.b s.c s.d s.e s.f n m then 1 else 0, msgV 5 s.a s.b s.c (IntKind.i64.wrap (s.d + 1)))
def outExp (s : Ses) (n m : Int) : Nat × Val := (bif xpN s.a s.b s.c s.d s.e s.f n then 0 else bif dln n m then 1 else 0, msgV 5 s.a s.b s.c s.d)
def outClose (s : Ses) : Nat × Val := (bif clN s.a s.b s.c s.d s.e s.f then 0 else 1, msgV 7 s.a s.b s.c s.d)
def outRecv (s : Ses) (x : Ms) : Nat × Val := ((rcE s x).n, msgV (rcE s x).k s.a s.b (rcE s x).mc (rcE s x).md)

/-- what an end does: kt: which step; w: which message; now -/
def actT (s : Ses) (kt w now : Int) (t : Sent) : Tree (Ses × Out) :=
  .br (kt == 0) (.br (dlE s.a s.b s.c s.d s.e s.f now 3 == 0) (.leaf (dialS s now 3, some (outDial s now 3))) (.leaf (s, none)))
    (.br (kt == 5) (.leaf (expS s now 3, some (outExp s now 3)))
      (.br (kt == 6) (.leaf (closeS s, some (outClose s)))
        (.br (lt 0 (toInt64 t.n)) (.need (!(toInt64 t.n == 0)) (.need (inRange (pos t w) t.n) (.leaf (recvE s (elt t.ρ (pos t w).toNat), some (outRecv s (elt t.ρ (pos t w).toNat))))))
          (.leaf (s, none)))))

/-- the messages are kept -/
def keepT (t : Sent) : Out → Tree Sent
  | none => .leaf t
  | some (c, m) => .need (Nat.ble ((t.n + c) * 96) 140737488355328) (.leaf (t.add (some (c, m))))

/-- a step -/
structure Stp where
  kind : Int
  other : Bool
  which : Int

def stp (σ : Val) (i : Nat) : Stp := ⟨((σ.at i).at 0).N [], ((σ.at i).at 1).B [], ((σ.at i).at 2).N []⟩

def stepT (x : Stp) (now : Int) (s0 s1 : Ses) (t : Sent) : Tree (Ses × Ses × Sent) :=
  .br x.other
    (.need true ((actT s1 (x.kind.tmod 7) x.which now t).bind fun y => (keepT t y.2).bind fun u => .leaf (s0, y.1, u)))
    (.need true ((actT s0 (x.kind.tmod 7) x.which now t).bind fun y => (keepT t y.2).bind fun u => .leaf (y.1, s1, u)))

/-- a test: does it go, for one end? (o: the number with which it was opened last) -/
def testT {α : Type} (s t : Ses) (o : Int) (bad : Tree α) (go : Int → Tree α) : Tree α :=
  .br ((lt t.d s.d || lt t.c s.c) || chk t.a t.b t.c t.d t.e t.f != 0) bad
    (.br (t.e == 2 && (s.e != 2 || t.d != s.d)) (.br (le t.d o) bad (go t.d)) (go o))

end Go.Proofs.Ytgkgepgkeljclaa
