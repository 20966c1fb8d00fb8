/-
  The session: delivering messages; the steps, with bounds of the numbers.
-/
import Derived.Test.YtgkgepgkeljclaaSesM
namespace Go.Proofs.Ytgkgepgkeljclaa
open Go Go.Sx Classical

set_option maxRecDepth 100000
set_option maxHeartbeats 4000000

structure V28 where
  s : Ses
  t : Sent
  i : Int

def S28 (c : Ml) (v : V28) : St := mkS 31 [(1, .one (.c (.sl msgSh c.n c.ρ))), (2, .one (.c (.ptr 0 0))), (4, .one (.c (.ptr 1 0))), (6, .one (.c (.os 2 8))), (7, .one (.c (I v.i)))]
  [some (23, v.s.cells), some (23, [I 0, I 0, I 0, I 0, I 0, I 0]), some (27, [.row false msgSh v.t.n v.t.ρ])]

def TX28 (c : Ml) (v : V28) : Tree (XE × V28) :=
  .br (lt v.i (toInt64 c.n)) (.need (inRange v.i c.n) (.need (Nat.ble ((v.t.n + (outRecv v.s (elt c.ρ v.i.toNat)).1) * 96) 140737488355328)
    (.leaf (.normal, ⟨recvE v.s (elt c.ρ v.i.toNat), v.t.add (some (outRecv v.s (elt c.ρ v.i.toNat))), IntKind.i64.wrap (v.i + 1)⟩))))
    (.leaf (.exit 0, v))

theorem t28 (c : Ml) (v : V28) : ((evCode Try.prog HC (evFn Try.prog HC 10) 28 0 1 (loopBody Try.prog 28 0) (S28 c v)).bind fun y => gcT [1, 2, 4, 6, 7] 0 y) = (TX28 c v).bind fun y => .leaf (y.1, S28 c y.2) := by
  kernel_rfl

structure Inv28 (c : Ml) (v : V28) : Prop where
  n : c.n ≤ 1000
  i : 0 ≤ v.i ∧ v.i ≤ c.n
  t : v.t.n ≤ v.i

noncomputable def inv28 (c : Ml) (v : V28) : Bool := dec (Inv28 c v)
def μ28 (c : Ml) (v : V28) : Nat := (c.n - v.i).toNat

theorem rounds28 (c : Ml) : Rounds (TX28 c) (fun v => inv28 c v = true) (μ28 c) (fun y => y.1 = .exit 0) := by
  intro v h
  have h := dec_iff.1 h
  have hn := h.n
  have hi := h.i
  have ht := h.t
  refine ⟨fun hlt => ?_, fun _ => rfl⟩
  have hlt' : v.i < (c.n : Int) := (lt_iff _ _).1 hlt
  have ho : (outRecv v.s (elt c.ρ v.i.toNat)).1 ≤ 1 := recv_n _ _ _ _ _ _ _ _ _ _
  have hw1 : IntKind.i64.wrap (v.i + 1) = v.i + 1 := w64_id (by omega) (by omega)
  refine ⟨inRange_iff.2 ⟨hi.1, hlt'⟩, by rw [Nat.ble_eq]; omega, dec_iff.2 ⟨hn, ?_, ?_⟩, ?_⟩
  · simp only [hw1]; omega
  · simp only [hw1, Sent.add]; omega
  · unfold μ28; simp only [hw1]; omega

def run28 (c : Ml) (v : V28) : XE × V28 := fin (TX28 c) (μ28 c) v
def get28 : List (Nat × AV) → Mem → Option (Ml × V28)
  | [(1, .one (.c (.sl [.int .i64, .int .i64, .int .i64, .int .i64, .int .i64, .int .i64, .sl [.int .i64], .sl [.int .u8]] n ρ))), (2, .one (.c (.ptr 0 0))), (4, .one (.c (.ptr 1 0))), (6, .one (.c (.os 2 8))), (7, .one (.c (.int .i64 i)))],
    [some (23, [.int .i64 a0, .int .i64 b0, .int .i64 c0, .int .i64 d0, .int .i64 e0, .int .i64 f0]), some (23, [.int .i64 0, .int .i64 0, .int .i64 0, .int .i64 0, .int .i64 0, .int .i64 0]),
      some (27, [.row false [.int .i64, .int .i64, .int .i64, .int .i64, .int .i64, .int .i64, .sl [.int .i64], .sl [.int .u8]] m σ])] =>
    some (⟨n, ρ⟩, ⟨⟨a0, b0, c0, d0, e0, f0⟩, ⟨m, σ⟩, i⟩)
  | _, _ => none

noncomputable def L28 : Nat → St → Tree (XE × St) := ownH [.own 6 27 msgSh] (loopH [1, 2, 4, 6, 7] 0 31 get28 inv28 S28 run28 [.exit 0])

theorem l28 (fn : Func) (c b : Code) (hf : Try.prog.funcs[28]? = some fn) (hc' : fn.body = some c) (hb : nthLoop c 0 = some b) : LoopOk Try.prog b L28 :=
  ownH_ok _ (loopOk_of hc 10 28 0 hf hc' hb [1, 2, 4, 6, 7] 0 31 S28 TX28 t28 get28 inv28 μ28 [.exit 0]
    (fun l m c v h => by unfold get28 at h; split at h <;> simp at h; obtain ⟨rfl, rfl⟩ := h; rfl) rounds28)

noncomputable abbrev H28 : Hd := ⟨HC.pc, HC.hc, [((28, 0), L28)]⟩
theorem h28 : HdOk Try.prog H28 := HdOk.lhCons hc l28

/-- messages, delivered to an end -/
def dlv (s : Ses) (m : Ml) : V28 := (run28 m ⟨s, ⟨0, Val.zero⟩, 0⟩).2

noncomputable def G28 : List A1 → Option (Bool × AV)
  | [.agg [.int .i64 a, .int .i64 b, .int .i64 c, .int .i64 d, .int .i64 e, .int .i64 f], .c (.sl [.int .i64, .int .i64, .int .i64, .int .i64, .int .i64, .int .i64, .sl [.int .i64], .sl [.int .u8]] n ρ)] =>
    some (dec (n ≤ 1000), .tup [.agg (dlv ⟨a, b, c, d, e, f⟩ ⟨n, ρ⟩).s.cells, .c (.sl msgSh (dlv ⟨a, b, c, d, e, f⟩ ⟨n, ρ⟩).t.n (dlv ⟨a, b, c, d, e, f⟩ ⟨n, ρ⟩).t.ρ)])
  | _ => none

theorem all28 (s : Ses) (m : Ml) (hm : m.n ≤ 1000) : (Tree.need (inv28 m ⟨s, ⟨0, Val.zero⟩, 0⟩) (.need (eqXE (run28 m ⟨s, ⟨0, Val.zero⟩, 0⟩).1 (.exit 0)) (.leaf (AV.tup [.agg (dlv s m).s.cells, .c (.sl msgSh (dlv s m).t.n (dlv s m).t.ρ)])))).All
    (fun z => leA z (.tup [.agg (dlv s m).s.cells, .c (.sl msgSh (dlv s m).t.n (dlv s m).t.ρ)])) := by
  have h0 : inv28 m ⟨s, ⟨0, Val.zero⟩, 0⟩ = true := dec_iff.2 ⟨hm, by simp only; omega, by simp⟩
  exact ⟨h0, eqXE_iff.2 (fin_of (rounds28 m) h0), leA.refl⟩

theorem q28 : UcOne Try.prog 28 (nG G28) := ucOne_of_tree h28 10 28 fun args r h => by
  unfold G28 at h; split at h
  · rename_i a b c d e f n ρ
    obtain ⟨hp, rfl⟩ := Prod.mk.inj (Option.some.inj h)
    refine ⟨_, ?_, all28 ⟨a, b, c, d, e, f⟩ ⟨n, ρ⟩ (dec_iff.1 hp)⟩
    kernel_rfl
  · cases h

noncomputable abbrev HD : Hd := ⟨HC.pc, (28, nG G28) :: HC.hc, []⟩
theorem hd : HdOk Try.prog HD := hc.ucCons q28

/-- no message, one message -/
theorem dlv_nil (s : Ses) (ρ : Val) : dlv s ⟨0, ρ⟩ = ⟨s, ⟨0, Val.zero⟩, 0⟩ := rfl

theorem dlv_one (s : Ses) (ρ : Val) : dlv s ⟨1, ρ⟩ = ⟨recvE s (elt ρ 0), Sent.add ⟨0, Val.zero⟩ (some (outRecv s (elt ρ 0))), 1⟩ := by
  have ho : (outRecv s (elt ρ 0)).1 ≤ 1 := recv_n _ _ _ _ _ _ _ _ _ _
  have h1 : (TX28 ⟨1, ρ⟩ ⟨s, ⟨0, Val.zero⟩, 0⟩).sel = some (.normal, ⟨recvE s (elt ρ 0), Sent.add ⟨0, Val.zero⟩ (some (outRecv s (elt ρ 0))), 1⟩) := by
    have e1 : lt 0 (toInt64 1) = true := rfl
    have e2 : inRange 0 1 = true := rfl
    have e3 : Nat.ble ((0 + (outRecv s (elt ρ 0)).1) * 96) 140737488355328 = true := by rw [Nat.ble_eq]; omega
    show (Tree.br (lt 0 (toInt64 1)) (.need (inRange 0 1) (.need (Nat.ble ((0 + (outRecv s (elt ρ 0)).1) * 96) 140737488355328) (.leaf _))) _).sel = _
    simp only [Tree.sel, e1, e2, e3, cond_true]
    rfl
  unfold dlv run28 fin
  have hμ : μ28 ⟨1, ρ⟩ ⟨s, ⟨0, Val.zero⟩, 0⟩ = 1 := rfl
  rw [hμ]
  simp only [iter, h1]
  rfl

end Go.Proofs.Ytgkgepgkeljclaa
