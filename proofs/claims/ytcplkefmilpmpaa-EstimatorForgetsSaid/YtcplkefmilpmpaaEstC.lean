/-
  The estimator: the reference's Timeout, which counts in a loop; the chapter's examples.
-/
import Derived.Test.YtcplkefmilpmpaaEstB
namespace Go.Proofs.Ytcplkefmilpmpaa
open Go Go.Sx

structure C18 where
  a : Int
  b : Int
  c : Int
  d : Int
  bs : Int
structure V18 where
  out : Int
  i : Int

def S18 (c : C18) (v : V18) : St := mkS 36 [(1, .one (.c (.ptr 0 0))), (3, .one (.c (I c.bs))), (4, .one (.c (I v.out))), (5, .one (.c (I v.i)))] [some (23, [I c.a, I c.b, I c.c, I c.d])]
def TX18 (c : C18) (v : V18) : Tree (XE × V18) :=
  .br (lt v.i c.d) (.leaf (.normal, ⟨IntKind.i64.wrap (2 * v.out), IntKind.i64.wrap (v.i + 1)⟩)) (.leaf (.exit 0, v))
def get18 : List (Nat × AV) → Mem → Option (C18 × V18)
  | [(1, .one (.c (.ptr 0 0))), (3, .one (.c (.int .i64 bs))), (4, .one (.c (.int .i64 out))), (5, .one (.c (.int .i64 i)))], [some (23, [.int .i64 a, .int .i64 b, .int .i64 c, .int .i64 d])] => some (⟨a, b, c, d, bs⟩, ⟨out, i⟩)
  | _, _ => none
def inv18 (c : C18) (v : V18) : Bool := decide (0 ≤ v.i ∧ v.i ≤ c.d ∧ c.d ≤ 12 ∧ 0 ≤ c.bs ∧ c.bs ≤ 9663676416 ∧ v.out = c.bs * 2 ^ v.i.toNat)
def μ18 (c : C18) (v : V18) : Nat := (c.d - v.i).toNat

theorem pow_bd {d : Int} (h : d ≤ 12) : (2 : Int) ^ d.toNat ≤ 4096 ∧ (1 : Int) ≤ 2 ^ d.toNat := by
  have h1 : (2 : Nat) ^ d.toNat ≤ 2 ^ 12 := Nat.pow_le_pow_right (by omega) (by omega)
  have h0 : 1 ≤ (2 : Nat) ^ d.toNat := Nat.one_le_two_pow
  have h2 : (2 : Int) ^ d.toNat = ((2 ^ d.toNat : Nat) : Int) := by simp
  omega

theorem mul_bd {x d : Int} (h0 : 0 ≤ x) (h1 : x ≤ 9663676416) (h : d ≤ 12) : 0 ≤ x * 2 ^ d.toNat ∧ x * 2 ^ d.toNat ≤ 39582418599936 := by
  have hp := pow_bd h
  have hle : x * 2 ^ d.toNat ≤ 9663676416 * 4096 := Int.mul_le_mul h1 hp.1 (by omega) (by omega)
  have hge : 0 ≤ x * 2 ^ d.toNat := Int.mul_nonneg h0 (by omega)
  omega

theorem step18 (c : C18) : Rounds (TX18 c) (fun v => inv18 c v = true) (μ18 c) (fun y => y.1 = .exit 0 ∧ y.2.out = c.bs * 2 ^ c.d.toNat) := by
  intro v h
  obtain ⟨out, i⟩ := v
  have h' := of_decide_eq_true h
  simp only at h'
  obtain ⟨h1, h2, h3, h4, h5, h6⟩ := h'
  subst h6
  have hm := mul_bd h4 h5 (d := i) (by omega)
  refine ⟨fun hlt => ?_, fun hlt => ⟨rfl, ?_⟩⟩
  · have hi := (lt_iff i c.d).1 hlt
    have e1 : IntKind.i64.wrap (2 * (c.bs * 2 ^ i.toNat)) = c.bs * 2 ^ (i + 1).toNat := by
      rw [w64_id (by omega) (by omega), show (i + 1).toNat = i.toNat + 1 by omega, Int.pow_succ, Int.mul_left_comm, Int.mul_comm 2]
    have e2 : IntKind.i64.wrap (i + 1) = i + 1 := w64_id (by omega) (by omega)
    simp only [e1, e2]
    exact ⟨decide_eq_true ⟨by simp only; omega, by simp only; omega, h3, h4, h5, rfl⟩, by unfold μ18; simp only; omega⟩
  · have : i = c.d := by
      have : ¬ i < c.d := fun h => by rw [(lt_iff i c.d).2 h] at hlt; cases hlt
      omega
    subst this
    rfl

set_option maxRecDepth 100000

def run18 (c : C18) (v : V18) : XE × V18 := fin (TX18 c) (μ18 c) v
def L18 : St → Tree (XE × St) := loopH [1, 3, 4, 5] 1 36 get18 inv18 S18 run18 [.exit 0]

theorem l18 (fn : Func) (c b : Code) (hf : Try.prog.funcs[18]? = some fn) (hc : fn.body = some c) (hb : nthLoop c 0 = some b) : LoopOk Try.prog b L18 :=
  loopOk_of h2 10 18 0 hf hc hb [1, 3, 4, 5] 1 36 S18 TX18 (fun c v => by kernel_rfl) get18 inv18 μ18 [.exit 0]
    (fun l m c v h => by unfold get18 at h; split at h <;> simp at h; obtain ⟨rfl, rfl⟩ := h; rfl) step18

abbrev H3 : Hd := ⟨[(13, Gchk), (23, G23), (14, Gchk)], [((18, 0), L18)]⟩
theorem h3 : HdOk Try.prog H3 := h2.lhCons l18

end Go.Proofs.Ytcplkefmilpmpaa
