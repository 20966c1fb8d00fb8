/-
  The estimator: the reference's Timeout, which counts in a loop; the chapter's examples.
-/
import Derived.Test.YtcplkefmilpmpaaEstB
namespace Go.Proofs.Ytcplkefmilpmpaa
open Go Go.Sx

structure X18 where
  a : Int
  b : Int
  c : Int
  d : Int
  bs : Int
  out : Int
  i : Int

def S18 (x : X18) : St := mkS 36 [(1, .one (.c (.ptr 0 0))), (3, .one (.c (I x.bs))), (4, .one (.c (I x.out))), (5, .one (.c (I x.i)))] [some (23, [I x.a, I x.b, I x.c, I x.d])]
def T18 (x : X18) : Tree (XE × St) :=
  .br (lt x.i x.d) (.leaf (.normal, S18 { x with out := IntKind.i64.wrap (2 * x.out), i := IntKind.i64.wrap (x.i + 1) })) (.leaf (.exit 0, S18 x))
def get18 : List (Nat × AV) → Mem → Option X18
  | [(1, .one (.c (.ptr 0 0))), (3, .one (.c (.int .i64 bs))), (4, .one (.c (.int .i64 out))), (5, .one (.c (.int .i64 i)))], [some (23, [.int .i64 a, .int .i64 b, .int .i64 c, .int .i64 d])] => some ⟨a, b, c, d, bs, out, i⟩
  | _, _ => none
def inv18 (x : X18) : Bool := decide (0 ≤ x.i ∧ x.i ≤ x.d ∧ x.d ≤ 12 ∧ 0 ≤ x.bs ∧ x.bs ≤ 9663676416 ∧ x.out = x.bs * 2 ^ x.i.toNat)
def fin18 (x : X18) : XE × St := (.exit 0, S18 { x with out := x.bs * 2 ^ x.d.toNat, i := x.d })

theorem pow_bd {d : Int} (h : d ≤ 12) : (2 : Int) ^ d.toNat ≤ 4096 ∧ (1 : Int) ≤ 2 ^ d.toNat := by
  have h1 : (2 : Nat) ^ d.toNat ≤ 2 ^ 12 := Nat.pow_le_pow_right (by omega) (by omega)
  have h0 : 1 ≤ (2 : Nat) ^ d.toNat := Nat.one_le_two_pow
  have h2 : (2 : Int) ^ d.toNat = ((2 ^ d.toNat : Nat) : Int) := by simp
  omega

theorem mul_bd {x d : Int} (h0 : 0 ≤ x) (h1 : x ≤ 9663676416) (h : d ≤ 12) : 0 ≤ x * 2 ^ d.toNat ∧ x * 2 ^ d.toNat ≤ 39582418599936 := by
  have hp := pow_bd h
  have hle : x * 2 ^ d.toNat ≤ 9663676416 * 4096 := Int.mul_le_mul h1 hp.1 (by omega) (by omega)
  have hge : 0 ≤ x * 2 ^ d.toNat := Int.mul_nonneg h0 (by omega)
  omega

theorem step18 (x : X18) (h : inv18 x = true) : (T18 x).All fun y => (y.1 = .normal ∧ ∃ x', y.2 = S18 x' ∧ inv18 x' = true ∧ (x'.d - x'.i).toNat < (x.d - x.i).toNat ∧ fin18 x' = fin18 x) ∨ (y.1 ≠ .normal ∧ fin18 x = y) := by
  obtain ⟨a, b, c, d, bs, out, i⟩ := x
  have h' := of_decide_eq_true h
  simp only at h'
  obtain ⟨h1, h2, h3, h4, h5, h6⟩ := h'
  subst h6
  have hm := mul_bd h4 h5 (d := i) (by omega)
  refine ⟨fun hlt => .inl ⟨rfl, ⟨a, b, c, d, bs, bs * 2 ^ (i + 1).toNat, i + 1⟩, ?_, ?_, ?_, rfl⟩, fun hlt => .inr ⟨by simp, ?_⟩⟩
  · have hi := (lt_iff i d).1 hlt
    have e1 : IntKind.i64.wrap (2 * (bs * 2 ^ i.toNat)) = bs * 2 ^ (i + 1).toNat := by
      rw [w64_id (by omega) (by omega), show (i + 1).toNat = i.toNat + 1 by omega, Int.pow_succ, Int.mul_left_comm, Int.mul_comm 2]
    have e2 : IntKind.i64.wrap (i + 1) = i + 1 := w64_id (by omega) (by omega)
    show S18 _ = S18 _
    rw [e1, e2]
  · have hi := (lt_iff i d).1 hlt
    exact decide_eq_true ⟨by simp only; omega, by simp only; omega, h3, h4, h5, rfl⟩
  · have hi := (lt_iff i d).1 hlt
    simp only; omega
  · have : i = d := by
      have : ¬ i < d := fun h => by rw [(lt_iff i d).2 h] at hlt; cases hlt
      omega
    subst this
    rfl

set_option maxRecDepth 100000

def L18 : St → Tree (XE × St) := loopH [1, 3, 4, 5] 36 get18 inv18 fin18

theorem l18 (fn : Func) (c b : Code) (hf : Try.prog.funcs[18]? = some fn) (hc : fn.body = some c) (hb : nthLoop c 0 = some b) : LoopOk Try.prog b L18 :=
  loopOk_of h2 10 18 0 hf hc hb [1, 3, 4, 5] 36 S18 T18 (fun x => by kernel_rfl) get18 inv18 (fun x => (x.d - x.i).toNat) fin18
    (fun l m x h => by unfold get18 at h; split at h <;> simp at h; subst h; rfl) step18

abbrev H3 : Hd := ⟨[(13, Gchk), (23, G23), (14, Gchk)], [((18, 0), L18)]⟩
theorem h3 : HdOk Try.prog H3 := h2.lhCons l18

end Go.Proofs.Ytcplkefmilpmpaa
