/-
  The roles of sites: the ancestor of two lineages.
-/
import Derived.Test.YtjiennnkbompkaaRolB
namespace Go.Proofs.Ytjiennnkbompkaa
open Go Go.Sx Classical

set_option maxRecDepth 100000

structure C65 where
  a : Ln
  b : Ln
structure V65 where
  c : Int
  e : Int
  i : Int

def S65 (c : C65) (v : V65) : St := mkS 68 [(0, .one (.c (.sl spSh c.a.n c.a.ρ))), (1, .one (.c (.sl spSh c.b.n c.b.ρ))), (6, .one (.c (I v.c))), (7, .one (.c (I v.e))), (8, .one (.c (I v.i)))] []

def TX65 (c : C65) (v : V65) : Tree (XE × V65) :=
  let g := lt v.i (imin (toInt64 c.a.n) (toInt64 c.b.n))
  .need (!((g == true) && true) || inRange v.i c.a.n) (.need (!((g == true) && true) || inRange v.i c.b.n)
    (.br (g && (spn c.a.ρ v.i.toNat).e == (spn c.b.ρ v.i.toNat).e)
      (.need (inRange v.i c.a.n) (.need (inRange v.i c.b.n) (.need (inRange v.i c.a.n) (.need (inRange v.i c.a.n) (.need (inRange v.i c.b.n)
        (.br ((spn c.a.ρ v.i.toNat).t != (spn c.b.ρ v.i.toNat).t) (.leaf (.exit 0, ⟨imin (spn c.a.ρ v.i.toNat).t (spn c.b.ρ v.i.toNat).t, (spn c.a.ρ v.i.toNat).e, v.i⟩))
          (.leaf (.normal, ⟨imin (spn c.a.ρ v.i.toNat).t (spn c.b.ρ v.i.toNat).t, (spn c.a.ρ v.i.toNat).e, IntKind.i64.wrap (v.i + 1)⟩))))))))
      (.leaf (.exit 0, v))))

theorem t65 (c : C65) (v : V65) : ((evCode Try.prog H2 (evFn Try.prog H2 10) 65 0 1 (loopBody Try.prog 65 0) (S65 c v)).bind fun y => gcT [0, 1, 6, 7, 8] 0 y) = (TX65 c v).bind fun y => .leaf (y.1, S65 c y.2) := by kernel_rfl

/-- how many spans are compared at most -/
def len65 (c : C65) : Nat := min c.a.n c.b.n
def bad65 (c : C65) (i : Nat) : Bool := !((spn c.a.ρ i).e == (spn c.b.ρ i).e) || (spn c.a.ρ i).t != (spn c.b.ρ i).t
def st65 (c : C65) : Nat → V65
  | 0 => ⟨0, 0, 0⟩
  | i + 1 => ⟨imin (spn c.a.ρ i).t (spn c.b.ρ i).t, (spn c.a.ρ i).e, (i + 1 : Nat)⟩
def sb65 (c : C65) (i : Nat) : V65 := bif (spn c.a.ρ i).e == (spn c.b.ρ i).e then ⟨imin (spn c.a.ρ i).t (spn c.b.ρ i).t, (spn c.a.ρ i).e, i⟩ else st65 c i

theorem st65_i (c : C65) (i : Nat) : (st65 c i).i = i := by cases i <;> rfl

def μ65 (c : C65) (v : V65) : Nat := (len65 c - v.i).toNat

theorem imin_nat (a b : Nat) : imin (toInt64 a) (toInt64 b) = ((min a b : Nat) : Int) := by
  unfold imin
  cases h : lt (toInt64 b) (toInt64 a)
  · have : ¬ (b : Int) < (a : Int) := fun hh => by
      have : lt (toInt64 b) (toInt64 a) = true := (lt_iff _ _).2 hh
      rw [h] at this; cases this
    show (a : Int) = _
    omega
  · have : (b : Int) < (a : Int) := (lt_iff _ _).1 h
    show (b : Int) = _
    omega

theorem sq65 (c : C65) (ha : fewN c.a.n) : Sq (TX65 c) (μ65 c) (st65 c) (sb65 c) (len65 c) (bad65 c) (.exit 0) (.exit 0) where
  out := by simp
  hit := by simp
  meas i hi := by unfold μ65; rw [st65_i]; omega
  round i hi := by
    unfold fewN at ha
    unfold len65 at hi
    have hg : lt ((st65 c i).i) (imin (toInt64 c.a.n) (toInt64 c.b.n)) = true := by
      rw [st65_i, imin_nat, lt_iff]; omega
    have ra : inRange (st65 c i).i c.a.n = true := by rw [st65_i]; exact inR (by omega)
    have rb : inRange (st65 c i).i c.b.n = true := by rw [st65_i]; exact inR (by omega)
    have hw : IntKind.i64.wrap ((i : Int) + 1) = ((i + 1 : Nat) : Int) := by rw [w64_id (by omega) (by omega)]; omega
    have hin : ((st65 c i).i).toNat = i := by rw [st65_i]; omega
    unfold TX65
    simp only [hg, ra, rb, Tree.All, Bool.or_true, Bool.true_and, true_and, hin]
    unfold bad65 sb65
    cases he : ((spn c.a.ρ i).e == (spn c.b.ρ i).e)
    · simp
    · cases ht : ((spn c.a.ρ i).t != (spn c.b.ρ i).t)
      · simp only [Bool.not_true, Bool.or_self, Bool.false_eq_true, if_false, false_implies, true_and, and_true, forall_const, reduceCtorEq]
        rw [st65_i, hw]
        rfl
      · simp only [Bool.not_true, Bool.false_or, if_true, false_implies, and_true, forall_const, reduceCtorEq, cond_true]
        rw [st65_i]
  stop := by
    have hg : lt ((st65 c (len65 c)).i) (imin (toInt64 c.a.n) (toInt64 c.b.n)) = false := by
      rw [st65_i, imin_nat, ← Bool.not_eq_true, lt_iff]; unfold len65; omega
    unfold TX65
    simp [hg, Tree.All]

noncomputable def inv65 (c : C65) (v : V65) : Bool := dec (fewN c.a.n ∧ ∃ i, i ≤ len65 c ∧ v = st65 c i)
def run65 (c : C65) (v : V65) : XE × V65 := fin (TX65 c) (μ65 c) v
def get65 : List (Nat × AV) → Mem → Option (C65 × V65)
  | [(0, .one (.c (.sl [.int .i64, .int .i64, .int .i64] n ρ))), (1, .one (.c (.sl [.int .i64, .int .i64, .int .i64] m σ))), (6, .one (.c (.int .i64 c))), (7, .one (.c (.int .i64 e))), (8, .one (.c (.int .i64 i)))], [] => some (⟨⟨n, ρ⟩, ⟨m, σ⟩⟩, ⟨c, e, i⟩)
  | _, _ => none
noncomputable def L65 : Nat → St → Tree (XE × St) := loopH [0, 1, 6, 7, 8] 0 68 get65 inv65 S65 run65 [.exit 0]

theorem l65 (fn : Func) (c b : Code) (hf : Try.prog.funcs[65]? = some fn) (hc : fn.body = some c) (hb : nthLoop c 0 = some b) : LoopOk Try.prog b L65 :=
  loopOk_of h2 10 65 0 hf hc hb [0, 1, 6, 7, 8] 0 68 S65 TX65 t65 get65 inv65 μ65 [.exit 0]
    (fun l m c v h => by unfold get65 at h; split at h <;> simp at h; obtain ⟨rfl, rfl⟩ := h; rfl)
    (rounds_of fun c v hv => by
      have h := (dec_iff.1 hv).1
      exact (sq65 c h).rounds fun x => by unfold inv65; rw [dec_iff]; exact ⟨fun h => h.2, fun k => ⟨h, k⟩⟩)

noncomputable abbrev H65 : Hd := ⟨H2.pc, [], [((65, 0), L65)], H2.mc⟩
theorem h65 : HdOk Try.prog H65 := HdOk.lhCons h2 l65

/-- where two lineages part -/
def anc (a b : Ln) : V65 := bif !(corr a) || !(corr b) then ⟨0, 0, 0⟩ else bif anyB (bad65 ⟨a, b⟩) (len65 ⟨a, b⟩) then sb65 ⟨a, b⟩ (firstB (bad65 ⟨a, b⟩) (len65 ⟨a, b⟩)) else st65 ⟨a, b⟩ (len65 ⟨a, b⟩)

noncomputable def G65 : List A1 → Option (Bool × AV)
  | [.c (.sl [.int .i64, .int .i64, .int .i64] n ρ), .c (.sl [.int .i64, .int .i64, .int .i64] m σ)] => some (dec (fewN n ∧ fewN m), .tup [.c (I (anc ⟨n, ρ⟩ ⟨m, σ⟩).c), .c (I (anc ⟨n, ρ⟩ ⟨m, σ⟩).e)])
  | _ => none

theorem all65 (a b : Ln) (ha : fewN a.n) (hb : fewN b.n) : (Tree.need (dec (fewN a.n)) (.need (!(((!(corr a)) == false) && true) || dec (fewN b.n)) (.br (!(corr a) || !(corr b)) (.leaf (AV.tup [.c (I 0), .c (I 0)]))
    (.need (inv65 ⟨a, b⟩ ⟨0, 0, 0⟩) (.need (eqXE (run65 ⟨a, b⟩ ⟨0, 0, 0⟩).1 (.exit 0)) (.leaf (AV.tup [.c (I (run65 ⟨a, b⟩ ⟨0, 0, 0⟩).2.c), .c (I (run65 ⟨a, b⟩ ⟨0, 0, 0⟩).2.e)]))))))).All
      (fun z => z = .tup [.c (I (anc a b).c), .c (I (anc a b).e)]) := by
  have h := sq65 ⟨a, b⟩ ha
  have hi : inv65 ⟨a, b⟩ ⟨0, 0, 0⟩ = true := dec_iff.2 ⟨ha, 0, Nat.zero_le _, rfl⟩
  have hf : run65 ⟨a, b⟩ ⟨0, 0, 0⟩ = _ := h.fin0
  refine ⟨dec_iff.2 ha, by rw [dec_iff.2 hb, Bool.or_true], fun hc => ?_, fun hc => ⟨hi, ?_⟩⟩
  · unfold anc; rw [hc]; rfl
  · rw [hf]
    unfold anc
    rw [hc]
    cases anyB (bad65 ⟨a, b⟩) (len65 ⟨a, b⟩) <;> exact ⟨rfl, rfl⟩

theorem p65 : TcOne Try.prog 65 (nG G65) := tcOne_of_tree h65 10 65 fun args r h => by
  unfold G65 at h; split at h
  · rename_i n ρ m σ
    obtain ⟨hp, rfl⟩ := Prod.mk.inj (Option.some.inj h)
    have hp := dec_iff.1 hp
    refine ⟨rfl, _, ?_, all65 ⟨n, ρ⟩ ⟨m, σ⟩ hp.1 hp.2⟩
    kernel_rfl
  · cases h

noncomputable abbrev H3 : Hd := ⟨(65, nG G65) :: H2.pc, [], [], H2.mc⟩
theorem h3 : HdOk Try.prog H3 := h2.tcCons p65

end Go.Proofs.Ytjiennnkbompkaa
