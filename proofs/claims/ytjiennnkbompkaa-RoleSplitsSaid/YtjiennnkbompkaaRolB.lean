/-
  The roles of sites: lineages, as the program reads them.
-/
import Derived.Test.YtjiennnkbompkaaRolA
import Derived.Test.YtjiennnkbompkaaEngU
import Derived.Test.YtjiennnkbompkaaEngMc
namespace Go.Proofs.Ytjiennnkbompkaa
open Go Go.Sx Classical

set_option maxRecDepth 100000

noncomputable abbrev H0 : Hd := ⟨[concK], [], [], [(63, ncG (cloneG 61 spSh 3 24))]⟩
theorem h0 : HdOk Try.prog H0 := (HdOk.nil.mcCons n63.mc).tcCons concK_ok

theorem w64_id {x : Int} (h1 : -9223372036854775808 ≤ x) (h2 : x < 9223372036854775808) : IntKind.i64.wrap x = x := by
  unfold IntKind.wrap IntKind.bits IntKind.signed
  simp only [Bool.true_and]
  split <;> rename_i h <;> simp at h <;> omega

theorem inR {i n : Nat} (h : i < n) : inRange (i : Int) n = true := inRange_iff.2 ⟨by omega, by omega⟩
theorem ltF {i n : Nat} (h : i < n) : lt (i : Int) (toInt64 n) = true := (lt_iff _ _).2 (show (i : Int) < (n : Int) by omega)
theorem ltS {n : Nat} : lt (n : Int) (toInt64 n) = false := by
  rw [← Bool.not_eq_true, lt_iff]
  show ¬ (n : Int) < (n : Int)
  omega

def tim (a : Int) : Bool := le 0 a && le a 1073741824

/-- n >= low && n <= MaxTime -/
def G67 : List A1 → Option AV
  | [.c (.int .i64 a), .c (.int .i64 b)] => some (.one (.c (.bool (le b a && le a 1073741824))))
  | _ => none
theorem p67 : PcOne Try.prog 67 G67 := pcOne_of_ev h0 10 67 fun args r h => by
  unfold G67 at h; split at h
  · obtain rfl := Option.some.inj h
    exact ⟨rfl, by kernel_rfl, by kernel_rfl⟩
  · cases h

noncomputable abbrev H1 : Hd := ⟨(67, oG G67) :: H0.pc, [], [], H0.mc⟩
theorem h1 : HdOk Try.prog H1 := h0.pcCons p67

/-- a span of a lineage -/
structure Sp where
  e : Int
  f : Int
  t : Int

def spn (ρ : Val) (i : Nat) : Sp := ⟨((ρ.at i).at 0).N [], ((ρ.at i).at 1).N [], ((ρ.at i).at 2).N []⟩
def prv (ρ : Val) : Nat → Sp
  | 0 => ⟨0, 0, 0⟩
  | i + 1 => spn ρ i

/-- a lineage -/
structure Ln where
  n : Nat
  ρ : Val

/-- is a span wrong behind another one? -/
def badS (p x : Sp) : Bool := (((x.f != IntKind.i64.wrap (p.t + 1) || lt x.t x.f) || lt 1073741824 x.t) || !(le 1 x.e && le x.e 1073741824)) || le x.e p.e
def badC (l : Ln) (i : Nat) : Bool := badS (prv l.ρ i) (spn l.ρ i)

/-! ### delta.correct -/

structure C66 where
  l : Ln
  m : Int
structure V66 where
  p : Sp
  i : Int

def S66 (c : C66) (v : V66) : St := mkS 46 [(2, .one (.c (.bool false))), (3, .one (.c (.ptr 0 0))), (7, .one (.c (.sl spSh c.l.n c.l.ρ))), (8, .one (.c (I c.m))), (9, .one (.c (I v.i)))] [some (61, [I v.p.e, I v.p.f, I v.p.t])]
def TX66 (c : C66) (v : V66) : Tree (XE × V66) :=
  .br (lt v.i c.m) (.need (inRange v.i c.l.n) (.br (badS v.p (spn c.l.ρ v.i.toNat)) (.leaf (.ret, v)) (.leaf (.normal, ⟨spn c.l.ρ v.i.toNat, IntKind.i64.wrap (v.i + 1)⟩)))) (.leaf (.exit 0, v))

theorem t66 (c : C66) (v : V66) : ((evCode Try.prog H1 (evFn Try.prog H1 10) 66 0 1 (loopBody Try.prog 66 0) (S66 c v)).bind fun y => gcT [2, 3, 7, 8, 9] 0 y) = (TX66 c v).bind fun y => .leaf (y.1, S66 c y.2) := by kernel_rfl

def st66 (c : C66) (i : Nat) : V66 := ⟨prv c.l.ρ i, i⟩
def μ66 (c : C66) (v : V66) : Nat := (c.l.n - v.i).toNat

/-- few elements: counting them does not overflow -/
def fewN (n : Nat) : Prop := n ≤ 4611686018427387904

theorem sq66 (c : C66) (hm : c.m = c.l.n) (hn : fewN c.l.n) : Sq (TX66 c) (μ66 c) (st66 c) (st66 c) c.l.n (badC c.l) .ret (.exit 0) where
  out := by simp
  hit := by simp
  meas i hi := by unfold μ66 st66; simp only; omega
  round i hi := by
    unfold fewN at hn
    have hl : lt (i : Int) c.m = true := by rw [hm]; exact ltF hi
    have hw : IntKind.i64.wrap ((i : Int) + 1) = ((i + 1 : Nat) : Int) := by rw [w64_id (by omega) (by omega)]; omega
    refine ⟨fun _ => ⟨inR hi, fun hb => ?_, fun hb => ?_⟩, fun h => ?_⟩
    · have : badC c.l i = true := hb
      simp only [Tree.All, this, if_true]

    · have : badC c.l i = false := hb
      simp only [Tree.All, this, Bool.false_eq_true, if_false]
      show (XE.normal, (⟨_, IntKind.i64.wrap ((i : Int) + 1)⟩ : V66)) = _
      rw [hw]; rfl
    · have : lt (i : Int) c.m = false := h
      rw [hl] at this; cases this
  stop := by
    have hl : lt (c.l.n : Int) c.m = false := by rw [hm]; exact ltS
    refine ⟨fun h => ?_, fun _ => rfl⟩
    have : lt (c.l.n : Int) c.m = true := h
    rw [hl] at this; cases this

noncomputable def inv66 (c : C66) (v : V66) : Bool := dec ((c.m = c.l.n ∧ fewN c.l.n) ∧ ∃ i, i ≤ c.l.n ∧ v = st66 c i)
def run66 (c : C66) (v : V66) : XE × V66 := fin (TX66 c) (μ66 c) v
def get66 : List (Nat × AV) → Mem → Option (C66 × V66)
  | [(2, .one (.c (.bool false))), (3, .one (.c (.ptr 0 0))), (7, .one (.c (.sl [.int .i64, .int .i64, .int .i64] n ρ))), (8, .one (.c (.int .i64 m))), (9, .one (.c (.int .i64 i)))], [some (61, [.int .i64 a, .int .i64 b, .int .i64 c])] => some (⟨⟨n, ρ⟩, m⟩, ⟨⟨a, b, c⟩, i⟩)
  | _, _ => none
noncomputable def L66 : Nat → St → Tree (XE × St) := loopH [2, 3, 7, 8, 9] 0 46 get66 inv66 S66 run66 [.ret, .exit 0]

theorem rounds_of {C V : Type} {TX : C → V → Tree (XE × V)} {μ : C → V → Nat} {inv : C → V → Bool} {Q : C → XE × V → Prop} (h : ∀ c v, inv c v = true → Rounds (TX c) (fun v => inv c v = true) (μ c) (Q c)) (c : C) : Rounds (TX c) (fun v => inv c v = true) (μ c) (Q c) :=
  fun v hv => h c v hv v hv

theorem l66 (fn : Func) (c b : Code) (hf : Try.prog.funcs[66]? = some fn) (hc : fn.body = some c) (hb : nthLoop c 0 = some b) : LoopOk Try.prog b L66 :=
  loopOk_of h1 10 66 0 hf hc hb [2, 3, 7, 8, 9] 0 46 S66 TX66 t66 get66 inv66 μ66 [.ret, .exit 0]
    (fun l m c v h => by unfold get66 at h; split at h <;> simp at h; obtain ⟨rfl, rfl⟩ := h; rfl)
    (rounds_of fun c v hv => by
      have h := (dec_iff.1 hv).1
      exact (sq66 c h.1 h.2).rounds fun x => by unfold inv66; rw [dec_iff]; exact ⟨fun h => h.2, fun k => ⟨h, k⟩⟩)

noncomputable abbrev H66 : Hd := ⟨H1.pc, [], [((66, 0), L66)], H1.mc⟩
theorem h66 : HdOk Try.prog H66 := HdOk.lhCons h1 l66

/-- is a lineage correct? -/
def corr (l : Ln) : Bool := !(anyB (badC l) l.n)

noncomputable def G66 : List A1 → Option (Bool × AV)
  | [.c (.sl [.int .i64, .int .i64, .int .i64] n ρ)] => some (dec (fewN n), .one (.c (.bool (corr ⟨n, ρ⟩))))
  | _ => none

theorem all66 (l : Ln) (hn : fewN l.n) : (Tree.need (inv66 ⟨l, toInt64 l.n⟩ ⟨⟨0, 0, 0⟩, 0⟩) (.br (eqXE (run66 ⟨l, toInt64 l.n⟩ ⟨⟨0, 0, 0⟩, 0⟩).1 .ret) (.leaf (AV.one (.c (.bool false))))
    (.need (eqXE (run66 ⟨l, toInt64 l.n⟩ ⟨⟨0, 0, 0⟩, 0⟩).1 (.exit 0)) (.leaf (AV.one (.c (.bool true))))))).All (fun z => z = .one (.c (.bool (corr l)))) := by
  have h := sq66 ⟨l, toInt64 l.n⟩ rfl hn
  have hi : inv66 ⟨l, toInt64 l.n⟩ ⟨⟨0, 0, 0⟩, 0⟩ = true := dec_iff.2 ⟨⟨rfl, hn⟩, 0, Nat.zero_le _, rfl⟩
  have hf : run66 ⟨l, toInt64 l.n⟩ ⟨⟨0, 0, 0⟩, 0⟩ = _ := h.fin0
  refine ⟨hi, ?_⟩
  rw [hf]
  unfold corr
  cases anyB (badC l) l.n
  · exact ⟨fun h => (by cases h), fun _ => ⟨rfl, rfl⟩⟩
  · exact ⟨fun _ => rfl, fun h => (by cases h)⟩

theorem p66 : TcOne Try.prog 66 (nG G66) := tcOne_of_tree h66 10 66 fun args r h => by
  unfold G66 at h; split at h
  · rename_i n ρ
    obtain ⟨hp, rfl⟩ := Prod.mk.inj (Option.some.inj h)
    refine ⟨rfl, _, ?_, all66 ⟨n, ρ⟩ (dec_iff.1 hp)⟩
    kernel_rfl
  · cases h

noncomputable abbrev H2 : Hd := ⟨(66, nG G66) :: H1.pc, [], [], H1.mc⟩
theorem h2 : HdOk Try.prog H2 := h1.tcCons p66

end Go.Proofs.Ytjiennnkbompkaa
