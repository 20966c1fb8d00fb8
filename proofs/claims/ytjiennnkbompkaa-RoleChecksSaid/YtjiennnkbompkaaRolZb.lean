/-
  The roles of sites: CheckAll: the loops of the program and of the reference.
-/
import Derived.Test.YtjiennnkbompkaaRolZa
namespace Go.Proofs.Ytjiennnkbompkaa
open Go Go.Sx Go.RowKit Classical

set_option maxRecDepth 100000

/-! ### the reference's inner loops -/

structure VJ where
  k : Int
  r : Int
  q : Int
structure C35 where
  l : Ses
  i : Int
  e : Int

def fndD (l : Ses) (y : Sit) (k : Nat) : Bool := ((l.at k).r == 1 && y.r == 1) && (l.at k).e == y.e

def S35a (c : C35) (v : VJ) : St := mkS 76 [(0, .one (.c (.sl siSh c.l.n c.l.ρ))), (2, .one (.c (I v.r))), (3, .one (.c (I v.q))), (4, .one (.c (I c.i))), (5, .one (.c (I c.e))), (6, .one (.c (I v.k)))] []
def S35b (c : C35) (v : VJ) : St := mkS 76 [(0, .one (.c (.sl siSh c.l.n c.l.ρ))), (2, .one (.c (I v.r))), (3, .one (.c (I v.q))), (4, .one (.c (I c.i))), (5, .one (.c (I c.e))), (7, .one (.c (I v.k)))] []

def TX35a (c : C35) (v : VJ) : Tree (XE × VJ) :=
  .br (lt v.k c.i) (.need (inRange v.k c.l.n) (.need (inRange c.i c.l.n) (.br (fndB c.l (c.l.at c.i.toNat) v.k.toNat) (.leaf (.ret, ⟨v.k, c.i, 8⟩)) (.leaf (.normal, ⟨IntKind.i64.wrap (v.k + 1), v.r, v.q⟩))))) (.leaf (.exit 2, v))
def TX35b (c : C35) (v : VJ) : Tree (XE × VJ) :=
  let x := c.l.at v.k.toNat
  let y := c.l.at c.i.toNat
  .br (lt v.k c.i) (.need (inRange v.k c.l.n) (.need (!((x.r == 1) == true && true) || inRange c.i c.l.n) (.need (!((x.r == 1 && y.r == 1) == true && true) || inRange v.k c.l.n) (.need (!((x.r == 1 && y.r == 1) == true && true) || inRange c.i c.l.n)
    (.br (fndD c.l y v.k.toNat) (.leaf (.ret, ⟨v.k, c.i, 19⟩)) (.leaf (.normal, ⟨IntKind.i64.wrap (v.k + 1), v.r, v.q⟩))))))) (.leaf (.exit 4, v))

theorem t35a (c : C35) (v : VJ) : ((evCode Try.prog H30 (evFn Try.prog H30 10) 35 0 1 (loopBody Try.prog 35 1) (S35a c v)).bind fun y => gcT [0, 2, 3, 4, 5, 6] 0 y) = (TX35a c v).bind fun y => .leaf (y.1, S35a c y.2) := by kernel_rfl
theorem t35b (c : C35) (v : VJ) : ((evCode Try.prog H30 (evFn Try.prog H30 10) 35 0 1 (loopBody Try.prog 35 2) (S35b c v)).bind fun y => gcT [0, 2, 3, 4, 5, 7] 0 y) = (TX35b c v).bind fun y => .leaf (y.1, S35b c y.2) := by kernel_rfl

def stJ (k : Nat) : VJ := ⟨k, 0, 0⟩
def sbJ (i e : Int) (k : Nat) : VJ := ⟨k, i, e⟩
def μJ (i : Int) (v : VJ) : Nat := (i.toNat - v.k).toNat

theorem sq35a (c : C35) (j : Nat) (hi : c.i = j) (hj : j < c.l.n) (hn : fewN c.l.n) : Sq (TX35a c) (μJ c.i) stJ (sbJ c.i 8) j (fndB c.l (c.l.at j)) .ret (.exit 2) where
  out := by simp
  hit := by simp
  meas k hk := by unfold μJ stJ; rw [hi]; simp only; omega
  round k hk := by
    unfold fewN at hn
    have hw : IntKind.i64.wrap ((k : Int) + 1) = ((k + 1 : Nat) : Int) := by rw [w64_id (by omega) (by omega)]; omega
    have e : c.i.toNat = j := by rw [hi]; rfl
    refine ⟨fun _ => ⟨inR (by omega), by rw [hi]; exact inR hj, fun hb => ?_, fun hb => ?_⟩, fun h => ?_⟩
    · have : fndB c.l (c.l.at c.i.toNat) k = true := hb
      rw [e] at this
      simp only [Tree.All, this, if_true]
      rfl
    · have : fndB c.l (c.l.at c.i.toNat) k = false := hb
      rw [e] at this
      simp only [Tree.All, this, Bool.false_eq_true, if_false]
      show (XE.normal, (⟨IntKind.i64.wrap ((k : Int) + 1), 0, 0⟩ : VJ)) = _
      rw [hw]; rfl
    · have : lt (k : Int) c.i = false := h
      rw [hi, ← Bool.not_eq_true, lt_iff] at this; omega
  stop := by
    refine ⟨fun h => ?_, fun _ => rfl⟩
    have : lt (j : Int) c.i = true := h
    rw [hi, lt_iff] at this; omega

theorem sq35b (c : C35) (j : Nat) (hi : c.i = j) (hj : j < c.l.n) (hn : fewN c.l.n) : Sq (TX35b c) (μJ c.i) stJ (sbJ c.i 19) j (fndD c.l (c.l.at j)) .ret (.exit 4) where
  out := by simp
  hit := by simp
  meas k hk := by unfold μJ stJ; rw [hi]; simp only; omega
  round k hk := by
    unfold fewN at hn
    have hw : IntKind.i64.wrap ((k : Int) + 1) = ((k + 1 : Nat) : Int) := by rw [w64_id (by omega) (by omega)]; omega
    have e : c.i.toNat = j := by rw [hi]; rfl
    have i1 : inRange ((stJ k).k) c.l.n = true := inR (by omega)
    have i2 : inRange c.i c.l.n = true := by rw [hi]; exact inR hj
    refine ⟨fun _ => ⟨i1, by rw [i2, Bool.or_true], by rw [i1, Bool.or_true], by rw [i2, Bool.or_true], fun hb => ?_, fun hb => ?_⟩, fun h => ?_⟩
    · have : fndD c.l (c.l.at c.i.toNat) k = true := hb
      rw [e] at this
      simp only [Tree.All, this, if_true]
      rfl
    · have : fndD c.l (c.l.at c.i.toNat) k = false := hb
      rw [e] at this
      simp only [Tree.All, this, Bool.false_eq_true, if_false]
      show (XE.normal, (⟨IntKind.i64.wrap ((k : Int) + 1), 0, 0⟩ : VJ)) = _
      rw [hw]; rfl
    · have : lt (k : Int) c.i = false := h
      rw [hi, ← Bool.not_eq_true, lt_iff] at this; omega
  stop := by
    refine ⟨fun h => ?_, fun _ => rfl⟩
    have : lt (j : Int) c.i = true := h
    rw [hi, lt_iff] at this; omega

theorem sq35a' {c : C35} (h : ∃ j : Nat, c.i = j ∧ j < c.l.n ∧ fewN c.l.n) : Sq (TX35a c) (μJ c.i) stJ (sbJ c.i 8) c.i.toNat (fndB c.l (c.l.at c.i.toNat)) .ret (.exit 2) := by
  obtain ⟨j, h1, h2, h3⟩ := h
  have e : c.i.toNat = j := by rw [h1]; rfl
  rw [e]
  exact sq35a c j h1 h2 h3

theorem sq35b' {c : C35} (h : ∃ j : Nat, c.i = j ∧ j < c.l.n ∧ fewN c.l.n) : Sq (TX35b c) (μJ c.i) stJ (sbJ c.i 19) c.i.toNat (fndD c.l (c.l.at c.i.toNat)) .ret (.exit 4) := by
  obtain ⟨j, h1, h2, h3⟩ := h
  have e : c.i.toNat = j := by rw [h1]; rfl
  rw [e]
  exact sq35b c j h1 h2 h3

noncomputable def inv35 (c : C35) (v : VJ) : Bool := dec ((∃ j : Nat, c.i = j ∧ j < c.l.n ∧ fewN c.l.n) ∧ ∃ k : Nat, k ≤ c.i.toNat ∧ v = stJ k)
def run35a (c : C35) (v : VJ) : XE × VJ := fin (TX35a c) (μJ c.i) v
def run35b (c : C35) (v : VJ) : XE × VJ := fin (TX35b c) (μJ c.i) v
def get35a : List (Nat × AV) → Mem → Option (C35 × VJ)
  | [(0, .one (.c (.sl [.int .i64, .int .i64, .int .i64, .int .i64, .sl [.int .i64, .int .i64, .int .i64], .int .i64, .bool, .bool] n ρ))), (2, .one (.c (.int .i64 r))), (3, .one (.c (.int .i64 q))), (4, .one (.c (.int .i64 i))), (5, .one (.c (.int .i64 e))), (6, .one (.c (.int .i64 k)))], [] => some (⟨⟨n, ρ⟩, i, e⟩, ⟨k, r, q⟩)
  | _, _ => none
def get35b : List (Nat × AV) → Mem → Option (C35 × VJ)
  | [(0, .one (.c (.sl [.int .i64, .int .i64, .int .i64, .int .i64, .sl [.int .i64, .int .i64, .int .i64], .int .i64, .bool, .bool] n ρ))), (2, .one (.c (.int .i64 r))), (3, .one (.c (.int .i64 q))), (4, .one (.c (.int .i64 i))), (5, .one (.c (.int .i64 e))), (7, .one (.c (.int .i64 k)))], [] => some (⟨⟨n, ρ⟩, i, e⟩, ⟨k, r, q⟩)
  | _, _ => none
noncomputable def L35a : Nat → St → Tree (XE × St) := loopH [0, 2, 3, 4, 5, 6] 0 76 get35a inv35 S35a run35a [.ret, .exit 2]
noncomputable def L35b : Nat → St → Tree (XE × St) := loopH [0, 2, 3, 4, 5, 7] 0 76 get35b inv35 S35b run35b [.ret, .exit 4]

theorem l35a (fn : Func) (c b : Code) (hf : Try.prog.funcs[35]? = some fn) (hc : fn.body = some c) (hb : nthLoop c 1 = some b) : LoopOk Try.prog b L35a :=
  loopOk_of h30 10 35 1 hf hc hb [0, 2, 3, 4, 5, 6] 0 76 S35a TX35a t35a get35a inv35 (fun c => μJ c.i) [.ret, .exit 2]
    (fun l m c v h => by unfold get35a at h; split at h <;> simp at h; obtain ⟨rfl, rfl⟩ := h; rfl)
    (rounds_of fun c v hv => by
      have hh := (dec_iff.1 hv).1
      exact (sq35a' hh).rounds (inv := fun v => inv35 c v = true) fun x => by
        unfold inv35
        rw [dec_iff]
        exact ⟨fun h => h.2, fun k => ⟨hh, k⟩⟩)
theorem l35b (fn : Func) (c b : Code) (hf : Try.prog.funcs[35]? = some fn) (hc : fn.body = some c) (hb : nthLoop c 2 = some b) : LoopOk Try.prog b L35b :=
  loopOk_of h30 10 35 2 hf hc hb [0, 2, 3, 4, 5, 7] 0 76 S35b TX35b t35b get35b inv35 (fun c => μJ c.i) [.ret, .exit 4]
    (fun l m c v h => by unfold get35b at h; split at h <;> simp at h; obtain ⟨rfl, rfl⟩ := h; rfl)
    (rounds_of fun c v hv => by
      have hh := (dec_iff.1 hv).1
      exact (sq35b' hh).rounds (inv := fun v => inv35 c v = true) fun x => by
        unfold inv35
        rw [dec_iff]
        exact ⟨fun h => h.2, fun k => ⟨hh, k⟩⟩)

noncomputable abbrev H35 : Hd := ⟨H30.pc, H30.hc, [((35, 1), L35a), ((35, 2), L35b)], H30.mc⟩
theorem h35 : HdOk Try.prog H35 := (HdOk.lhCons h30 l35b).lhCons l35a

end Go.Proofs.Ytjiennnkbompkaa
