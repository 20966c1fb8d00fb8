/-
  The roles of sites: CheckAll: sites that are looked for.
-/
import Derived.Test.YtjiennnkbompkaaRolN
namespace Go.Proofs.Ytjiennnkbompkaa
open Go Go.Sx Go.RowKit Classical

set_option maxRecDepth 100000

abbrev siSh : List Sh := [.int .i64, .int .i64, .int .i64, .int .i64, .sl spSh, .int .i64, .bool, .bool]
/-- a list of sites -/
structure Ses where
  n : Nat
  ρ : Val
def siAt (v : Val) : Sit := ⟨(v.at 0).N [], (v.at 1).N [], (v.at 2).N [], (v.at 3).N [], (v.at 4).L [], v.at 4, (v.at 5).N [], (v.at 6).B [], (v.at 7).B []⟩
def Ses.at (l : Ses) (i : Nat) : Sit := siAt (l.ρ.at i)

/-! ### IndexFunc -/

structure VI where
  r : Int
  i : Int
def TXi (m : Int) (n : Nat) (bad : Nat → Bool) (v : VI) : Tree (XE × VI) :=
  .br (lt v.i m) (.need (inRange v.i n) (.br (bad v.i.toNat) (.leaf (.ret, ⟨v.i, v.i⟩)) (.leaf (.normal, ⟨v.r, IntKind.i64.wrap (v.i + 1)⟩)))) (.leaf (.exit 0, v))
def stI (i : Nat) : VI := ⟨0, i⟩
def sbI (i : Nat) : VI := ⟨i, i⟩
def μI (n : Nat) (v : VI) : Nat := (n - v.i).toNat

theorem sqI {m : Int} {n : Nat} (bad : Nat → Bool) (hm : m = toInt64 n) (hn : fewN n) : Sq (TXi m n bad) (μI n) stI sbI n bad .ret (.exit 0) where
  out := by simp
  hit := by simp
  meas i hi := by unfold μI stI; simp only; omega
  round i hi := by
    unfold fewN at hn
    have hw : IntKind.i64.wrap ((i : Int) + 1) = ((i + 1 : Nat) : Int) := by rw [w64_id (by omega) (by omega)]; omega
    refine ⟨fun _ => ⟨inR hi, fun hb => ?_, fun hb => ?_⟩, fun h => ?_⟩
    · have : bad i = true := hb
      simp only [Tree.All, this, if_true]
      rfl
    · have : bad i = false := hb
      simp only [Tree.All, this, Bool.false_eq_true, if_false]
      show (XE.normal, (⟨0, IntKind.i64.wrap ((i : Int) + 1)⟩ : VI)) = _
      rw [hw]; rfl
    · have : lt (i : Int) m = false := h
      rw [hm, ltF hi] at this; cases this
  stop := by
    refine ⟨fun h => ?_, fun _ => rfl⟩
    have : lt (n : Int) m = true := h
    rw [hm, ltS] at this; cases this

/-- what IndexFunc looks for: more than few spans; a number; a role and an epoch -/
def fndA (l : Ses) (i : Nat) : Bool := !le (toInt64 (l.at i).n) 20
def fndB (l : Ses) (y : Sit) (i : Nat) : Bool := (l.at i).a == y.a
def fndC (l : Ses) (y : Sit) (i : Nat) : Bool := (l.at i).r == y.r && (l.at i).e == y.e

structure C56 where
  l : Ses
  m : Int
  y : Sit

def S56A (c : C56) (v : VI) : St := mkS 19 [(0, .one (.c (.sl siSh c.l.n c.l.ρ))), (1, .one (.c (.fn (.func 31) [] []))), (4, .one (.c (I v.r))), (7, .one (.c (I c.m))), (8, .one (.c (I v.i)))] []
def mem56 (y : Sit) : Mem := [some (24, [I y.a, I y.r, I y.e, I y.p, .sl spSh y.n y.ρ, I y.s, .bool y.l, .bool y.c])]
def S56B (c : C56) (v : VI) : St := mkS 19 [(0, .one (.c (.sl siSh c.l.n c.l.ρ))), (1, .one (.c (.fn (.func 60) [] [.ptr 0 0]))), (4, .one (.c (I v.r))), (7, .one (.c (I c.m))), (8, .one (.c (I v.i)))] (mem56 c.y)
def S56C (c : C56) (v : VI) : St := mkS 19 [(0, .one (.c (.sl siSh c.l.n c.l.ρ))), (1, .one (.c (.fn (.func 61) [] [.ptr 0 0]))), (4, .one (.c (I v.r))), (7, .one (.c (I c.m))), (8, .one (.c (I v.i)))] (mem56 c.y)

theorem t56A (c : C56) (v : VI) : ((evCode Try.prog H15 (evFn Try.prog H15 10) 56 0 1 (loopBody Try.prog 56 0) (S56A c v)).bind fun y => gcT [0, 1, 4, 7, 8] 0 y) = (TXi c.m c.l.n (fndA c.l) v).bind fun y => .leaf (y.1, S56A c y.2) := by kernel_rfl
theorem t56B (c : C56) (v : VI) : ((evCode Try.prog H15 (evFn Try.prog H15 10) 56 1 1 (loopBody Try.prog 56 0) (S56B c v)).bind fun y => gcT [0, 1, 4, 7, 8] 1 y) = (TXi c.m c.l.n (fndB c.l c.y) v).bind fun y => .leaf (y.1, S56B c y.2) := by kernel_rfl
theorem t56C (c : C56) (v : VI) : ((evCode Try.prog H15 (evFn Try.prog H15 10) 56 1 1 (loopBody Try.prog 56 0) (S56C c v)).bind fun y => gcT [0, 1, 4, 7, 8] 1 y) = (TXi c.m c.l.n (fndC c.l c.y) v).bind fun y => .leaf (y.1, S56C c y.2) := by kernel_rfl

noncomputable def inv56 (c : C56) (v : VI) : Bool := dec ((c.m = toInt64 c.l.n ∧ fewN c.l.n) ∧ ∃ i, i ≤ c.l.n ∧ v = stI i)
def run56A (c : C56) (v : VI) : XE × VI := fin (TXi c.m c.l.n (fndA c.l)) (μI c.l.n) v
def run56B (c : C56) (v : VI) : XE × VI := fin (TXi c.m c.l.n (fndB c.l c.y)) (μI c.l.n) v
def run56C (c : C56) (v : VI) : XE × VI := fin (TXi c.m c.l.n (fndC c.l c.y)) (μI c.l.n) v

def y0 : Sit := ⟨0, 0, 0, 0, 0, Val.zero, 0, false, false⟩
def get56A : List (Nat × AV) → Mem → Option (C56 × VI)
  | [(0, .one (.c (.sl [.int .i64, .int .i64, .int .i64, .int .i64, .sl [.int .i64, .int .i64, .int .i64], .int .i64, .bool, .bool] n ρ))), (1, .one (.c (.fn (.func 31) [] []))), (4, .one (.c (.int .i64 r))), (7, .one (.c (.int .i64 m))), (8, .one (.c (.int .i64 i)))], [] => some (⟨⟨n, ρ⟩, m, y0⟩, ⟨r, i⟩)
  | _, _ => none
def get56B : List (Nat × AV) → Mem → Option (C56 × VI)
  | [(0, .one (.c (.sl [.int .i64, .int .i64, .int .i64, .int .i64, .sl [.int .i64, .int .i64, .int .i64], .int .i64, .bool, .bool] n ρ))), (1, .one (.c (.fn (.func 60) [] [.ptr 0 0]))), (4, .one (.c (.int .i64 r))), (7, .one (.c (.int .i64 m))), (8, .one (.c (.int .i64 i)))],
    [some (24, [.int .i64 a, .int .i64 ro, .int .i64 e, .int .i64 p, .sl [.int .i64, .int .i64, .int .i64] k σ, .int .i64 s, .bool l, .bool c])] => some (⟨⟨n, ρ⟩, m, ⟨a, ro, e, p, k, σ, s, l, c⟩⟩, ⟨r, i⟩)
  | _, _ => none
def get56C : List (Nat × AV) → Mem → Option (C56 × VI)
  | [(0, .one (.c (.sl [.int .i64, .int .i64, .int .i64, .int .i64, .sl [.int .i64, .int .i64, .int .i64], .int .i64, .bool, .bool] n ρ))), (1, .one (.c (.fn (.func 61) [] [.ptr 0 0]))), (4, .one (.c (.int .i64 r))), (7, .one (.c (.int .i64 m))), (8, .one (.c (.int .i64 i)))],
    [some (24, [.int .i64 a, .int .i64 ro, .int .i64 e, .int .i64 p, .sl [.int .i64, .int .i64, .int .i64] k σ, .int .i64 s, .bool l, .bool c])] => some (⟨⟨n, ρ⟩, m, ⟨a, ro, e, p, k, σ, s, l, c⟩⟩, ⟨r, i⟩)
  | _, _ => none
noncomputable def L56A : Nat → St → Tree (XE × St) := loopH [0, 1, 4, 7, 8] 0 19 get56A inv56 S56A run56A [.ret, .exit 0]
noncomputable def L56B : Nat → St → Tree (XE × St) := loopH [0, 1, 4, 7, 8] 1 19 get56B inv56 S56B run56B [.ret, .exit 0]
noncomputable def L56C : Nat → St → Tree (XE × St) := loopH [0, 1, 4, 7, 8] 1 19 get56C inv56 S56C run56C [.ret, .exit 0]

theorem l56A (fn : Func) (c b : Code) (hf : Try.prog.funcs[56]? = some fn) (hc : fn.body = some c) (hb : nthLoop c 0 = some b) : LoopOk Try.prog b L56A :=
  loopOk_of h15 10 56 0 hf hc hb [0, 1, 4, 7, 8] 0 19 S56A (fun c => TXi c.m c.l.n (fndA c.l)) t56A get56A inv56 (fun c => μI c.l.n) [.ret, .exit 0]
    (fun l m c v h => by unfold get56A at h; split at h <;> simp at h; obtain ⟨rfl, rfl⟩ := h; rfl)
    (rounds_of fun c v hv => by
      have h := (dec_iff.1 hv).1
      exact (sqI (fndA c.l) h.1 h.2).rounds fun x => by unfold inv56; rw [dec_iff]; exact ⟨fun h => h.2, fun k => ⟨h, k⟩⟩)
theorem l56B (fn : Func) (c b : Code) (hf : Try.prog.funcs[56]? = some fn) (hc : fn.body = some c) (hb : nthLoop c 0 = some b) : LoopOk Try.prog b L56B :=
  loopOk_of h15 10 56 0 hf hc hb [0, 1, 4, 7, 8] 1 19 S56B (fun c => TXi c.m c.l.n (fndB c.l c.y)) t56B get56B inv56 (fun c => μI c.l.n) [.ret, .exit 0]
    (fun l m c v h => by unfold get56B at h; split at h <;> simp at h; obtain ⟨rfl, rfl⟩ := h; rfl)
    (rounds_of fun c v hv => by
      have h := (dec_iff.1 hv).1
      exact (sqI (fndB c.l c.y) h.1 h.2).rounds fun x => by unfold inv56; rw [dec_iff]; exact ⟨fun h => h.2, fun k => ⟨h, k⟩⟩)
theorem l56C (fn : Func) (c b : Code) (hf : Try.prog.funcs[56]? = some fn) (hc : fn.body = some c) (hb : nthLoop c 0 = some b) : LoopOk Try.prog b L56C :=
  loopOk_of h15 10 56 0 hf hc hb [0, 1, 4, 7, 8] 1 19 S56C (fun c => TXi c.m c.l.n (fndC c.l c.y)) t56C get56C inv56 (fun c => μI c.l.n) [.ret, .exit 0]
    (fun l m c v h => by unfold get56C at h; split at h <;> simp at h; obtain ⟨rfl, rfl⟩ := h; rfl)
    (rounds_of fun c v hv => by
      have h := (dec_iff.1 hv).1
      exact (sqI (fndC c.l c.y) h.1 h.2).rounds fun x => by unfold inv56; rw [dec_iff]; exact ⟨fun h => h.2, fun k => ⟨h, k⟩⟩)

noncomputable abbrev HaA : Hd := ⟨H15.pc, H15.hc, [((56, 0), L56A)], H15.mc⟩
theorem haA : HdOk Try.prog HaA := HdOk.lhCons h15 l56A
noncomputable abbrev HaB : Hd := ⟨H15.pc, H15.hc, [((56, 0), L56B)], H15.mc⟩
theorem haB : HdOk Try.prog HaB := HdOk.lhCons h15 l56B
noncomputable abbrev HaC : Hd := ⟨H15.pc, H15.hc, [((56, 0), L56C)], H15.mc⟩
theorem haC : HdOk Try.prog HaC := HdOk.lhCons h15 l56C

end Go.Proofs.Ytjiennnkbompkaa
