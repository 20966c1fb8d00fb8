/-
  The roles of sites: lists of steps that are not long.
-/
import Derived.Test.YtjiennnkbompkaaRolZm
import Derived.Test.YtjiennnkbompkaaRolVm
namespace Go.Proofs.Ytjiennnkbompkaa
open Go Go.Sx Go.RowKit Classical

set_option maxRecDepth 100000

noncomputable abbrev H38 : Hd := ⟨(34, nG G34) :: H20.pc, H20.hc, [], H20.mc⟩
theorem h38 : HdOk Try.prog H38 := h20.tcCons p34

abbrev s3Sh : List Sh := [.sl stSh]
/-- lists of steps -/
structure Lls where
  n : Nat
  ρ : Val
def Lls.at (l : Lls) (i : Nat) : Sts := ⟨((l.ρ.at i).at 0).L [], (l.ρ.at i).at 0⟩

def lng (l : Lls) (i : Nat) : Bool := lt 20 (toInt64 (l.at i).n)

structure C62 where
  l : Lls
  m : Int
def S62 (c : C62) (v : VI) : St := mkS 19 [(0, .one (.c (.sl s3Sh c.l.n c.l.ρ))), (1, .one (.c (.fn (.func 37) [] []))), (4, .one (.c (I v.r))), (7, .one (.c (I c.m))), (8, .one (.c (I v.i)))] []
theorem t62 (c : C62) (v : VI) : ((evCode Try.prog H38 (evFn Try.prog H38 10) 62 0 1 (loopBody Try.prog 62 0) (S62 c v)).bind fun y => gcT [0, 1, 4, 7, 8] 0 y) = (TXi c.m c.l.n (lng c.l) v).bind fun y => .leaf (y.1, S62 c y.2) := by kernel_rfl
noncomputable def inv62 (c : C62) (v : VI) : Bool := dec ((c.m = toInt64 c.l.n ∧ fewN c.l.n) ∧ ∃ i, i ≤ c.l.n ∧ v = stI i)
def run62 (c : C62) (v : VI) : XE × VI := fin (TXi c.m c.l.n (lng c.l)) (μI c.l.n) v
def get62 : List (Nat × AV) → Mem → Option (C62 × VI)
  | [(0, .one (.c (.sl [.sl [.int .i64, .int .i64, .int .i64, .int .i64]] n ρ))), (1, .one (.c (.fn (.func 37) [] []))), (4, .one (.c (.int .i64 r))), (7, .one (.c (.int .i64 m))), (8, .one (.c (.int .i64 i)))], [] => some (⟨⟨n, ρ⟩, m⟩, ⟨r, i⟩)
  | _, _ => none
noncomputable def L62 : Nat → St → Tree (XE × St) := loopH [0, 1, 4, 7, 8] 0 19 get62 inv62 S62 run62 [.ret, .exit 0]
theorem l62 (fn : Func) (c b : Code) (hf : Try.prog.funcs[62]? = some fn) (hc : fn.body = some c) (hb : nthLoop c 0 = some b) : LoopOk Try.prog b L62 :=
  loopOk_of h38 10 62 0 hf hc hb [0, 1, 4, 7, 8] 0 19 S62 (fun c => TXi c.m c.l.n (lng c.l)) t62 get62 inv62 (fun c => μI c.l.n) [.ret, .exit 0]
    (fun l m c v h => by unfold get62 at h; split at h <;> simp at h; obtain ⟨rfl, rfl⟩ := h; rfl)
    (rounds_of fun c v hv => by
      have h := (dec_iff.1 hv).1
      exact (sqI (lng c.l) h.1 h.2).rounds fun x => by unfold inv62; rw [dec_iff]; exact ⟨fun h => h.2, fun k => ⟨h, k⟩⟩)
noncomputable abbrev H62 : Hd := ⟨H38.pc, H38.hc, [((62, 0), L62)], H38.mc⟩
theorem h62 : HdOk Try.prog H62 := HdOk.lhCons h38 l62

noncomputable def G36 : List A1 → Option (Bool × AV)
  | [.c (.sl [.sl [.int .i64, .int .i64, .int .i64, .int .i64]] n ρ), .c (.fn (.func 37) [] [])] => some (dec (fewN n), .one (.c (.bool (anyB (lng ⟨n, ρ⟩) n))))
  | _ => none

theorem p36 : TcOne Try.prog 36 (nG G36) := tcOne_of_tree h62 12 36 fun args r h => by
  unfold G36 at h; split at h
  · rename_i n ρ
    obtain ⟨hp, rfl⟩ := Prod.mk.inj (Option.some.inj h)
    have hf := dec_iff.1 hp
    exact ⟨rfl, T30 (inv62 ⟨⟨n, ρ⟩, toInt64 n⟩ (stI 0)) (run62 ⟨⟨n, ρ⟩, toInt64 n⟩ (stI 0)) (fun b => .one (.c (.bool b))), by kernel_rfl, T30_all (f := fun b => AV.one (.c (.bool b))) (dec_iff.2 ⟨⟨rfl, hf⟩, 0, Nat.zero_le _, rfl⟩) (show run62 ⟨⟨n, ρ⟩, toInt64 n⟩ (stI 0) = _ from (sqI (lng ⟨n, ρ⟩) rfl hf).fin0)⟩
  · cases h

noncomputable abbrev H39 : Hd := ⟨(36, nG G36) :: H38.pc, H38.hc, [], H38.mc⟩
theorem h39 : HdOk Try.prog H39 := h38.tcCons p36

end Go.Proofs.Ytjiennnkbompkaa
/-
  The roles of sites: steps of several sites; who is split.
-/
namespace Go.Proofs.Ytjiennnkbompkaa
open Go Go.Sx Go.RowKit Classical

set_option maxRecDepth 100000

structure D10 where
  l : Lls
  m : Int
  i : Int
  s : Ses

/-! ### the steps of one site -/

structure C101 where
  d : D10
  sp : Bool
  t : Sts
  p : Int

def S101 (c : C101) (v : V7) : St := mkS 93 [(3, .one (.c (.os 0 8))), (4, .one (.c (.bool c.sp))), (7, .one (.c (.ptr 1 0))), (22, .one (.c (.sl s3Sh c.d.l.n c.d.l.ρ))), (23, .one (.c (I c.d.m))), (24, .one (.c (I c.d.i))), (31, .one (.c (.sl stSh c.t.n c.t.σ))), (32, .one (.c (I c.p))), (33, .one (.c (I v.i)))]
  [some (24, [.row false siSh c.d.s.n c.d.s.ρ]), some (24, [I v.x.a, I v.x.r, I v.x.e, I v.x.p, .sl spSh v.x.n v.x.ρ, I v.x.s, .bool v.x.l, .bool v.x.c])]
noncomputable def TX101 (c : C101) (v : V7) : Tree (XE × V7) :=
  .br (lt v.i c.p) (.need (inRange v.i c.t.n) (.need (dec (small v.x.n)) (.leaf (.normal, ⟨nxt v.x (c.t.at v.i.toNat), IntKind.i64.wrap (v.i + 1)⟩)))) (.leaf (.exit 2, v))

theorem t101 (c : C101) (v : V7) : ((evCode Try.prog H39 (evFn Try.prog H39 10) 10 0 1 (loopBody Try.prog 10 1) (S101 c v)).bind fun y => gcT [3, 4, 7, 22, 23, 24, 31, 32, 33] 0 y) = (TX101 c v).bind fun y => .leaf (y.1, S101 c y.2) := by kernel_rfl

structure Inv1 (c : C101) (v : V7) : Prop where
  m : c.p = toInt64 c.t.n
  n : c.t.n ≤ 20
  i : ∃ k : Nat, k ≤ c.t.n ∧ v.i = k ∧ v.x.n ≤ k
  ok : SiteOk v.x
  a : v.x.a = c.d.i
noncomputable def inv101 (c : C101) (v : V7) : Bool := dec (Inv1 c v)
def μ101 (c : C101) (v : V7) : Nat := (c.t.n - v.i).toNat
def Q101 (c : C101) (y : XE × V7) : Prop := y.1 = .exit 2 ∧ SiteOk y.2.x ∧ y.2.x.a = c.d.i ∧ y.2.x.n ≤ 20

theorem rounds101 (c : C101) : Rounds (TX101 c) (fun v => inv101 c v = true) (μ101 c) (Q101 c) := by
  intro v hv
  obtain ⟨hm, hn, ⟨k, hk, hi, hx⟩, ok, ha⟩ := dec_iff.1 hv
  have hsm : small v.x.n := by unfold small; omega
  have hf : fewN v.x.n := dec_iff.1 (small_few hsm)
  rcases Nat.lt_or_eq_of_le hk with hlt | rfl
  · obtain ⟨b1, b2, b3, b4, b5⟩ := nxt_ok (x := v.x) (t := c.t.at v.i.toNat) hf ok
    have hw : IntKind.i64.wrap (v.i + 1) = ((k + 1 : Nat) : Int) := by rw [hi, w64_id (by omega) (by omega)]; omega
    refine ⟨fun _ => ⟨by rw [hi]; exact inR hlt, dec_iff.2 hsm, dec_iff.2 ⟨hm, hn, ⟨k + 1, hlt, hw, ?_⟩, b1, b2.trans ha⟩, ?_⟩, fun h => ?_⟩
    · show (nxt v.x (c.t.at v.i.toNat)).n ≤ k + 1
      omega
    · show ((c.t.n : Int) - IntKind.i64.wrap (v.i + 1)).toNat < ((c.t.n : Int) - v.i).toNat
      rw [hw, hi]; omega
    · rw [hi, hm, ltF hlt] at h; cases h
  · refine ⟨fun h => ?_, fun _ => ⟨rfl, ok, ha, by show v.x.n ≤ 20; omega⟩⟩
    rw [hi, hm, ltS] at h; cases h

noncomputable def run101 (c : C101) (v : V7) : XE × V7 := fin (TX101 c) (μ101 c) v
def get101 : List (Nat × AV) → Mem → Option (C101 × V7)
  | [(3, .one (.c (.os 0 8))), (4, .one (.c (.bool sp))), (7, .one (.c (.ptr 1 0))), (22, .one (.c (.sl [.sl [.int .i64, .int .i64, .int .i64, .int .i64]] n ρ))), (23, .one (.c (.int .i64 m))), (24, .one (.c (.int .i64 i))), (31, .one (.c (.sl [.int .i64, .int .i64, .int .i64, .int .i64] tn tσ))), (32, .one (.c (.int .i64 p))), (33, .one (.c (.int .i64 j)))],
    [some (24, [.row false [.int .i64, .int .i64, .int .i64, .int .i64, .sl [.int .i64, .int .i64, .int .i64], .int .i64, .bool, .bool] sn sρ]), some (24, [.int .i64 a, .int .i64 ro, .int .i64 e, .int .i64 q, .sl [.int .i64, .int .i64, .int .i64] k σ, .int .i64 s, .bool l, .bool c])] => some (⟨⟨⟨n, ρ⟩, m, i, ⟨sn, sρ⟩⟩, sp, ⟨tn, tσ⟩, p⟩, ⟨⟨a, ro, e, q, k, σ, s, l, c⟩, j⟩)
  | _, _ => none
noncomputable def L101 : Nat → St → Tree (XE × St) := flatMH 1 4 spSh (loopH [3, 4, 7, 22, 23, 24, 31, 32, 33] 0 93 get101 inv101 S101 run101 [.exit 2])

theorem l101 (fn : Func) (c b : Code) (hf : Try.prog.funcs[10]? = some fn) (hc : fn.body = some c) (hb : nthLoop c 1 = some b) : LoopOk Try.prog b L101 :=
  flatMH_ok _ _ _ (loopOk_of h39 10 10 1 hf hc hb [3, 4, 7, 22, 23, 24, 31, 32, 33] 0 93 S101 TX101 t101 get101 inv101 μ101 [.exit 2]
    (fun l m c v h => by unfold get101 at h; split at h <;> simp at h; obtain ⟨rfl, rfl⟩ := h; rfl) rounds101)

/-! ### who else is primary in the same epoch -/

structure C102 where
  d : D10
  x : Sit
  p : Int
structure V102 where
  sp : Bool
  i : Int

def S102 (c : C102) (v : V102) : St := mkS 93 [(3, .one (.c (.os 0 8))), (4, .one (.c (.bool v.sp))), (7, .one (.c (.ptr 1 0))), (22, .one (.c (.sl s3Sh c.d.l.n c.d.l.ρ))), (23, .one (.c (I c.d.m))), (24, .one (.c (I c.d.i))), (44, .one (.c (.os 0 8))), (45, .one (.c (I c.p))), (46, .one (.c (I v.i)))]
  [some (24, [.row false siSh c.d.s.n c.d.s.ρ]), some (24, [I c.x.a, I c.x.r, I c.x.e, I c.x.p, .sl spSh c.x.n c.x.ρ, I c.x.s, .bool c.x.l, .bool c.x.c])]
def fndE (l : Ses) (x : Sit) (k : Nat) : Bool := (x.r == 1 && (l.at k).r == 1) && x.e == (l.at k).e
def TX102 (c : C102) (v : V102) : Tree (XE × V102) :=
  .br (lt v.i c.p) (.need (inRange v.i c.d.s.n) (.leaf (.normal, ⟨v.sp || fndE c.d.s c.x v.i.toNat, IntKind.i64.wrap (v.i + 1)⟩))) (.leaf (.exit 4, v))

theorem t102 (c : C102) (v : V102) : ((evCode Try.prog H39 (evFn Try.prog H39 10) 10 0 1 (loopBody Try.prog 10 2) (S102 c v)).bind fun y => gcT [3, 4, 7, 22, 23, 24, 44, 45, 46] 0 y) = (TX102 c v).bind fun y => .leaf (y.1, S102 c y.2) := by kernel_rfl

def st102 (c : C102) (sp : Bool) (i : Nat) : V102 := ⟨sp || anyB (fndE c.d.s c.x) i, i⟩
def μ102 (c : C102) (v : V102) : Nat := (c.d.s.n - v.i).toNat
theorem sq102 (c : C102) (sp : Bool) (hm : c.p = toInt64 c.d.s.n) (hn : fewN c.d.s.n) : Sq (TX102 c) (μ102 c) (st102 c sp) (st102 c sp) c.d.s.n (fun _ => false) .ret (.exit 4) where
  out := by simp
  hit := by simp
  meas i hi := by unfold μ102 st102; simp only; omega
  round i hi := by
    unfold fewN at hn
    have hw : IntKind.i64.wrap ((i : Int) + 1) = ((i + 1 : Nat) : Int) := by rw [w64_id (by omega) (by omega)]; omega
    refine ⟨fun _ => ⟨inR hi, ?_⟩, fun h => ?_⟩
    · show (XE.normal, (⟨(sp || anyB (fndE c.d.s c.x) i) || fndE c.d.s c.x i, IntKind.i64.wrap ((i : Int) + 1)⟩ : V102)) = (.normal, ⟨sp || (anyB (fndE c.d.s c.x) i || fndE c.d.s c.x i), ((i + 1 : Nat) : Int)⟩)
      rw [hw, Bool.or_assoc]
    · have : lt (i : Int) c.p = false := h
      rw [hm, ltF hi] at this; cases this
  stop := by
    refine ⟨fun h => ?_, fun _ => rfl⟩
    have : lt (c.d.s.n : Int) c.p = true := h
    rw [hm, ltS] at this; cases this

noncomputable def inv102 (c : C102) (v : V102) : Bool := dec ((c.p = toInt64 c.d.s.n ∧ fewN c.d.s.n) ∧ ∃ sp i, i ≤ c.d.s.n ∧ v = st102 c sp i)
def run102 (c : C102) (v : V102) : XE × V102 := fin (TX102 c) (μ102 c) v
def get102 : List (Nat × AV) → Mem → Option (C102 × V102)
  | [(3, .one (.c (.os 0 8))), (4, .one (.c (.bool sp))), (7, .one (.c (.ptr 1 0))), (22, .one (.c (.sl [.sl [.int .i64, .int .i64, .int .i64, .int .i64]] n ρ))), (23, .one (.c (.int .i64 m))), (24, .one (.c (.int .i64 i))), (44, .one (.c (.os 0 8))), (45, .one (.c (.int .i64 p))), (46, .one (.c (.int .i64 j)))],
    [some (24, [.row false [.int .i64, .int .i64, .int .i64, .int .i64, .sl [.int .i64, .int .i64, .int .i64], .int .i64, .bool, .bool] sn sρ]), some (24, [.int .i64 a, .int .i64 ro, .int .i64 e, .int .i64 q, .sl [.int .i64, .int .i64, .int .i64] k σ, .int .i64 s, .bool l, .bool c])] => some (⟨⟨⟨n, ρ⟩, m, i, ⟨sn, sρ⟩⟩, ⟨a, ro, e, q, k, σ, s, l, c⟩, p⟩, ⟨sp, j⟩)
  | _, _ => none
noncomputable def L102 : Nat → St → Tree (XE × St) := loopH [3, 4, 7, 22, 23, 24, 44, 45, 46] 0 93 get102 inv102 S102 run102 [.exit 4]

theorem l102 (fn : Func) (c b : Code) (hf : Try.prog.funcs[10]? = some fn) (hc : fn.body = some c) (hb : nthLoop c 2 = some b) : LoopOk Try.prog b L102 :=
  loopOk_of h39 10 10 2 hf hc hb [3, 4, 7, 22, 23, 24, 44, 45, 46] 0 93 S102 TX102 t102 get102 inv102 μ102 [.exit 4] (Q := fun _ _ => True)
    (fun l m c v h => by unfold get102 at h; split at h <;> simp at h; obtain ⟨rfl, rfl⟩ := h; rfl)
    (fun c v hv => by
      obtain ⟨⟨hm, hn⟩, sp, i, hi, rfl⟩ := dec_iff.1 hv
      have hs := sq102 c sp hm hn
      rcases Nat.lt_or_eq_of_le hi with hlt | rfl
      · refine All.imp (fun y hy => ?_) (hs.round i hlt)
        have hy : y = (.normal, st102 c sp (i + 1)) := hy
        subst hy
        refine ⟨dec_iff.2 ⟨⟨hm, hn⟩, sp, i + 1, by omega, rfl⟩, ?_⟩
        rw [hs.meas i (by omega), hs.meas (i + 1) (by omega)]
        omega
      · refine All.imp (fun y hy => ?_) hs.stop
        subst hy
        trivial)

noncomputable abbrev H40' : Hd := ⟨H39.pc, H39.hc, [((10, 1), L101), ((10, 2), L102)], H39.mc⟩
theorem h40' : HdOk Try.prog H40' := (HdOk.lhCons h39 l102).lhCons l101

end Go.Proofs.Ytjiennnkbompkaa
/-
  The roles of sites: CheckAll finds a split exactly where two are primary in the same epoch.
-/
namespace Go.Proofs.Ytjiennnkbompkaa
open Go Go.Sx Go.RowKit Classical

set_option maxRecDepth 100000

structure C10 where
  l : Lls
  m : Int
structure V10 where
  sp : Bool
  s : Ses
  i : Int

def c101 (c : C10) (v : V10) : C101 := ⟨⟨c.l, c.m, v.i, v.s⟩, v.sp, c.l.at v.i.toNat, toInt64 (c.l.at v.i.toNat).n⟩
noncomputable def y10 (c : C10) (v : V10) : Sit := (run101 (c101 c v) ⟨x0 v.i, 0⟩).2.x
noncomputable def c102 (c : C10) (v : V10) : C102 := ⟨⟨c.l, c.m, v.i, v.s⟩, y10 c v, toInt64 v.s.n⟩
def addS (s : Ses) (y : Sit) : Ses := ⟨s.n + 1, Val.cat s.n s.ρ (Val.ofFlat 8 [I y.a, I y.r, I y.e, I y.p, .sl spSh y.n y.ρ, I y.s, .bool y.l, .bool y.c])⟩

def S10 (c : C10) (v : V10) : St := mkS 93 [(3, .one (.c (.os 0 8))), (4, .one (.c (.bool v.sp))), (22, .one (.c (.sl s3Sh c.l.n c.l.ρ))), (23, .one (.c (I c.m))), (24, .one (.c (I v.i)))] [some (24, [.row false siSh v.s.n v.s.ρ])]
noncomputable def TX10 (c : C10) (v : V10) : Tree (XE × V10) :=
  .br (lt v.i c.m) (.need (inRange v.i c.l.n) (.need (inv101 (c101 c v) ⟨x0 v.i, 0⟩) (.need (eqXE (run101 (c101 c v) ⟨x0 v.i, 0⟩).1 (.exit 2)) (.need (inv102 (c102 c v) ⟨v.sp, 0⟩) (.need (eqXE (run102 (c102 c v) ⟨v.sp, 0⟩).1 (.exit 4)) (.need (Nat.ble (((v.s.n + 1).mul 71).add v.s.n) 140737488355327)
    (.leaf (.normal, ⟨(run102 (c102 c v) ⟨v.sp, 0⟩).2.sp, addS v.s (y10 c v), IntKind.i64.wrap (v.i + 1)⟩)))))))) (.leaf (.exit 0, v))

theorem t10 (c : C10) (v : V10) : ((evCode Try.prog H40' (evFn Try.prog H40' 10) 10 0 1 (loopBody Try.prog 10 0) (S10 c v)).bind fun y => gcT [3, 4, 22, 23, 24] 0 y) = (TX10 c v).bind fun y => .leaf (y.1, S10 c y.2) := by kernel_rfl

/-- a site that was laid in a row -/
def cpS (y : Sit) : Sit := ⟨y.a, y.r, y.e, y.p, y.n, Val.ofC (.sl spSh y.n y.ρ), y.s, y.l, y.c⟩
theorem addS_at (s : Ses) (y : Sit) (k : Nat) : (addS s y).at k = if k < s.n then s.at k else siAt ((Val.ofFlat 8 [I y.a, I y.r, I y.e, I y.p, .sl spSh y.n y.ρ, I y.s, .bool y.l, .bool y.c]).at (k - s.n)) := by
  show siAt ((Val.cat _ _ _).at k) = _
  rw [cat_at]
  split <;> rfl
theorem addS_lt {s : Ses} {y : Sit} {k : Nat} (h : k < s.n) : (addS s y).at k = s.at k := by rw [addS_at, if_pos h]
theorem addS_n (s : Ses) (y : Sit) : (addS s y).at s.n = cpS y := by
  rw [addS_at, if_neg (by omega), Nat.sub_self]
  rfl

theorem cpS_ok {y : Sit} (h : SiteOk y) : SiteOk (cpS y) := ⟨h.corr, h.ht, h.he, h.e0, h.e1, h.p0, h.p1, h.num, h.r0, h.r1, h.er, h.src, h.nsrc⟩

theorem int_beq_comm (a b : Int) : (a == b) = (b == a) := by
  by_cases h : a = b
  · subst h; rfl
  · have h1 : (a == b) = false := by rw [← Bool.not_eq_true, beq_iff_eq]; exact h
    have h2 : (b == a) = false := by rw [← Bool.not_eq_true, beq_iff_eq]; exact fun e => h e.symm
    rw [h1, h2]

/-- who is primary beside another, in the same epoch -/
def sD (s : Ses) (j : Nat) : Bool := anyB (fndD s (s.at j)) j

theorem sD_add {s : Ses} {y : Sit} {j : Nat} (h : j < s.n) : sD (addS s y) j = sD s j := by
  unfold sD
  rw [addS_lt h]
  refine anyB_congr fun k hk _ => ?_
  unfold fndD
  rw [addS_lt (show k < s.n by omega)]
theorem sD_new (s : Ses) (y : Sit) : sD (addS s y) s.n = anyB (fndE s y) s.n := by
  unfold sD
  rw [addS_n]
  refine anyB_congr fun k hk _ => ?_
  unfold fndD fndE
  rw [addS_lt hk]
  show (((s.at k).r == 1 && y.r == 1) && (s.at k).e == y.e) = _
  rw [Bool.and_comm ((s.at k).r == 1), int_beq_comm (s.at k).e]

structure Inv0 (c : C10) (v : V10) : Prop where
  m : c.m = toInt64 c.l.n
  n : c.l.n ≤ 4
  few : ∀ j, j < c.l.n → (c.l.at j).n ≤ 20
  i : ∃ i : Nat, i ≤ c.l.n ∧ v.i = i ∧ v.s.n = i
  ok : ∀ j, j < v.s.n → SiteOk (v.s.at j) ∧ (v.s.at j).a = j ∧ (v.s.at j).n ≤ 20
  sp : v.sp = anyB (sD v.s) v.s.n
noncomputable def inv10 (c : C10) (v : V10) : Bool := dec (Inv0 c v)
def μ10 (c : C10) (v : V10) : Nat := (c.l.n - v.i).toNat
def Q10 (c : C10) (y : XE × V10) : Prop := y.1 = .exit 0 ∧ Inv0 c y.2

theorem rounds10 (c : C10) : Rounds (TX10 c) (fun v => inv10 c v = true) (μ10 c) (Q10 c) := by
  intro v hv
  have hI := dec_iff.1 hv
  obtain ⟨hm, hn, hfew, ⟨k, hk, hi, hs⟩, ok, hsp⟩ := hI
  rcases Nat.lt_or_eq_of_le hk with hlt | rfl
  · have e : v.i.toNat = k := by rw [hi]; rfl
    have hw : IntKind.i64.wrap (v.i + 1) = ((k + 1 : Nat) : Int) := by rw [hi, w64_id (by omega) (by omega)]; omega
    have hsit : sit v.i = true := by unfold sit; rw [Bool.and_eq_true, le_iff, lt_iff]; omega
    have i1 : inv101 (c101 c v) ⟨x0 v.i, 0⟩ = true := dec_iff.2 ⟨rfl, by show (c.l.at v.i.toNat).n ≤ 20; rw [e]; exact hfew k hlt, ⟨0, Nat.zero_le _, rfl, Nat.le_refl _⟩, x0_ok hsit, rfl⟩
    have q1 : Q101 (c101 c v) (run101 (c101 c v) ⟨x0 v.i, 0⟩) := fin_of (rounds101 (c101 c v)) i1
    obtain ⟨q1e, q1o, q1a, q1n⟩ := q1
    have hfs : fewN v.s.n := by unfold fewN; omega
    have i2 : inv102 (c102 c v) ⟨v.sp, 0⟩ = true := dec_iff.2 ⟨⟨rfl, hfs⟩, v.sp, 0, Nat.zero_le _, by show _ = (⟨v.sp || false, 0⟩ : V102); rw [Bool.or_false]⟩
    have r2 : run102 (c102 c v) ⟨v.sp, 0⟩ = (.exit 4, st102 (c102 c v) v.sp v.s.n) := by
      have h0 : (⟨v.sp, 0⟩ : V102) = st102 (c102 c v) v.sp 0 := by show _ = (⟨v.sp || false, 0⟩ : V102); rw [Bool.or_false]
      have : run102 (c102 c v) (st102 (c102 c v) v.sp 0) = bif anyB (fun _ => false) v.s.n then _ else _ := (sq102 (c102 c v) v.sp rfl hfs).fin0
      rw [h0, this]
      cases hb : anyB (fun _ => false) v.s.n
      · rfl
      · obtain ⟨i, _, h⟩ := anyB_iff.1 hb; cases h
    refine ⟨fun _ => ⟨by rw [hi]; exact inR hlt, i1, by rw [q1e]; rfl, i2, by rw [r2]; rfl, Nat.ble_eq_true_of_le (by show (v.s.n + 1) * 71 + v.s.n ≤ _; omega), dec_iff.2 ⟨hm, hn, hfew, ⟨k + 1, hlt, hw, by show v.s.n + 1 = _; omega⟩, ?_, ?_⟩, ?_⟩, fun h => ?_⟩
    · intro j hj
      have hj : j < v.s.n + 1 := hj
      show SiteOk ((addS v.s (y10 c v)).at j) ∧ ((addS v.s (y10 c v)).at j).a = j ∧ ((addS v.s (y10 c v)).at j).n ≤ 20
      rcases Nat.lt_or_ge j v.s.n with h | h
      · rw [addS_lt h]; exact ok j h
      · have : j = v.s.n := by omega
        subst this
        rw [addS_n]
        exact ⟨cpS_ok q1o, by show (y10 c v).a = _; rw [hs]; exact q1a.trans hi, q1n⟩
    · show (run102 (c102 c v) ⟨v.sp, 0⟩).2.sp = anyB (sD (addS v.s (y10 c v))) (v.s.n + 1)
      rw [r2]
      show (v.sp || anyB (fndE v.s (y10 c v)) v.s.n) = (anyB (sD (addS v.s (y10 c v))) v.s.n || sD (addS v.s (y10 c v)) v.s.n)
      rw [sD_new, hsp]
      congr 1
      exact anyB_congr fun j hj _ => (sD_add hj).symm
    · show ((c.l.n : Int) - IntKind.i64.wrap (v.i + 1)).toNat < ((c.l.n : Int) - v.i).toNat
      rw [hw, hi]; omega
    · rw [hi, hm, ltF hlt] at h; cases h
  · refine ⟨fun h => ?_, fun _ => ⟨rfl, ⟨hm, hn, hfew, ⟨c.l.n, Nat.le_refl _, hi, hs⟩, ok, hsp⟩⟩⟩
    rw [hi, hm, ltS] at h; cases h

noncomputable def run10 (c : C10) (v : V10) : XE × V10 := fin (TX10 c) (μ10 c) v
def get10 : List (Nat × AV) → Mem → Option (C10 × V10)
  | [(3, .one (.c (.os 0 8))), (4, .one (.c (.bool sp))), (22, .one (.c (.sl [.sl [.int .i64, .int .i64, .int .i64, .int .i64]] n ρ))), (23, .one (.c (.int .i64 m))), (24, .one (.c (.int .i64 i)))],
    [some (24, [.row false [.int .i64, .int .i64, .int .i64, .int .i64, .sl [.int .i64, .int .i64, .int .i64], .int .i64, .bool, .bool] sn sρ])] => some (⟨⟨n, ρ⟩, m⟩, ⟨sp, ⟨sn, sρ⟩, i⟩)
  | _, _ => none
noncomputable def L10 : Nat → St → Tree (XE × St) := ownH [.own 3 24 siSh] (loopH [3, 4, 22, 23, 24] 0 93 get10 inv10 S10 run10 [.exit 0])

theorem l10 (fn : Func) (c b : Code) (hf : Try.prog.funcs[10]? = some fn) (hc : fn.body = some c) (hb : nthLoop c 0 = some b) : LoopOk Try.prog b L10 :=
  ownH_ok _ (loopOk_of h40' 10 10 0 hf hc hb [3, 4, 22, 23, 24] 0 93 S10 TX10 t10 get10 inv10 μ10 [.exit 0]
    (fun l m c v h => by unfold get10 at h; split at h <;> simp at h; obtain ⟨rfl, rfl⟩ := h; rfl) rounds10)

noncomputable abbrev H41 : Hd := ⟨H39.pc, H39.hc, [((10, 0), L10)], H39.mc⟩
theorem h41 : HdOk Try.prog H41 := HdOk.lhCons h39 l10

end Go.Proofs.Ytjiennnkbompkaa
/-
  The roles of sites: the law of splits.
-/
namespace Go.Proofs.Ytjiennnkbompkaa
open Go Go.Sx Go.RowKit Classical

set_option maxRecDepth 100000

/-- what CheckAll says of correct sites of different numbers -/
theorem ckE_of {s : Ses} (hn : s.n ≤ 4) (ok : ∀ j, j < s.n → SiteOk (s.at j) ∧ (s.at j).a = j ∧ (s.at j).n ≤ 20) : ckE s = bif anyB (sD s) s.n then 19 else 0 := by
  have h4 : lt 4 (toInt64 s.n) = false := by
    rw [← Bool.not_eq_true, lt_iff]
    show ¬ (4 : Int) < (s.n : Int)
    omega
  have hB : ∀ j, j < s.n → anyB (fndB s (s.at j)) j = false := fun j hj => by
    rw [← Bool.not_eq_true]
    intro h
    obtain ⟨k, hk, h⟩ := anyB_iff.1 h
    unfold fndB at h
    have h : (s.at k).a = (s.at j).a := by simpa using h
    rw [(ok k (by omega)).2.1, (ok j hj).2.1] at h
    omega
  have hC : ∀ j, j < s.n → (chkS (s.at j) != 0) = false := fun j hj => by
    rw [chk_of_ok (ok j hj).1]; rfl
  have hw : anyB (wrgS s) s.n = anyB (sD s) s.n := anyB_congr fun j hj _ => by
    unfold wrgS
    rw [hB j hj, hC j hj]
    rfl
  unfold ckE
  rw [h4, hw]
  simp only [cond_false]
  cases hs : anyB (sD s) s.n
  · rfl
  · rw [hs] at hw
    have hf := (firstB_ok hw).1
    simp only [cond_true]
    unfold wrgE
    rw [hC _ hf, hB _ hf]
    rfl

theorem law10 (l : Lls) {F : Nat → Prop} {W : World} {vs : List Value} (h : All2 (A1.Rel F W []) [.c (.sl s3Sh l.n l.ρ)] vs) :
    Calls Try.prog 10 vs.toArray W (fun e W' => e = .returned (.bool true) ∧ Below W.heap.size W W') := by
  let c : C10 := ⟨l, toInt64 l.n⟩
  let v : V10 := ⟨false, ⟨0, Val.zero⟩, 0⟩
  refine law_of_tree h41 12 10 (u := .need (!(lt 4 (toInt64 l.n) == false && true) || dec (fewN l.n)) (.br (lt 4 (toInt64 l.n) || anyB (lng l) l.n) (.leaf tT) (.need (inv10 c v) (.need (eqXE (run10 c v).1 (.exit 0)) (.need (dec (fewS (run10 c v).2.s))
    (.leaf (.one (.c (.bool (((ckE (run10 c v).2.s == 19) == (run10 c v).2.sp && (ckE (run10 c v).2.s == 0) == !(run10 c v).2.sp) || false)))))))))) (by kernel_rfl) ⟨?_, fun _ => rfl, fun hn => ?_⟩ h
  · cases h4 : lt 4 (toInt64 l.n)
    · have hn : ¬ lt 4 (toInt64 l.n) = true := by rw [h4]; simp
      rw [lt_iff] at hn
      have hn : ¬ (4 : Int) < (l.n : Int) := hn
      have : dec (fewN l.n) = true := dec_iff.2 (by unfold fewN; omega)
      rw [this]; rfl
    · rfl
  · rw [Bool.or_eq_false_iff] at hn
    obtain ⟨h4, ha⟩ := hn
    have hn : ¬ lt 4 (toInt64 l.n) = true := by rw [h4]; simp
    rw [lt_iff] at hn
    have hn : ¬ (4 : Int) < (l.n : Int) := hn
    have hfew : ∀ j, j < l.n → (l.at j).n ≤ 20 := fun j hj => by
      have h1 : ¬ lng l j = true := fun hh => by
        rw [anyB_iff.2 ⟨j, hj, hh⟩] at ha; cases ha
      unfold lng at h1
      rw [lt_iff] at h1
      have h1 : ¬ (20 : Int) < ((l.at j).n : Int) := h1
      omega
    have hi : inv10 c v = true := dec_iff.2 ⟨rfl, by show l.n ≤ 4; omega, hfew, ⟨0, Nat.zero_le _, rfl, rfl⟩, fun j hj => absurd hj (Nat.not_lt_zero j), rfl⟩
    have hq : Q10 c (run10 c v) := fin_of (rounds10 c) hi
    obtain ⟨he, hI⟩ := hq
    have hsn : (run10 c v).2.s.n ≤ 4 := by
      obtain ⟨k, h1, h2, h3⟩ := hI.i
      have := hI.n
      omega
    have hs : fewS (run10 c v).2.s := ⟨by unfold fewN; omega, fun j hj => by have := (hI.ok j hj).2.2; unfold fewN; omega⟩
    refine ⟨hi, by rw [he]; rfl, dec_iff.2 hs, ?_⟩
    rw [ckE_of hsn hI.ok, hI.sp]
    show AV.one _ = tT
    cases anyB (sD (run10 c v).2.s) (run10 c v).2.s.n <;> rfl

end Go.Proofs.Ytjiennnkbompkaa
