/-
  Histories: cuts: sets of writes, whether they are closed.
-/
import Derived.Test.YtennlgngdjegoaaLoA
namespace Go.Proofs.Ytennlgngdjegoaa
open Go Go.Sx Go.RowKit Classical

set_option maxRecDepth 100000
set_option maxHeartbeats 4000000

namespace Hs
open Fo (inSh scSh evSh pcH litK headK allB allB_ok lhsOf lhs_ok)
abbrev boSh : List Sh := [.bool]
abbrev maSh : List Sh := [.sl boSh]
def vB (ρ : Val) (i : Nat) : Bool := ((ρ.at i).at 0).B []

/-- is an element of a set wrong? -/
def setB (a : Int) (ρ : Val) (i : Nat) : Bool := (lt (vI ρ i) 0 || le a (vI ρ i)) || (lt 0 (i : Int) && le (vI ρ i) (vI ρ (w64 ((i : Int) - 1)).toNat))
/-- the marks of a set -/
def mkS' (ρ z : Val) : Nat → Val
  | 0 => z
  | i + 1 => (mkS' ρ z i).upds (vI ρ i).toNat 0 [.bool true]
namespace Fi
structure C where
  h : Hi
  g : Hi
  a : Int
  b : Int
  N : Nat
  x : Val
  M : Nat
  y : Val
  p : Il
  l : Il
  m : Int
  B : Nat
  z : Val
structure V where
  f : Bool
  i : Int
  σ : Val
def S (c : C) (v : V) : St := mkS 49 [(0, .one (.c (.ptr 2 0))), (1, .one (.c (.sl inSh c.p.n c.p.ρ))), (4, .one (.c (.nils))), (5, .one (.c (.bool v.f))), (6, .one (.c (.os 6 1))), (14, .one (.c (.sl inSh c.l.n c.l.ρ))), (15, .one (.c (I c.m))), (16, .one (.c (I v.i)))] [some (75, [.sl inSh c.h.s.n c.h.s.ρ, .sl wrSh c.h.w.n c.h.w.ρ, .sl evSh c.h.e.n c.h.e.ρ]), some (75, [.sl inSh c.g.s.n c.g.s.ρ, .sl wrSh c.g.w.n c.g.w.ρ, .sl evSh c.g.e.n c.g.e.ρ]), some (199, [I c.a, I c.b, .os 3 1, .os 4 1]), some (3, [.row false inSh c.N c.x]), some (3, [.row false inSh c.M c.y]), some (172, [.ptr 2 0]), some (4, [.row false boSh c.B v.σ])]
def TX (c : C) (v : V) : Tree (XE × V) :=
  let W := vI c.l.ρ v.i.toNat
  .br (lt v.i c.m) (.need (inRange v.i c.l.n) (.need (!(lt 0 v.i == true && ((lt W 0 || le c.a W) == false && true)) || inRange (w64 (v.i - 1)) c.p.n)
    (.br ((lt W 0 || le c.a W) || (lt 0 v.i && le W (vI c.p.ρ (w64 (v.i - 1)).toNat))) (.leaf (.ret, { v with f := false })) (.need (inRange W c.B) (.leaf (.normal, ⟨v.f, w64 (v.i + 1), v.σ.upds W.toNat 0 [.bool true]⟩)))))) (.leaf (.exit 0, v))
theorem t (c : C) (v : V) : ((evCode Try.prog H10 (evFn Try.prog H10 10) 138 6 1 (loopBody Try.prog 138 0) (S c v)).bind fun y => gcT [0, 1, 4, 5, 6, 14, 15, 16] 6 y) = (TX c v).bind fun y => .leaf (y.1, S c y.2) := by kernel_rfl
def st (c : C) (i : Nat) : V := ⟨false, i, mkS' c.l.ρ c.z i⟩
def sb (c : C) (i : Nat) : V := st c i
def nn (c : C) : Nat := c.l.n
def bad (c : C) : Nat → Bool := setB c.a c.l.ρ
def good (c : C) : Prop := (c.m = toInt64 c.l.n ∧ fewN c.l.n) ∧ c.p = c.l ∧ c.a = toInt64 c.B
def μ (c : C) (v : V) : Nat := (c.l.n - v.i).toNat
theorem sq (c : C) (h : good c) : Sq (TX c) (μ c) (st c) (sb c) (nn c) (bad c) .ret (.exit 0) := by
  obtain ⟨hh, g, a, b, N, x, M, y, p, l, m, B, z⟩ := c
  obtain ⟨⟨hm, hn⟩, hp, ha⟩ := h
  have hn : fewN l.n := hn
  obtain rfl : m = toInt64 l.n := hm
  obtain rfl : a = toInt64 B := ha
  obtain rfl : p = l := hp
  refine sqF (sn := fun i => ⟨false, w64 ((i : Int) + 1), mkS' p.ρ z (i + 1)⟩) (by simp) (by simp) (fun i hi => by show ((p.n : Int) - (i : Int)).toNat = p.n - i; omega) (fun i hi => ?_) (fun i hi => by rw [wS hn hi]; rfl) rS
  have hi : i < p.n := hi
  have hn' : p.n ≤ 4611686018427387904 := hn
  refine ⟨fun _ => ⟨inR hi, ?_, fun hb => ?_, fun hb => ⟨?_, ?_⟩⟩, fun h => ?_⟩
  · show (_ || inRange (w64 ((i : Int) - 1)) p.n) = true
    cases h0 : lt 0 (i : Int)
    · have : (!(lt 0 (i : Int) == true && ((lt (vI p.ρ i) 0 || le (toInt64 B) (vI p.ρ i)) == false && true))) = true := by rw [h0]; rfl
      show (!(lt 0 (i : Int) == true && ((lt (vI p.ρ i) 0 || le (toInt64 B) (vI p.ρ i)) == false && true)) || _) = true
      rw [this]; rfl
    · rw [lt_iff] at h0
      have e : w64 ((i : Int) - 1) = ((i - 1 : Nat) : Int) := by
        show IntKind.i64.wrap _ = _
        rw [w64_id (by omega) (by omega)]; omega
      rw [e, inR (by omega), Bool.or_true]
  · have hb : setB (toInt64 B) p.ρ i = true := hb
    show (if setB (toInt64 B) p.ρ i then _ else _)
    rw [hb]; rfl
  · have hb : setB (toInt64 B) p.ρ i = false := hb
    unfold setB at hb
    rw [Bool.or_eq_false_iff] at hb
    exact inR_of hb.1
  · have hb : setB (toInt64 B) p.ρ i = false := hb
    show (if setB (toInt64 B) p.ρ i then _ else _)
    rw [hb]; rfl
  · have h : lt (i : Int) (toInt64 p.n) = false := h
    rw [ltT hi] at h; cases h
def get : List (Nat × AV) → Mem → Option (C × V)
  | [(0, .one (.c (.ptr 2 0))), (1, .one (.c (.sl [.int .i64] c_p_n c_p_ρ))), (4, .one (.c (.nils))), (5, .one (.c (.bool v_f))), (6, .one (.c (.os 6 1))), (14, .one (.c (.sl [.int .i64] c_l_n c_l_ρ))), (15, .one (.c (.int .i64 c_m))), (16, .one (.c (.int .i64 v_i)))], [some (75, [.sl [.int .i64] c_h_s_n c_h_s_ρ, .sl [.int .i64, .int .i64, .sl [.int .u8, .int .u8, .int .u8, .int .u8, .int .u8, .int .u8, .int .u8, .int .u8]] c_h_w_n c_h_w_ρ, .sl [.int .i64, .int .i64] c_h_e_n c_h_e_ρ]), some (75, [.sl [.int .i64] c_g_s_n c_g_s_ρ, .sl [.int .i64, .int .i64, .sl [.int .u8, .int .u8, .int .u8, .int .u8, .int .u8, .int .u8, .int .u8, .int .u8]] c_g_w_n c_g_w_ρ, .sl [.int .i64, .int .i64] c_g_e_n c_g_e_ρ]), some (199, [.int .i64 c_a, .int .i64 c_b, .os 3 1, .os 4 1]), some (3, [.row false [.int .i64] c_N c_x]), some (3, [.row false [.int .i64] c_M c_y]), some (172, [.ptr 2 0]), some (4, [.row false [.bool] c_B v_σ])] =>
    some (⟨⟨⟨c_h_s_n, c_h_s_ρ⟩, ⟨c_h_w_n, c_h_w_ρ⟩, ⟨c_h_e_n, c_h_e_ρ⟩⟩, ⟨⟨c_g_s_n, c_g_s_ρ⟩, ⟨c_g_w_n, c_g_w_ρ⟩, ⟨c_g_e_n, c_g_e_ρ⟩⟩, c_a, c_b, c_N, c_x, c_M, c_y, ⟨c_p_n, c_p_ρ⟩, ⟨c_l_n, c_l_ρ⟩, c_m, c_B, v_σ⟩, ⟨v_f, v_i, v_σ⟩)
  | _, _ => none
noncomputable def L : Nat → St → Tree (XE × St) := lqH [0, 1, 4, 5, 6, 14, 15, 16] 6 49 get fun c v => lqT (S c) (good c ∧ v = st c 0) (anyB (bad c) (nn c)) .ret (.exit 0) (sb c (firstB (bad c) (nn c))) (st c (nn c))
theorem ok (fn : Func) (c b : Code) (hf : Try.prog.funcs[138]? = some fn) (hc : fn.body = some c) (hb : nthLoop c 0 = some b) : LoopOk Try.prog b L :=
  lq_ok h10 10 138 0 hf hc hb [0, 1, 4, 5, 6, 14, 15, 16] 6 49 S TX t get (fun l m c v h => by unfold get at h; split at h <;> simp at h; obtain ⟨rfl, rfl⟩ := h; rfl)
    good μ st sb nn bad .ret (.exit 0) sq (fun c => (sb c (firstB (bad c) (nn c)))) (fun c => (st c (nn c))) (fun _ _ _ => StWk.refl) (fun _ _ _ => StWk.refl)
end Fi
namespace Fj
structure C where
  h : Hi
  g : Hi
  a : Int
  b : Int
  N : Nat
  x : Val
  M : Nat
  y : Val
  B : Nat
  z : Val
  k1 : Nat
  u1 : Val
  k2 : Nat
  u2 : Val
  p1 : Il
  p2 : Il
  p3 : Il
  p4 : Il
  w : Int
  m : Int
  r0 : Bool
structure V where
  i : Int
  r : Bool
def S (c : C) (v : V) : St := mkS 29 [(2, .one (.c (.ptr 9 0))), (3, .one (.c (.ptr 10 0))), (4, .one (.c (.ptr 11 0))), (5, .one (.c (I c.w))), (13, .one (.c (I c.m))), (14, .one (.c (I v.i)))] [some (75, [.sl inSh c.h.s.n c.h.s.ρ, .sl wrSh c.h.w.n c.h.w.ρ, .sl evSh c.h.e.n c.h.e.ρ]), some (75, [.sl inSh c.g.s.n c.g.s.ρ, .sl wrSh c.g.w.n c.g.w.ρ, .sl evSh c.g.e.n c.g.e.ρ]), some (199, [I c.a, I c.b, .os 3 1, .os 4 1]), some (3, [.row false inSh c.N c.x]), some (3, [.row false inSh c.M c.y]), some (172, [.ptr 2 0]), some (4, [.row true boSh c.B c.z]), some (190, [.row false maSh c.k1 c.u1]), some (190, [.row false maSh c.k2 c.u2]), some (172, [.ptr 2 0]), some (190, [.sl boSh c.p1.n c.p1.ρ]), some (4, [.bool v.r]), some (190, [.sl boSh c.p2.n c.p2.ρ]), some (0, [.lp 141 0 .busy, .ptr 2 0, .sl boSh c.p3.n c.p3.ρ, .ptr 9 0, .ptr 10 0, .ptr 11 0, .any, .any, .sl boSh c.p4.n c.p4.ρ, .fn (.func 153) [] [.ptr 12 0], .any, .any, .any, .any, .any, .any, .any, .any, .any, .any, .any, .any, .any, .any, .any, .any, .any, .any, .any, .any])]
def TX (c : C) (v : V) : Tree (XE × V) :=
  let q := lt (vI c.y v.i.toNat) (vI c.x c.w.toNat)
  .br (lt v.i c.m) (.need (inRange v.i c.M) (.need (inRange c.w c.N) (.need (!((q == true) && true) || inRange v.i c.p1.n) (.br (q && !(vB c.p1.ρ v.i.toNat)) (.leaf (.ret, ⟨v.i, false⟩)) (.leaf (.normal, ⟨w64 (v.i + 1), v.r⟩)))))) (.leaf (.exit 2, v))
theorem t (c : C) (v : V) : ((evCode Try.prog H10 (evFn Try.prog H10 10) 141 14 1 (loopBody Try.prog 141 0) (S c v)).bind fun y => gcT [2, 3, 4, 5, 13, 14] 14 y) = (TX c v).bind fun y => .leaf (y.1, S c y.2) := by kernel_rfl
def st (c : C) (i : Nat) : V := ⟨i, c.r0⟩
def sb (_ : C) (i : Nat) : V := ⟨i, false⟩
def nn (c : C) : Nat := c.m.toNat
def bad (c : C) (i : Nat) : Bool := lt (vI c.y i) (vI c.x c.w.toNat) && !(vB c.p1.ρ i)
def good (c : C) : Prop := (0 ≤ c.m ∧ c.m ≤ 1000) ∧ c.m.toNat ≤ c.M ∧ c.m.toNat ≤ c.p1.n ∧ inRange c.w c.N = true
def μ (c : C) (v : V) : Nat := (c.m - v.i).toNat
theorem sq (c : C) (h : good c) : Sq (TX c) (μ c) (st c) (sb c) (nn c) (bad c) .ret (.exit 2) := by
  obtain ⟨⟨m0, m1⟩, hM, hp, hw⟩ := h
  have em : c.m = toInt64 c.m.toNat := by show c.m = ((c.m.toNat : Nat) : Int); omega
  refine sqF (sn := fun i => ⟨w64 ((i : Int) + 1), c.r0⟩) (by simp) (by simp) (fun i hi => by show (c.m - (i : Int)).toNat = c.m.toNat - i; omega) (fun i hi => ?_) (fun i hi => by rw [wS (n := c.m.toNat) (by unfold fewN; omega) hi]; rfl) ?_
  · have hi : i < c.m.toNat := hi
    refine ⟨fun _ => ⟨inR (by omega), hw, ?_, fun hb => ?_, fun hb => ?_⟩, fun h => ?_⟩
    · show (_ || inRange (i : Int) c.p1.n) = true
      rw [inR (by omega), Bool.or_true]
    · have : bad c i = true := hb
      rw [this]; rfl
    · have : bad c i = false := hb
      rw [this]; rfl
    · have h : lt (i : Int) c.m = false := h
      rw [em, ltT hi] at h; cases h
  · refine ⟨fun h => ?_, fun _ => rfl⟩
    have h : lt (c.m.toNat : Int) c.m = true := h
    rw [em] at h
    rw [lt_iff] at h
    have h : ((c.m.toNat : Int).toNat : Int) < (c.m.toNat : Int) := h
    omega
def get : List (Nat × AV) → Mem → Option (C × V)
  | [(2, .one (.c (.ptr 9 0))), (3, .one (.c (.ptr 10 0))), (4, .one (.c (.ptr 11 0))), (5, .one (.c (.int .i64 c_w))), (13, .one (.c (.int .i64 c_m))), (14, .one (.c (.int .i64 v_i)))], [some (75, [.sl [.int .i64] c_h_s_n c_h_s_ρ, .sl [.int .i64, .int .i64, .sl [.int .u8, .int .u8, .int .u8, .int .u8, .int .u8, .int .u8, .int .u8, .int .u8]] c_h_w_n c_h_w_ρ, .sl [.int .i64, .int .i64] c_h_e_n c_h_e_ρ]), some (75, [.sl [.int .i64] c_g_s_n c_g_s_ρ, .sl [.int .i64, .int .i64, .sl [.int .u8, .int .u8, .int .u8, .int .u8, .int .u8, .int .u8, .int .u8, .int .u8]] c_g_w_n c_g_w_ρ, .sl [.int .i64, .int .i64] c_g_e_n c_g_e_ρ]), some (199, [.int .i64 c_a, .int .i64 c_b, .os 3 1, .os 4 1]), some (3, [.row false [.int .i64] c_N c_x]), some (3, [.row false [.int .i64] c_M c_y]), some (172, [.ptr 2 0]), some (4, [.row true [.bool] c_B c_z]), some (190, [.row false [.sl [.bool]] c_k1 c_u1]), some (190, [.row false [.sl [.bool]] c_k2 c_u2]), some (172, [.ptr 2 0]), some (190, [.sl [.bool] c_p1_n c_p1_ρ]), some (4, [.bool v_r]), some (190, [.sl [.bool] c_p2_n c_p2_ρ]), some (0, [.lp 141 0 .busy, .ptr 2 0, .sl [.bool] c_p3_n c_p3_ρ, .ptr 9 0, .ptr 10 0, .ptr 11 0, .any, .any, .sl [.bool] c_p4_n c_p4_ρ, .fn (.func 153) [] [.ptr 12 0], .any, .any, .any, .any, .any, .any, .any, .any, .any, .any, .any, .any, .any, .any, .any, .any, .any, .any, .any, .any])] =>
    some (⟨⟨⟨c_h_s_n, c_h_s_ρ⟩, ⟨c_h_w_n, c_h_w_ρ⟩, ⟨c_h_e_n, c_h_e_ρ⟩⟩, ⟨⟨c_g_s_n, c_g_s_ρ⟩, ⟨c_g_w_n, c_g_w_ρ⟩, ⟨c_g_e_n, c_g_e_ρ⟩⟩, c_a, c_b, c_N, c_x, c_M, c_y, c_B, c_z, c_k1, c_u1, c_k2, c_u2, ⟨c_p1_n, c_p1_ρ⟩, ⟨c_p2_n, c_p2_ρ⟩, ⟨c_p3_n, c_p3_ρ⟩, ⟨c_p4_n, c_p4_ρ⟩, c_w, c_m, v_r⟩, ⟨v_i, v_r⟩)
  | _, _ => none
noncomputable def L : Nat → St → Tree (XE × St) := lqH [2, 3, 4, 5, 13, 14] 14 29 get fun c v => lqT (S c) (good c ∧ v = st c 0) (anyB (bad c) (nn c)) .ret (.exit 2) (sb c (firstB (bad c) (nn c))) (st c (nn c))
theorem ok (fn : Func) (c b : Code) (hf : Try.prog.funcs[141]? = some fn) (hc : fn.body = some c) (hb : nthLoop c 0 = some b) : LoopOk Try.prog b L :=
  lq_ok h10 10 141 0 hf hc hb [2, 3, 4, 5, 13, 14] 14 29 S TX t get (fun l m c v h => by unfold get at h; split at h <;> simp at h; obtain ⟨rfl, rfl⟩ := h; rfl)
    good μ st sb nn bad .ret (.exit 2) sq (fun c => (sb c (firstB (bad c) (nn c)))) (fun c => (st c (nn c))) (fun _ _ _ => StWk.refl) (fun _ _ _ => StWk.refl)
end Fj

noncomputable abbrev H12 : Hd := ⟨H10.pc, H10.hc, [((141, 0), Fj.L)], H10.mc⟩
theorem h12 : HdOk Try.prog H12 := HdOk.lhCons h10 Fj.ok

end Hs
end Go.Proofs.Ytennlgngdjegoaa
