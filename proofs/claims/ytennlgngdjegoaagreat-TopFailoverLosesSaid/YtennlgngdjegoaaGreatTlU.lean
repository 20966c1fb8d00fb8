/-
  Part TlU of the proof: LosD LosE LosF.
-/
import Derived.Test.YtennlgngdjegoaaGreatTlT
namespace Go.Proofs.YtennlgngdjegoaaGreat
open Go Go.Sx Go.RowKit Classical
set_option maxRecDepth 100000
set_option maxHeartbeats 4000000
namespace Hs
open Fo (inSh scSh evSh pcH litK headK allB allB_ok lhsOf lhs_ok)
abbrev boSh : List Sh := [.bool]
abbrev maSh : List Sh := [.sl boSh]
def vB (ρ : Val) (i : Nat) : Bool := ((ρ.at i).at 0).B []
def setB (a : Int) (ρ : Val) (i : Nat) : Bool := (lt (vI ρ i) 0 || le a (vI ρ i)) || (lt 0 (i : Int) && le (vI ρ i) (vI ρ (w64 ((i : Int) - 1)).toNat))
def mkS' (ρ z : Val) : Nat → Val
  | 0 => z
  | i + 1 => (mkS' ρ z i).upds (vI ρ i).toNat 0 [.bool true]
namespace Fi
structure C where
  h : Hi
  g : Hi
  a : Int
  b : Int
  N : Nat
  x : Val
  M : Nat
  y : Val
  p : Il
  l : Il
  m : Int
  B : Nat
  z : Val
structure V where
  f : Bool
  i : Int
  σ : Val
def S (c : C) (v : V) : St := mkS 49 [(0, .one (.c (.ptr 2 0))), (1, .one (.c (.sl inSh c.p.n c.p.ρ))), (4, .one (.c (.nils))), (5, .one (.c (.bool v.f))), (6, .one (.c (.os 6 1))), (14, .one (.c (.sl inSh c.l.n c.l.ρ))), (15, .one (.c (I c.m))), (16, .one (.c (I v.i)))] [some (53, [.sl inSh c.h.s.n c.h.s.ρ, .sl wrSh c.h.w.n c.h.w.ρ, .sl evSh c.h.e.n c.h.e.ρ]), some (53, [.sl inSh c.g.s.n c.g.s.ρ, .sl wrSh c.g.w.n c.g.w.ρ, .sl evSh c.g.e.n c.g.e.ρ]), some (226, [I c.a, I c.b, .os 3 1, .os 4 1]), some (3, [.row false inSh c.N c.x]), some (3, [.row false inSh c.M c.y]), some (173, [.ptr 2 0]), some (4, [.row false boSh c.B v.σ])]
def TX (c : C) (v : V) : Tree (XE × V) :=
  let W := vI c.l.ρ v.i.toNat
  .br (lt v.i c.m) (.need (inRange v.i c.l.n) (.need (!(lt 0 v.i == true && ((lt W 0 || le c.a W) == false && true)) || inRange (w64 (v.i - 1)) c.p.n)
    (.br ((lt W 0 || le c.a W) || (lt 0 v.i && le W (vI c.p.ρ (w64 (v.i - 1)).toNat))) (.leaf (.ret, { v with f := false })) (.need (inRange W c.B) (.leaf (.normal, ⟨v.f, w64 (v.i + 1), v.σ.upds W.toNat 0 [.bool true]⟩)))))) (.leaf (.exit 0, v))
theorem t (c : C) (v : V) : ((evCode Tryz.prog H10 (evFn Tryz.prog H10 10) 146 6 1 (loopBody Tryz.prog 146 0) (S c v)).bind fun y => gcT [0, 1, 4, 5, 6, 14, 15, 16] 6 y) = (TX c v).bind fun y => .leaf (y.1, S c y.2) := by kernel_rfl
def st (c : C) (i : Nat) : V := ⟨false, i, mkS' c.l.ρ c.z i⟩
def sb (c : C) (i : Nat) : V := st c i
def nn (c : C) : Nat := c.l.n
def bad (c : C) : Nat → Bool := setB c.a c.l.ρ
def good (c : C) : Prop := (c.m = toInt64 c.l.n ∧ fewN c.l.n) ∧ c.p = c.l ∧ c.a = toInt64 c.B
def μ (c : C) (v : V) : Nat := (c.l.n - v.i).toNat
theorem sq (c : C) (h : good c) : Sq (TX c) (μ c) (st c) (sb c) (nn c) (bad c) .ret (.exit 0) := by
  obtain ⟨hh, g, a, b, N, x, M, y, p, l, m, B, z⟩ := c
  obtain ⟨⟨hm, hn⟩, hp, ha⟩ := h
  have hn : fewN l.n := hn
  obtain rfl : m = toInt64 l.n := hm
  obtain rfl : a = toInt64 B := ha
  obtain rfl : p = l := hp
  refine sqF (sn := fun i => ⟨false, w64 ((i : Int) + 1), mkS' p.ρ z (i + 1)⟩) (by simp) (by simp) (fun i hi => by show ((p.n : Int) - (i : Int)).toNat = p.n - i; omega) (fun i hi => ?_) (fun i hi => by rw [wS hn hi]; rfl) rS
  have hi : i < p.n := hi
  have hn' : p.n ≤ 4611686018427387904 := hn
  refine ⟨fun _ => ⟨inR hi, ?_, fun hb => ?_, fun hb => ⟨?_, ?_⟩⟩, fun h => ?_⟩
  · show (_ || inRange (w64 ((i : Int) - 1)) p.n) = true
    cases h0 : lt 0 (i : Int)
    · have : (!(lt 0 (i : Int) == true && ((lt (vI p.ρ i) 0 || le (toInt64 B) (vI p.ρ i)) == false && true))) = true := by rw [h0]; rfl
      show (!(lt 0 (i : Int) == true && ((lt (vI p.ρ i) 0 || le (toInt64 B) (vI p.ρ i)) == false && true)) || _) = true
      rw [this]; rfl
    · rw [lt_iff] at h0
      have e : w64 ((i : Int) - 1) = ((i - 1 : Nat) : Int) := by
        show IntKind.i64.wrap _ = _
        rw [w64_id (by omega) (by omega)]; omega
      rw [e, inR (by omega), Bool.or_true]
  · have hb : setB (toInt64 B) p.ρ i = true := hb
    show (if setB (toInt64 B) p.ρ i then _ else _)
    rw [hb]; rfl
  · have hb : setB (toInt64 B) p.ρ i = false := hb
    unfold setB at hb
    rw [Bool.or_eq_false_iff] at hb
    exact inR_of hb.1
  · have hb : setB (toInt64 B) p.ρ i = false := hb
    show (if setB (toInt64 B) p.ρ i then _ else _)
    rw [hb]; rfl
  · have h : lt (i : Int) (toInt64 p.n) = false := h
    rw [ltT hi] at h; cases h
def get : List (Nat × AV) → Mem → Option (C × V)
  | [(0, .one (.c (.ptr 2 0))), (1, .one (.c (.sl [.int .i64] c_p_n c_p_ρ))), (4, .one (.c (.nils))), (5, .one (.c (.bool v_f))), (6, .one (.c (.os 6 1))), (14, .one (.c (.sl [.int .i64] c_l_n c_l_ρ))), (15, .one (.c (.int .i64 c_m))), (16, .one (.c (.int .i64 v_i)))], [some (53, [.sl [.int .i64] c_h_s_n c_h_s_ρ, .sl [.int .i64, .int .i64, .sl [.int .u8, .int .u8, .int .u8, .int .u8, .int .u8, .int .u8, .int .u8, .int .u8]] c_h_w_n c_h_w_ρ, .sl [.int .i64, .int .i64] c_h_e_n c_h_e_ρ]), some (53, [.sl [.int .i64] c_g_s_n c_g_s_ρ, .sl [.int .i64, .int .i64, .sl [.int .u8, .int .u8, .int .u8, .int .u8, .int .u8, .int .u8, .int .u8, .int .u8]] c_g_w_n c_g_w_ρ, .sl [.int .i64, .int .i64] c_g_e_n c_g_e_ρ]), some (226, [.int .i64 c_a, .int .i64 c_b, .os 3 1, .os 4 1]), some (3, [.row false [.int .i64] c_N c_x]), some (3, [.row false [.int .i64] c_M c_y]), some (173, [.ptr 2 0]), some (4, [.row false [.bool] c_B v_σ])] =>
    some (⟨⟨⟨c_h_s_n, c_h_s_ρ⟩, ⟨c_h_w_n, c_h_w_ρ⟩, ⟨c_h_e_n, c_h_e_ρ⟩⟩, ⟨⟨c_g_s_n, c_g_s_ρ⟩, ⟨c_g_w_n, c_g_w_ρ⟩, ⟨c_g_e_n, c_g_e_ρ⟩⟩, c_a, c_b, c_N, c_x, c_M, c_y, ⟨c_p_n, c_p_ρ⟩, ⟨c_l_n, c_l_ρ⟩, c_m, c_B, v_σ⟩, ⟨v_f, v_i, v_σ⟩)
  | _, _ => none
noncomputable def L : Nat → St → Tree (XE × St) := lqH [0, 1, 4, 5, 6, 14, 15, 16] 6 49 get fun c v => lqT (S c) (good c ∧ v = st c 0) (anyB (bad c) (nn c)) .ret (.exit 0) (sb c (firstB (bad c) (nn c))) (st c (nn c))
theorem ok (fn : Func) (c b : Code) (hf : Tryz.prog.funcs[146]? = some fn) (hc : fn.body = some c) (hb : nthLoop c 0 = some b) : LoopOk Tryz.prog b L :=
  lq_ok h10 10 146 0 hf hc hb [0, 1, 4, 5, 6, 14, 15, 16] 6 49 S TX t get (fun l m c v h => by unfold get at h; split at h <;> simp at h; obtain ⟨rfl, rfl⟩ := h; rfl)
    good μ st sb nn bad .ret (.exit 0) sq (fun c => (sb c (firstB (bad c) (nn c)))) (fun c => (st c (nn c))) (fun _ _ _ => StWk.refl) (fun _ _ _ => StWk.refl)
end Fi
namespace Fj
structure C where
  h : Hi
  g : Hi
  a : Int
  b : Int
  N : Nat
  x : Val
  M : Nat
  y : Val
  B : Nat
  z : Val
  k1 : Nat
  u1 : Val
  k2 : Nat
  u2 : Val
  p1 : Il
  p2 : Il
  p3 : Il
  p4 : Il
  w : Int
  m : Int
  r0 : Bool
structure V where
  i : Int
  r : Bool
def S (c : C) (v : V) : St := mkS 29 [(2, .one (.c (.ptr 9 0))), (3, .one (.c (.ptr 10 0))), (4, .one (.c (.ptr 11 0))), (5, .one (.c (I c.w))), (13, .one (.c (I c.m))), (14, .one (.c (I v.i)))] [some (53, [.sl inSh c.h.s.n c.h.s.ρ, .sl wrSh c.h.w.n c.h.w.ρ, .sl evSh c.h.e.n c.h.e.ρ]), some (53, [.sl inSh c.g.s.n c.g.s.ρ, .sl wrSh c.g.w.n c.g.w.ρ, .sl evSh c.g.e.n c.g.e.ρ]), some (226, [I c.a, I c.b, .os 3 1, .os 4 1]), some (3, [.row false inSh c.N c.x]), some (3, [.row false inSh c.M c.y]), some (173, [.ptr 2 0]), some (4, [.row true boSh c.B c.z]), some (201, [.row false maSh c.k1 c.u1]), some (201, [.row false maSh c.k2 c.u2]), some (173, [.ptr 2 0]), some (201, [.sl boSh c.p1.n c.p1.ρ]), some (4, [.bool v.r]), some (201, [.sl boSh c.p2.n c.p2.ρ]), some (0, [.lp 149 0 .busy, .ptr 2 0, .sl boSh c.p3.n c.p3.ρ, .ptr 9 0, .ptr 10 0, .ptr 11 0, .any, .any, .sl boSh c.p4.n c.p4.ρ, .fn (.func 186) [] [.ptr 12 0], .any, .any, .any, .any, .any, .any, .any, .any, .any, .any, .any, .any, .any, .any, .any, .any, .any, .any, .any, .any])]
def TX (c : C) (v : V) : Tree (XE × V) :=
  let q := lt (vI c.y v.i.toNat) (vI c.x c.w.toNat)
  .br (lt v.i c.m) (.need (inRange v.i c.M) (.need (inRange c.w c.N) (.need (!((q == true) && true) || inRange v.i c.p1.n) (.br (q && !(vB c.p1.ρ v.i.toNat)) (.leaf (.ret, ⟨v.i, false⟩)) (.leaf (.normal, ⟨w64 (v.i + 1), v.r⟩)))))) (.leaf (.exit 2, v))
theorem t (c : C) (v : V) : ((evCode Tryz.prog H10 (evFn Tryz.prog H10 10) 149 14 1 (loopBody Tryz.prog 149 0) (S c v)).bind fun y => gcT [2, 3, 4, 5, 13, 14] 14 y) = (TX c v).bind fun y => .leaf (y.1, S c y.2) := by kernel_rfl
def st (c : C) (i : Nat) : V := ⟨i, c.r0⟩
def sb (_ : C) (i : Nat) : V := ⟨i, false⟩
def nn (c : C) : Nat := c.m.toNat
def bad (c : C) (i : Nat) : Bool := lt (vI c.y i) (vI c.x c.w.toNat) && !(vB c.p1.ρ i)
def good (c : C) : Prop := (0 ≤ c.m ∧ c.m ≤ 1000) ∧ c.m.toNat ≤ c.M ∧ c.m.toNat ≤ c.p1.n ∧ inRange c.w c.N = true
def μ (c : C) (v : V) : Nat := (c.m - v.i).toNat
theorem sq (c : C) (h : good c) : Sq (TX c) (μ c) (st c) (sb c) (nn c) (bad c) .ret (.exit 2) := by
  obtain ⟨⟨m0, m1⟩, hM, hp, hw⟩ := h
  have em : c.m = toInt64 c.m.toNat := by show c.m = ((c.m.toNat : Nat) : Int); omega
  refine sqF (sn := fun i => ⟨w64 ((i : Int) + 1), c.r0⟩) (by simp) (by simp) (fun i hi => by show (c.m - (i : Int)).toNat = c.m.toNat - i; omega) (fun i hi => ?_) (fun i hi => by rw [wS (n := c.m.toNat) (by unfold fewN; omega) hi]; rfl) ?_
  · have hi : i < c.m.toNat := hi
    refine ⟨fun _ => ⟨inR (by omega), hw, ?_, fun hb => ?_, fun hb => ?_⟩, fun h => ?_⟩
    · show (_ || inRange (i : Int) c.p1.n) = true
      rw [inR (by omega), Bool.or_true]
    · have : bad c i = true := hb
      rw [this]; rfl
    · have : bad c i = false := hb
      rw [this]; rfl
    · have h : lt (i : Int) c.m = false := h
      rw [em, ltT hi] at h; cases h
  · refine ⟨fun h => ?_, fun _ => rfl⟩
    have h : lt (c.m.toNat : Int) c.m = true := h
    rw [em] at h
    rw [lt_iff] at h
    have h : ((c.m.toNat : Int).toNat : Int) < (c.m.toNat : Int) := h
    omega
def get : List (Nat × AV) → Mem → Option (C × V)
  | [(2, .one (.c (.ptr 9 0))), (3, .one (.c (.ptr 10 0))), (4, .one (.c (.ptr 11 0))), (5, .one (.c (.int .i64 c_w))), (13, .one (.c (.int .i64 c_m))), (14, .one (.c (.int .i64 v_i)))], [some (53, [.sl [.int .i64] c_h_s_n c_h_s_ρ, .sl [.int .i64, .int .i64, .sl [.int .u8, .int .u8, .int .u8, .int .u8, .int .u8, .int .u8, .int .u8, .int .u8]] c_h_w_n c_h_w_ρ, .sl [.int .i64, .int .i64] c_h_e_n c_h_e_ρ]), some (53, [.sl [.int .i64] c_g_s_n c_g_s_ρ, .sl [.int .i64, .int .i64, .sl [.int .u8, .int .u8, .int .u8, .int .u8, .int .u8, .int .u8, .int .u8, .int .u8]] c_g_w_n c_g_w_ρ, .sl [.int .i64, .int .i64] c_g_e_n c_g_e_ρ]), some (226, [.int .i64 c_a, .int .i64 c_b, .os 3 1, .os 4 1]), some (3, [.row false [.int .i64] c_N c_x]), some (3, [.row false [.int .i64] c_M c_y]), some (173, [.ptr 2 0]), some (4, [.row true [.bool] c_B c_z]), some (201, [.row false [.sl [.bool]] c_k1 c_u1]), some (201, [.row false [.sl [.bool]] c_k2 c_u2]), some (173, [.ptr 2 0]), some (201, [.sl [.bool] c_p1_n c_p1_ρ]), some (4, [.bool v_r]), some (201, [.sl [.bool] c_p2_n c_p2_ρ]), some (0, [.lp 149 0 .busy, .ptr 2 0, .sl [.bool] c_p3_n c_p3_ρ, .ptr 9 0, .ptr 10 0, .ptr 11 0, .any, .any, .sl [.bool] c_p4_n c_p4_ρ, .fn (.func 186) [] [.ptr 12 0], .any, .any, .any, .any, .any, .any, .any, .any, .any, .any, .any, .any, .any, .any, .any, .any, .any, .any, .any, .any])] =>
    some (⟨⟨⟨c_h_s_n, c_h_s_ρ⟩, ⟨c_h_w_n, c_h_w_ρ⟩, ⟨c_h_e_n, c_h_e_ρ⟩⟩, ⟨⟨c_g_s_n, c_g_s_ρ⟩, ⟨c_g_w_n, c_g_w_ρ⟩, ⟨c_g_e_n, c_g_e_ρ⟩⟩, c_a, c_b, c_N, c_x, c_M, c_y, c_B, c_z, c_k1, c_u1, c_k2, c_u2, ⟨c_p1_n, c_p1_ρ⟩, ⟨c_p2_n, c_p2_ρ⟩, ⟨c_p3_n, c_p3_ρ⟩, ⟨c_p4_n, c_p4_ρ⟩, c_w, c_m, v_r⟩, ⟨v_i, v_r⟩)
  | _, _ => none
noncomputable def L : Nat → St → Tree (XE × St) := lqH [2, 3, 4, 5, 13, 14] 14 29 get fun c v => lqT (S c) (good c ∧ v = st c 0) (anyB (bad c) (nn c)) .ret (.exit 2) (sb c (firstB (bad c) (nn c))) (st c (nn c))
theorem ok (fn : Func) (c b : Code) (hf : Tryz.prog.funcs[149]? = some fn) (hc : fn.body = some c) (hb : nthLoop c 0 = some b) : LoopOk Tryz.prog b L :=
  lq_ok h10 10 149 0 hf hc hb [2, 3, 4, 5, 13, 14] 14 29 S TX t get (fun l m c v h => by unfold get at h; split at h <;> simp at h; obtain ⟨rfl, rfl⟩ := h; rfl)
    good μ st sb nn bad .ret (.exit 2) sq (fun c => (sb c (firstB (bad c) (nn c)))) (fun c => (st c (nn c))) (fun _ _ _ => StWk.refl) (fun _ _ _ => StWk.refl)
end Fj
noncomputable abbrev H12 : Hd := ⟨H10.pc, H10.hc, [((149, 0), Fj.L)], H10.mc⟩
theorem h12 : HdOk Tryz.prog H12 := HdOk.lhCons h10 Fj.ok
end Hs
end Go.Proofs.YtennlgngdjegoaaGreat
namespace Go.Proofs.YtennlgngdjegoaaGreat
open Go Go.Sx Go.RowKit Classical
set_option maxRecDepth 100000
set_option maxHeartbeats 4000000
namespace Hs
open Fo (inSh scSh evSh pcH litK headK allB allB_ok lhsOf lhs_ok)
namespace Fk
structure C where
  h : Hi
  g : Hi
  a : Int
  b : Int
  N : Nat
  x : Val
  M : Nat
  y : Val
  B : Nat
  z : Val
  k1 : Nat
  u1 : Val
  k2 : Nat
  u2 : Val
  p1 : Il
  p2 : Il
  p3 : Il
  p4 : Il
  l : Il
  m : Int
  r0 : Bool
structure V where
  i : Int
  r : Bool
  s : LpS
def S (c : C) (v : V) : St := mkS 20 [(0, .one (.c (.yld 13))), (1, .one (.c (.ptr 12 0))), (5, .one (.c (.sl boSh c.l.n c.l.ρ))), (6, .one (.c (I c.m))), (7, .one (.c (I v.i)))] [some (53, [.sl inSh c.h.s.n c.h.s.ρ, .sl wrSh c.h.w.n c.h.w.ρ, .sl evSh c.h.e.n c.h.e.ρ]), some (53, [.sl inSh c.g.s.n c.g.s.ρ, .sl wrSh c.g.w.n c.g.w.ρ, .sl evSh c.g.e.n c.g.e.ρ]), some (226, [I c.a, I c.b, .os 3 1, .os 4 1]), some (3, [.row false inSh c.N c.x]), some (3, [.row false inSh c.M c.y]), some (173, [.ptr 2 0]), some (4, [.row true boSh c.B c.z]), some (201, [.row false maSh c.k1 c.u1]), some (201, [.row false maSh c.k2 c.u2]), some (173, [.ptr 2 0]), some (201, [.sl boSh c.p1.n c.p1.ρ]), some (4, [.bool v.r]), some (201, [.sl boSh c.p2.n c.p2.ρ]), some (0, [.lp 149 0 v.s, .ptr 2 0, .sl boSh c.p3.n c.p3.ρ, .ptr 9 0, .ptr 10 0, .ptr 11 0, .any, .any, .sl boSh c.p4.n c.p4.ρ, .fn (.func 186) [] [.ptr 12 0], .any, .any, .any, .any, .any, .any, .any, .any, .any, .any, .any, .any, .any, .any, .any, .any, .any, .any, .any, .any])]
def jc (c : C) (v : V) : Fj.C := ⟨c.h, c.g, c.a, c.b, c.N, c.x, c.M, c.y, c.B, c.z, c.k1, c.u1, c.k2, c.u2, c.p1, c.p2, c.p3, c.p4, v.i, c.a, v.r⟩
noncomputable def yl (c : C) (v : V) : Tree (XE × V) :=
  match v.s with
  | .ready => .need (dec (Fj.good (jc c v) ∧ (⟨0, v.r⟩ : Fj.V) = Fj.st (jc c v) 0)) (.br (anyB (Fj.bad (jc c v)) (Fj.nn (jc c v)))
      (.br (vB c.l.ρ v.i.toNat || false) (.leaf (.ret, ⟨v.i, false, .done none⟩)) (.leaf (.normal, ⟨w64 (v.i + 1), false, .done none⟩)))
      (.br (vB c.l.ρ v.i.toNat && false) (.leaf (.ret, ⟨v.i, v.r, .ready⟩)) (.leaf (.normal, ⟨w64 (v.i + 1), v.r, .ready⟩))))
  | _ => .fail
noncomputable def TX (c : C) (v : V) : Tree (XE × V) :=
  .br (lt v.i c.m) (.need (inRange v.i c.l.n) (.br (vB c.l.ρ v.i.toNat == true) (yl c v) (.br (vB c.l.ρ v.i.toNat || false) (.leaf (.ret, v)) (.leaf (.normal, ⟨w64 (v.i + 1), v.r, v.s⟩))))) (.leaf (.exit 0, v))
theorem t (c : C) (v : V) : ((evCode Tryz.prog H12 (evFn Tryz.prog H12 10) 186 14 1 (loopBody Tryz.prog 186 0) (S c v)).bind fun y => gcT [0, 1, 5, 6, 7] 14 y) = (TX c v).bind fun y => .leaf (y.1, S c y.2) := by
  obtain ⟨i, r, s⟩ := v
  cases s
  · kernel_rfl
  · kernel_rfl
  · kernel_rfl
def st (c : C) (i : Nat) : V := ⟨i, c.r0, .ready⟩
def sb (_ : C) (i : Nat) : V := ⟨i, false, .done none⟩
def nn (c : C) : Nat := c.l.n
def bad (c : C) (i : Nat) : Bool := vB c.l.ρ i && anyB (fun a => lt (vI c.y a) (vI c.x i) && !(vB c.p1.ρ a)) c.a.toNat
def good (c : C) : Prop := (c.m = toInt64 c.l.n ∧ c.l.n ≤ 1000) ∧ (0 ≤ c.a ∧ c.a ≤ 1000) ∧ c.a.toNat ≤ c.M ∧ c.a.toNat ≤ c.p1.n ∧ c.l.n ≤ c.N
def μ (c : C) (v : V) : Nat := (c.l.n - v.i).toNat
theorem sq (c : C) (h : good c) : Sq (TX c) (μ c) (st c) (sb c) (nn c) (bad c) .ret (.exit 0) := by
  obtain ⟨⟨hm, hn⟩, ha, hM, hp, hN⟩ := h
  refine sqF (sn := fun i => ⟨w64 ((i : Int) + 1), c.r0, .ready⟩) (by simp) (by simp) (fun i hi => by show ((c.l.n : Int) - (i : Int)).toNat = c.l.n - i; omega) (fun i hi => ?_) (fun i hi => by rw [wS (n := c.l.n) (by unfold fewN; omega) hi]; rfl) ?_
  · have hi : i < c.l.n := hi
    refine ⟨fun _ => ⟨inR hi, fun h1 => ⟨?_, fun h2 => ⟨fun _ => ?_, fun h3 => ?_⟩, fun h2 => ⟨fun h3 => ?_, fun _ => ?_⟩⟩, fun h1 => ⟨fun h3 => ?_, fun _ => ?_⟩⟩, fun h => ?_⟩
    · exact dec_iff.2 ⟨⟨ha, hM, hp, inR (show i < c.N by omega)⟩, rfl⟩
    · have h1 : (vB c.l.ρ i == true) = true := h1
      have h1 : vB c.l.ρ i = true := by simpa using h1
      have h2 : anyB (fun a => lt (vI c.y a) (vI c.x i) && !(vB c.p1.ρ a)) c.a.toNat = true := h2
      have : bad c i = true := by unfold bad; rw [h1, h2]; rfl
      rw [this]; rfl
    · have h1 : (vB c.l.ρ i == true) = true := h1
      have h1 : vB c.l.ρ i = true := by simpa using h1
      have h3 : (vB c.l.ρ i || false) = false := h3
      rw [h1] at h3; cases h3
    · have h3 : (vB c.l.ρ i && false) = true := h3
      rw [Bool.and_false] at h3; cases h3
    · have h2 : anyB (fun a => lt (vI c.y a) (vI c.x i) && !(vB c.p1.ρ a)) c.a.toNat = false := h2
      have : bad c i = false := by unfold bad; rw [h2, Bool.and_false]
      rw [this]; rfl
    · have h1 : (vB c.l.ρ i == true) = false := h1
      have h1 : vB c.l.ρ i = false := by simpa using h1
      have h3 : (vB c.l.ρ i || false) = true := h3
      rw [h1] at h3; cases h3
    · have h1 : (vB c.l.ρ i == true) = false := h1
      have h1 : vB c.l.ρ i = false := by simpa using h1
      have : bad c i = false := by unfold bad; rw [h1]; rfl
      rw [this]; rfl
    · have h : lt (i : Int) c.m = false := h
      rw [hm, ltT hi] at h; cases h
  · refine ⟨fun h => ?_, fun _ => rfl⟩
    have h : lt (c.l.n : Int) c.m = true := h
    rw [hm, ltFn] at h; cases h
def get : List (Nat × AV) → Mem → Option (C × V)
  | [(0, .one (.c (.yld 13))), (1, .one (.c (.ptr 12 0))), (5, .one (.c (.sl [.bool] c_l_n c_l_ρ))), (6, .one (.c (.int .i64 c_m))), (7, .one (.c (.int .i64 v_i)))], [some (53, [.sl [.int .i64] c_h_s_n c_h_s_ρ, .sl [.int .i64, .int .i64, .sl [.int .u8, .int .u8, .int .u8, .int .u8, .int .u8, .int .u8, .int .u8, .int .u8]] c_h_w_n c_h_w_ρ, .sl [.int .i64, .int .i64] c_h_e_n c_h_e_ρ]), some (53, [.sl [.int .i64] c_g_s_n c_g_s_ρ, .sl [.int .i64, .int .i64, .sl [.int .u8, .int .u8, .int .u8, .int .u8, .int .u8, .int .u8, .int .u8, .int .u8]] c_g_w_n c_g_w_ρ, .sl [.int .i64, .int .i64] c_g_e_n c_g_e_ρ]), some (226, [.int .i64 c_a, .int .i64 c_b, .os 3 1, .os 4 1]), some (3, [.row false [.int .i64] c_N c_x]), some (3, [.row false [.int .i64] c_M c_y]), some (173, [.ptr 2 0]), some (4, [.row true [.bool] c_B c_z]), some (201, [.row false [.sl [.bool]] c_k1 c_u1]), some (201, [.row false [.sl [.bool]] c_k2 c_u2]), some (173, [.ptr 2 0]), some (201, [.sl [.bool] c_p1_n c_p1_ρ]), some (4, [.bool v_r]), some (201, [.sl [.bool] c_p2_n c_p2_ρ]), some (0, [.lp 149 0 v_s, .ptr 2 0, .sl [.bool] c_p3_n c_p3_ρ, .ptr 9 0, .ptr 10 0, .ptr 11 0, .any, .any, .sl [.bool] c_p4_n c_p4_ρ, .fn (.func 186) [] [.ptr 12 0], .any, .any, .any, .any, .any, .any, .any, .any, .any, .any, .any, .any, .any, .any, .any, .any, .any, .any, .any, .any])] =>
    some (⟨⟨⟨c_h_s_n, c_h_s_ρ⟩, ⟨c_h_w_n, c_h_w_ρ⟩, ⟨c_h_e_n, c_h_e_ρ⟩⟩, ⟨⟨c_g_s_n, c_g_s_ρ⟩, ⟨c_g_w_n, c_g_w_ρ⟩, ⟨c_g_e_n, c_g_e_ρ⟩⟩, c_a, c_b, c_N, c_x, c_M, c_y, c_B, c_z, c_k1, c_u1, c_k2, c_u2, ⟨c_p1_n, c_p1_ρ⟩, ⟨c_p2_n, c_p2_ρ⟩, ⟨c_p3_n, c_p3_ρ⟩, ⟨c_p4_n, c_p4_ρ⟩, ⟨c_l_n, c_l_ρ⟩, c_m, v_r⟩, ⟨v_i, v_r, v_s⟩)
  | _, _ => none
noncomputable def L : Nat → St → Tree (XE × St) := lqH [0, 1, 5, 6, 7] 14 20 get fun c v => lqT (S c) (good c ∧ v = st c 0) (anyB (bad c) (nn c)) .ret (.exit 0) (sb c (firstB (bad c) (nn c))) (st c (nn c))
theorem ok (fn : Func) (c b : Code) (hf : Tryz.prog.funcs[186]? = some fn) (hc : fn.body = some c) (hb : nthLoop c 0 = some b) : LoopOk Tryz.prog b L :=
  lq_ok h12 10 186 0 hf hc hb [0, 1, 5, 6, 7] 14 20 S TX t get (fun l m c v h => by unfold get at h; split at h <;> simp at h; obtain ⟨rfl, rfl⟩ := h; rfl)
    good μ st sb nn bad .ret (.exit 0) sq (fun c => (sb c (firstB (bad c) (nn c)))) (fun c => (st c (nn c))) (fun _ _ _ => StWk.refl) (fun _ _ _ => StWk.refl)
end Fk
noncomputable abbrev H11 : Hd := ⟨H10.pc, H10.hc, [((146, 0), Fi.L)], H10.mc⟩
theorem h11 : HdOk Tryz.prog H11 := HdOk.lhCons h10 Fi.ok
noncomputable abbrev H13 : Hd := ⟨H10.pc, H10.hc, [((186, 0), Fk.L)], H10.mc⟩
theorem h13 : HdOk Tryz.prog H13 := HdOk.lhCons h10 Fk.ok
end Hs
end Go.Proofs.YtennlgngdjegoaaGreat
namespace Go.Proofs.YtennlgngdjegoaaGreat
open Go Go.Sx Go.RowKit Classical
set_option maxRecDepth 100000
set_option maxHeartbeats 4000000
namespace Hs
open Fo (inSh scSh evSh pcH litK headK allB allB_ok lhsOf lhs_ok)
def relI (h : Hi) : Val := (relR h).1
def relA (h : Hi) : Val := (relR h).2
noncomputable def Grel' : List A1 → Tree (AV × Mem)
  | [.agg [.sl [.int .i64] n ρ, .sl [.int .i64, .int .i64, .sl [.int .u8, .int .u8, .int .u8, .int .u8, .int .u8, .int .u8, .int .u8, .int .u8]] m ω, .sl [.int .i64, .int .i64] q ε]] =>
    let h : Hi := ⟨⟨n, ρ⟩, ⟨m, ω⟩, ⟨q, ε⟩⟩
    .need (dec (fewH h ∧ m ≤ 64)) (.br (hisE h != 0) (.leaf (.tup [.c .nilp, .c (I (hisE h))], [])) (.leaf (.tup [.c (.ptr 0 0), .c (I 0)], [some (226, [I (toInt64 m), I (toInt64 q), .os 1 1, .os 2 1]), some (3, [.row false inSh m (relI h)]), some (3, [.row false inSh m (relA h)])])))
  | _ => .fail
theorem n145' : NcOne Tryz.prog 145 Grel' := fun args r m hr => n145 args r m (by
  unfold Grel' at hr; split at hr
  · exact hr
  · simp [Tree.sel] at hr)
noncomputable abbrev H10' : Hd := ⟨H8.pc, H8.hc, [], (145, ncG Grel') :: H8.mc⟩
theorem h10' : HdOk Tryz.prog H10' := h8.mcCons n145'.mc
noncomputable abbrev H14 : Hd := ⟨H10'.pc, H10'.hc, ((169, 0), unrollH Tryz.prog H13 30 169 0 3) :: lhsOf Tryz.prog H11 3 [(111, 0)], H10'.mc⟩
theorem h14 : HdOk Tryz.prog H14 := HdOk.lhCons (lhs_ok h10' h11 3 _) fun _ _ _ hf hc hb => unroll_ok h13 30 169 0 hf hc hb 3
def zB : Val := .byFst fun _ => Val.ofCs [.bool false]
def KV (k : Nat) (κ : Val) : Val := ((Val.ofFlat 1 [.sl inSh k κ]).at 0).at 0
def iC (h : Hi) (k : Nat) (κ : Val) : Fi.C := ⟨h, h, toInt64 h.w.n, toInt64 h.e.n, h.w.n, relI h, h.w.n, relA h, ⟨(KV k κ).L [], KV k κ⟩, ⟨(KV k κ).L [], KV k κ⟩, toInt64 ((KV k κ).L []), (toInt64 h.w.n).toNat, zB⟩
def mZ (h : Hi) (k : Nat) (κ : Val) : Val := mkS' (KV k κ) zB (Fi.nn (iC h k κ))
def mU (h : Hi) (k : Nat) (κ : Val) : Val := Val.ofFlat 1 [.sl boSh (toInt64 h.w.n).toNat (mZ h k κ)]
def mP (h : Hi) (k : Nat) (κ : Val) : Il := ⟨(((mU h k κ).at 0).at 0).L [], ((mU h k κ).at 0).at 0⟩
def kC (h : Hi) (k : Nat) (κ : Val) : Fk.C := ⟨h, h, toInt64 h.w.n, toInt64 h.e.n, h.w.n, relI h, h.w.n, relA h, (toInt64 h.w.n).toNat, mZ h k κ, 1, mU h k κ, 1, mU h k κ, mP h k κ, mP h k κ, mP h k κ, mP h k κ, mP h k κ, toInt64 (mP h k κ).n, false⟩
noncomputable def cutA (h : Hi) : List (Bool × Bool) := [(dec (fewH h ∧ h.w.n ≤ 64), true), (hisE h != 0, true), (hisE h != 0, true)]
noncomputable def cutB (h : Hi) (k : Nat) (κ : Val) (b : Bool) : List (Bool × Bool) :=
  [(dec (fewH h ∧ h.w.n ≤ 64), true), (hisE h != 0, false), (false, false), (true, true), (true, true), (le 0 (toInt64 h.w.n) && le (toInt64 h.w.n) (toInt64 h.w.n) && le (toInt64 h.w.n * toInt64 1) 140737488355328, true),
   (dec (Fi.good (iC h k κ) ∧ (⟨false, 0, zB⟩ : Fi.V) = Fi.st (iC h k κ) 0), true), (anyB (Fi.bad (iC h k κ)) (Fi.nn (iC h k κ)), b)]
noncomputable def cutK (h : Hi) (k : Nat) (κ : Val) (b : Bool) : List (Bool × Bool) :=
  [(false, false), (true, true), (false, false), (true, true), (true, true), (true, true), (dec (Fk.good (kC h k κ) ∧ (⟨0, false, .ready⟩ : Fk.V) = Fk.st (kC h k κ) 0), true), (anyB (Fk.bad (kC h k κ)) (Fk.nn (kC h k κ)), b)]
theorem pA (h : Hi) (k : Nat) (κ : Val) : (evFn Tryz.prog H14 20 64 [.agg [.sl inSh h.s.n h.s.ρ, .sl wrSh h.w.n h.w.ρ, .sl evSh h.e.n h.e.ρ], .c (.sl inSh k κ)] []).vals.follow [true, true] = some (cutA h, .one (.c (I (hisE h)))) := by kernel_rfl
theorem pB (h : Hi) (k : Nat) (κ : Val) : (evFn Tryz.prog H14 20 64 [.agg [.sl inSh h.s.n h.s.ρ, .sl wrSh h.w.n h.w.ρ, .sl evSh h.e.n h.e.ρ], .c (.sl inSh k κ)] []).vals.follow [false, false, true, true, true] =
    some (cutB h k κ true ++ [(true, true)], .one (.c (I 2))) := by kernel_rfl
theorem pC (h : Hi) (k : Nat) (κ : Val) : (evFn Tryz.prog H14 20 64 [.agg [.sl inSh h.s.n h.s.ρ, .sl wrSh h.w.n h.w.ρ, .sl evSh h.e.n h.e.ρ], .c (.sl inSh k κ)] []).vals.follow [false, false, true, false, false, false, true, true, true, true, true] =
    some (cutB h k κ false ++ (cutK h k κ true ++ [(true, true), (true, true)]), .one (.c (I 27))) := by kernel_rfl
theorem pD (h : Hi) (k : Nat) (κ : Val) : (evFn Tryz.prog H14 20 64 [.agg [.sl inSh h.s.n h.s.ρ, .sl wrSh h.w.n h.w.ρ, .sl evSh h.e.n h.e.ρ], .c (.sl inSh k κ)] []).vals.follow [false, false, true, false, false, false, true, true, false, false, false, false] =
    some (cutB h k κ false ++ (cutK h k κ false ++ [(false, false), (false, false), (false, false)]), .one (.c (I 0))) := by kernel_rfl
def cutE (h : Hi) (l : Il) : Int := bif hisE h != 0 then hisE h else bif anyB (Fi.bad (iC h l.n l.ρ)) l.n then 2 else bif anyB (Fk.bad (kC h l.n l.ρ)) h.w.n then 27 else 0
noncomputable def Gcut : List A1 → Option (Bool × AV)
  | [.agg [.sl [.int .i64] n ρ, .sl [.int .i64, .int .i64, .sl [.int .u8, .int .u8, .int .u8, .int .u8, .int .u8, .int .u8, .int .u8, .int .u8]] m ω, .sl [.int .i64, .int .i64] q ε], .c (.sl [.int .i64] k κ)] =>
    let h : Hi := ⟨⟨n, ρ⟩, ⟨m, ω⟩, ⟨q, ε⟩⟩
    some (dec ((fewH h ∧ m ≤ 64) ∧ fewN k), .one (.c (I (cutE h ⟨k, κ⟩))))
  | _ => none
theorem okB_app (a b : List (Bool × Bool)) : okB (a ++ b) = (okB a && okB b) := List.all_append ..
theorem cutB_ok {h : Hi} {k : Nat} {κ : Val} (hf : fewH h ∧ h.w.n ≤ 64) (hk : fewN k) (h0 : hisE h = 0) {b : Bool} (hb : anyB (Fi.bad (iC h k κ)) k = b) : okB (cutB h k κ b) = true := by
  have c1 : dec (fewH h ∧ h.w.n ≤ 64) = true := dec_iff.2 hf
  have c2 : (hisE h != 0) = false := by rw [h0]; rfl
  have c3 : (le 0 (toInt64 h.w.n) && le (toInt64 h.w.n) (toInt64 h.w.n) && le (toInt64 h.w.n * toInt64 1) 140737488355328) = true := by
    rw [Bool.and_eq_true, Bool.and_eq_true, le_iff, le_iff, le_iff]
    exact ⟨⟨by show (0 : Int) ≤ (h.w.n : Int); omega, Int.le_refl _⟩, by show (h.w.n : Int) * 1 ≤ _; omega⟩
  have c4 : dec (Fi.good (iC h k κ) ∧ (⟨false, 0, zB⟩ : Fi.V) = Fi.st (iC h k κ) 0) = true := dec_iff.2 ⟨⟨⟨rfl, hk⟩, rfl, rfl⟩, rfl⟩
  have c5 : anyB (Fi.bad (iC h k κ)) (Fi.nn (iC h k κ)) = b := hb
  unfold cutB
  simp only [okB, List.all_cons, List.all_nil, c1, c2, c3, c4, c5]
  cases b <;> rfl
theorem cutK_ok {h : Hi} {k : Nat} {κ : Val} (hm : h.w.n ≤ 64) {b : Bool} (hb : anyB (Fk.bad (kC h k κ)) h.w.n = b) : okB (cutK h k κ b) = true := by
  have e : (toInt64 h.w.n).toNat = h.w.n := Int.toNat_natCast _
  have c4 : dec (Fk.good (kC h k κ) ∧ (⟨0, false, .ready⟩ : Fk.V) = Fk.st (kC h k κ) 0) = true := by
    refine dec_iff.2 ⟨⟨⟨rfl, ?_⟩, ⟨?_, ?_⟩, ?_, ?_, ?_⟩, rfl⟩
    · show (toInt64 h.w.n).toNat ≤ 1000
      omega
    · show (0 : Int) ≤ (h.w.n : Int); omega
    · show (h.w.n : Int) ≤ 1000; omega
    · show (toInt64 h.w.n).toNat ≤ h.w.n; omega
    · show (toInt64 h.w.n).toNat ≤ (toInt64 h.w.n).toNat; omega
    · show (toInt64 h.w.n).toNat ≤ h.w.n; omega
  have c5 : anyB (Fk.bad (kC h k κ)) (Fk.nn (kC h k κ)) = b := hb
  unfold cutK
  simp only [okB, List.all_cons, List.all_nil, c4, c5]
  cases b <;> rfl
theorem p64 : TcOne Tryz.prog 64 (nG Gcut) := tcOne_of_follow h14 20 64 fun args r hr => by
  unfold Gcut at hr; split at hr
  · rename_i n ρ m ω q ε k κ
    obtain ⟨hp, rfl⟩ := Prod.mk.inj (Option.some.inj hr)
    obtain ⟨hf, hk⟩ := dec_iff.1 hp
    refine ⟨rfl, ?_⟩
    obtain ⟨h, hh⟩ : ∃ h : Hi, h = ⟨⟨n, ρ⟩, ⟨m, ω⟩, ⟨q, ε⟩⟩ := ⟨_, rfl⟩
    have e1 : ([.agg [.sl inSh n ρ, .sl wrSh m ω, .sl evSh q ε], .c (.sl inSh k κ)] : List A1) = [.agg [.sl inSh h.s.n h.s.ρ, .sl wrSh h.w.n h.w.ρ, .sl evSh h.e.n h.e.ρ], .c (.sl inSh k κ)] := by rw [hh]
    have e2 : cutE ⟨⟨n, ρ⟩, ⟨m, ω⟩, ⟨q, ε⟩⟩ ⟨k, κ⟩ = cutE h ⟨k, κ⟩ := by rw [hh]
    have hf : fewH h ∧ h.w.n ≤ 64 := by rw [hh]; exact hf
    show ∃ p cs a, (evFn Tryz.prog H14 20 64 [.agg [.sl inSh n ρ, .sl wrSh m ω, .sl evSh q ε], .c (.sl inSh k κ)] []).vals.follow p = some (cs, a) ∧ okB cs = true ∧ a = .one (.c (I (cutE ⟨⟨n, ρ⟩, ⟨m, ω⟩, ⟨q, ε⟩⟩ ⟨k, κ⟩)))
    rw [e1, e2]
    cases a1 : hisE h != 0
    · have h0 : hisE h = 0 := by simpa [bne] using a1
      cases a2 : anyB (Fi.bad (iC h k κ)) k
      · cases a3 : anyB (Fk.bad (kC h k κ)) h.w.n
        · refine ⟨_, _, _, pD h k κ, ?_, ?_⟩
          · rw [okB_app, okB_app, cutB_ok hf hk h0 a2, cutK_ok hf.2 a3]; rfl
          · unfold cutE; simp only [a1, a2, a3]; rfl
        · refine ⟨_, _, _, pC h k κ, ?_, ?_⟩
          · rw [okB_app, okB_app, cutB_ok hf hk h0 a2, cutK_ok hf.2 a3]; rfl
          · unfold cutE; simp only [a1, a2, a3]; rfl
      · refine ⟨_, _, _, pB h k κ, ?_, ?_⟩
        · rw [okB_app, cutB_ok hf hk h0 a2]; rfl
        · unfold cutE; simp only [a1, a2]; rfl
    · refine ⟨_, _, _, pA h k κ, ?_, ?_⟩
      · unfold cutA
        simp only [okB, List.all_cons, List.all_nil, a1, dec_iff.2 hf]
        rfl
      · unfold cutE; simp only [a1]; rfl
  · cases hr
noncomputable abbrev H15 : Hd := ⟨(64, nG Gcut) :: H10'.pc, H10'.hc, [], H10'.mc⟩
theorem h15 : HdOk Tryz.prog H15 := h10'.tcCons p64
end Hs
end Go.Proofs.YtennlgngdjegoaaGreat
