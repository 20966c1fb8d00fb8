/-
  Histories: cuts: the members of a set, whether it is closed, cut.Check.
-/
import Derived.Test.YtennlgngdjegoaaLoB
namespace Go.Proofs.Ytennlgngdjegoaa
open Go Go.Sx Go.RowKit Classical

set_option maxRecDepth 100000
set_option maxHeartbeats 4000000

namespace Hs
open Fo (inSh scSh evSh pcH litK headK allB allB_ok lhsOf lhs_ok)

namespace Fk
structure C where
  h : Hi
  g : Hi
  a : Int
  b : Int
  N : Nat
  x : Val
  M : Nat
  y : Val
  B : Nat
  z : Val
  k1 : Nat
  u1 : Val
  k2 : Nat
  u2 : Val
  p1 : Il
  p2 : Il
  p3 : Il
  p4 : Il
  l : Il
  m : Int
  r0 : Bool
structure V where
  i : Int
  r : Bool
  s : LpS
def S (c : C) (v : V) : St := mkS 20 [(0, .one (.c (.yld 13))), (1, .one (.c (.ptr 12 0))), (5, .one (.c (.sl boSh c.l.n c.l.ρ))), (6, .one (.c (I c.m))), (7, .one (.c (I v.i)))] [some (75, [.sl inSh c.h.s.n c.h.s.ρ, .sl wrSh c.h.w.n c.h.w.ρ, .sl evSh c.h.e.n c.h.e.ρ]), some (75, [.sl inSh c.g.s.n c.g.s.ρ, .sl wrSh c.g.w.n c.g.w.ρ, .sl evSh c.g.e.n c.g.e.ρ]), some (199, [I c.a, I c.b, .os 3 1, .os 4 1]), some (3, [.row false inSh c.N c.x]), some (3, [.row false inSh c.M c.y]), some (172, [.ptr 2 0]), some (4, [.row true boSh c.B c.z]), some (190, [.row false maSh c.k1 c.u1]), some (190, [.row false maSh c.k2 c.u2]), some (172, [.ptr 2 0]), some (190, [.sl boSh c.p1.n c.p1.ρ]), some (4, [.bool v.r]), some (190, [.sl boSh c.p2.n c.p2.ρ]), some (0, [.lp 141 0 v.s, .ptr 2 0, .sl boSh c.p3.n c.p3.ρ, .ptr 9 0, .ptr 10 0, .ptr 11 0, .any, .any, .sl boSh c.p4.n c.p4.ρ, .fn (.func 153) [] [.ptr 12 0], .any, .any, .any, .any, .any, .any, .any, .any, .any, .any, .any, .any, .any, .any, .any, .any, .any, .any, .any, .any])]
def jc (c : C) (v : V) : Fj.C := ⟨c.h, c.g, c.a, c.b, c.N, c.x, c.M, c.y, c.B, c.z, c.k1, c.u1, c.k2, c.u2, c.p1, c.p2, c.p3, c.p4, v.i, c.a, v.r⟩
noncomputable def yl (c : C) (v : V) : Tree (XE × V) :=
  match v.s with
  | .ready => .need (dec (Fj.good (jc c v) ∧ (⟨0, v.r⟩ : Fj.V) = Fj.st (jc c v) 0)) (.br (anyB (Fj.bad (jc c v)) (Fj.nn (jc c v)))
      (.br (vB c.l.ρ v.i.toNat || false) (.leaf (.ret, ⟨v.i, false, .done none⟩)) (.leaf (.normal, ⟨w64 (v.i + 1), false, .done none⟩)))
      (.br (vB c.l.ρ v.i.toNat && false) (.leaf (.ret, ⟨v.i, v.r, .ready⟩)) (.leaf (.normal, ⟨w64 (v.i + 1), v.r, .ready⟩))))
  | _ => .fail
noncomputable def TX (c : C) (v : V) : Tree (XE × V) :=
  .br (lt v.i c.m) (.need (inRange v.i c.l.n) (.br (vB c.l.ρ v.i.toNat == true) (yl c v) (.br (vB c.l.ρ v.i.toNat || false) (.leaf (.ret, v)) (.leaf (.normal, ⟨w64 (v.i + 1), v.r, v.s⟩))))) (.leaf (.exit 0, v))
theorem t (c : C) (v : V) : ((evCode Try.prog H12 (evFn Try.prog H12 10) 153 14 1 (loopBody Try.prog 153 0) (S c v)).bind fun y => gcT [0, 1, 5, 6, 7] 14 y) = (TX c v).bind fun y => .leaf (y.1, S c y.2) := by
  obtain ⟨i, r, s⟩ := v
  cases s
  · kernel_rfl
  · kernel_rfl
  · kernel_rfl
def st (c : C) (i : Nat) : V := ⟨i, c.r0, .ready⟩
def sb (_ : C) (i : Nat) : V := ⟨i, false, .done none⟩
def nn (c : C) : Nat := c.l.n
def bad (c : C) (i : Nat) : Bool := vB c.l.ρ i && anyB (fun a => lt (vI c.y a) (vI c.x i) && !(vB c.p1.ρ a)) c.a.toNat
def good (c : C) : Prop := (c.m = toInt64 c.l.n ∧ c.l.n ≤ 1000) ∧ (0 ≤ c.a ∧ c.a ≤ 1000) ∧ c.a.toNat ≤ c.M ∧ c.a.toNat ≤ c.p1.n ∧ c.l.n ≤ c.N
def μ (c : C) (v : V) : Nat := (c.l.n - v.i).toNat
theorem sq (c : C) (h : good c) : Sq (TX c) (μ c) (st c) (sb c) (nn c) (bad c) .ret (.exit 0) := by
  obtain ⟨⟨hm, hn⟩, ha, hM, hp, hN⟩ := h
  refine sqF (sn := fun i => ⟨w64 ((i : Int) + 1), c.r0, .ready⟩) (by simp) (by simp) (fun i hi => by show ((c.l.n : Int) - (i : Int)).toNat = c.l.n - i; omega) (fun i hi => ?_) (fun i hi => by rw [wS (n := c.l.n) (by unfold fewN; omega) hi]; rfl) ?_
  · have hi : i < c.l.n := hi
    refine ⟨fun _ => ⟨inR hi, fun h1 => ⟨?_, fun h2 => ⟨fun _ => ?_, fun h3 => ?_⟩, fun h2 => ⟨fun h3 => ?_, fun _ => ?_⟩⟩, fun h1 => ⟨fun h3 => ?_, fun _ => ?_⟩⟩, fun h => ?_⟩
    · exact dec_iff.2 ⟨⟨ha, hM, hp, inR (show i < c.N by omega)⟩, rfl⟩
    · have h1 : (vB c.l.ρ i == true) = true := h1
      have h1 : vB c.l.ρ i = true := by simpa using h1
      have h2 : anyB (fun a => lt (vI c.y a) (vI c.x i) && !(vB c.p1.ρ a)) c.a.toNat = true := h2
      have : bad c i = true := by unfold bad; rw [h1, h2]; rfl
      rw [this]; rfl
    · have h1 : (vB c.l.ρ i == true) = true := h1
      have h1 : vB c.l.ρ i = true := by simpa using h1
      have h3 : (vB c.l.ρ i || false) = false := h3
      rw [h1] at h3; cases h3
    · have h3 : (vB c.l.ρ i && false) = true := h3
      rw [Bool.and_false] at h3; cases h3
    · have h2 : anyB (fun a => lt (vI c.y a) (vI c.x i) && !(vB c.p1.ρ a)) c.a.toNat = false := h2
      have : bad c i = false := by unfold bad; rw [h2, Bool.and_false]
      rw [this]; rfl
    · have h1 : (vB c.l.ρ i == true) = false := h1
      have h1 : vB c.l.ρ i = false := by simpa using h1
      have h3 : (vB c.l.ρ i || false) = true := h3
      rw [h1] at h3; cases h3
    · have h1 : (vB c.l.ρ i == true) = false := h1
      have h1 : vB c.l.ρ i = false := by simpa using h1
      have : bad c i = false := by unfold bad; rw [h1]; rfl
      rw [this]; rfl
    · have h : lt (i : Int) c.m = false := h
      rw [hm, ltT hi] at h; cases h
  · refine ⟨fun h => ?_, fun _ => rfl⟩
    have h : lt (c.l.n : Int) c.m = true := h
    rw [hm, ltFn] at h; cases h
def get : List (Nat × AV) → Mem → Option (C × V)
  | [(0, .one (.c (.yld 13))), (1, .one (.c (.ptr 12 0))), (5, .one (.c (.sl [.bool] c_l_n c_l_ρ))), (6, .one (.c (.int .i64 c_m))), (7, .one (.c (.int .i64 v_i)))], [some (75, [.sl [.int .i64] c_h_s_n c_h_s_ρ, .sl [.int .i64, .int .i64, .sl [.int .u8, .int .u8, .int .u8, .int .u8, .int .u8, .int .u8, .int .u8, .int .u8]] c_h_w_n c_h_w_ρ, .sl [.int .i64, .int .i64] c_h_e_n c_h_e_ρ]), some (75, [.sl [.int .i64] c_g_s_n c_g_s_ρ, .sl [.int .i64, .int .i64, .sl [.int .u8, .int .u8, .int .u8, .int .u8, .int .u8, .int .u8, .int .u8, .int .u8]] c_g_w_n c_g_w_ρ, .sl [.int .i64, .int .i64] c_g_e_n c_g_e_ρ]), some (199, [.int .i64 c_a, .int .i64 c_b, .os 3 1, .os 4 1]), some (3, [.row false [.int .i64] c_N c_x]), some (3, [.row false [.int .i64] c_M c_y]), some (172, [.ptr 2 0]), some (4, [.row true [.bool] c_B c_z]), some (190, [.row false [.sl [.bool]] c_k1 c_u1]), some (190, [.row false [.sl [.bool]] c_k2 c_u2]), some (172, [.ptr 2 0]), some (190, [.sl [.bool] c_p1_n c_p1_ρ]), some (4, [.bool v_r]), some (190, [.sl [.bool] c_p2_n c_p2_ρ]), some (0, [.lp 141 0 v_s, .ptr 2 0, .sl [.bool] c_p3_n c_p3_ρ, .ptr 9 0, .ptr 10 0, .ptr 11 0, .any, .any, .sl [.bool] c_p4_n c_p4_ρ, .fn (.func 153) [] [.ptr 12 0], .any, .any, .any, .any, .any, .any, .any, .any, .any, .any, .any, .any, .any, .any, .any, .any, .any, .any, .any, .any])] =>
    some (⟨⟨⟨c_h_s_n, c_h_s_ρ⟩, ⟨c_h_w_n, c_h_w_ρ⟩, ⟨c_h_e_n, c_h_e_ρ⟩⟩, ⟨⟨c_g_s_n, c_g_s_ρ⟩, ⟨c_g_w_n, c_g_w_ρ⟩, ⟨c_g_e_n, c_g_e_ρ⟩⟩, c_a, c_b, c_N, c_x, c_M, c_y, c_B, c_z, c_k1, c_u1, c_k2, c_u2, ⟨c_p1_n, c_p1_ρ⟩, ⟨c_p2_n, c_p2_ρ⟩, ⟨c_p3_n, c_p3_ρ⟩, ⟨c_p4_n, c_p4_ρ⟩, ⟨c_l_n, c_l_ρ⟩, c_m, v_r⟩, ⟨v_i, v_r, v_s⟩)
  | _, _ => none
noncomputable def L : Nat → St → Tree (XE × St) := lqH [0, 1, 5, 6, 7] 14 20 get fun c v => lqT (S c) (good c ∧ v = st c 0) (anyB (bad c) (nn c)) .ret (.exit 0) (sb c (firstB (bad c) (nn c))) (st c (nn c))
theorem ok (fn : Func) (c b : Code) (hf : Try.prog.funcs[153]? = some fn) (hc : fn.body = some c) (hb : nthLoop c 0 = some b) : LoopOk Try.prog b L :=
  lq_ok h12 10 153 0 hf hc hb [0, 1, 5, 6, 7] 14 20 S TX t get (fun l m c v h => by unfold get at h; split at h <;> simp at h; obtain ⟨rfl, rfl⟩ := h; rfl)
    good μ st sb nn bad .ret (.exit 0) sq (fun c => (sb c (firstB (bad c) (nn c)))) (fun c => (st c (nn c))) (fun _ _ _ => StWk.refl) (fun _ _ _ => StWk.refl)
end Fk

noncomputable abbrev H11 : Hd := ⟨H10.pc, H10.hc, [((138, 0), Fi.L)], H10.mc⟩
theorem h11 : HdOk Try.prog H11 := HdOk.lhCons h10 Fi.ok
noncomputable abbrev H13 : Hd := ⟨H10.pc, H10.hc, [((153, 0), Fk.L)], H10.mc⟩
theorem h13 : HdOk Try.prog H13 := HdOk.lhCons h10 Fk.ok

end Hs
end Go.Proofs.Ytennlgngdjegoaa
/-
  Histories: cuts: cut.Check as a summary.
-/
namespace Go.Proofs.Ytennlgngdjegoaa
open Go Go.Sx Go.RowKit Classical

set_option maxRecDepth 100000
set_option maxHeartbeats 4000000

namespace Hs
open Fo (inSh scSh evSh pcH litK headK allB allB_ok lhsOf lhs_ok)

def relI (h : Hi) : Val := (relR h).1
def relA (h : Hi) : Val := (relR h).2
noncomputable def Grel' : List A1 → Tree (AV × Mem)
  | [.agg [.sl [.int .i64] n ρ, .sl [.int .i64, .int .i64, .sl [.int .u8, .int .u8, .int .u8, .int .u8, .int .u8, .int .u8, .int .u8, .int .u8]] m ω, .sl [.int .i64, .int .i64] q ε]] =>
    let h : Hi := ⟨⟨n, ρ⟩, ⟨m, ω⟩, ⟨q, ε⟩⟩
    .need (dec (fewH h ∧ m ≤ 64)) (.br (hisE h != 0) (.leaf (.tup [.c .nilp, .c (I (hisE h))], [])) (.leaf (.tup [.c (.ptr 0 0), .c (I 0)], [some (199, [I (toInt64 m), I (toInt64 q), .os 1 1, .os 2 1]), some (3, [.row false inSh m (relI h)]), some (3, [.row false inSh m (relA h)])])))
  | _ => .fail
theorem n145' : NcOne Try.prog 137 Grel' := fun args r m hr => n145 args r m (by
  unfold Grel' at hr; split at hr
  · exact hr
  · simp [Tree.sel] at hr)
noncomputable abbrev H10' : Hd := ⟨H8.pc, H8.hc, [], (137, ncG Grel') :: H8.mc⟩
theorem h10' : HdOk Try.prog H10' := h8.mcCons n145'.mc
noncomputable abbrev H14 : Hd := ⟨H10'.pc, H10'.hc, ((147, 0), unrollH Try.prog H13 30 147 0 3) :: lhsOf Try.prog H11 3 [(113, 0)], H10'.mc⟩
theorem h14 : HdOk Try.prog H14 := HdOk.lhCons (lhs_ok h10' h11 3 _) fun _ _ _ hf hc hb => unroll_ok h13 30 147 0 hf hc hb 3

/-! ### cut.Check -/

def zB : Val := .byFst fun _ => Val.ofCs [.bool false]
def KV (k : Nat) (κ : Val) : Val := ((Val.ofFlat 1 [.sl inSh k κ]).at 0).at 0
def iC (h : Hi) (k : Nat) (κ : Val) : Fi.C := ⟨h, h, toInt64 h.w.n, toInt64 h.e.n, h.w.n, relI h, h.w.n, relA h, ⟨(KV k κ).L [], KV k κ⟩, ⟨(KV k κ).L [], KV k κ⟩, toInt64 ((KV k κ).L []), (toInt64 h.w.n).toNat, zB⟩
def mZ (h : Hi) (k : Nat) (κ : Val) : Val := mkS' (KV k κ) zB (Fi.nn (iC h k κ))
def mU (h : Hi) (k : Nat) (κ : Val) : Val := Val.ofFlat 1 [.sl boSh (toInt64 h.w.n).toNat (mZ h k κ)]
def mP (h : Hi) (k : Nat) (κ : Val) : Il := ⟨(((mU h k κ).at 0).at 0).L [], ((mU h k κ).at 0).at 0⟩
def kC (h : Hi) (k : Nat) (κ : Val) : Fk.C := ⟨h, h, toInt64 h.w.n, toInt64 h.e.n, h.w.n, relI h, h.w.n, relA h, (toInt64 h.w.n).toNat, mZ h k κ, 1, mU h k κ, 1, mU h k κ, mP h k κ, mP h k κ, mP h k κ, mP h k κ, mP h k κ, toInt64 (mP h k κ).n, false⟩

noncomputable def cutA (h : Hi) : List (Bool × Bool) := [(dec (fewH h ∧ h.w.n ≤ 64), true), (hisE h != 0, true), (hisE h != 0, true)]
noncomputable def cutB (h : Hi) (k : Nat) (κ : Val) (b : Bool) : List (Bool × Bool) :=
  [(dec (fewH h ∧ h.w.n ≤ 64), true), (hisE h != 0, false), (false, false), (true, true), (true, true), (le 0 (toInt64 h.w.n) && le (toInt64 h.w.n) (toInt64 h.w.n) && le (toInt64 h.w.n * toInt64 1) 140737488355328, true),
   (dec (Fi.good (iC h k κ) ∧ (⟨false, 0, zB⟩ : Fi.V) = Fi.st (iC h k κ) 0), true), (anyB (Fi.bad (iC h k κ)) (Fi.nn (iC h k κ)), b)]
noncomputable def cutK (h : Hi) (k : Nat) (κ : Val) (b : Bool) : List (Bool × Bool) :=
  [(false, false), (true, true), (false, false), (true, true), (true, true), (true, true), (dec (Fk.good (kC h k κ) ∧ (⟨0, false, .ready⟩ : Fk.V) = Fk.st (kC h k κ) 0), true), (anyB (Fk.bad (kC h k κ)) (Fk.nn (kC h k κ)), b)]

theorem pA (h : Hi) (k : Nat) (κ : Val) : (evFn Try.prog H14 20 78 [.agg [.sl inSh h.s.n h.s.ρ, .sl wrSh h.w.n h.w.ρ, .sl evSh h.e.n h.e.ρ], .c (.sl inSh k κ)] []).vals.follow [true, true] = some (cutA h, .one (.c (I (hisE h)))) := by kernel_rfl
theorem pB (h : Hi) (k : Nat) (κ : Val) : (evFn Try.prog H14 20 78 [.agg [.sl inSh h.s.n h.s.ρ, .sl wrSh h.w.n h.w.ρ, .sl evSh h.e.n h.e.ρ], .c (.sl inSh k κ)] []).vals.follow [false, false, true, true, true] =
    some (cutB h k κ true ++ [(true, true)], .one (.c (I 2))) := by kernel_rfl
theorem pC (h : Hi) (k : Nat) (κ : Val) : (evFn Try.prog H14 20 78 [.agg [.sl inSh h.s.n h.s.ρ, .sl wrSh h.w.n h.w.ρ, .sl evSh h.e.n h.e.ρ], .c (.sl inSh k κ)] []).vals.follow [false, false, true, false, false, false, true, true, true, true, true] =
    some (cutB h k κ false ++ (cutK h k κ true ++ [(true, true), (true, true)]), .one (.c (I 27))) := by kernel_rfl
theorem pD (h : Hi) (k : Nat) (κ : Val) : (evFn Try.prog H14 20 78 [.agg [.sl inSh h.s.n h.s.ρ, .sl wrSh h.w.n h.w.ρ, .sl evSh h.e.n h.e.ρ], .c (.sl inSh k κ)] []).vals.follow [false, false, true, false, false, false, true, true, false, false, false, false] =
    some (cutB h k κ false ++ (cutK h k κ false ++ [(false, false), (false, false), (false, false)]), .one (.c (I 0))) := by kernel_rfl

/-- the error of a cut -/
def cutE (h : Hi) (l : Il) : Int := bif hisE h != 0 then hisE h else bif anyB (Fi.bad (iC h l.n l.ρ)) l.n then 2 else bif anyB (Fk.bad (kC h l.n l.ρ)) h.w.n then 27 else 0
noncomputable def Gcut : List A1 → Option (Bool × AV)
  | [.agg [.sl [.int .i64] n ρ, .sl [.int .i64, .int .i64, .sl [.int .u8, .int .u8, .int .u8, .int .u8, .int .u8, .int .u8, .int .u8, .int .u8]] m ω, .sl [.int .i64, .int .i64] q ε], .c (.sl [.int .i64] k κ)] =>
    let h : Hi := ⟨⟨n, ρ⟩, ⟨m, ω⟩, ⟨q, ε⟩⟩
    some (dec ((fewH h ∧ m ≤ 64) ∧ fewN k), .one (.c (I (cutE h ⟨k, κ⟩))))
  | _ => none

theorem okB_app (a b : List (Bool × Bool)) : okB (a ++ b) = (okB a && okB b) := List.all_append ..

theorem cutB_ok {h : Hi} {k : Nat} {κ : Val} (hf : fewH h ∧ h.w.n ≤ 64) (hk : fewN k) (h0 : hisE h = 0) {b : Bool} (hb : anyB (Fi.bad (iC h k κ)) k = b) : okB (cutB h k κ b) = true := by
  have c1 : dec (fewH h ∧ h.w.n ≤ 64) = true := dec_iff.2 hf
  have c2 : (hisE h != 0) = false := by rw [h0]; rfl
  have c3 : (le 0 (toInt64 h.w.n) && le (toInt64 h.w.n) (toInt64 h.w.n) && le (toInt64 h.w.n * toInt64 1) 140737488355328) = true := by
    rw [Bool.and_eq_true, Bool.and_eq_true, le_iff, le_iff, le_iff]
    exact ⟨⟨by show (0 : Int) ≤ (h.w.n : Int); omega, Int.le_refl _⟩, by show (h.w.n : Int) * 1 ≤ _; omega⟩
  have c4 : dec (Fi.good (iC h k κ) ∧ (⟨false, 0, zB⟩ : Fi.V) = Fi.st (iC h k κ) 0) = true := dec_iff.2 ⟨⟨⟨rfl, hk⟩, rfl, rfl⟩, rfl⟩
  have c5 : anyB (Fi.bad (iC h k κ)) (Fi.nn (iC h k κ)) = b := hb
  unfold cutB
  simp only [okB, List.all_cons, List.all_nil, c1, c2, c3, c4, c5]
  cases b <;> rfl
theorem cutK_ok {h : Hi} {k : Nat} {κ : Val} (hm : h.w.n ≤ 64) {b : Bool} (hb : anyB (Fk.bad (kC h k κ)) h.w.n = b) : okB (cutK h k κ b) = true := by
  have e : (toInt64 h.w.n).toNat = h.w.n := Int.toNat_natCast _
  have c4 : dec (Fk.good (kC h k κ) ∧ (⟨0, false, .ready⟩ : Fk.V) = Fk.st (kC h k κ) 0) = true := by
    refine dec_iff.2 ⟨⟨⟨rfl, ?_⟩, ⟨?_, ?_⟩, ?_, ?_, ?_⟩, rfl⟩
    · show (toInt64 h.w.n).toNat ≤ 1000
      omega
    · show (0 : Int) ≤ (h.w.n : Int); omega
    · show (h.w.n : Int) ≤ 1000; omega
    · show (toInt64 h.w.n).toNat ≤ h.w.n; omega
    · show (toInt64 h.w.n).toNat ≤ (toInt64 h.w.n).toNat; omega
    · show (toInt64 h.w.n).toNat ≤ h.w.n; omega
  have c5 : anyB (Fk.bad (kC h k κ)) (Fk.nn (kC h k κ)) = b := hb
  unfold cutK
  simp only [okB, List.all_cons, List.all_nil, c4, c5]
  cases b <;> rfl

theorem p64 : TcOne Try.prog 78 (nG Gcut) := tcOne_of_follow h14 20 78 fun args r hr => by
  unfold Gcut at hr; split at hr
  · rename_i n ρ m ω q ε k κ
    obtain ⟨hp, rfl⟩ := Prod.mk.inj (Option.some.inj hr)
    obtain ⟨hf, hk⟩ := dec_iff.1 hp
    refine ⟨rfl, ?_⟩
    obtain ⟨h, hh⟩ : ∃ h : Hi, h = ⟨⟨n, ρ⟩, ⟨m, ω⟩, ⟨q, ε⟩⟩ := ⟨_, rfl⟩
    have e1 : ([.agg [.sl inSh n ρ, .sl wrSh m ω, .sl evSh q ε], .c (.sl inSh k κ)] : List A1) = [.agg [.sl inSh h.s.n h.s.ρ, .sl wrSh h.w.n h.w.ρ, .sl evSh h.e.n h.e.ρ], .c (.sl inSh k κ)] := by rw [hh]
    have e2 : cutE ⟨⟨n, ρ⟩, ⟨m, ω⟩, ⟨q, ε⟩⟩ ⟨k, κ⟩ = cutE h ⟨k, κ⟩ := by rw [hh]
    have hf : fewH h ∧ h.w.n ≤ 64 := by rw [hh]; exact hf
    show ∃ p cs a, (evFn Try.prog H14 20 78 [.agg [.sl inSh n ρ, .sl wrSh m ω, .sl evSh q ε], .c (.sl inSh k κ)] []).vals.follow p = some (cs, a) ∧ okB cs = true ∧ a = .one (.c (I (cutE ⟨⟨n, ρ⟩, ⟨m, ω⟩, ⟨q, ε⟩⟩ ⟨k, κ⟩)))
    rw [e1, e2]
    cases a1 : hisE h != 0
    · have h0 : hisE h = 0 := by simpa [bne] using a1
      cases a2 : anyB (Fi.bad (iC h k κ)) k
      · cases a3 : anyB (Fk.bad (kC h k κ)) h.w.n
        · refine ⟨_, _, _, pD h k κ, ?_, ?_⟩
          · rw [okB_app, okB_app, cutB_ok hf hk h0 a2, cutK_ok hf.2 a3]; rfl
          · unfold cutE; simp only [a1, a2, a3]; rfl
        · refine ⟨_, _, _, pC h k κ, ?_, ?_⟩
          · rw [okB_app, okB_app, cutB_ok hf hk h0 a2, cutK_ok hf.2 a3]; rfl
          · unfold cutE; simp only [a1, a2, a3]; rfl
      · refine ⟨_, _, _, pB h k κ, ?_, ?_⟩
        · rw [okB_app, cutB_ok hf hk h0 a2]; rfl
        · unfold cutE; simp only [a1, a2]; rfl
    · refine ⟨_, _, _, pA h k κ, ?_, ?_⟩
      · unfold cutA
        simp only [okB, List.all_cons, List.all_nil, a1, dec_iff.2 hf]
        rfl
      · unfold cutE; simp only [a1]; rfl
  · cases hr

noncomputable abbrev H15 : Hd := ⟨(78, nG Gcut) :: H10'.pc, H10'.hc, [], H10'.mc⟩
theorem h15 : HdOk Try.prog H15 := h10'.tcCons p64

end Hs
end Go.Proofs.Ytennlgngdjegoaa
/-
  Losses: the loops of the program and of the reference that look through lists.
-/
namespace Go.Proofs.Ytennlgngdjegoaa
open Go Go.Sx Go.RowKit Classical

set_option maxRecDepth 100000
set_option maxHeartbeats 4000000

namespace Hs
open Fo (inSh scSh evSh pcH litK headK allB allB_ok lhsOf lhs_ok)

namespace Ga
structure C where
  l : Il
  w : Int
  m : Int
structure V where
  r : Int
  i : Int
def S (c : C) (v : V) : St := mkS 19 [(0, .one (.c (.sl inSh c.l.n c.l.ρ))), (1, .one (.c (I c.w))), (4, .one (.c (I v.r))), (7, .one (.c (I c.m))), (8, .one (.c (I v.i)))] []
def bad (c : C) (i : Nat) : Bool := c.w == vI c.l.ρ i
def TX (c : C) (v : V) : Tree (XE × V) := .br (lt v.i (c.m)) (.need (inRange v.i c.l.n) (.br (bad c v.i.toNat) (.leaf (.ret, ⟨v.i, v.i⟩)) (.leaf (.normal, ⟨v.r, w64 (v.i + 1)⟩)))) (.leaf (.exit 0, v))
theorem t (c : C) (v : V) : ((evCode Try.prog H15 (evFn Try.prog H15 10) 114 0 1 (loopBody Try.prog 114 0) (S c v)).bind fun y => gcT [0, 1, 4, 7, 8] 0 y) = (TX c v).bind fun y => .leaf (y.1, S c y.2) := by kernel_rfl
def st (_ : C) (i : Nat) : V := ⟨0, i⟩
def sb (_ : C) (i : Nat) : V := ⟨i, i⟩
def nn (c : C) : Nat := c.l.n
def good (c : C) : Prop := c.m = toInt64 c.l.n ∧ fewN c.l.n
def μ (c : C) (v : V) : Nat := (c.l.n - v.i).toNat
theorem sq (c : C) (h : good c) : Sq (TX c) (μ c) (st c) (sb c) (nn c) (bad c) .ret (.exit 0) := by
  obtain ⟨hm, h⟩ := h
  have hn' : c.l.n ≤ 4611686018427387904 := h
  refine sqF (sn := fun i => ⟨0, w64 ((i : Int) + 1)⟩) (by simp) (by simp) (fun i hi => by show ((c.l.n : Int) - (i : Int)).toNat = c.l.n - i; omega) (fun i hi => ?_) (fun i hi => by rw [wS h hi]; rfl) ?_
  · have hi : i < c.l.n := hi
    refine ⟨fun _ => ⟨inR hi, fun hb => ?_, fun hb => ?_⟩, fun h' => ?_⟩
    · have : bad c i = true := hb
      rw [this]; rfl
    · have : bad c i = false := hb
      rw [this]; rfl
    · have h' : lt (i : Int) (c.m) = false := h'
      rw [hm, ltT hi] at h'; cases h'
  · refine ⟨fun h' => ?_, fun _ => rfl⟩
    have h' : lt (c.l.n : Int) (c.m) = true := h'
    rw [hm, ltFn] at h'; cases h'
def get : List (Nat × AV) → Mem → Option (C × V)
  | [(0, .one (.c (.sl [.int .i64] c_l_n c_l_ρ))), (1, .one (.c (.int .i64 c_w))), (4, .one (.c (.int .i64 v_r))), (7, .one (.c (.int .i64 c_m))), (8, .one (.c (.int .i64 v_i)))], [] =>
    some (⟨⟨c_l_n, c_l_ρ⟩, c_w, c_m⟩, ⟨v_r, v_i⟩)
  | _, _ => none
noncomputable def L : Nat → St → Tree (XE × St) := lqH [0, 1, 4, 7, 8] 0 19 get fun c v => lqT (S c) (good c ∧ v = st c 0) (anyB (bad c) (nn c)) .ret (.exit 0) (sb c (firstB (bad c) (nn c))) (st c (nn c))
theorem ok (fn : Func) (c b : Code) (hf : Try.prog.funcs[114]? = some fn) (hc : fn.body = some c) (hb : nthLoop c 0 = some b) : LoopOk Try.prog b L :=
  lq_ok h15 10 114 0 hf hc hb [0, 1, 4, 7, 8] 0 19 S TX t get (fun l m c v h => by unfold get at h; split at h <;> simp at h; obtain ⟨rfl, rfl⟩ := h; rfl)
    good μ st sb nn bad .ret (.exit 0) sq (fun c => (sb c (firstB (bad c) (nn c)))) (fun c => (st c (nn c))) (fun _ _ _ => StWk.refl) (fun _ _ _ => StWk.refl)
end Ga
namespace Gc
structure C where
  l : Il
  h : Hi
  q : Int
  m : Int
structure V where
  r : Int
  i : Int
def S (c : C) (v : V) : St := mkS 19 [(0, .one (.c (.sl inSh c.l.n c.l.ρ))), (1, .one (.c (.fn (.func 82) [] [.ptr 1 0]))), (4, .one (.c (I v.r))), (7, .one (.c (I c.m))), (8, .one (.c (I v.i)))] [some (75, [.sl inSh c.h.s.n c.h.s.ρ, .sl wrSh c.h.w.n c.h.w.ρ, .sl evSh c.h.e.n c.h.e.ρ]), some (3, [I c.q])]
def bad (c : C) (i : Nat) : Bool := lt (vI c.l.ρ i) 0 || lt c.q (vI c.l.ρ i)
def TX (c : C) (v : V) : Tree (XE × V) := .br (lt v.i (c.m)) (.need (inRange v.i c.l.n) (.br (bad c v.i.toNat) (.leaf (.ret, ⟨v.i, v.i⟩)) (.leaf (.normal, ⟨v.r, w64 (v.i + 1)⟩)))) (.leaf (.exit 0, v))
theorem t (c : C) (v : V) : ((evCode Try.prog H15 (evFn Try.prog H15 10) 116 2 1 (loopBody Try.prog 116 0) (S c v)).bind fun y => gcT [0, 1, 4, 7, 8] 2 y) = (TX c v).bind fun y => .leaf (y.1, S c y.2) := by kernel_rfl
def st (_ : C) (i : Nat) : V := ⟨0, i⟩
def sb (_ : C) (i : Nat) : V := ⟨i, i⟩
def nn (c : C) : Nat := c.l.n
def good (c : C) : Prop := c.m = toInt64 c.l.n ∧ fewN c.l.n
def μ (c : C) (v : V) : Nat := (c.l.n - v.i).toNat
theorem sq (c : C) (h : good c) : Sq (TX c) (μ c) (st c) (sb c) (nn c) (bad c) .ret (.exit 0) := by
  obtain ⟨hm, h⟩ := h
  have hn' : c.l.n ≤ 4611686018427387904 := h
  refine sqF (sn := fun i => ⟨0, w64 ((i : Int) + 1)⟩) (by simp) (by simp) (fun i hi => by show ((c.l.n : Int) - (i : Int)).toNat = c.l.n - i; omega) (fun i hi => ?_) (fun i hi => by rw [wS h hi]; rfl) ?_
  · have hi : i < c.l.n := hi
    refine ⟨fun _ => ⟨inR hi, fun hb => ?_, fun hb => ?_⟩, fun h' => ?_⟩
    · have : bad c i = true := hb
      rw [this]; rfl
    · have : bad c i = false := hb
      rw [this]; rfl
    · have h' : lt (i : Int) (c.m) = false := h'
      rw [hm, ltT hi] at h'; cases h'
  · refine ⟨fun h' => ?_, fun _ => rfl⟩
    have h' : lt (c.l.n : Int) (c.m) = true := h'
    rw [hm, ltFn] at h'; cases h'
def get : List (Nat × AV) → Mem → Option (C × V)
  | [(0, .one (.c (.sl [.int .i64] c_l_n c_l_ρ))), (1, .one (.c (.fn (.func 82) [] [.ptr 1 0]))), (4, .one (.c (.int .i64 v_r))), (7, .one (.c (.int .i64 c_m))), (8, .one (.c (.int .i64 v_i)))], [some (75, [.sl [.int .i64] c_h_s_n c_h_s_ρ, .sl [.int .i64, .int .i64, .sl [.int .u8, .int .u8, .int .u8, .int .u8, .int .u8, .int .u8, .int .u8, .int .u8]] c_h_w_n c_h_w_ρ, .sl [.int .i64, .int .i64] c_h_e_n c_h_e_ρ]), some (3, [.int .i64 c_q])] =>
    some (⟨⟨c_l_n, c_l_ρ⟩, ⟨⟨c_h_s_n, c_h_s_ρ⟩, ⟨c_h_w_n, c_h_w_ρ⟩, ⟨c_h_e_n, c_h_e_ρ⟩⟩, c_q, c_m⟩, ⟨v_r, v_i⟩)
  | _, _ => none
noncomputable def L : Nat → St → Tree (XE × St) := lqH [0, 1, 4, 7, 8] 2 19 get fun c v => lqT (S c) (good c ∧ v = st c 0) (anyB (bad c) (nn c)) .ret (.exit 0) (sb c (firstB (bad c) (nn c))) (st c (nn c))
theorem ok (fn : Func) (c b : Code) (hf : Try.prog.funcs[116]? = some fn) (hc : fn.body = some c) (hb : nthLoop c 0 = some b) : LoopOk Try.prog b L :=
  lq_ok h15 10 116 0 hf hc hb [0, 1, 4, 7, 8] 2 19 S TX t get (fun l m c v h => by unfold get at h; split at h <;> simp at h; obtain ⟨rfl, rfl⟩ := h; rfl)
    good μ st sb nn bad .ret (.exit 0) sq (fun c => (sb c (firstB (bad c) (nn c)))) (fun c => (st c (nn c))) (fun _ _ _ => StWk.refl) (fun _ _ _ => StWk.refl)
end Gc
namespace Ge
structure C where
  l : Il
  x : Int
  y : Int
structure V where
  r : Int
  i : Int
def S (c : C) (v : V) : St := mkS 19 [(0, .one (.c (.sl evSh c.l.n c.l.ρ))), (3, .one (.c (.ptr 0 0))), (4, .one (.c (I v.r))), (5, .one (.c (I v.i)))] [some (171, [I c.x, I c.y])]
def bad (c : C) (i : Nat) : Bool := vI c.l.ρ i == c.x && (vJ c.l.ρ i == c.y && true)
def TX (c : C) (v : V) : Tree (XE × V) := .br (lt v.i (toInt64 c.l.n)) (.need (inRange v.i c.l.n) (.br (bad c v.i.toNat) (.leaf (.ret, ⟨v.i, v.i⟩)) (.leaf (.normal, ⟨v.r, w64 (v.i + 1)⟩)))) (.leaf (.exit 0, v))
def st (_ : C) (i : Nat) : V := ⟨0, i⟩
def sb (_ : C) (i : Nat) : V := ⟨i, i⟩
def nn (c : C) : Nat := c.l.n
def good (c : C) : Prop := fewN c.l.n
def μ (c : C) (v : V) : Nat := (c.l.n - v.i).toNat
theorem sq (c : C) (h : good c) : Sq (TX c) (μ c) (st c) (sb c) (nn c) (bad c) .ret (.exit 0) := by
  have hn' : c.l.n ≤ 4611686018427387904 := h
  refine sqF (sn := fun i => ⟨0, w64 ((i : Int) + 1)⟩) (by simp) (by simp) (fun i hi => by show ((c.l.n : Int) - (i : Int)).toNat = c.l.n - i; omega) (fun i hi => ?_) (fun i hi => by rw [wS h hi]; rfl) ?_
  · have hi : i < c.l.n := hi
    refine ⟨fun _ => ⟨inR hi, fun hb => ?_, fun hb => ?_⟩, fun h' => ?_⟩
    · have : bad c i = true := hb
      rw [this]; rfl
    · have : bad c i = false := hb
      rw [this]; rfl
    · have h' : lt (i : Int) (toInt64 c.l.n) = false := h'
      rw [ltT hi] at h'; cases h'
  · refine ⟨fun h' => ?_, fun _ => rfl⟩
    have h' : lt (c.l.n : Int) (toInt64 c.l.n) = true := h'
    rw [ltFn] at h'; cases h'
def get : List (Nat × AV) → Mem → Option (C × V)
  | [(0, .one (.c (.sl [.int .i64, .int .i64] c_l_n c_l_ρ))), (3, .one (.c (.ptr 0 0))), (4, .one (.c (.int .i64 v_r))), (5, .one (.c (.int .i64 v_i)))], [some (171, [.int .i64 c_x, .int .i64 c_y])] =>
    some (⟨⟨c_l_n, c_l_ρ⟩, c_x, c_y⟩, ⟨v_r, v_i⟩)
  | _, _ => none
noncomputable def L : Nat → St → Tree (XE × St) := lqH [0, 3, 4, 5] 0 19 get fun c v => lqT (S c) (good c ∧ v = st c 0) (anyB (bad c) (nn c)) .ret (.exit 0) (sb c (firstB (bad c) (nn c))) (st c (nn c))
end Ge
namespace Gg
structure C where
  l : Il
  a : Int
structure V where
  f : Bool
  i : Int
def S (c : C) (v : V) : St := mkS 18 [(0, .one (.c (.sl inSh c.l.n c.l.ρ))), (1, .one (.c (I c.a))), (4, .one (.c (.bool v.f))), (5, .one (.c (I v.i)))] []
def bad (c : C) (i : Nat) : Bool := vI c.l.ρ i == c.a
def TX (c : C) (v : V) : Tree (XE × V) := .br (lt v.i (toInt64 c.l.n)) (.need (inRange v.i c.l.n) (.br (bad c v.i.toNat) (.leaf (.ret, ⟨true, v.i⟩)) (.leaf (.normal, ⟨v.f, w64 (v.i + 1)⟩)))) (.leaf (.exit 0, v))
def st (_ : C) (i : Nat) : V := ⟨false, i⟩
def sb (_ : C) (i : Nat) : V := ⟨true, i⟩
def nn (c : C) : Nat := c.l.n
def good (c : C) : Prop := fewN c.l.n
def μ (c : C) (v : V) : Nat := (c.l.n - v.i).toNat
theorem sq (c : C) (h : good c) : Sq (TX c) (μ c) (st c) (sb c) (nn c) (bad c) .ret (.exit 0) := by
  have hn' : c.l.n ≤ 4611686018427387904 := h
  refine sqF (sn := fun i => ⟨false, w64 ((i : Int) + 1)⟩) (by simp) (by simp) (fun i hi => by show ((c.l.n : Int) - (i : Int)).toNat = c.l.n - i; omega) (fun i hi => ?_) (fun i hi => by rw [wS h hi]; rfl) ?_
  · have hi : i < c.l.n := hi
    refine ⟨fun _ => ⟨inR hi, fun hb => ?_, fun hb => ?_⟩, fun h' => ?_⟩
    · have : bad c i = true := hb
      rw [this]; rfl
    · have : bad c i = false := hb
      rw [this]; rfl
    · have h' : lt (i : Int) (toInt64 c.l.n) = false := h'
      rw [ltT hi] at h'; cases h'
  · refine ⟨fun h' => ?_, fun _ => rfl⟩
    have h' : lt (c.l.n : Int) (toInt64 c.l.n) = true := h'
    rw [ltFn] at h'; cases h'
def get : List (Nat × AV) → Mem → Option (C × V)
  | [(0, .one (.c (.sl [.int .i64] c_l_n c_l_ρ))), (1, .one (.c (.int .i64 c_a))), (4, .one (.c (.bool v_f))), (5, .one (.c (.int .i64 v_i)))], [] =>
    some (⟨⟨c_l_n, c_l_ρ⟩, c_a⟩, ⟨v_f, v_i⟩)
  | _, _ => none
noncomputable def L : Nat → St → Tree (XE × St) := lqH [0, 1, 4, 5] 0 18 get fun c v => lqT (S c) (good c ∧ v = st c 0) (anyB (bad c) (nn c)) .ret (.exit 0) (sb c (firstB (bad c) (nn c))) (st c (nn c))
end Gg
namespace Gf
structure C where
  l : Il
  a : Int
structure V where
  f : Bool
  i : Int
def S (c : C) (v : V) : St := mkS 41 [(0, .one (.c (.sl inSh c.l.n c.l.ρ))), (1, .one (.c (I c.a))), (4, .one (.c (.bool v.f))), (5, .one (.c (I v.i)))] []
def bad (c : C) (i : Nat) : Bool := setB c.a c.l.ρ i
def TX (c : C) (v : V) : Tree (XE × V) := .br (lt v.i (toInt64 c.l.n)) (.need (inRange v.i c.l.n) (.need (!((lt (vI c.l.ρ v.i.toNat) 0 == false) && true) || inRange v.i c.l.n) (.need (!(lt 0 v.i == true && ((lt (vI c.l.ρ v.i.toNat) 0 || le c.a (vI c.l.ρ v.i.toNat)) == false && true)) || inRange v.i c.l.n) (.need (!(lt 0 v.i == true && ((lt (vI c.l.ρ v.i.toNat) 0 || le c.a (vI c.l.ρ v.i.toNat)) == false && true)) || inRange (w64 (v.i - 1)) c.l.n) (.br ((lt (vI c.l.ρ v.i.toNat) 0 || le c.a (vI c.l.ρ v.i.toNat)) || (lt 0 v.i && le (vI c.l.ρ v.i.toNat) (vI c.l.ρ (w64 (v.i - 1)).toNat))) (.leaf (.ret, ⟨false, v.i⟩)) (.leaf (.normal, ⟨v.f, w64 (v.i + 1)⟩))))))) (.leaf (.exit 0, v))
def st (_ : C) (i : Nat) : V := ⟨false, i⟩
def sb (_ : C) (i : Nat) : V := ⟨false, i⟩
def nn (c : C) : Nat := c.l.n
def good (c : C) : Prop := fewN c.l.n
def μ (c : C) (v : V) : Nat := (c.l.n - v.i).toNat
theorem sq (c : C) (h : good c) : Sq (TX c) (μ c) (st c) (sb c) (nn c) (bad c) .ret (.exit 0) := by
  have hn' : c.l.n ≤ 4611686018427387904 := h
  refine sqF (sn := fun i => ⟨false, w64 ((i : Int) + 1)⟩) (by simp) (by simp) (fun i hi => by show ((c.l.n : Int) - (i : Int)).toNat = c.l.n - i; omega) (fun i hi => ?_) (fun i hi => by rw [wS h hi]; rfl) ?_
  · have hi : i < c.l.n := hi
    refine ⟨fun _ => ⟨inR hi, ?_, ?_, ?_, fun hb => ?_, fun hb => ?_⟩, fun h' => ?_⟩
    · show (_ || inRange (i : Int) c.l.n) = true; rw [inR (by omega), Bool.or_true]
    · show (_ || inRange (i : Int) c.l.n) = true; rw [inR (by omega), Bool.or_true]
    · show (_ || inRange (w64 ((i : Int) - 1)) c.l.n) = true
      cases h0 : lt 0 (i : Int)
      · have e : (!(lt 0 (i : Int) == true && ((lt (vI c.l.ρ i) 0 || le c.a (vI c.l.ρ i)) == false && true))) = true := by rw [h0]; rfl
        show (!(lt 0 (i : Int) == true && ((lt (vI c.l.ρ i) 0 || le c.a (vI c.l.ρ i)) == false && true)) || _) = true
        rw [e]; rfl
      · rw [lt_iff] at h0
        have e : w64 ((i : Int) - 1) = ((i - 1 : Nat) : Int) := by
          show IntKind.i64.wrap _ = _
          rw [w64_id (by omega) (by omega)]; omega
        rw [e, inR (by omega), Bool.or_true]
    · have : bad c i = true := hb
      rw [this]; rfl
    · have : bad c i = false := hb
      rw [this]; rfl
    · have h' : lt (i : Int) (toInt64 c.l.n) = false := h'
      rw [ltT hi] at h'; cases h'
  · refine ⟨fun h' => ?_, fun _ => rfl⟩
    have h' : lt (c.l.n : Int) (toInt64 c.l.n) = true := h'
    rw [ltFn] at h'; cases h'
def get : List (Nat × AV) → Mem → Option (C × V)
  | [(0, .one (.c (.sl [.int .i64] c_l_n c_l_ρ))), (1, .one (.c (.int .i64 c_a))), (4, .one (.c (.bool v_f))), (5, .one (.c (.int .i64 v_i)))], [] =>
    some (⟨⟨c_l_n, c_l_ρ⟩, c_a⟩, ⟨v_f, v_i⟩)
  | _, _ => none
noncomputable def L : Nat → St → Tree (XE × St) := lqH [0, 1, 4, 5] 0 41 get fun c v => lqT (S c) (good c ∧ v = st c 0) (anyB (bad c) (nn c)) .ret (.exit 0) (sb c (firstB (bad c) (nn c))) (st c (nn c))
end Gf

/-- the error of a write, in the reference -/
def wR (h : Hi) (i : Nat) : Int := fitR h.s.n (vI h.s.ρ) (vI h.w.ρ i) (vJ h.w.ρ i) (vL h.w.ρ 2 i)
namespace Gj
structure C where
  h : Hi
structure V where
  e : Int
  i : Int
def S (c : C) (v : V) : St := mkS 93 [(1, .one (.c (.ptr 0 0))), (2, .one (.c (I v.e))), (4, .one (.c (I v.i)))] [some (75, [.sl inSh c.h.s.n c.h.s.ρ, .sl wrSh c.h.w.n c.h.w.ρ, .sl evSh c.h.e.n c.h.e.ρ])]
def bad (c : C) (i : Nat) : Bool := wR c.h i != 0
def TX (c : C) (v : V) : Tree (XE × V) := .br (lt v.i (toInt64 c.h.w.n)) (.need (inRange v.i c.h.w.n) (.need (true) (.br (bad c v.i.toNat) (.leaf (.ret, ⟨wR c.h v.i.toNat, v.i⟩)) (.leaf (.normal, ⟨v.e, w64 (v.i + 1)⟩))))) (.leaf (.exit 0, v))
def st (_ : C) (i : Nat) : V := ⟨0, i⟩
def sb (c : C) (i : Nat) : V := ⟨wR c.h i, i⟩
def nn (c : C) : Nat := c.h.w.n
def good (c : C) : Prop := fewN c.h.w.n
def μ (c : C) (v : V) : Nat := (c.h.w.n - v.i).toNat
theorem sq (c : C) (h : good c) : Sq (TX c) (μ c) (st c) (sb c) (nn c) (bad c) .ret (.exit 0) := by
  have hn' : c.h.w.n ≤ 4611686018427387904 := h
  refine sqF (sn := fun i => ⟨0, w64 ((i : Int) + 1)⟩) (by simp) (by simp) (fun i hi => by show ((c.h.w.n : Int) - (i : Int)).toNat = c.h.w.n - i; omega) (fun i hi => ?_) (fun i hi => by rw [wS h hi]; rfl) ?_
  · have hi : i < c.h.w.n := hi
    refine ⟨fun _ => ⟨inR hi, ?_, fun hb => ?_, fun hb => ?_⟩, fun h' => ?_⟩
    · rfl
    · have : bad c i = true := hb
      rw [this]; rfl
    · have : bad c i = false := hb
      rw [this]; rfl
    · have h' : lt (i : Int) (toInt64 c.h.w.n) = false := h'
      rw [ltT hi] at h'; cases h'
  · refine ⟨fun h' => ?_, fun _ => rfl⟩
    have h' : lt (c.h.w.n : Int) (toInt64 c.h.w.n) = true := h'
    rw [ltFn] at h'; cases h'
def get : List (Nat × AV) → Mem → Option (C × V)
  | [(1, .one (.c (.ptr 0 0))), (2, .one (.c (.int .i64 v_e))), (4, .one (.c (.int .i64 v_i)))], [some (75, [.sl [.int .i64] c_h_s_n c_h_s_ρ, .sl [.int .i64, .int .i64, .sl [.int .u8, .int .u8, .int .u8, .int .u8, .int .u8, .int .u8, .int .u8, .int .u8]] c_h_w_n c_h_w_ρ, .sl [.int .i64, .int .i64] c_h_e_n c_h_e_ρ])] =>
    some (⟨⟨⟨c_h_s_n, c_h_s_ρ⟩, ⟨c_h_w_n, c_h_w_ρ⟩, ⟨c_h_e_n, c_h_e_ρ⟩⟩⟩, ⟨v_e, v_i⟩)
  | _, _ => none
noncomputable def L : Nat → St → Tree (XE × St) := lqH [1, 2, 4] 0 93 get fun c v => lqT (S c) (good c ∧ v = st c 0) (anyB (bad c) (nn c)) .ret (.exit 0) (sb c (firstB (bad c) (nn c))) (st c (nn c))
end Gj
namespace Gq
structure C where
  h : Hi
structure V where
  f : Bool
  i : Int
def S (c : C) (v : V) : St := mkS 49 [(1, .one (.c (.ptr 0 0))), (2, .one (.c (.bool v.f))), (3, .one (.c (I v.i)))] [some (75, [.sl inSh c.h.s.n c.h.s.ρ, .sl wrSh c.h.w.n c.h.w.ρ, .sl evSh c.h.e.n c.h.e.ρ])]
def bad (c : C) (i : Nat) : Bool := lt 24 (vI c.h.s.ρ i)
def TX (c : C) (v : V) : Tree (XE × V) := .br (lt v.i (toInt64 c.h.s.n)) (.need (inRange v.i c.h.s.n) (.br (bad c v.i.toNat) (.leaf (.ret, ⟨false, v.i⟩)) (.leaf (.normal, ⟨v.f, w64 (v.i + 1)⟩)))) (.leaf (.exit 0, v))
theorem t (c : C) (v : V) : ((evCode Try.prog H15 (evFn Try.prog H15 10) 31 0 1 (loopBody Try.prog 31 0) (S c v)).bind fun y => gcT [1, 2, 3] 0 y) = (TX c v).bind fun y => .leaf (y.1, S c y.2) := by kernel_rfl
def st (_ : C) (i : Nat) : V := ⟨false, i⟩
def sb (_ : C) (i : Nat) : V := ⟨false, i⟩
def nn (c : C) : Nat := c.h.s.n
def good (c : C) : Prop := fewN c.h.s.n
def μ (c : C) (v : V) : Nat := (c.h.s.n - v.i).toNat
theorem sq (c : C) (h : good c) : Sq (TX c) (μ c) (st c) (sb c) (nn c) (bad c) .ret (.exit 0) := by
  have hn' : c.h.s.n ≤ 4611686018427387904 := h
  refine sqF (sn := fun i => ⟨false, w64 ((i : Int) + 1)⟩) (by simp) (by simp) (fun i hi => by show ((c.h.s.n : Int) - (i : Int)).toNat = c.h.s.n - i; omega) (fun i hi => ?_) (fun i hi => by rw [wS h hi]; rfl) ?_
  · have hi : i < c.h.s.n := hi
    refine ⟨fun _ => ⟨inR hi, fun hb => ?_, fun hb => ?_⟩, fun h' => ?_⟩
    · have : bad c i = true := hb
      rw [this]; rfl
    · have : bad c i = false := hb
      rw [this]; rfl
    · have h' : lt (i : Int) (toInt64 c.h.s.n) = false := h'
      rw [ltT hi] at h'; cases h'
  · refine ⟨fun h' => ?_, fun _ => rfl⟩
    have h' : lt (c.h.s.n : Int) (toInt64 c.h.s.n) = true := h'
    rw [ltFn] at h'; cases h'
def get : List (Nat × AV) → Mem → Option (C × V)
  | [(1, .one (.c (.ptr 0 0))), (2, .one (.c (.bool v_f))), (3, .one (.c (.int .i64 v_i)))], [some (75, [.sl [.int .i64] c_h_s_n c_h_s_ρ, .sl [.int .i64, .int .i64, .sl [.int .u8, .int .u8, .int .u8, .int .u8, .int .u8, .int .u8, .int .u8, .int .u8]] c_h_w_n c_h_w_ρ, .sl [.int .i64, .int .i64] c_h_e_n c_h_e_ρ])] =>
    some (⟨⟨⟨c_h_s_n, c_h_s_ρ⟩, ⟨c_h_w_n, c_h_w_ρ⟩, ⟨c_h_e_n, c_h_e_ρ⟩⟩⟩, ⟨v_f, v_i⟩)
  | _, _ => none
noncomputable def L : Nat → St → Tree (XE × St) := lqH [1, 2, 3] 0 49 get fun c v => lqT (S c) (good c ∧ v = st c 0) (anyB (bad c) (nn c)) .ret (.exit 0) (sb c (firstB (bad c) (nn c))) (st c (nn c))
theorem ok (fn : Func) (c b : Code) (hf : Try.prog.funcs[31]? = some fn) (hc : fn.body = some c) (hb : nthLoop c 0 = some b) : LoopOk Try.prog b L :=
  lq_ok h15 10 31 0 hf hc hb [1, 2, 3] 0 49 S TX t get (fun l m c v h => by unfold get at h; split at h <;> simp at h; obtain ⟨rfl, rfl⟩ := h; rfl)
    good μ st sb nn bad .ret (.exit 0) sq (fun c => (sb c (firstB (bad c) (nn c)))) (fun c => (st c (nn c))) (fun _ _ _ => StWk.refl) (fun _ _ _ => StWk.refl)
end Gq
namespace Gr
structure C where
  h : Hi
structure V where
  f : Bool
  i : Int
def S (c : C) (v : V) : St := mkS 49 [(1, .one (.c (.ptr 0 0))), (2, .one (.c (.bool v.f))), (4, .one (.c (I v.i)))] [some (75, [.sl inSh c.h.s.n c.h.s.ρ, .sl wrSh c.h.w.n c.h.w.ρ, .sl evSh c.h.e.n c.h.e.ρ])]
def bad (c : C) (i : Nat) : Bool := lt 30 (toInt64 (vL c.h.w.ρ 2 i))
def TX (c : C) (v : V) : Tree (XE × V) := .br (lt v.i (toInt64 c.h.w.n)) (.need (inRange v.i c.h.w.n) (.br (bad c v.i.toNat) (.leaf (.ret, ⟨false, v.i⟩)) (.leaf (.normal, ⟨v.f, w64 (v.i + 1)⟩)))) (.leaf (.exit 2, v))
theorem t (c : C) (v : V) : ((evCode Try.prog H15 (evFn Try.prog H15 10) 31 0 2 (loopBody Try.prog 31 1) (S c v)).bind fun y => gcT [1, 2, 4] 0 y) = (TX c v).bind fun y => .leaf (y.1, S c y.2) := by kernel_rfl
def st (_ : C) (i : Nat) : V := ⟨false, i⟩
def sb (_ : C) (i : Nat) : V := ⟨false, i⟩
def nn (c : C) : Nat := c.h.w.n
def good (c : C) : Prop := fewN c.h.w.n
def μ (c : C) (v : V) : Nat := (c.h.w.n - v.i).toNat
theorem sq (c : C) (h : good c) : Sq (TX c) (μ c) (st c) (sb c) (nn c) (bad c) .ret (.exit 2) := by
  have hn' : c.h.w.n ≤ 4611686018427387904 := h
  refine sqF (sn := fun i => ⟨false, w64 ((i : Int) + 1)⟩) (by simp) (by simp) (fun i hi => by show ((c.h.w.n : Int) - (i : Int)).toNat = c.h.w.n - i; omega) (fun i hi => ?_) (fun i hi => by rw [wS h hi]; rfl) ?_
  · have hi : i < c.h.w.n := hi
    refine ⟨fun _ => ⟨inR hi, fun hb => ?_, fun hb => ?_⟩, fun h' => ?_⟩
    · have : bad c i = true := hb
      rw [this]; rfl
    · have : bad c i = false := hb
      rw [this]; rfl
    · have h' : lt (i : Int) (toInt64 c.h.w.n) = false := h'
      rw [ltT hi] at h'; cases h'
  · refine ⟨fun h' => ?_, fun _ => rfl⟩
    have h' : lt (c.h.w.n : Int) (toInt64 c.h.w.n) = true := h'
    rw [ltFn] at h'; cases h'
def get : List (Nat × AV) → Mem → Option (C × V)
  | [(1, .one (.c (.ptr 0 0))), (2, .one (.c (.bool v_f))), (4, .one (.c (.int .i64 v_i)))], [some (75, [.sl [.int .i64] c_h_s_n c_h_s_ρ, .sl [.int .i64, .int .i64, .sl [.int .u8, .int .u8, .int .u8, .int .u8, .int .u8, .int .u8, .int .u8, .int .u8]] c_h_w_n c_h_w_ρ, .sl [.int .i64, .int .i64] c_h_e_n c_h_e_ρ])] =>
    some (⟨⟨⟨c_h_s_n, c_h_s_ρ⟩, ⟨c_h_w_n, c_h_w_ρ⟩, ⟨c_h_e_n, c_h_e_ρ⟩⟩⟩, ⟨v_f, v_i⟩)
  | _, _ => none
noncomputable def L : Nat → St → Tree (XE × St) := lqH [1, 2, 4] 0 49 get fun c v => lqT (S c) (good c ∧ v = st c 0) (anyB (bad c) (nn c)) .ret (.exit 2) (sb c (firstB (bad c) (nn c))) (st c (nn c))
theorem ok (fn : Func) (c b : Code) (hf : Try.prog.funcs[31]? = some fn) (hc : fn.body = some c) (hb : nthLoop c 1 = some b) : LoopOk Try.prog b L :=
  lq_ok h15 10 31 1 hf hc hb [1, 2, 4] 0 49 S TX t get (fun l m c v h => by unfold get at h; split at h <;> simp at h; obtain ⟨rfl, rfl⟩ := h; rfl)
    good μ st sb nn bad .ret (.exit 2) sq (fun c => (sb c (firstB (bad c) (nn c)))) (fun c => (st c (nn c))) (fun _ _ _ => StWk.refl) (fun _ _ _ => StWk.refl)
end Gr
namespace Gp
structure C where
  l : Il
  k : Il
structure V where
  f : Bool
  i : Int
def S (c : C) (v : V) : St := mkS 26 [(0, .one (.c (.sl inSh c.l.n c.l.ρ))), (1, .one (.c (.sl inSh c.k.n c.k.ρ))), (4, .one (.c (.bool v.f))), (5, .one (.c (I v.i)))] []
def bad (c : C) (i : Nat) : Bool := vI c.l.ρ i != vI c.k.ρ i
def TX (c : C) (v : V) : Tree (XE × V) := .br (lt v.i (toInt64 c.l.n)) (.need (inRange v.i c.l.n) (.need (inRange v.i c.k.n) (.br (bad c v.i.toNat) (.leaf (.ret, ⟨false, v.i⟩)) (.leaf (.normal, ⟨v.f, w64 (v.i + 1)⟩))))) (.leaf (.exit 0, v))
theorem t (c : C) (v : V) : ((evCode Try.prog H15 (evFn Try.prog H15 10) 76 0 1 (loopBody Try.prog 76 0) (S c v)).bind fun y => gcT [0, 1, 4, 5] 0 y) = (TX c v).bind fun y => .leaf (y.1, S c y.2) := by kernel_rfl
def st (_ : C) (i : Nat) : V := ⟨false, i⟩
def sb (_ : C) (i : Nat) : V := ⟨false, i⟩
def nn (c : C) : Nat := c.l.n
def good (c : C) : Prop := fewN c.l.n ∧ c.l.n = c.k.n
def μ (c : C) (v : V) : Nat := (c.l.n - v.i).toNat
theorem sq (c : C) (h : good c) : Sq (TX c) (μ c) (st c) (sb c) (nn c) (bad c) .ret (.exit 0) := by
  obtain ⟨h, hX⟩ := h
  have hn' : c.l.n ≤ 4611686018427387904 := h
  refine sqF (sn := fun i => ⟨false, w64 ((i : Int) + 1)⟩) (by simp) (by simp) (fun i hi => by show ((c.l.n : Int) - (i : Int)).toNat = c.l.n - i; omega) (fun i hi => ?_) (fun i hi => by rw [wS h hi]; rfl) ?_
  · have hi : i < c.l.n := hi
    refine ⟨fun _ => ⟨inR hi, ?_, fun hb => ?_, fun hb => ?_⟩, fun h' => ?_⟩
    · exact inR (show i < c.k.n by have := hX; omega)
    · have : bad c i = true := hb
      rw [this]; rfl
    · have : bad c i = false := hb
      rw [this]; rfl
    · have h' : lt (i : Int) (toInt64 c.l.n) = false := h'
      rw [ltT hi] at h'; cases h'
  · refine ⟨fun h' => ?_, fun _ => rfl⟩
    have h' : lt (c.l.n : Int) (toInt64 c.l.n) = true := h'
    rw [ltFn] at h'; cases h'
def get : List (Nat × AV) → Mem → Option (C × V)
  | [(0, .one (.c (.sl [.int .i64] c_l_n c_l_ρ))), (1, .one (.c (.sl [.int .i64] c_k_n c_k_ρ))), (4, .one (.c (.bool v_f))), (5, .one (.c (.int .i64 v_i)))], [] =>
    some (⟨⟨c_l_n, c_l_ρ⟩, ⟨c_k_n, c_k_ρ⟩⟩, ⟨v_f, v_i⟩)
  | _, _ => none
noncomputable def L : Nat → St → Tree (XE × St) := lqH [0, 1, 4, 5] 0 26 get fun c v => lqT (S c) (good c ∧ v = st c 0) (anyB (bad c) (nn c)) .ret (.exit 0) (sb c (firstB (bad c) (nn c))) (st c (nn c))
theorem ok (fn : Func) (c b : Code) (hf : Try.prog.funcs[76]? = some fn) (hc : fn.body = some c) (hb : nthLoop c 0 = some b) : LoopOk Try.prog b L :=
  lq_ok h15 10 76 0 hf hc hb [0, 1, 4, 5] 0 26 S TX t get (fun l m c v h => by unfold get at h; split at h <;> simp at h; obtain ⟨rfl, rfl⟩ := h; rfl)
    good μ st sb nn bad .ret (.exit 0) sq (fun c => (sb c (firstB (bad c) (nn c)))) (fun c => (st c (nn c))) (fun _ _ _ => StWk.refl) (fun _ _ _ => StWk.refl)
end Gp
namespace Gb
structure C where
  l : Il
structure V where
  f : Bool
  i : Int
def S (c : C) (v : V) : St := mkS 21 [(0, .one (.c (.sl inSh c.l.n c.l.ρ))), (2, .one (.c (.bool v.f))), (3, .one (.c (I v.i)))] []
def bad (c : C) (i : Nat) : Bool := lt (vI c.l.ρ (c.l.n - 1 - i)) (vI c.l.ρ (c.l.n - 1 - i - 1))
def TX (c : C) (v : V) : Tree (XE × V) :=
  let a := vI c.l.ρ v.i.toNat
  let b := vI c.l.ρ (w64 (v.i - 1)).toNat
  .br (lt 0 v.i) (.need (inRange v.i c.l.n) (.need (inRange (w64 (v.i - 1)) c.l.n) (.br ((a != a) == true) (.br ((a != a && !(b != b)) || lt a b) (.leaf (.ret, ⟨false, v.i⟩)) (.leaf (.normal, ⟨v.f, w64 (v.i - 1)⟩)))
    (.br ((a != a || false) || lt a b) (.leaf (.ret, ⟨false, v.i⟩)) (.leaf (.normal, ⟨v.f, w64 (v.i - 1)⟩)))))) (.leaf (.exit 0, v))
theorem t (c : C) (v : V) : ((evCode Try.prog H15 (evFn Try.prog H15 10) 80 0 1 (loopBody Try.prog 80 0) (S c v)).bind fun y => gcT [0, 2, 3] 0 y) = (TX c v).bind fun y => .leaf (y.1, S c y.2) := by kernel_rfl
def st (c : C) (i : Nat) : V := ⟨false, w64 (toInt64 c.l.n - 1) - i⟩
def sb (c : C) (i : Nat) : V := st c i
def nn (c : C) : Nat := c.l.n - 1
def good (c : C) : Prop := c.l.n ≤ 1000
def μ (_ : C) (v : V) : Nat := v.i.toNat
theorem sq (c : C) (h : good c) : Sq (TX c) (μ c) (st c) (st c) (nn c) (bad c) .ret (.exit 0) := by
  have h : c.l.n ≤ 1000 := h
  have e0 : w64 (toInt64 c.l.n - 1) = (c.l.n : Int) - 1 := by show IntKind.i64.wrap ((c.l.n : Int) - 1) = _; exact w64_id (by omega) (by omega)
  have es : ∀ i, (st c i).i = (c.l.n : Int) - 1 - i := fun i => by show w64 (toInt64 c.l.n - 1) - i = _; rw [e0]
  refine ⟨by simp, by simp, fun i hi => ?_, fun i hi => ?_, ?_⟩
  · have hi : i ≤ c.l.n - 1 := hi
    show (st c i).i.toNat = c.l.n - 1 - i
    rw [es]; omega
  · have hi : i < c.l.n - 1 := hi
    have ei : (st c i).i = ((c.l.n - 1 - i : Nat) : Int) := by rw [es]; omega
    have ej : w64 ((st c i).i - 1) = ((c.l.n - 1 - i - 1 : Nat) : Int) := by
      rw [es]
      show IntKind.i64.wrap _ = _
      rw [w64_id (by omega) (by omega)]; omega
    have eb : ((vI c.l.ρ (st c i).i.toNat != vI c.l.ρ (st c i).i.toNat || false) || lt (vI c.l.ρ (st c i).i.toNat) (vI c.l.ρ (w64 ((st c i).i - 1)).toNat)) = bad c i := by
      rw [ei, ej, Int.toNat_natCast] at *
      unfold bad
      rw [Int.toNat_natCast]
      simp
    refine ⟨fun _ => ⟨?_, ?_, fun hh => ?_, fun _ => ⟨fun hb => ?_, fun hb => ?_⟩⟩, fun hh => ?_⟩
    · rw [ei]; exact inR (by omega)
    · show inRange (w64 ((st c i).i - 1)) c.l.n = true
      rw [ej]; exact inR (by omega)
    · simp at hh
    · have : bad c i = true := by rw [← eb]; exact hb
      rw [this]; rfl
    · have : bad c i = false := by rw [← eb]; exact hb
      rw [this]
      show (XE.normal, (⟨false, w64 ((st c i).i - 1)⟩ : V)) = (XE.normal, st c (i + 1))
      have : w64 ((st c i).i - 1) = w64 (toInt64 c.l.n - 1) - ((i + 1 : Nat) : Int) := by rw [ej, e0]; omega
      rw [this]; rfl
    · have hh : lt 0 (st c i).i = false := hh
      rw [← Bool.not_eq_true, lt_iff, ei] at hh; omega
  · refine ⟨fun hh => ?_, fun _ => rfl⟩
    have hh : lt 0 (st c (c.l.n - 1)).i = true := hh
    rw [lt_iff, es] at hh; omega
def get : List (Nat × AV) → Mem → Option (C × V)
  | [(0, .one (.c (.sl [.int .i64] c_l_n c_l_ρ))), (2, .one (.c (.bool v_f))), (3, .one (.c (.int .i64 v_i)))], [] =>
    some (⟨⟨c_l_n, c_l_ρ⟩⟩, ⟨v_f, v_i⟩)
  | _, _ => none
noncomputable def L : Nat → St → Tree (XE × St) := lqH [0, 2, 3] 0 21 get fun c v => lqT (S c) (good c ∧ v = st c 0) (anyB (bad c) (nn c)) .ret (.exit 0) (sb c (firstB (bad c) (nn c))) (st c (nn c))
theorem ok (fn : Func) (c b : Code) (hf : Try.prog.funcs[80]? = some fn) (hc : fn.body = some c) (hb : nthLoop c 0 = some b) : LoopOk Try.prog b L :=
  lq_ok h15 10 80 0 hf hc hb [0, 2, 3] 0 21 S TX t get (fun l m c v h => by unfold get at h; split at h <;> simp at h; obtain ⟨rfl, rfl⟩ := h; rfl)
    good μ st sb nn bad .ret (.exit 0) sq (fun c => (sb c (firstB (bad c) (nn c)))) (fun c => (st c (nn c))) (fun _ _ _ => StWk.refl) (fun _ _ _ => StWk.refl)
end Gb
namespace Gl
structure C where
  h : Hi
  l : Il
  k : Nat
  σ : Val
  x : Int
structure V where
  f : Bool
  i : Int
def S (c : C) (v : V) : St := mkS 46 [(1, .one (.c (.sl inSh c.l.n c.l.ρ))), (2, .one (.c (.ptr 0 0))), (7, .one (.c (.os 1 1))), (8, .one (.c (I c.x))), (9, .one (.c (.bool v.f))), (10, .one (.c (I v.i)))] [some (75, [.sl inSh c.h.s.n c.h.s.ρ, .sl wrSh c.h.w.n c.h.w.ρ, .sl evSh c.h.e.n c.h.e.ρ]), some (3, [.row false inSh c.k c.σ])]
def TX (c : C) (v : V) : Tree (XE × V) := .br (lt v.i (toInt64 c.l.n)) (.need (!((v.f == false) && true) || inRange v.i c.l.n) (.leaf (.normal, ⟨v.f || vI c.l.ρ v.i.toNat == c.x, w64 (v.i + 1)⟩))) (.leaf (.exit 2, v))
def st (c : C) (i : Nat) : V := ⟨anyB (fun k => vI c.l.ρ k == c.x) i, i⟩
def nn (c : C) : Nat := c.l.n
def good (c : C) : Prop := fewN c.l.n
def μ (c : C) (v : V) : Nat := (c.l.n - v.i).toNat
theorem sq (c : C) (h : good c) : Sq (TX c) (μ c) (st c) (st c) (nn c) (fun _ => false) .ret (.exit 2) := by
  refine sqF (sn := fun i => ⟨anyB (fun k => vI c.l.ρ k == c.x) (i + 1), w64 ((i : Int) + 1)⟩) (by simp) (by simp) (fun i hi => by show ((c.l.n : Int) - (i : Int)).toNat = c.l.n - i; omega) (fun i hi => ?_) (fun i hi => by rw [wS h hi]; rfl) rS
  have hi : i < c.l.n := hi
  refine ⟨fun _ => ⟨?_, rfl⟩, fun h' => ?_⟩
  · show (_ || inRange (i : Int) c.l.n) = true
    rw [inR hi, Bool.or_true]
  · have h' : lt (i : Int) (toInt64 c.l.n) = false := h'
    rw [ltT hi] at h'; cases h'
def get : List (Nat × AV) → Mem → Option (C × V)
  | [(1, .one (.c (.sl [.int .i64] c_l_n c_l_ρ))), (2, .one (.c (.ptr 0 0))), (7, .one (.c (.os 1 1))), (8, .one (.c (.int .i64 c_x))), (9, .one (.c (.bool v_f))), (10, .one (.c (.int .i64 v_i)))], [some (75, [.sl [.int .i64] c_h_s_n c_h_s_ρ, .sl [.int .i64, .int .i64, .sl [.int .u8, .int .u8, .int .u8, .int .u8, .int .u8, .int .u8, .int .u8, .int .u8]] c_h_w_n c_h_w_ρ, .sl [.int .i64, .int .i64] c_h_e_n c_h_e_ρ]), some (3, [.row false [.int .i64] c_k c_σ])] =>
    some (⟨⟨⟨c_h_s_n, c_h_s_ρ⟩, ⟨c_h_w_n, c_h_w_ρ⟩, ⟨c_h_e_n, c_h_e_ρ⟩⟩, ⟨c_l_n, c_l_ρ⟩, c_k, c_σ, c_x⟩, ⟨v_f, v_i⟩)
  | _, _ => none
noncomputable def L : Nat → St → Tree (XE × St) := lqH [1, 2, 7, 8, 9, 10] 0 46 get fun c v => lq1 (S c) (good c ∧ v = st c 0) (.exit 2) (st c (nn c))
end Gl
namespace Gn
structure C where
  t : Il
  q : Int
  l : Il
structure V where
  r : Int
  e : Int
  a : Int
  i : Int
def S (c : C) (v : V) : St := mkS 66 [(2, .one (.c (.sl inSh c.t.n c.t.ρ))), (3, .one (.c (I c.q))), (8, .one (.c (I v.r))), (9, .one (.c (I v.e))), (10, .one (.c (.sl inSh c.l.n c.l.ρ))), (12, .one (.c (I v.a))), (13, .one (.c (I v.i)))] []
def last (c : C) : Nat → Int
  | 0 => 0
  | i + 1 => vI c.t.ρ i
def bad (c : C) (i : Nat) : Bool := lt (vI c.t.ρ i) (last c i) || lt c.q (vI c.t.ρ i)
def TX (c : C) (v : V) : Tree (XE × V) :=
  let x := vI c.t.ρ v.i.toNat
  .br (lt v.i (toInt64 c.t.n)) (.need (inRange v.i c.t.n) (.need (!((lt x v.a == false) && true) || inRange v.i c.t.n) (.br (lt x v.a || lt c.q x) (.leaf (.ret, ⟨0, 24, v.a, v.i⟩)) (.need (inRange v.i c.t.n) (.leaf (.normal, ⟨v.r, v.e, x, w64 (v.i + 1)⟩)))))) (.leaf (.exit 0, v))
def st (c : C) (i : Nat) : V := ⟨0, 0, last c i, i⟩
def sb (c : C) (i : Nat) : V := ⟨0, 24, last c i, i⟩
def nn (c : C) : Nat := c.t.n
def good (c : C) : Prop := fewN c.t.n
def μ (c : C) (v : V) : Nat := (c.t.n - v.i).toNat
theorem sq (c : C) (h : good c) : Sq (TX c) (μ c) (st c) (sb c) (nn c) (bad c) .ret (.exit 0) := by
  refine sqF (sn := fun i => ⟨0, 0, last c (i + 1), w64 ((i : Int) + 1)⟩) (by simp) (by simp) (fun i hi => by show ((c.t.n : Int) - (i : Int)).toNat = c.t.n - i; omega) (fun i hi => ?_) (fun i hi => by rw [wS h hi]; rfl) rS
  have hi : i < c.t.n := hi
  refine ⟨fun _ => ⟨inR hi, ?_, fun hb => ?_, fun hb => ⟨inR hi, ?_⟩⟩, fun h' => ?_⟩
  · show (_ || inRange (i : Int) c.t.n) = true
    rw [inR hi, Bool.or_true]
  · have : bad c i = true := hb
    rw [this]; rfl
  · have : bad c i = false := hb
    rw [this]; rfl
  · have h' : lt (i : Int) (toInt64 c.t.n) = false := h'
    rw [ltT hi] at h'; cases h'
def get : List (Nat × AV) → Mem → Option (C × V)
  | [(2, .one (.c (.sl [.int .i64] c_t_n c_t_ρ))), (3, .one (.c (.int .i64 c_q))), (8, .one (.c (.int .i64 v_r))), (9, .one (.c (.int .i64 v_e))), (10, .one (.c (.sl [.int .i64] c_l_n c_l_ρ))), (12, .one (.c (.int .i64 v_a))), (13, .one (.c (.int .i64 v_i)))], [] =>
    some (⟨⟨c_t_n, c_t_ρ⟩, c_q, ⟨c_l_n, c_l_ρ⟩⟩, ⟨v_r, v_e, v_a, v_i⟩)
  | _, _ => none
noncomputable def L : Nat → St → Tree (XE × St) := lqH [2, 3, 8, 9, 10, 12, 13] 0 66 get fun c v => lqT (S c) (good c ∧ v = st c 0) (anyB (bad c) (nn c)) .ret (.exit 0) (sb c (firstB (bad c) (nn c))) (st c (nn c))
end Gn

noncomputable abbrev H16 : Hd := ⟨H15.pc, H15.hc, [((114, 0), Ga.L), ((80, 0), Gb.L), ((116, 0), Gc.L), ((31, 0), Gq.L), ((31, 1), Gr.L), ((76, 0), Gp.L)], H15.mc⟩
theorem h16 : HdOk Try.prog H16 := HdOk.lhCons (HdOk.lhCons (HdOk.lhCons (HdOk.lhCons (HdOk.lhCons (HdOk.lhCons h15 Gp.ok) Gr.ok) Gq.ok) Gc.ok) Gb.ok) Ga.ok

end Hs
end Go.Proofs.Ytennlgngdjegoaa
/-
  Losses: summaries of what looks through lists.
-/
namespace Go.Proofs.Ytennlgngdjegoaa
open Go Go.Sx Go.RowKit Classical

set_option maxRecDepth 100000
set_option maxHeartbeats 4000000

namespace Hs
open Fo (inSh scSh evSh pcH litK headK allB allB_ok lhsOf lhs_ok)

/-- a truth value: whether a search finds something -/
def bo (b : Bool) : AV := .one (.c (.bool b))
theorem find_all {c b x y z : Bool} (hc : c = true) (h1 : b = true → x = z) (h0 : b = false → y = z) : (Tree.need c (.br b (.leaf (bo x)) (.leaf (bo y)))).All (fun u => u = bo z) :=
  ⟨hc, fun h => by show bo x = bo z; rw [h1 h], fun h => by show bo y = bo z; rw [h0 h]⟩

noncomputable def Ghas : List A1 → Option (Bool × AV)
  | [.c (.sl [.int .i64] n ρ), .c (.int .i64 w)] => some (dec (fewN n), bo (anyB (fun i => w == vI ρ i) n))
  | _ => none
theorem p34 : TcOne Try.prog 79 (nG Ghas) := tcOne_of_tree h16 10 79 fun args r h => by
  unfold Ghas at h; split at h
  · rename_i n ρ w
    obtain ⟨hp, rfl⟩ := Prod.mk.inj (Option.some.inj h)
    have hp := dec_iff.1 hp
    refine ⟨rfl, .need (dec (Ga.good ⟨⟨n, ρ⟩, w, toInt64 n⟩ ∧ (⟨0, 0⟩ : Ga.V) = Ga.st ⟨⟨n, ρ⟩, w, toInt64 n⟩ 0)) (.br (anyB (fun i => w == vI ρ i) n) (.leaf (bo (le 0 ((firstB (fun i => w == vI ρ i) n : Nat) : Int)))) (.leaf (bo false))), by kernel_rfl,
      find_all (dec_iff.2 ⟨⟨rfl, hp⟩, rfl⟩) (fun h => by rw [h, le0_nat]) (fun h => h.symm)⟩
  · cases h
noncomputable def Ghr : List A1 → Option (Bool × AV)
  | [.c (.sl [.int .i64] n ρ), .c (.int .i64 w)] => some (dec (fewN n), bo (anyB (fun i => vI ρ i == w) n))
  | _ => none
/-- where an event stands among the first ones -/
def evQ (ε : Val) (x y : Int) (i : Nat) : Bool := vI ε i == x && (vJ ε i == y && true)
def atI (n : Nat) (ε : Val) (x y : Int) : Int := bif anyB (evQ ε x y) n then ((firstB (evQ ε x y) n : Nat) : Int) else -1
noncomputable def Gat : List A1 → Option (Bool × AV)
  | [.c (.sl [.int .i64, .int .i64] n ρ), .agg [.int .i64 x, .int .i64 y]] => some (dec (fewN n), .one (.c (I (atI n ρ x y))))
  | _ => none
noncomputable def Gset : List A1 → Option (Bool × AV)
  | [.c (.sl [.int .i64] n ρ), .c (.int .i64 a)] => some (dec (fewN n), bo (!(anyB (setB a ρ) n)))
  | _ => none
/-- is the list sorted? -/
def srtB (l : Il) : Bool := !(anyB (Gb.bad ⟨l⟩) (l.n - 1))
noncomputable def Gsrt : List A1 → Option (Bool × AV)
  | [.c (.sl [.int .i64] n ρ)] => some (dec (n ≤ 1000), bo (srtB ⟨n, ρ⟩))
  | _ => none
theorem p66 : TcOne Try.prog 80 (nG Gsrt) := tcOne_of_tree h16 10 80 fun args r h => by
  unfold Gsrt at h; split at h
  · rename_i n ρ
    obtain ⟨hp, rfl⟩ := Prod.mk.inj (Option.some.inj h)
    have hp := dec_iff.1 hp
    refine ⟨rfl, .need (dec (Gb.good ⟨⟨n, ρ⟩⟩ ∧ (⟨false, w64 (toInt64 n - 1)⟩ : Gb.V) = Gb.st ⟨⟨n, ρ⟩⟩ 0)) (.br (anyB (Gb.bad ⟨⟨n, ρ⟩⟩) (n - 1)) (.leaf (bo false)) (.leaf (bo true))), by kernel_rfl,
      find_all (dec_iff.2 ⟨hp, ?_⟩) (fun h => ?_) (fun h => ?_)⟩
    · show (⟨false, w64 (toInt64 n - 1)⟩ : Gb.V) = ⟨false, w64 (toInt64 n - 1) - ((0 : Nat) : Int)⟩
      have : w64 (toInt64 n - 1) - ((0 : Nat) : Int) = w64 (toInt64 n - 1) := by omega
      rw [this]
    · show false = !(anyB (Gb.bad ⟨⟨n, ρ⟩⟩) (n - 1)); rw [h]; rfl
    · show true = !(anyB (Gb.bad ⟨⟨n, ρ⟩⟩) (n - 1)); rw [h]; rfl
  · cases h
/-- is a history small? -/
def fwB (h : Hi) : Bool := !((lt 9 (toInt64 h.s.n) || lt 40 (toInt64 h.w.n)) || lt 90 (toInt64 h.e.n)) && (!(anyB (Gq.bad ⟨h⟩) h.s.n) && !(anyB (Gr.bad ⟨h⟩) h.w.n))
noncomputable def Gfw : List A1 → Option (Bool × AV)
  | [.agg [.sl [.int .i64] n ρ, .sl [.int .i64, .int .i64, .sl [.int .u8, .int .u8, .int .u8, .int .u8, .int .u8, .int .u8, .int .u8, .int .u8]] m ω, .sl [.int .i64, .int .i64] q ε]] => some (true, bo (fwB ⟨⟨n, ρ⟩, ⟨m, ω⟩, ⟨q, ε⟩⟩))
  | _ => none
theorem p20 : TcOne Try.prog 31 (nG Gfw) := tcOne_of_tree h16 10 31 fun args r h => by
  unfold Gfw at h; split at h
  · rename_i n ρ m ω q ε
    obtain ⟨-, rfl⟩ := Prod.mk.inj (Option.some.inj h)
    refine ⟨rfl, .br ((lt 9 (toInt64 n) || lt 40 (toInt64 m)) || lt 90 (toInt64 q)) (.leaf (bo false)) (.need (dec (Gq.good ⟨⟨⟨n, ρ⟩, ⟨m, ω⟩, ⟨q, ε⟩⟩⟩ ∧ (⟨false, 0⟩ : Gq.V) = Gq.st ⟨⟨⟨n, ρ⟩, ⟨m, ω⟩, ⟨q, ε⟩⟩⟩ 0)) (.br (anyB (Gq.bad ⟨⟨⟨n, ρ⟩, ⟨m, ω⟩, ⟨q, ε⟩⟩⟩) n) (.leaf (bo false))
      (.need (dec (Gr.good ⟨⟨⟨n, ρ⟩, ⟨m, ω⟩, ⟨q, ε⟩⟩⟩ ∧ (⟨false, 0⟩ : Gr.V) = Gr.st ⟨⟨⟨n, ρ⟩, ⟨m, ω⟩, ⟨q, ε⟩⟩⟩ 0)) (.br (anyB (Gr.bad ⟨⟨⟨n, ρ⟩, ⟨m, ω⟩, ⟨q, ε⟩⟩⟩) m) (.leaf (bo false)) (.leaf (bo true)))))), by kernel_rfl,
      fun h => ?_, fun h => ?_⟩
    · show bo false = bo (fwB _); unfold fwB; simp only [h]; rfl
    · have h' := h
      rw [Bool.or_eq_false_iff, Bool.or_eq_false_iff, ← Bool.not_eq_true, ← Bool.not_eq_true, lt_iff, lt_iff] at h'
      have a1 : ¬ (9 : Int) < (n : Int) := h'.1.1
      have a2 : ¬ (40 : Int) < (m : Int) := h'.1.2
      refine ⟨dec_iff.2 ⟨by show fewN n; unfold fewN; omega, rfl⟩, fun h1 => ?_, fun h1 => ⟨dec_iff.2 ⟨by show fewN m; unfold fewN; omega, rfl⟩, fun h2 => ?_, fun h2 => ?_⟩⟩
      · show bo false = bo (fwB _); unfold fwB; simp only [h, h1]; rfl
      · show bo false = bo (fwB _); unfold fwB; simp only [h, h1, h2]; rfl
      · show bo true = bo (fwB _); unfold fwB; simp only [h, h1, h2]; rfl
  · cases h
/-- are two lists the same? -/
def smB (a b : Il) : Bool := bif toInt64 a.n != toInt64 b.n then false else !(anyB (Gp.bad ⟨a, b⟩) a.n)
noncomputable def Gsm : List A1 → Option (Bool × AV)
  | [.c (.sl [.int .i64] n ρ), .c (.sl [.int .i64] m ω)] => some (dec (fewN n), bo (smB ⟨n, ρ⟩ ⟨m, ω⟩))
  | _ => none
theorem p25 : TcOne Try.prog 76 (nG Gsm) := tcOne_of_tree h16 10 76 fun args r h => by
  unfold Gsm at h; split at h
  · rename_i n ρ m ω
    obtain ⟨hp, rfl⟩ := Prod.mk.inj (Option.some.inj h)
    have hp := dec_iff.1 hp
    refine ⟨rfl, .br (toInt64 n != toInt64 m) (.leaf (bo false)) (.need (dec (Gp.good ⟨⟨n, ρ⟩, ⟨m, ω⟩⟩ ∧ (⟨false, 0⟩ : Gp.V) = Gp.st ⟨⟨n, ρ⟩, ⟨m, ω⟩⟩ 0)) (.br (anyB (Gp.bad ⟨⟨n, ρ⟩, ⟨m, ω⟩⟩) n) (.leaf (bo false)) (.leaf (bo true)))), by kernel_rfl,
      fun h => ?_, fun h => find_all (dec_iff.2 ⟨⟨hp, ?_⟩, rfl⟩) (fun h1 => ?_) (fun h1 => ?_)⟩
    · show bo false = bo (smB _ _); unfold smB; simp only [h]; rfl
    · have h : toInt64 n = toInt64 m := by simpa [bne] using h
      exact Int.ofNat.inj h
    · unfold smB; simp only [h, h1]; rfl
    · unfold smB; simp only [h, h1]; rfl
  · cases h
noncomputable abbrev H17 : Hd := ⟨(76, nG Gsm) :: (31, nG Gfw) :: (80, nG Gsrt) :: (79, nG Ghas) :: H15.pc, H15.hc, [], H15.mc⟩
theorem h17 : HdOk Try.prog H17 := (((h15.tcCons p34).tcCons p66).tcCons p20).tcCons p25
noncomputable def Gev (k : Int) : List A1 → Option (Bool × AV)
  | [.c (.int .i64 w)] => some (true, .one (.agg [I k, I w]))
  | _ => none
/-- is a write before another one? -/
def befB (h : Hi) (a b : Int) : Bool := bif le 0 (atI h.e.n h.e.ρ 1 a) then lt (atI h.e.n h.e.ρ 1 a) (atI h.e.n h.e.ρ 0 b) else false
noncomputable def Gbef : List A1 → Option (Bool × AV)
  | [.agg [.sl [.int .i64] n ρ, .sl [.int .i64, .int .i64, .sl [.int .u8, .int .u8, .int .u8, .int .u8, .int .u8, .int .u8, .int .u8, .int .u8]] m ω, .sl [.int .i64, .int .i64] q ε], .c (.int .i64 a), .c (.int .i64 b)] => some (dec (fewN q), bo (befB ⟨⟨n, ρ⟩, ⟨m, ω⟩, ⟨q, ε⟩⟩ a b))
  | _ => none
noncomputable abbrev H18 : Hd := ⟨H17.pc, H17.hc, [], H17.mc⟩
theorem h18 : HdOk Try.prog H18 := h17

end Hs
end Go.Proofs.Ytennlgngdjegoaa
/-
  Losses: the loops of Loss; the reference's Check and Closed.
-/
namespace Go.Proofs.Ytennlgngdjegoaa
open Go Go.Sx Go.RowKit Classical

set_option maxRecDepth 100000
set_option maxHeartbeats 4000000

namespace Hs
open Fo (inSh scSh evSh pcH litK headK allB allB_ok lhsOf lhs_ok)

/-- is a number in a list? -/
def inB (l : Il) (x : Int) : Bool := anyB (fun i => x == vI l.ρ i) l.n
/-- the numbers that a list doesn't contain -/
def ls (l : Il) : Nat → Nat × Val
  | 0 => (0, .zero)
  | i + 1 => bif !(inB l i) then ((ls l i).1 + 1, Val.cat (ls l i).1 (ls l i).2 (Val.ofFlat 1 [I i])) else ls l i
theorem ls_le (l : Il) : ∀ i, (ls l i).1 ≤ i
  | 0 => Nat.le_refl _
  | i + 1 => by
    have := ls_le l i
    unfold ls
    cases !(inB l i)
    · show (ls l i).1 ≤ i + 1; omega
    · show (ls l i).1 + 1 ≤ i + 1; omega
namespace Gd
structure C where
  l : Il
  m : Int
structure V where
  k : Nat
  σ : Val
  i : Int
def S (c : C) (v : V) : St := mkS 31 [(1, .one (.c (.sl inSh c.l.n c.l.ρ))), (7, .one (.c (.os 0 1))), (17, .one (.c (I c.m))), (18, .one (.c (I v.i)))] [some (3, [.row false inSh v.k v.σ])]
noncomputable def TX (c : C) (v : V) : Tree (XE × V) := .br (lt v.i c.m) (.need (dec (fewN c.l.n)) (.br (!(inB c.l v.i)) (.need (Nat.ble (((v.k + 1).mul 7).add v.k) 140737488355327) (.leaf (.normal, ⟨v.k + 1, Val.cat v.k v.σ (Val.ofFlat 1 [I v.i]), w64 (v.i + 1)⟩))) (.leaf (.normal, ⟨v.k, v.σ, w64 (v.i + 1)⟩)))) (.leaf (.exit 0, v))
theorem t (c : C) (v : V) : ((evCode Try.prog H18 (evFn Try.prog H18 10) 32 0 1 (loopBody Try.prog 32 0) (S c v)).bind fun y => gcT [1, 7, 17, 18] 0 y) = (TX c v).bind fun y => .leaf (y.1, S c y.2) := by kernel_rfl
def st (c : C) (i : Nat) : V := ⟨(ls c.l i).1, (ls c.l i).2, i⟩
def nn (c : C) : Nat := c.m.toNat
def good (c : C) : Prop := (0 ≤ c.m ∧ c.m ≤ 1000) ∧ fewN c.l.n
def μ (c : C) (v : V) : Nat := (c.m - v.i).toNat
theorem sq (c : C) (h : good c) : Sq (TX c) (μ c) (st c) (st c) (nn c) (fun _ => false) .ret (.exit 0) := by
  obtain ⟨⟨m0, m1⟩, hl⟩ := h
  have em : c.m = toInt64 c.m.toNat := by show c.m = ((c.m.toNat : Nat) : Int); omega
  refine sqF (sn := fun i => { st c (i + 1) with i := w64 ((i : Int) + 1) }) (by simp) (by simp) (fun i hi => by show (c.m - (i : Int)).toNat = c.m.toNat - i; omega) (fun i hi => ?_) (fun i hi => by rw [wS (n := c.m.toNat) (by unfold fewN; omega) hi]; rfl) ?_
  · have hi : i < c.m.toNat := hi
    have hk := ls_le c.l i
    have hS : ls c.l (i + 1) = bif !(inB c.l i) then ((ls c.l i).1 + 1, Val.cat (ls c.l i).1 (ls c.l i).2 (Val.ofFlat 1 [I i])) else ls c.l i := rfl
    refine ⟨fun _ => ⟨dec_iff.2 hl, fun h1 => ⟨Nat.ble_eq_true_of_le (by show (((ls c.l i).1 + 1) * 7 + (ls c.l i).1) ≤ _; omega), ?_⟩, fun h1 => ?_⟩, fun h' => ?_⟩
    · have h1 : (!(inB c.l i)) = true := h1
      show (XE.normal, _) = (XE.normal, _)
      unfold st; rw [hS, h1]; rfl
    · have h1 : (!(inB c.l i)) = false := h1
      show (XE.normal, _) = (XE.normal, _)
      unfold st; rw [hS, h1]; rfl
    · have h' : lt (i : Int) c.m = false := h'
      rw [em, ltT hi] at h'; cases h'
  · refine ⟨fun h' => ?_, fun _ => rfl⟩
    have h' : lt (c.m.toNat : Int) c.m = true := h'
    rw [lt_iff] at h'; omega
def get : List (Nat × AV) → Mem → Option (C × V)
  | [(1, .one (.c (.sl [.int .i64] c_l_n c_l_ρ))), (7, .one (.c (.os 0 1))), (17, .one (.c (.int .i64 c_m))), (18, .one (.c (.int .i64 v_i)))], [some (3, [.row false [.int .i64] v_k v_σ])] =>
    some (⟨⟨c_l_n, c_l_ρ⟩, c_m⟩, ⟨v_k, v_σ, v_i⟩)
  | _, _ => none
noncomputable def L : Nat → St → Tree (XE × St) := ownH [.own 7 3 inSh] (lqH [1, 7, 17, 18] 0 31 get fun c v => lq1 (S c) (good c ∧ v = st c 0) (.exit 0) (st c (nn c)))
theorem ok (fn : Func) (c b : Code) (hf : Try.prog.funcs[32]? = some fn) (hc : fn.body = some c) (hb : nthLoop c 0 = some b) : LoopOk Try.prog b L :=
  ownH_ok [.own 7 3 inSh] (lq1_ok h18 10 32 0 hf hc hb [1, 7, 17, 18] 0 31 S TX t get (fun l m c v h => by unfold get at h; split at h <;> simp at h; obtain ⟨rfl, rfl⟩ := h; rfl)
    good μ st nn (.exit 0) sq (fun c => (st c (nn c))) (fun _ _ => StWk.refl))
end Gd
namespace Gh
structure C where
  l : Il
  h : Hi
  x : Int
  f0 : Bool
structure V where
  f : Bool
  a : Int
def S (c : C) (v : V) : St := mkS 33 [(1, .one (.c (.sl inSh c.l.n c.l.ρ))), (2, .one (.c (.ptr 0 0))), (4, .one (.c (.bool v.f))), (5, .one (.c (I c.x))), (6, .one (.c (I v.a)))] [some (75, [.sl inSh c.h.s.n c.h.s.ρ, .sl wrSh c.h.w.n c.h.w.ρ, .sl evSh c.h.e.n c.h.e.ρ])]
def badX (c : C) (a : Int) : Bool := befB c.h a (vI c.l.ρ c.x.toNat) && !(anyB (fun i => vI c.l.ρ i == a) c.l.n)
noncomputable def TX (c : C) (v : V) : Tree (XE × V) := .br (lt v.a (toInt64 c.h.w.n)) (.need (inRange c.x c.l.n) (.need (dec (fewN c.h.e.n)) (.need (!((befB c.h v.a (vI c.l.ρ c.x.toNat) == true) && true) || dec (fewN c.l.n)) (.br (badX c v.a) (.leaf (.ret, ⟨false, v.a⟩)) (.leaf (.normal, ⟨v.f, w64 (v.a + 1)⟩)))))) (.leaf (.exit 2, v))
def st (c : C) (i : Nat) : V := ⟨c.f0, i⟩
def sb (_ : C) (i : Nat) : V := ⟨false, i⟩
def nn (c : C) : Nat := c.h.w.n
def bad (c : C) (i : Nat) : Bool := badX c i
def good (c : C) : Prop := fewN c.h.w.n ∧ inRange c.x c.l.n = true ∧ fewN c.h.e.n ∧ fewN c.l.n
def μ (c : C) (v : V) : Nat := (c.h.w.n - v.a).toNat
theorem sq (c : C) (h : good c) : Sq (TX c) (μ c) (st c) (sb c) (nn c) (bad c) .ret (.exit 2) := by
  obtain ⟨h1, h2, h3, h4⟩ := h
  refine sqF (sn := fun i => ⟨c.f0, w64 ((i : Int) + 1)⟩) (by simp) (by simp) (fun i hi => by show ((c.h.w.n : Int) - (i : Int)).toNat = c.h.w.n - i; omega) (fun i hi => ?_) (fun i hi => by rw [wS h1 hi]; rfl) rS
  have hi : i < c.h.w.n := hi
  refine ⟨fun _ => ⟨h2, dec_iff.2 h3, ?_, fun hb => ?_, fun hb => ?_⟩, fun h' => ?_⟩
  · show (_ || dec (fewN c.l.n)) = true
    rw [dec_iff.2 h4, Bool.or_true]
  · have : bad c i = true := hb
    rw [this]; rfl
  · have : bad c i = false := hb
    rw [this]; rfl
  · have h' : lt (i : Int) (toInt64 c.h.w.n) = false := h'
    rw [ltT hi] at h'; cases h'
def get : List (Nat × AV) → Mem → Option (C × V)
  | [(1, .one (.c (.sl [.int .i64] c_l_n c_l_ρ))), (2, .one (.c (.ptr 0 0))), (4, .one (.c (.bool v_f))), (5, .one (.c (.int .i64 c_x))), (6, .one (.c (.int .i64 v_a)))], [some (75, [.sl [.int .i64] c_h_s_n c_h_s_ρ, .sl [.int .i64, .int .i64, .sl [.int .u8, .int .u8, .int .u8, .int .u8, .int .u8, .int .u8, .int .u8, .int .u8]] c_h_w_n c_h_w_ρ, .sl [.int .i64, .int .i64] c_h_e_n c_h_e_ρ])] =>
    some (⟨⟨c_l_n, c_l_ρ⟩, ⟨⟨c_h_s_n, c_h_s_ρ⟩, ⟨c_h_w_n, c_h_w_ρ⟩, ⟨c_h_e_n, c_h_e_ρ⟩⟩, c_x, v_f⟩, ⟨v_f, v_a⟩)
  | _, _ => none
noncomputable def L : Nat → St → Tree (XE × St) := lqH [1, 2, 4, 5, 6] 0 33 get fun c v => lqT (S c) (good c ∧ v = st c 0) (anyB (bad c) (nn c)) .ret (.exit 2) (sb c (firstB (bad c) (nn c))) (st c (nn c))
end Gh

/-- how many writes the reference has seen -/
def ik (ε : Val) : Nat → Int
  | 0 => 0
  | i + 1 => bif vI ε i == 0 then w64 (ik ε i + 1) else ik ε i
/-- the error of an event, in the reference -/
def eR (nw : Nat) (ε : Val) (i : Nat) : Int :=
  bif vI ε i == 0 then (bif vJ ε i != ik ε i || le (toInt64 nw) (ik ε i) then 3 else 0) else bif vI ε i != 1 then 3 else bif lt (atI i ε 0 (vJ ε i)) 0 then 7 else bif le 0 (atI i ε (vI ε i) (vJ ε i)) then 8 else 0
namespace Gk
structure C where
  h : Hi
structure V where
  e : Int
  k : Int
  i : Int
def S (c : C) (v : V) : St := mkS 93 [(1, .one (.c (.ptr 0 0))), (2, .one (.c (I v.e))), (6, .one (.c (I v.k))), (7, .one (.c (I v.i)))] [some (75, [.sl inSh c.h.s.n c.h.s.ρ, .sl wrSh c.h.w.n c.h.w.ρ, .sl evSh c.h.e.n c.h.e.ρ])]
noncomputable def TX (c : C) (v : V) : Tree (XE × V) :=
  let ε := c.h.e.ρ
  let K := vI ε v.i.toNat
  let W := vJ ε v.i.toNat
  .br (lt v.i (toInt64 c.h.e.n)) (.need (inRange v.i c.h.e.n) (.br (K == 0) (.br (W != v.k || le (toInt64 c.h.w.n) v.k) (.leaf (.ret, ⟨3, v.k, v.i⟩)) (.leaf (.normal, ⟨v.e, w64 (v.k + 1), w64 (v.i + 1)⟩)))
    (.br (K != 1) (.leaf (.ret, ⟨3, v.k, v.i⟩)) (.need (le 0 v.i && le v.i (toInt64 c.h.e.n)) (.need true (.need (dec (fewN v.i.toNat)) (.br (lt (atI v.i.toNat ε 0 W) 0) (.leaf (.ret, ⟨7, v.k, v.i⟩))
      (.need (le 0 v.i && le v.i (toInt64 c.h.e.n)) (.need (dec (fewN v.i.toNat)) (.br (le 0 (atI v.i.toNat ε K W)) (.leaf (.ret, ⟨8, v.k, v.i⟩)) (.leaf (.normal, ⟨v.e, v.k, w64 (v.i + 1)⟩)))))))))))) (.leaf (.exit 2, v))
def er (c : C) (i : Nat) : Int := eR c.h.w.n c.h.e.ρ i
def st (c : C) (i : Nat) : V := ⟨0, ik c.h.e.ρ i, i⟩
def sb (c : C) (i : Nat) : V := ⟨er c i, ik c.h.e.ρ i, i⟩
def nn (c : C) : Nat := c.h.e.n
def bad (c : C) (i : Nat) : Bool := er c i != 0
def good (c : C) : Prop := c.h.e.n ≤ 1000
def μ (c : C) (v : V) : Nat := (c.h.e.n - v.i).toNat
theorem sq (c : C) (h : good c) : Sq (TX c) (μ c) (st c) (sb c) (nn c) (bad c) .ret (.exit 2) := by
  obtain ⟨h0⟩ := c
  have h : h0.e.n ≤ 1000 := h
  refine sqF (sn := fun i => { st ⟨h0⟩ (i + 1) with i := w64 ((i : Int) + 1) }) (by simp) (by simp) (fun i hi => by show ((h0.e.n : Int) - (i : Int)).toNat = h0.e.n - i; omega) (fun i hi => ?_) (fun i hi => by rw [wS (n := h0.e.n) (by unfold fewN; omega) hi]; rfl) rS
  have hi : i < h0.e.n := hi
  have c1 : (le 0 (i : Int) && le (i : Int) (toInt64 h0.e.n)) = true := by rw [Bool.and_eq_true, le_iff, le_iff]; exact ⟨by omega, by show (i : Int) ≤ (h0.e.n : Int); omega⟩
  have c2 : dec (fewN (i : Int).toNat) = true := dec_iff.2 (by unfold fewN; omega)
  have hB : bad ⟨h0⟩ i = (eR h0.w.n h0.e.ρ i != 0) := rfl
  have hE : er ⟨h0⟩ i = eR h0.w.n h0.e.ρ i := rfl
  have hS : ik h0.e.ρ (i + 1) = bif vI h0.e.ρ i == 0 then w64 (ik h0.e.ρ i + 1) else ik h0.e.ρ i := rfl
  refine ⟨fun _ => ⟨inR hi, fun h1 => ⟨fun h2 => ?_, fun h2 => ?_⟩, fun h1 => ⟨fun h2 => ?_, fun h2 => ⟨c1, rfl, c2, fun h3 => ?_, fun h3 => ⟨c1, c2, fun h4 => ?_, fun h4 => ?_⟩⟩⟩⟩, fun h' => ?_⟩
  · have h1 : (vI h0.e.ρ i == 0) = true := h1
    have h2 : (vJ h0.e.ρ i != ik h0.e.ρ i || le (toInt64 h0.w.n) (ik h0.e.ρ i)) = true := h2
    have e : eR h0.w.n h0.e.ρ i = 3 := by unfold eR; rw [h1, h2]; rfl
    rw [hB, e]
    show (XE.ret, _) = (XE.ret, sb _ i)
    unfold sb; rw [hE, e]; rfl
  · have h1 : (vI h0.e.ρ i == 0) = true := h1
    have h2 : (vJ h0.e.ρ i != ik h0.e.ρ i || le (toInt64 h0.w.n) (ik h0.e.ρ i)) = false := h2
    have e : eR h0.w.n h0.e.ρ i = 0 := by unfold eR; rw [h1, h2]; rfl
    rw [hB, e]
    show (XE.normal, _) = (XE.normal, _)
    unfold st; rw [hS, h1]; rfl
  · have h1 : (vI h0.e.ρ i == 0) = false := h1
    have h2 : (vI h0.e.ρ i != 1) = true := h2
    have e : eR h0.w.n h0.e.ρ i = 3 := by unfold eR; rw [h1, h2]; rfl
    rw [hB, e]
    show (XE.ret, _) = (XE.ret, sb _ i)
    unfold sb; rw [hE, e]; rfl
  · have h1 : (vI h0.e.ρ i == 0) = false := h1
    have h2 : (vI h0.e.ρ i != 1) = false := h2
    have h3 : lt (atI i h0.e.ρ 0 (vJ h0.e.ρ i)) 0 = true := h3
    have e : eR h0.w.n h0.e.ρ i = 7 := by unfold eR; rw [h1, h2, h3]; rfl
    rw [hB, e]
    show (XE.ret, _) = (XE.ret, sb _ i)
    unfold sb; rw [hE, e]; rfl
  · have h1 : (vI h0.e.ρ i == 0) = false := h1
    have h2 : (vI h0.e.ρ i != 1) = false := h2
    have h3 : lt (atI i h0.e.ρ 0 (vJ h0.e.ρ i)) 0 = false := h3
    have h4 : le 0 (atI i h0.e.ρ (vI h0.e.ρ i) (vJ h0.e.ρ i)) = true := h4
    have e : eR h0.w.n h0.e.ρ i = 8 := by unfold eR; rw [h1, h2, h3, h4]; rfl
    rw [hB, e]
    show (XE.ret, _) = (XE.ret, sb _ i)
    unfold sb; rw [hE, e]; rfl
  · have h1 : (vI h0.e.ρ i == 0) = false := h1
    have h2 : (vI h0.e.ρ i != 1) = false := h2
    have h3 : lt (atI i h0.e.ρ 0 (vJ h0.e.ρ i)) 0 = false := h3
    have h4 : le 0 (atI i h0.e.ρ (vI h0.e.ρ i) (vJ h0.e.ρ i)) = false := h4
    have e : eR h0.w.n h0.e.ρ i = 0 := by unfold eR; rw [h1, h2, h3, h4]; rfl
    rw [hB, e]
    show (XE.normal, _) = (XE.normal, _)
    unfold st; rw [hS, h1]; rfl
  · have h' : lt (i : Int) (toInt64 h0.e.n) = false := h'
    rw [ltT hi] at h'; cases h'
def get : List (Nat × AV) → Mem → Option (C × V)
  | [(1, .one (.c (.ptr 0 0))), (2, .one (.c (.int .i64 v_e))), (6, .one (.c (.int .i64 v_k))), (7, .one (.c (.int .i64 v_i)))], [some (75, [.sl [.int .i64] c_h_s_n c_h_s_ρ, .sl [.int .i64, .int .i64, .sl [.int .u8, .int .u8, .int .u8, .int .u8, .int .u8, .int .u8, .int .u8, .int .u8]] c_h_w_n c_h_w_ρ, .sl [.int .i64, .int .i64] c_h_e_n c_h_e_ρ])] =>
    some (⟨⟨⟨c_h_s_n, c_h_s_ρ⟩, ⟨c_h_w_n, c_h_w_ρ⟩, ⟨c_h_e_n, c_h_e_ρ⟩⟩⟩, ⟨v_e, v_k, v_i⟩)
  | _, _ => none
noncomputable def L : Nat → St → Tree (XE × St) := lqH [1, 2, 6, 7] 0 93 get fun c v => lqT (S c) (good c ∧ v = st c 0) (anyB (bad c) (nn c)) .ret (.exit 2) (sb c (firstB (bad c) (nn c))) (st c (nn c))
end Gk

end Hs
end Go.Proofs.Ytennlgngdjegoaa
/-
  Losses: Closed and Loss of the reference.
-/
namespace Go.Proofs.Ytennlgngdjegoaa
open Go Go.Sx Go.RowKit Classical

set_option maxRecDepth 100000
set_option maxHeartbeats 4000000

namespace Hs
open Fo (inSh scSh evSh pcH litK headK allB allB_ok lhsOf lhs_ok)

theorem in_comm (l : Il) (x : Int) : anyB (fun k => vI l.ρ k == x) l.n = inB l x := by
  unfold inB
  congr 1
  funext i
  rw [Bool.eq_iff_iff, beq_iff_eq, beq_iff_eq]
  exact eq_comm
namespace Gi
structure C where
  l : Il
  h : Hi
structure V where
  f : Bool
  i : Int
def S (c : C) (v : V) : St := mkS 33 [(1, .one (.c (.sl inSh c.l.n c.l.ρ))), (2, .one (.c (.ptr 0 0))), (4, .one (.c (.bool v.f))), (5, .one (.c (I v.i)))] [some (75, [.sl inSh c.h.s.n c.h.s.ρ, .sl wrSh c.h.w.n c.h.w.ρ, .sl evSh c.h.e.n c.h.e.ρ])]
def jc (c : C) (v : V) : Gh.C := ⟨c.l, c.h, v.i, v.f⟩
noncomputable def TX (c : C) (v : V) : Tree (XE × V) := .br (lt v.i (toInt64 c.l.n)) (.need (dec (Gh.good (jc c v) ∧ (⟨v.f, 0⟩ : Gh.V) = Gh.st (jc c v) 0)) (.br (anyB (Gh.bad (jc c v)) c.h.w.n) (.leaf (.ret, ⟨false, v.i⟩)) (.leaf (.normal, ⟨v.f, w64 (v.i + 1)⟩)))) (.leaf (.exit 0, v))
def st (_ : C) (i : Nat) : V := ⟨false, i⟩
def sb (c : C) (i : Nat) : V := st c i
def nn (c : C) : Nat := c.l.n
def bad (c : C) (i : Nat) : Bool := anyB (fun a => befB c.h a (vI c.l.ρ i) && !(anyB (fun k => vI c.l.ρ k == (a : Int)) c.l.n)) c.h.w.n
def good (c : C) : Prop := fewN c.l.n ∧ fewN c.h.w.n ∧ fewN c.h.e.n
def μ (c : C) (v : V) : Nat := (c.l.n - v.i).toNat
theorem sq (c : C) (h : good c) : Sq (TX c) (μ c) (st c) (st c) (nn c) (bad c) .ret (.exit 0) := by
  obtain ⟨h1, h2, h3⟩ := h
  refine sqF (sn := fun i => ⟨false, w64 ((i : Int) + 1)⟩) (by simp) (by simp) (fun i hi => by show ((c.l.n : Int) - (i : Int)).toNat = c.l.n - i; omega) (fun i hi => ?_) (fun i hi => by rw [wS h1 hi]; rfl) rS
  have hi : i < c.l.n := hi
  refine ⟨fun _ => ⟨dec_iff.2 ⟨⟨h2, inR hi, h3, h1⟩, rfl⟩, fun hb => ?_, fun hb => ?_⟩, fun h' => ?_⟩
  · have : bad c i = true := hb
    rw [this]; rfl
  · have : bad c i = false := hb
    rw [this]; rfl
  · have h' : lt (i : Int) (toInt64 c.l.n) = false := h'
    rw [ltT hi] at h'; cases h'
def get : List (Nat × AV) → Mem → Option (C × V)
  | [(1, .one (.c (.sl [.int .i64] c_l_n c_l_ρ))), (2, .one (.c (.ptr 0 0))), (4, .one (.c (.bool v_f))), (5, .one (.c (.int .i64 v_i)))], [some (75, [.sl [.int .i64] c_h_s_n c_h_s_ρ, .sl [.int .i64, .int .i64, .sl [.int .u8, .int .u8, .int .u8, .int .u8, .int .u8, .int .u8, .int .u8, .int .u8]] c_h_w_n c_h_w_ρ, .sl [.int .i64, .int .i64] c_h_e_n c_h_e_ρ])] =>
    some (⟨⟨c_l_n, c_l_ρ⟩, ⟨⟨c_h_s_n, c_h_s_ρ⟩, ⟨c_h_w_n, c_h_w_ρ⟩, ⟨c_h_e_n, c_h_e_ρ⟩⟩⟩, ⟨v_f, v_i⟩)
  | _, _ => none
noncomputable def L : Nat → St → Tree (XE × St) := lqH [1, 2, 4, 5] 0 33 get fun c v => lqT (S c) (good c ∧ v = st c 0) (anyB (bad c) (nn c)) .ret (.exit 0) (sb c (firstB (bad c) (nn c))) (st c (nn c))
end Gi
namespace Gm
structure C where
  l : Il
  h : Hi
structure V where
  k : Nat
  σ : Val
  i : Int
def S (c : C) (v : V) : St := mkS 46 [(1, .one (.c (.sl inSh c.l.n c.l.ρ))), (2, .one (.c (.ptr 0 0))), (7, .one (.c (.os 1 1))), (8, .one (.c (I v.i)))] [some (75, [.sl inSh c.h.s.n c.h.s.ρ, .sl wrSh c.h.w.n c.h.w.ρ, .sl evSh c.h.e.n c.h.e.ρ]), some (3, [.row false inSh v.k v.σ])]
def jc (c : C) (v : V) : Gl.C := ⟨c.h, c.l, v.k, v.σ, v.i⟩
noncomputable def TX (c : C) (v : V) : Tree (XE × V) := .br (lt v.i (toInt64 c.h.w.n)) (.need (dec (Gl.good (jc c v) ∧ (⟨false, 0⟩ : Gl.V) = Gl.st (jc c v) 0)) (.br (!(anyB (fun k => vI c.l.ρ k == v.i) c.l.n)) (.need (Nat.ble (((v.k + 1).mul 7).add v.k) 140737488355327) (.leaf (.normal, ⟨v.k + 1, Val.cat v.k v.σ (Val.ofFlat 1 [I v.i]), w64 (v.i + 1)⟩))) (.leaf (.normal, ⟨v.k, v.σ, w64 (v.i + 1)⟩)))) (.leaf (.exit 0, v))
def st (c : C) (i : Nat) : V := ⟨(ls c.l i).1, (ls c.l i).2, i⟩
def nn (c : C) : Nat := c.h.w.n
def good (c : C) : Prop := c.h.w.n ≤ 1000 ∧ fewN c.l.n
def μ (c : C) (v : V) : Nat := (c.h.w.n - v.i).toNat
theorem sq (c : C) (h : good c) : Sq (TX c) (μ c) (st c) (st c) (nn c) (fun _ => false) .ret (.exit 0) := by
  obtain ⟨hn, hl⟩ := h
  refine sqF (sn := fun i => { st c (i + 1) with i := w64 ((i : Int) + 1) }) (by simp) (by simp) (fun i hi => by show ((c.h.w.n : Int) - (i : Int)).toNat = c.h.w.n - i; omega) (fun i hi => ?_) (fun i hi => by rw [wS (n := c.h.w.n) (by unfold fewN; omega) hi]; rfl) rS
  have hi : i < c.h.w.n := hi
  have hk := ls_le c.l i
  have hS : ls c.l (i + 1) = bif !(inB c.l i) then ((ls c.l i).1 + 1, Val.cat (ls c.l i).1 (ls c.l i).2 (Val.ofFlat 1 [I i])) else ls c.l i := rfl
  refine ⟨fun _ => ⟨dec_iff.2 ⟨hl, rfl⟩, fun h1 => ⟨Nat.ble_eq_true_of_le (by show (((ls c.l i).1 + 1) * 7 + (ls c.l i).1) ≤ _; omega), ?_⟩, fun h1 => ?_⟩, fun h' => ?_⟩
  · have h1 : (!(anyB (fun k => vI c.l.ρ k == (i : Int)) c.l.n)) = true := h1
    rw [in_comm] at h1
    show (XE.normal, _) = (XE.normal, _)
    unfold st; rw [hS, h1]; rfl
  · have h1 : (!(anyB (fun k => vI c.l.ρ k == (i : Int)) c.l.n)) = false := h1
    rw [in_comm] at h1
    show (XE.normal, _) = (XE.normal, _)
    unfold st; rw [hS, h1]; rfl
  · have h' : lt (i : Int) (toInt64 c.h.w.n) = false := h'
    rw [ltT hi] at h'; cases h'
def get : List (Nat × AV) → Mem → Option (C × V)
  | [(1, .one (.c (.sl [.int .i64] c_l_n c_l_ρ))), (2, .one (.c (.ptr 0 0))), (7, .one (.c (.os 1 1))), (8, .one (.c (.int .i64 v_i)))], [some (75, [.sl [.int .i64] c_h_s_n c_h_s_ρ, .sl [.int .i64, .int .i64, .sl [.int .u8, .int .u8, .int .u8, .int .u8, .int .u8, .int .u8, .int .u8, .int .u8]] c_h_w_n c_h_w_ρ, .sl [.int .i64, .int .i64] c_h_e_n c_h_e_ρ]), some (3, [.row false [.int .i64] v_k v_σ])] =>
    some (⟨⟨c_l_n, c_l_ρ⟩, ⟨⟨c_h_s_n, c_h_s_ρ⟩, ⟨c_h_w_n, c_h_w_ρ⟩, ⟨c_h_e_n, c_h_e_ρ⟩⟩⟩, ⟨v_k, v_σ, v_i⟩)
  | _, _ => none
noncomputable def L : Nat → St → Tree (XE × St) := ownH [.own 7 3 inSh] (lqH [1, 2, 7, 8] 0 46 get fun c v => lq1 (S c) (good c ∧ v = st c 0) (.exit 0) (st c (nn c)))
end Gm

/-- the error of a history, in the reference -/
def rfE (h : Hi) : Int :=
  bif szE h.s != 0 then szE h.s else bif lt 4096 (toInt64 h.w.n) then 6 else bif anyB (Gj.bad ⟨h⟩) h.w.n then wR h (firstB (Gj.bad ⟨h⟩) h.w.n)
  else bif anyB (Gk.bad ⟨h⟩) h.e.n then Gk.er ⟨h⟩ (firstB (Gk.bad ⟨h⟩) h.e.n) else bif lt (ik h.e.ρ h.e.n) (toInt64 h.w.n) then 3 else 0
def in1 (x : Int) : AV := .one (.c (I x))
noncomputable def Grc : List A1 → Option (Bool × AV)
  | [.agg [.sl [.int .i64] n ρ, .sl [.int .i64, .int .i64, .sl [.int .u8, .int .u8, .int .u8, .int .u8, .int .u8, .int .u8, .int .u8, .int .u8]] m ω, .sl [.int .i64, .int .i64] q ε]] => some (dec (fewH ⟨⟨n, ρ⟩, ⟨m, ω⟩, ⟨q, ε⟩⟩), in1 (rfE ⟨⟨n, ρ⟩, ⟨m, ω⟩, ⟨q, ε⟩⟩))
  | _ => none
/-- is a set closed, in the reference? -/
def rclB (h : Hi) (l : Il) : Bool := !(anyB (Gi.bad ⟨l, h⟩) l.n)
noncomputable def Grcl : List A1 → Option (Bool × AV)
  | [.agg [.sl [.int .i64] n ρ, .sl [.int .i64, .int .i64, .sl [.int .u8, .int .u8, .int .u8, .int .u8, .int .u8, .int .u8, .int .u8, .int .u8]] m ω, .sl [.int .i64, .int .i64] q ε], .c (.sl [.int .i64] k κ)] => some (dec (fewH ⟨⟨n, ρ⟩, ⟨m, ω⟩, ⟨q, ε⟩⟩ ∧ fewN k), bo (rclB ⟨⟨n, ρ⟩, ⟨m, ω⟩, ⟨q, ε⟩⟩ ⟨k, κ⟩))
  | _ => none
theorem few1000 {n : Nat} (h : n ≤ 1000) : fewN n := by unfold fewN; omega
noncomputable abbrev H22 : Hd := ⟨H18.pc, H18.hc, [((32, 0), Gd.L), ((116, 0), Gc.L)], H18.mc⟩
theorem h22 : HdOk Try.prog H22 := HdOk.lhCons (HdOk.lhCons h18 Gc.ok) Gd.ok

end Hs
end Go.Proofs.Ytennlgngdjegoaa
/-
  Losses: Closed, the check of a cut and Loss in the reference, Loss in the program.
-/
namespace Go.Proofs.Ytennlgngdjegoaa
open Go Go.Sx Go.RowKit Classical

set_option maxRecDepth 100000
set_option maxHeartbeats 4000000

namespace Hs
open Fo (inSh scSh evSh pcH litK headK allB allB_ok lhsOf lhs_ok)

/-- is a list a closed set of writes of a correct history, in the reference? -/
def rcsB (h : Hi) (l : Il) : Bool := (rfE h == 0 && !(anyB (setB (toInt64 h.w.n) l.ρ) l.n)) && rclB h l
noncomputable def Gcs : List A1 → Option (Bool × AV)
  | [.agg [.sl [.int .i64] n ρ, .sl [.int .i64, .int .i64, .sl [.int .u8, .int .u8, .int .u8, .int .u8, .int .u8, .int .u8, .int .u8, .int .u8]] m ω, .sl [.int .i64, .int .i64] q ε], .c (.sl [.int .i64] k κ)] => some (dec (fewH ⟨⟨n, ρ⟩, ⟨m, ω⟩, ⟨q, ε⟩⟩ ∧ fewN k), bo (rcsB ⟨⟨n, ρ⟩, ⟨m, ω⟩, ⟨q, ε⟩⟩ ⟨k, κ⟩))
  | _ => none
noncomputable abbrev H23 : Hd := ⟨H22.pc, H22.hc, H22.lh, H22.mc⟩
theorem h22b : HdOk Try.prog ⟨H18.pc, H18.hc, [], H18.mc⟩ := h18
theorem h23 : HdOk Try.prog H23 := HdOk.lhCons (HdOk.lhCons h22b Gc.ok) Gd.ok

/-- the error of a cut, in the reference -/
def rctE (h : Hi) (l : Il) : Int := bif rfE h != 0 then rfE h else bif anyB (setB (toInt64 h.w.n) l.ρ) l.n then 2 else bif !(rcsB h l) then 27 else 0
noncomputable def Grct : List A1 → Option (Bool × AV)
  | [.agg [.sl [.int .i64] n ρ, .sl [.int .i64, .int .i64, .sl [.int .u8, .int .u8, .int .u8, .int .u8, .int .u8, .int .u8, .int .u8, .int .u8]] m ω, .sl [.int .i64, .int .i64] q ε], .c (.sl [.int .i64] k κ)] => some (dec (fewH ⟨⟨n, ρ⟩, ⟨m, ω⟩, ⟨q, ε⟩⟩ ∧ fewN k), in1 (rctE ⟨⟨n, ρ⟩, ⟨m, ω⟩, ⟨q, ε⟩⟩ ⟨k, κ⟩))
  | _ => none
noncomputable def rctX (h : Hi) (l : Il) : Tree AV := .need (dec (fewH h ∧ fewN l.n)) (.br (!(rcsB h l)) (.leaf (in1 27)) (.leaf (in1 0)))
/-! ### Loss -/

noncomputable def lossR (e : Int) (h : Hi) (l : Il) : AV := .tup [.c (.sl inSh (okN e (ls l h.w.n).1) (ls l h.w.n).2), .c (I e)]
theorem loss_bad {e E : Int} {h : Hi} {l : Il} (he : E = e) (h0 : e ≠ 0) : leA (.tup [.c .nils, .c (I e)]) (lossR E h l) := by
  subst he
  have : ∀ n, okN E n = 0 := fun n => by
    unfold okN
    have : (E == 0) = false := by rw [beq_eq_false_iff_ne]; exact h0
    rw [this]; rfl
  unfold lossR
  rw [this]
  exact leA_nils2
theorem loss_ok {E : Int} {h : Hi} {l : Il} (he : E = 0) : leA (.tup [.c (.sl inSh (ls l h.w.n).1 (ls l h.w.n).2), .c (I 0)]) (lossR E h l) := by
  subst he; exact leA.refl
noncomputable def Glos : List A1 → Option (Bool × AV)
  | [.agg [.sl [.int .i64] n ρ, .sl [.int .i64, .int .i64, .sl [.int .u8, .int .u8, .int .u8, .int .u8, .int .u8, .int .u8, .int .u8, .int .u8]] m ω, .sl [.int .i64, .int .i64] q ε], .c (.sl [.int .i64] k κ)] => some (dec ((fewH ⟨⟨n, ρ⟩, ⟨m, ω⟩, ⟨q, ε⟩⟩ ∧ m ≤ 64) ∧ fewN k), lossR (cutE ⟨⟨n, ρ⟩, ⟨m, ω⟩, ⟨q, ε⟩⟩ ⟨k, κ⟩) ⟨⟨n, ρ⟩, ⟨m, ω⟩, ⟨q, ε⟩⟩ ⟨k, κ⟩)
  | _ => none
theorem u21 : UcOne Try.prog 32 (nG Glos) := ucOne_of_tree h23 10 32 fun args r hr => by
  unfold Glos at hr; split at hr
  · rename_i n ρ m ω q ε k κ
    obtain ⟨hp, rfl⟩ := Prod.mk.inj (Option.some.inj hr)
    obtain ⟨⟨f1, f2⟩, f4⟩ := dec_iff.1 hp
    refine ⟨.need (dec ((fewH ⟨⟨n, ρ⟩, ⟨m, ω⟩, ⟨q, ε⟩⟩ ∧ m ≤ 64) ∧ fewN k)) (.br (cutE ⟨⟨n, ρ⟩, ⟨m, ω⟩, ⟨q, ε⟩⟩ ⟨k, κ⟩ != 0) (.leaf (.tup [.c .nils, .c (I (cutE ⟨⟨n, ρ⟩, ⟨m, ω⟩, ⟨q, ε⟩⟩ ⟨k, κ⟩))])) (.need (dec (Gd.good ⟨⟨k, κ⟩, toInt64 m⟩ ∧ (⟨0, .zero, 0⟩ : Gd.V) = Gd.st ⟨⟨k, κ⟩, toInt64 m⟩ 0)) (.leaf (.tup [.c (.sl inSh (ls ⟨k, κ⟩ m).1 (ls ⟨k, κ⟩ m).2), .c (I 0)])))), by kernel_rfl,
      hp, fun a1 => ?_, fun a1 => ⟨dec_iff.2 ⟨⟨⟨?_, ?_⟩, f4⟩, rfl⟩, ?_⟩⟩
    · exact loss_bad rfl (by simpa [bne] using a1)
    · show (0 : Int) ≤ (m : Int); omega
    · show (m : Int) ≤ 1000; omega
    · exact loss_ok (h := ⟨⟨n, ρ⟩, ⟨m, ω⟩, ⟨q, ε⟩⟩) (l := ⟨k, κ⟩) (by simpa [bne] using a1)
  · cases hr
noncomputable abbrev H24 : Hd := ⟨H23.pc, (32, nG Glos) :: H23.hc, H23.lh, H23.mc⟩
theorem h24 : HdOk Try.prog H24 := HdOk.lhCons (HdOk.lhCons (h22b.ucCons u21) Gc.ok) Gd.ok
noncomputable def Glor : List A1 → Option (Bool × AV)
  | [.agg [.sl [.int .i64] n ρ, .sl [.int .i64, .int .i64, .sl [.int .u8, .int .u8, .int .u8, .int .u8, .int .u8, .int .u8, .int .u8, .int .u8]] m ω, .sl [.int .i64, .int .i64] q ε], .c (.sl [.int .i64] k κ)] => some (dec ((fewH ⟨⟨n, ρ⟩, ⟨m, ω⟩, ⟨q, ε⟩⟩ ∧ m ≤ 64) ∧ fewN k), lossR (rctE ⟨⟨n, ρ⟩, ⟨m, ω⟩, ⟨q, ε⟩⟩ ⟨k, κ⟩) ⟨⟨n, ρ⟩, ⟨m, ω⟩, ⟨q, ε⟩⟩ ⟨k, κ⟩)
  | _ => none
noncomputable abbrev H25 : Hd := ⟨H24.pc, H24.hc, [((116, 0), Gc.L)], H24.mc⟩
theorem h25 : HdOk Try.prog H25 := HdOk.lhCons (h22b.ucCons u21) Gc.ok

end Hs
end Go.Proofs.Ytennlgngdjegoaa
/-
  Losses: Point in the program and in the reference.
-/
namespace Go.Proofs.Ytennlgngdjegoaa
open Go Go.Sx Go.RowKit Classical

set_option maxRecDepth 100000
set_option maxHeartbeats 4000000

namespace Hs
open Fo (inSh scSh evSh pcH litK headK allB allB_ok lhsOf lhs_ok)

theorem ls_in (l : Il) : ∀ n j, j < (ls l n).1 → 0 ≤ vI (ls l n).2 j ∧ vI (ls l n).2 j < n
  | 0, j, h => by
    have h : j < 0 := h
    omega
  | n + 1, j, h => by
    have ih := ls_in l n
    have e : ls l (n + 1) = bif !(inB l n) then ((ls l n).1 + 1, Val.cat (ls l n).1 (ls l n).2 (Val.ofFlat 1 [I n])) else ls l n := rfl
    rw [e] at h ⊢
    cases hb : !(inB l n)
    · rw [hb] at h
      have := ih j h
      show 0 ≤ vI (ls l n).2 j ∧ vI (ls l n).2 j < _
      omega
    · rw [hb] at h
      have h : j < (ls l n).1 + 1 := h
      show 0 ≤ vI (Val.cat (ls l n).1 (ls l n).2 (Val.ofFlat 1 [I n])) j ∧ vI (Val.cat (ls l n).1 (ls l n).2 (Val.ofFlat 1 [I n])) j < _
      unfold vI
      rw [cat_at]
      by_cases hj : j < (ls l n).1
      · rw [if_pos hj]
        have := ih j hj
        unfold vI at this
        omega
      · have : j = (ls l n).1 := by omega
        subst this
        rw [if_neg hj, Nat.sub_self]
        show 0 ≤ (n : Int) ∧ (n : Int) < _
        omega

/-- a point, and an error -/
def pt (x e : Int) : AV := .tup [.c (I x), .c (I e)]
/-- the point where there is no error -/
def ptV (h : Hi) (l t : Il) (w : Int) : Int := bif toInt64 (ls l h.w.n).1 == 0 then 0 else w64 (w - vI t.ρ (vI (ls l h.w.n).2 0).toNat)
/-- the answer: the error of the cut, whether the times are wrong -/
def ptX (E : Int) (bad : Bool) (h : Hi) (l t : Il) (w : Int) : Int := bif E != 0 then 0 else bif toInt64 t.n != toInt64 h.w.n then 0 else bif bad then 0 else ptV h l t w
def ptY (E : Int) (bad : Bool) (h : Hi) (t : Il) : Int := bif E != 0 then E else bif toInt64 t.n != toInt64 h.w.n then 6 else bif bad then 24 else 0
def ptR (E : Int) (bad : Bool) (h : Hi) (l t : Il) (w : Int) : AV := pt (ptX E bad h l t w) (ptY E bad h t)
def ptT (E : Int) (h : Hi) (l t : Il) (w : Int) : Tree AV := .br (toInt64 (okN E (ls l h.w.n).1) == 0) (.leaf (pt 0 0)) (.need (inRange 0 (okN E (ls l h.w.n).1)) (.need (inRange (vI (ls l h.w.n).2 0) t.n) (.leaf (pt (w64 (w - vI t.ρ (vI (ls l h.w.n).2 0).toNat)) 0))))

theorem ptT_all {E : Int} {h : Hi} {l t : Il} {w : Int} (h0 : E = 0) (ht : t.n = h.w.n) : (ptT E h l t w).All (fun z => z = pt (ptV h l t w) 0) := by
  have e : okN E (ls l h.w.n).1 = (ls l h.w.n).1 := by unfold okN; rw [h0]; rfl
  unfold ptT ptV
  rw [e]
  refine ⟨fun a => ?_, fun a => ?_⟩
  · show pt 0 0 = pt _ 0
    rw [a]; rfl
  · have hp : 0 < (ls l h.w.n).1 := by
      rw [beq_eq_false_iff_ne] at a
      have a : ((ls l h.w.n).1 : Int) ≠ 0 := a
      omega
    obtain ⟨b1, b2⟩ := ls_in l h.w.n 0 hp
    refine ⟨?_, ?_, ?_⟩
    · unfold inRange; rw [Bool.and_eq_true, le_iff, lt_iff]; exact ⟨Int.le_refl _, by show (0 : Int) < ((ls l h.w.n).1 : Int); omega⟩
    · unfold inRange; rw [Bool.and_eq_true, le_iff, lt_iff]; exact ⟨b1, by show _ < (t.n : Int); rw [ht]; exact b2⟩
    · show pt _ 0 = pt _ 0
      rw [a]; rfl

/-- are the times wrong, in the program and in the reference? -/
def tmB (h : Hi) (t : Il) (w : Int) : Bool := lt 1073741824 w || (!(srtB t) || anyB (Gc.bad ⟨t, h, w, toInt64 t.n⟩) t.n)
def tmR (t : Il) (w : Int) (l : Il) : Bool := lt 1073741824 w || anyB (Gn.bad ⟨t, w, l⟩) t.n
noncomputable def Gpt : List A1 → Option (Bool × AV)
  | [.agg [.sl [.int .i64] n ρ, .sl [.int .i64, .int .i64, .sl [.int .u8, .int .u8, .int .u8, .int .u8, .int .u8, .int .u8, .int .u8, .int .u8]] m ω, .sl [.int .i64, .int .i64] q ε], .c (.sl [.int .i64] k κ), .c (.sl [.int .i64] t τ), .c (.int .i64 w)] =>
    let h : Hi := ⟨⟨n, ρ⟩, ⟨m, ω⟩, ⟨q, ε⟩⟩
    some (dec ((fewH h ∧ m ≤ 64) ∧ fewN k), ptR (cutE h ⟨k, κ⟩) (tmB h ⟨t, τ⟩ w) h ⟨k, κ⟩ ⟨t, τ⟩ w)
  | _ => none
noncomputable def Gpr : List A1 → Option (Bool × AV)
  | [.agg [.sl [.int .i64] n ρ, .sl [.int .i64, .int .i64, .sl [.int .u8, .int .u8, .int .u8, .int .u8, .int .u8, .int .u8, .int .u8, .int .u8]] m ω, .sl [.int .i64, .int .i64] q ε], .c (.sl [.int .i64] k κ), .c (.sl [.int .i64] t τ), .c (.int .i64 w)] =>
    let h : Hi := ⟨⟨n, ρ⟩, ⟨m, ω⟩, ⟨q, ε⟩⟩
    some (dec ((fewH h ∧ m ≤ 64) ∧ fewN k), ptR (rctE h ⟨k, κ⟩) (tmR ⟨t, τ⟩ w ⟨okN (rctE h ⟨k, κ⟩) (ls ⟨k, κ⟩ m).1, (ls ⟨k, κ⟩ m).2⟩) h ⟨k, κ⟩ ⟨t, τ⟩ w)
  | _ => none

noncomputable def tree23 (E : Int) (h : Hi) (l t : Il) (w : Int) : Tree AV :=
  let c : Gc.C := ⟨t, h, w, toInt64 t.n⟩
  .br (E != 0) (.leaf (pt 0 E)) (.br (toInt64 t.n != toInt64 h.w.n) (.leaf (pt 0 6)) (.br (lt 1073741824 w) (.br (lt 1073741824 w) (.leaf (pt 0 24)) (ptT E h l t w)) (.need (dec (t.n ≤ 1000)) (.br (!(srtB t)) (.br (!(srtB t)) (.leaf (pt 0 24)) (ptT E h l t w))
    (.need (dec (Gc.good c ∧ (⟨0, 0⟩ : Gc.V) = Gc.st c 0)) (.br (anyB (Gc.bad c) t.n) (.br (le 0 ((firstB (Gc.bad c) t.n : Nat) : Int)) (.leaf (pt 0 24)) (ptT E h l t w)) (.br false (.leaf (pt 0 24)) (ptT E h l t w))))))))
noncomputable def tree24 (E : Int) (h : Hi) (l t : Il) (w : Int) : Tree AV :=
  let c : Gn.C := ⟨t, w, ⟨okN E (ls l h.w.n).1, (ls l h.w.n).2⟩⟩
  .br (E != 0) (.leaf (pt 0 E)) (.br (toInt64 t.n != toInt64 h.w.n) (.leaf (pt 0 6)) (.br (lt 1073741824 w) (.leaf (pt 0 24)) (.need (dec (Gn.good c ∧ (⟨0, 0, 0, 0⟩ : Gn.V) = Gn.st c 0)) (.br (anyB (Gn.bad c) t.n) (.leaf (pt 0 24)) (ptT E h l t w)))))

theorem p23 : TcOne Try.prog 33 (nG Gpt) := tcOne_of_tree h25 10 33 fun args r hr => by
  unfold Gpt at hr; split at hr
  · rename_i n ρ m ω q ε k κ t τ w
    obtain ⟨hp, rfl⟩ := Prod.mk.inj (Option.some.inj hr)
    obtain ⟨⟨f1, f2⟩, f4⟩ := dec_iff.1 hp
    refine ⟨rfl, .need (dec ((fewH ⟨⟨n, ρ⟩, ⟨m, ω⟩, ⟨q, ε⟩⟩ ∧ m ≤ 64) ∧ fewN k)) (tree23 (cutE ⟨⟨n, ρ⟩, ⟨m, ω⟩, ⟨q, ε⟩⟩ ⟨k, κ⟩) ⟨⟨n, ρ⟩, ⟨m, ω⟩, ⟨q, ε⟩⟩ ⟨k, κ⟩ ⟨t, τ⟩ w), by kernel_rfl, hp, ?_⟩
    obtain ⟨h, hh⟩ : ∃ h : Hi, (⟨⟨n, ρ⟩, ⟨m, ω⟩, ⟨q, ε⟩⟩ : Hi) = h := ⟨_, rfl⟩
    have hm : m = h.w.n := by rw [← hh]
    obtain ⟨E, hE⟩ : ∃ E, cutE h ⟨k, κ⟩ = E := ⟨_, rfl⟩
    rw [hh, hE]
    rw [hm] at f2
    refine ⟨fun a1 => ?_, fun a1 => ⟨fun a2 => ?_, fun a2 => ⟨fun a3 => ⟨fun _ => ?_, fun a4 => ?_⟩, fun a3 => ?_⟩⟩⟩
    · show pt 0 E = ptR E _ h _ _ w; unfold ptR ptX ptY; rw [a1]; rfl
    · show pt 0 6 = ptR E _ h _ _ w; unfold ptR ptX ptY; rw [a1, a2]; rfl
    · have : tmB h ⟨t, τ⟩ w = true := by unfold tmB; rw [a3]; rfl
      show pt 0 24 = ptR E _ h _ _ w; unfold ptR ptX ptY; rw [a1, a2, this]; rfl
    · rw [a3] at a4; cases a4
    · have a2' : toInt64 t = toInt64 h.w.n := by simpa [bne] using a2
      have ht : t = h.w.n := Int.ofNat.inj a2'
      have hE0 : E = 0 := by simpa [bne] using a1
      have hT := ptT_all (w := w) (l := ⟨k, κ⟩) (t := ⟨t, τ⟩) hE0 ht
      refine ⟨dec_iff.2 (by show t ≤ 1000; omega), fun a4 => ⟨fun _ => ?_, fun a5 => ?_⟩, fun a4 => ⟨dec_iff.2 ⟨⟨rfl, by show fewN t; unfold fewN; omega⟩, rfl⟩, fun a5 => ⟨fun _ => ?_, fun a6 => ?_⟩, fun a5 => ⟨fun h => (by cases h), fun _ => ?_⟩⟩⟩
      · have : tmB h ⟨t, τ⟩ w = true := by unfold tmB; rw [a3, a4]; rfl
        show pt 0 24 = ptR E _ h _ _ w; unfold ptR ptX ptY; rw [a1, a2, this]; rfl
      · rw [a4] at a5; cases a5
      · have : tmB h ⟨t, τ⟩ w = true := by
          unfold tmB
          have a5 : anyB (Gc.bad ⟨⟨t, τ⟩, h, w, toInt64 t⟩) t = true := a5
          show (lt 1073741824 w || (!(srtB ⟨t, τ⟩) || anyB (Gc.bad ⟨⟨t, τ⟩, h, w, toInt64 t⟩) t)) = true
          rw [a3, a4, a5]; rfl
        show pt 0 24 = ptR E _ h _ _ w; unfold ptR ptX ptY; rw [a1, a2, this]; rfl
      · rw [le0_nat] at a6; cases a6
      · have : tmB h ⟨t, τ⟩ w = false := by
          unfold tmB
          have a5 : anyB (Gc.bad ⟨⟨t, τ⟩, h, w, toInt64 t⟩) t = false := a5
          show (lt 1073741824 w || (!(srtB ⟨t, τ⟩) || anyB (Gc.bad ⟨⟨t, τ⟩, h, w, toInt64 t⟩) t)) = false
          rw [a3, a4, a5]; rfl
        have e : ptR E (tmB h ⟨t, τ⟩ w) h ⟨k, κ⟩ ⟨t, τ⟩ w = pt (ptV h ⟨k, κ⟩ ⟨t, τ⟩ w) 0 := by unfold ptR ptX ptY; rw [a1, a2, this]; rfl
        rw [e]; exact hT
  · cases hr

end Hs
end Go.Proofs.Ytennlgngdjegoaa
