/-
  Part TlV of the proof: LosG LosH.
-/
import Derived.Test.YtennlgngdjegoaaGreatTlU
namespace Go.Proofs.YtennlgngdjegoaaGreat
open Go Go.Sx Go.RowKit Classical
set_option maxRecDepth 100000
set_option maxHeartbeats 4000000
namespace Hs
open Fo (inSh scSh evSh pcH litK headK allB allB_ok lhsOf lhs_ok)
namespace Ga
structure C where
  l : Il
  w : Int
  m : Int
structure V where
  r : Int
  i : Int
def S (c : C) (v : V) : St := mkS 19 [(0, .one (.c (.sl inSh c.l.n c.l.ρ))), (1, .one (.c (I c.w))), (4, .one (.c (I v.r))), (7, .one (.c (I c.m))), (8, .one (.c (I v.i)))] []
def bad (c : C) (i : Nat) : Bool := c.w == vI c.l.ρ i
def TX (c : C) (v : V) : Tree (XE × V) := .br (lt v.i (c.m)) (.need (inRange v.i c.l.n) (.br (bad c v.i.toNat) (.leaf (.ret, ⟨v.i, v.i⟩)) (.leaf (.normal, ⟨v.r, w64 (v.i + 1)⟩)))) (.leaf (.exit 0, v))
theorem t (c : C) (v : V) : ((evCode Tryz.prog H15 (evFn Tryz.prog H15 10) 82 0 1 (loopBody Tryz.prog 82 0) (S c v)).bind fun y => gcT [0, 1, 4, 7, 8] 0 y) = (TX c v).bind fun y => .leaf (y.1, S c y.2) := by kernel_rfl
def st (_ : C) (i : Nat) : V := ⟨0, i⟩
def sb (_ : C) (i : Nat) : V := ⟨i, i⟩
def nn (c : C) : Nat := c.l.n
def good (c : C) : Prop := c.m = toInt64 c.l.n ∧ fewN c.l.n
def μ (c : C) (v : V) : Nat := (c.l.n - v.i).toNat
theorem sq (c : C) (h : good c) : Sq (TX c) (μ c) (st c) (sb c) (nn c) (bad c) .ret (.exit 0) := by
  obtain ⟨hm, h⟩ := h
  have hn' : c.l.n ≤ 4611686018427387904 := h
  refine sqF (sn := fun i => ⟨0, w64 ((i : Int) + 1)⟩) (by simp) (by simp) (fun i hi => by show ((c.l.n : Int) - (i : Int)).toNat = c.l.n - i; omega) (fun i hi => ?_) (fun i hi => by rw [wS h hi]; rfl) ?_
  · have hi : i < c.l.n := hi
    refine ⟨fun _ => ⟨inR hi, fun hb => ?_, fun hb => ?_⟩, fun h' => ?_⟩
    · have : bad c i = true := hb
      rw [this]; rfl
    · have : bad c i = false := hb
      rw [this]; rfl
    · have h' : lt (i : Int) (c.m) = false := h'
      rw [hm, ltT hi] at h'; cases h'
  · refine ⟨fun h' => ?_, fun _ => rfl⟩
    have h' : lt (c.l.n : Int) (c.m) = true := h'
    rw [hm, ltFn] at h'; cases h'
def get : List (Nat × AV) → Mem → Option (C × V)
  | [(0, .one (.c (.sl [.int .i64] c_l_n c_l_ρ))), (1, .one (.c (.int .i64 c_w))), (4, .one (.c (.int .i64 v_r))), (7, .one (.c (.int .i64 c_m))), (8, .one (.c (.int .i64 v_i)))], [] =>
    some (⟨⟨c_l_n, c_l_ρ⟩, c_w, c_m⟩, ⟨v_r, v_i⟩)
  | _, _ => none
noncomputable def L : Nat → St → Tree (XE × St) := lqH [0, 1, 4, 7, 8] 0 19 get fun c v => lqT (S c) (good c ∧ v = st c 0) (anyB (bad c) (nn c)) .ret (.exit 0) (sb c (firstB (bad c) (nn c))) (st c (nn c))
theorem ok (fn : Func) (c b : Code) (hf : Tryz.prog.funcs[82]? = some fn) (hc : fn.body = some c) (hb : nthLoop c 0 = some b) : LoopOk Tryz.prog b L :=
  lq_ok h15 10 82 0 hf hc hb [0, 1, 4, 7, 8] 0 19 S TX t get (fun l m c v h => by unfold get at h; split at h <;> simp at h; obtain ⟨rfl, rfl⟩ := h; rfl)
    good μ st sb nn bad .ret (.exit 0) sq (fun c => (sb c (firstB (bad c) (nn c)))) (fun c => (st c (nn c))) (fun _ _ _ => StWk.refl) (fun _ _ _ => StWk.refl)
end Ga
namespace Gc
structure C where
  l : Il
  h : Hi
  q : Int
  m : Int
structure V where
  r : Int
  i : Int
def S (c : C) (v : V) : St := mkS 19 [(0, .one (.c (.sl inSh c.l.n c.l.ρ))), (1, .one (.c (.fn (.func 68) [] [.ptr 1 0]))), (4, .one (.c (I v.r))), (7, .one (.c (I c.m))), (8, .one (.c (I v.i)))] [some (53, [.sl inSh c.h.s.n c.h.s.ρ, .sl wrSh c.h.w.n c.h.w.ρ, .sl evSh c.h.e.n c.h.e.ρ]), some (3, [I c.q])]
def bad (c : C) (i : Nat) : Bool := lt (vI c.l.ρ i) 0 || lt c.q (vI c.l.ρ i)
def TX (c : C) (v : V) : Tree (XE × V) := .br (lt v.i (c.m)) (.need (inRange v.i c.l.n) (.br (bad c v.i.toNat) (.leaf (.ret, ⟨v.i, v.i⟩)) (.leaf (.normal, ⟨v.r, w64 (v.i + 1)⟩)))) (.leaf (.exit 0, v))
theorem t (c : C) (v : V) : ((evCode Tryz.prog H15 (evFn Tryz.prog H15 10) 114 2 1 (loopBody Tryz.prog 114 0) (S c v)).bind fun y => gcT [0, 1, 4, 7, 8] 2 y) = (TX c v).bind fun y => .leaf (y.1, S c y.2) := by kernel_rfl
def st (_ : C) (i : Nat) : V := ⟨0, i⟩
def sb (_ : C) (i : Nat) : V := ⟨i, i⟩
def nn (c : C) : Nat := c.l.n
def good (c : C) : Prop := c.m = toInt64 c.l.n ∧ fewN c.l.n
def μ (c : C) (v : V) : Nat := (c.l.n - v.i).toNat
theorem sq (c : C) (h : good c) : Sq (TX c) (μ c) (st c) (sb c) (nn c) (bad c) .ret (.exit 0) := by
  obtain ⟨hm, h⟩ := h
  have hn' : c.l.n ≤ 4611686018427387904 := h
  refine sqF (sn := fun i => ⟨0, w64 ((i : Int) + 1)⟩) (by simp) (by simp) (fun i hi => by show ((c.l.n : Int) - (i : Int)).toNat = c.l.n - i; omega) (fun i hi => ?_) (fun i hi => by rw [wS h hi]; rfl) ?_
  · have hi : i < c.l.n := hi
    refine ⟨fun _ => ⟨inR hi, fun hb => ?_, fun hb => ?_⟩, fun h' => ?_⟩
    · have : bad c i = true := hb
      rw [this]; rfl
    · have : bad c i = false := hb
      rw [this]; rfl
    · have h' : lt (i : Int) (c.m) = false := h'
      rw [hm, ltT hi] at h'; cases h'
  · refine ⟨fun h' => ?_, fun _ => rfl⟩
    have h' : lt (c.l.n : Int) (c.m) = true := h'
    rw [hm, ltFn] at h'; cases h'
def get : List (Nat × AV) → Mem → Option (C × V)
  | [(0, .one (.c (.sl [.int .i64] c_l_n c_l_ρ))), (1, .one (.c (.fn (.func 68) [] [.ptr 1 0]))), (4, .one (.c (.int .i64 v_r))), (7, .one (.c (.int .i64 c_m))), (8, .one (.c (.int .i64 v_i)))], [some (53, [.sl [.int .i64] c_h_s_n c_h_s_ρ, .sl [.int .i64, .int .i64, .sl [.int .u8, .int .u8, .int .u8, .int .u8, .int .u8, .int .u8, .int .u8, .int .u8]] c_h_w_n c_h_w_ρ, .sl [.int .i64, .int .i64] c_h_e_n c_h_e_ρ]), some (3, [.int .i64 c_q])] =>
    some (⟨⟨c_l_n, c_l_ρ⟩, ⟨⟨c_h_s_n, c_h_s_ρ⟩, ⟨c_h_w_n, c_h_w_ρ⟩, ⟨c_h_e_n, c_h_e_ρ⟩⟩, c_q, c_m⟩, ⟨v_r, v_i⟩)
  | _, _ => none
noncomputable def L : Nat → St → Tree (XE × St) := lqH [0, 1, 4, 7, 8] 2 19 get fun c v => lqT (S c) (good c ∧ v = st c 0) (anyB (bad c) (nn c)) .ret (.exit 0) (sb c (firstB (bad c) (nn c))) (st c (nn c))
theorem ok (fn : Func) (c b : Code) (hf : Tryz.prog.funcs[114]? = some fn) (hc : fn.body = some c) (hb : nthLoop c 0 = some b) : LoopOk Tryz.prog b L :=
  lq_ok h15 10 114 0 hf hc hb [0, 1, 4, 7, 8] 2 19 S TX t get (fun l m c v h => by unfold get at h; split at h <;> simp at h; obtain ⟨rfl, rfl⟩ := h; rfl)
    good μ st sb nn bad .ret (.exit 0) sq (fun c => (sb c (firstB (bad c) (nn c)))) (fun c => (st c (nn c))) (fun _ _ _ => StWk.refl) (fun _ _ _ => StWk.refl)
end Gc
namespace Ge
structure C where
  l : Il
  x : Int
  y : Int
structure V where
  r : Int
  i : Int
def S (c : C) (v : V) : St := mkS 19 [(0, .one (.c (.sl evSh c.l.n c.l.ρ))), (3, .one (.c (.ptr 0 0))), (4, .one (.c (I v.r))), (5, .one (.c (I v.i)))] [some (135, [I c.x, I c.y])]
def bad (c : C) (i : Nat) : Bool := vI c.l.ρ i == c.x && (vJ c.l.ρ i == c.y && true)
def TX (c : C) (v : V) : Tree (XE × V) := .br (lt v.i (toInt64 c.l.n)) (.need (inRange v.i c.l.n) (.br (bad c v.i.toNat) (.leaf (.ret, ⟨v.i, v.i⟩)) (.leaf (.normal, ⟨v.r, w64 (v.i + 1)⟩)))) (.leaf (.exit 0, v))
theorem t (c : C) (v : V) : ((evCode Tryz.prog H15 (evFn Tryz.prog H15 10) 76 0 1 (loopBody Tryz.prog 76 0) (S c v)).bind fun y => gcT [0, 3, 4, 5] 0 y) = (TX c v).bind fun y => .leaf (y.1, S c y.2) := by kernel_rfl
def st (_ : C) (i : Nat) : V := ⟨0, i⟩
def sb (_ : C) (i : Nat) : V := ⟨i, i⟩
def nn (c : C) : Nat := c.l.n
def good (c : C) : Prop := fewN c.l.n
def μ (c : C) (v : V) : Nat := (c.l.n - v.i).toNat
theorem sq (c : C) (h : good c) : Sq (TX c) (μ c) (st c) (sb c) (nn c) (bad c) .ret (.exit 0) := by
  have hn' : c.l.n ≤ 4611686018427387904 := h
  refine sqF (sn := fun i => ⟨0, w64 ((i : Int) + 1)⟩) (by simp) (by simp) (fun i hi => by show ((c.l.n : Int) - (i : Int)).toNat = c.l.n - i; omega) (fun i hi => ?_) (fun i hi => by rw [wS h hi]; rfl) ?_
  · have hi : i < c.l.n := hi
    refine ⟨fun _ => ⟨inR hi, fun hb => ?_, fun hb => ?_⟩, fun h' => ?_⟩
    · have : bad c i = true := hb
      rw [this]; rfl
    · have : bad c i = false := hb
      rw [this]; rfl
    · have h' : lt (i : Int) (toInt64 c.l.n) = false := h'
      rw [ltT hi] at h'; cases h'
  · refine ⟨fun h' => ?_, fun _ => rfl⟩
    have h' : lt (c.l.n : Int) (toInt64 c.l.n) = true := h'
    rw [ltFn] at h'; cases h'
def get : List (Nat × AV) → Mem → Option (C × V)
  | [(0, .one (.c (.sl [.int .i64, .int .i64] c_l_n c_l_ρ))), (3, .one (.c (.ptr 0 0))), (4, .one (.c (.int .i64 v_r))), (5, .one (.c (.int .i64 v_i)))], [some (135, [.int .i64 c_x, .int .i64 c_y])] =>
    some (⟨⟨c_l_n, c_l_ρ⟩, c_x, c_y⟩, ⟨v_r, v_i⟩)
  | _, _ => none
noncomputable def L : Nat → St → Tree (XE × St) := lqH [0, 3, 4, 5] 0 19 get fun c v => lqT (S c) (good c ∧ v = st c 0) (anyB (bad c) (nn c)) .ret (.exit 0) (sb c (firstB (bad c) (nn c))) (st c (nn c))
theorem ok (fn : Func) (c b : Code) (hf : Tryz.prog.funcs[76]? = some fn) (hc : fn.body = some c) (hb : nthLoop c 0 = some b) : LoopOk Tryz.prog b L :=
  lq_ok h15 10 76 0 hf hc hb [0, 3, 4, 5] 0 19 S TX t get (fun l m c v h => by unfold get at h; split at h <;> simp at h; obtain ⟨rfl, rfl⟩ := h; rfl)
    good μ st sb nn bad .ret (.exit 0) sq (fun c => (sb c (firstB (bad c) (nn c)))) (fun c => (st c (nn c))) (fun _ _ _ => StWk.refl) (fun _ _ _ => StWk.refl)
end Ge
namespace Gg
structure C where
  l : Il
  a : Int
structure V where
  f : Bool
  i : Int
def S (c : C) (v : V) : St := mkS 18 [(0, .one (.c (.sl inSh c.l.n c.l.ρ))), (1, .one (.c (I c.a))), (4, .one (.c (.bool v.f))), (5, .one (.c (I v.i)))] []
def bad (c : C) (i : Nat) : Bool := vI c.l.ρ i == c.a
def TX (c : C) (v : V) : Tree (XE × V) := .br (lt v.i (toInt64 c.l.n)) (.need (inRange v.i c.l.n) (.br (bad c v.i.toNat) (.leaf (.ret, ⟨true, v.i⟩)) (.leaf (.normal, ⟨v.f, w64 (v.i + 1)⟩)))) (.leaf (.exit 0, v))
theorem t (c : C) (v : V) : ((evCode Tryz.prog H15 (evFn Tryz.prog H15 10) 121 0 1 (loopBody Tryz.prog 121 0) (S c v)).bind fun y => gcT [0, 1, 4, 5] 0 y) = (TX c v).bind fun y => .leaf (y.1, S c y.2) := by kernel_rfl
def st (_ : C) (i : Nat) : V := ⟨false, i⟩
def sb (_ : C) (i : Nat) : V := ⟨true, i⟩
def nn (c : C) : Nat := c.l.n
def good (c : C) : Prop := fewN c.l.n
def μ (c : C) (v : V) : Nat := (c.l.n - v.i).toNat
theorem sq (c : C) (h : good c) : Sq (TX c) (μ c) (st c) (sb c) (nn c) (bad c) .ret (.exit 0) := by
  have hn' : c.l.n ≤ 4611686018427387904 := h
  refine sqF (sn := fun i => ⟨false, w64 ((i : Int) + 1)⟩) (by simp) (by simp) (fun i hi => by show ((c.l.n : Int) - (i : Int)).toNat = c.l.n - i; omega) (fun i hi => ?_) (fun i hi => by rw [wS h hi]; rfl) ?_
  · have hi : i < c.l.n := hi
    refine ⟨fun _ => ⟨inR hi, fun hb => ?_, fun hb => ?_⟩, fun h' => ?_⟩
    · have : bad c i = true := hb
      rw [this]; rfl
    · have : bad c i = false := hb
      rw [this]; rfl
    · have h' : lt (i : Int) (toInt64 c.l.n) = false := h'
      rw [ltT hi] at h'; cases h'
  · refine ⟨fun h' => ?_, fun _ => rfl⟩
    have h' : lt (c.l.n : Int) (toInt64 c.l.n) = true := h'
    rw [ltFn] at h'; cases h'
def get : List (Nat × AV) → Mem → Option (C × V)
  | [(0, .one (.c (.sl [.int .i64] c_l_n c_l_ρ))), (1, .one (.c (.int .i64 c_a))), (4, .one (.c (.bool v_f))), (5, .one (.c (.int .i64 v_i)))], [] =>
    some (⟨⟨c_l_n, c_l_ρ⟩, c_a⟩, ⟨v_f, v_i⟩)
  | _, _ => none
noncomputable def L : Nat → St → Tree (XE × St) := lqH [0, 1, 4, 5] 0 18 get fun c v => lqT (S c) (good c ∧ v = st c 0) (anyB (bad c) (nn c)) .ret (.exit 0) (sb c (firstB (bad c) (nn c))) (st c (nn c))
theorem ok (fn : Func) (c b : Code) (hf : Tryz.prog.funcs[121]? = some fn) (hc : fn.body = some c) (hb : nthLoop c 0 = some b) : LoopOk Tryz.prog b L :=
  lq_ok h15 10 121 0 hf hc hb [0, 1, 4, 5] 0 18 S TX t get (fun l m c v h => by unfold get at h; split at h <;> simp at h; obtain ⟨rfl, rfl⟩ := h; rfl)
    good μ st sb nn bad .ret (.exit 0) sq (fun c => (sb c (firstB (bad c) (nn c)))) (fun c => (st c (nn c))) (fun _ _ _ => StWk.refl) (fun _ _ _ => StWk.refl)
end Gg
namespace Gf
structure C where
  l : Il
  a : Int
structure V where
  f : Bool
  i : Int
def S (c : C) (v : V) : St := mkS 41 [(0, .one (.c (.sl inSh c.l.n c.l.ρ))), (1, .one (.c (I c.a))), (4, .one (.c (.bool v.f))), (5, .one (.c (I v.i)))] []
def bad (c : C) (i : Nat) : Bool := setB c.a c.l.ρ i
def TX (c : C) (v : V) : Tree (XE × V) := .br (lt v.i (toInt64 c.l.n)) (.need (inRange v.i c.l.n) (.need (!((lt (vI c.l.ρ v.i.toNat) 0 == false) && true) || inRange v.i c.l.n) (.need (!(lt 0 v.i == true && ((lt (vI c.l.ρ v.i.toNat) 0 || le c.a (vI c.l.ρ v.i.toNat)) == false && true)) || inRange v.i c.l.n) (.need (!(lt 0 v.i == true && ((lt (vI c.l.ρ v.i.toNat) 0 || le c.a (vI c.l.ρ v.i.toNat)) == false && true)) || inRange (w64 (v.i - 1)) c.l.n) (.br ((lt (vI c.l.ρ v.i.toNat) 0 || le c.a (vI c.l.ρ v.i.toNat)) || (lt 0 v.i && le (vI c.l.ρ v.i.toNat) (vI c.l.ρ (w64 (v.i - 1)).toNat))) (.leaf (.ret, ⟨false, v.i⟩)) (.leaf (.normal, ⟨v.f, w64 (v.i + 1)⟩))))))) (.leaf (.exit 0, v))
theorem t (c : C) (v : V) : ((evCode Tryz.prog H15 (evFn Tryz.prog H15 10) 78 0 1 (loopBody Tryz.prog 78 0) (S c v)).bind fun y => gcT [0, 1, 4, 5] 0 y) = (TX c v).bind fun y => .leaf (y.1, S c y.2) := by kernel_rfl
def st (_ : C) (i : Nat) : V := ⟨false, i⟩
def sb (_ : C) (i : Nat) : V := ⟨false, i⟩
def nn (c : C) : Nat := c.l.n
def good (c : C) : Prop := fewN c.l.n
def μ (c : C) (v : V) : Nat := (c.l.n - v.i).toNat
theorem sq (c : C) (h : good c) : Sq (TX c) (μ c) (st c) (sb c) (nn c) (bad c) .ret (.exit 0) := by
  have hn' : c.l.n ≤ 4611686018427387904 := h
  refine sqF (sn := fun i => ⟨false, w64 ((i : Int) + 1)⟩) (by simp) (by simp) (fun i hi => by show ((c.l.n : Int) - (i : Int)).toNat = c.l.n - i; omega) (fun i hi => ?_) (fun i hi => by rw [wS h hi]; rfl) ?_
  · have hi : i < c.l.n := hi
    refine ⟨fun _ => ⟨inR hi, ?_, ?_, ?_, fun hb => ?_, fun hb => ?_⟩, fun h' => ?_⟩
    · show (_ || inRange (i : Int) c.l.n) = true; rw [inR (by omega), Bool.or_true]
    · show (_ || inRange (i : Int) c.l.n) = true; rw [inR (by omega), Bool.or_true]
    · show (_ || inRange (w64 ((i : Int) - 1)) c.l.n) = true
      cases h0 : lt 0 (i : Int)
      · have e : (!(lt 0 (i : Int) == true && ((lt (vI c.l.ρ i) 0 || le c.a (vI c.l.ρ i)) == false && true))) = true := by rw [h0]; rfl
        show (!(lt 0 (i : Int) == true && ((lt (vI c.l.ρ i) 0 || le c.a (vI c.l.ρ i)) == false && true)) || _) = true
        rw [e]; rfl
      · rw [lt_iff] at h0
        have e : w64 ((i : Int) - 1) = ((i - 1 : Nat) : Int) := by
          show IntKind.i64.wrap _ = _
          rw [w64_id (by omega) (by omega)]; omega
        rw [e, inR (by omega), Bool.or_true]
    · have : bad c i = true := hb
      rw [this]; rfl
    · have : bad c i = false := hb
      rw [this]; rfl
    · have h' : lt (i : Int) (toInt64 c.l.n) = false := h'
      rw [ltT hi] at h'; cases h'
  · refine ⟨fun h' => ?_, fun _ => rfl⟩
    have h' : lt (c.l.n : Int) (toInt64 c.l.n) = true := h'
    rw [ltFn] at h'; cases h'
def get : List (Nat × AV) → Mem → Option (C × V)
  | [(0, .one (.c (.sl [.int .i64] c_l_n c_l_ρ))), (1, .one (.c (.int .i64 c_a))), (4, .one (.c (.bool v_f))), (5, .one (.c (.int .i64 v_i)))], [] =>
    some (⟨⟨c_l_n, c_l_ρ⟩, c_a⟩, ⟨v_f, v_i⟩)
  | _, _ => none
noncomputable def L : Nat → St → Tree (XE × St) := lqH [0, 1, 4, 5] 0 41 get fun c v => lqT (S c) (good c ∧ v = st c 0) (anyB (bad c) (nn c)) .ret (.exit 0) (sb c (firstB (bad c) (nn c))) (st c (nn c))
theorem ok (fn : Func) (c b : Code) (hf : Tryz.prog.funcs[78]? = some fn) (hc : fn.body = some c) (hb : nthLoop c 0 = some b) : LoopOk Tryz.prog b L :=
  lq_ok h15 10 78 0 hf hc hb [0, 1, 4, 5] 0 41 S TX t get (fun l m c v h => by unfold get at h; split at h <;> simp at h; obtain ⟨rfl, rfl⟩ := h; rfl)
    good μ st sb nn bad .ret (.exit 0) sq (fun c => (sb c (firstB (bad c) (nn c)))) (fun c => (st c (nn c))) (fun _ _ _ => StWk.refl) (fun _ _ _ => StWk.refl)
end Gf
def wR (h : Hi) (i : Nat) : Int := fitR h.s.n (vI h.s.ρ) (vI h.w.ρ i) (vJ h.w.ρ i) (vL h.w.ρ 2 i)
namespace Gj
structure C where
  h : Hi
structure V where
  e : Int
  i : Int
def S (c : C) (v : V) : St := mkS 93 [(1, .one (.c (.ptr 0 0))), (2, .one (.c (I v.e))), (4, .one (.c (I v.i)))] [some (53, [.sl inSh c.h.s.n c.h.s.ρ, .sl wrSh c.h.w.n c.h.w.ρ, .sl evSh c.h.e.n c.h.e.ρ])]
def bad (c : C) (i : Nat) : Bool := wR c.h i != 0
def TX (c : C) (v : V) : Tree (XE × V) := .br (lt v.i (toInt64 c.h.w.n)) (.need (inRange v.i c.h.w.n) (.need (true) (.br (bad c v.i.toNat) (.leaf (.ret, ⟨wR c.h v.i.toNat, v.i⟩)) (.leaf (.normal, ⟨v.e, w64 (v.i + 1)⟩))))) (.leaf (.exit 0, v))
theorem t (c : C) (v : V) : ((evCode Tryz.prog H15 (evFn Tryz.prog H15 10) 31 0 1 (loopBody Tryz.prog 31 0) (S c v)).bind fun y => gcT [1, 2, 4] 0 y) = (TX c v).bind fun y => .leaf (y.1, S c y.2) := by kernel_rfl
def st (_ : C) (i : Nat) : V := ⟨0, i⟩
def sb (c : C) (i : Nat) : V := ⟨wR c.h i, i⟩
def nn (c : C) : Nat := c.h.w.n
def good (c : C) : Prop := fewN c.h.w.n
def μ (c : C) (v : V) : Nat := (c.h.w.n - v.i).toNat
theorem sq (c : C) (h : good c) : Sq (TX c) (μ c) (st c) (sb c) (nn c) (bad c) .ret (.exit 0) := by
  have hn' : c.h.w.n ≤ 4611686018427387904 := h
  refine sqF (sn := fun i => ⟨0, w64 ((i : Int) + 1)⟩) (by simp) (by simp) (fun i hi => by show ((c.h.w.n : Int) - (i : Int)).toNat = c.h.w.n - i; omega) (fun i hi => ?_) (fun i hi => by rw [wS h hi]; rfl) ?_
  · have hi : i < c.h.w.n := hi
    refine ⟨fun _ => ⟨inR hi, ?_, fun hb => ?_, fun hb => ?_⟩, fun h' => ?_⟩
    · rfl
    · have : bad c i = true := hb
      rw [this]; rfl
    · have : bad c i = false := hb
      rw [this]; rfl
    · have h' : lt (i : Int) (toInt64 c.h.w.n) = false := h'
      rw [ltT hi] at h'; cases h'
  · refine ⟨fun h' => ?_, fun _ => rfl⟩
    have h' : lt (c.h.w.n : Int) (toInt64 c.h.w.n) = true := h'
    rw [ltFn] at h'; cases h'
def get : List (Nat × AV) → Mem → Option (C × V)
  | [(1, .one (.c (.ptr 0 0))), (2, .one (.c (.int .i64 v_e))), (4, .one (.c (.int .i64 v_i)))], [some (53, [.sl [.int .i64] c_h_s_n c_h_s_ρ, .sl [.int .i64, .int .i64, .sl [.int .u8, .int .u8, .int .u8, .int .u8, .int .u8, .int .u8, .int .u8, .int .u8]] c_h_w_n c_h_w_ρ, .sl [.int .i64, .int .i64] c_h_e_n c_h_e_ρ])] =>
    some (⟨⟨⟨c_h_s_n, c_h_s_ρ⟩, ⟨c_h_w_n, c_h_w_ρ⟩, ⟨c_h_e_n, c_h_e_ρ⟩⟩⟩, ⟨v_e, v_i⟩)
  | _, _ => none
noncomputable def L : Nat → St → Tree (XE × St) := lqH [1, 2, 4] 0 93 get fun c v => lqT (S c) (good c ∧ v = st c 0) (anyB (bad c) (nn c)) .ret (.exit 0) (sb c (firstB (bad c) (nn c))) (st c (nn c))
theorem ok (fn : Func) (c b : Code) (hf : Tryz.prog.funcs[31]? = some fn) (hc : fn.body = some c) (hb : nthLoop c 0 = some b) : LoopOk Tryz.prog b L :=
  lq_ok h15 10 31 0 hf hc hb [1, 2, 4] 0 93 S TX t get (fun l m c v h => by unfold get at h; split at h <;> simp at h; obtain ⟨rfl, rfl⟩ := h; rfl)
    good μ st sb nn bad .ret (.exit 0) sq (fun c => (sb c (firstB (bad c) (nn c)))) (fun c => (st c (nn c))) (fun _ _ _ => StWk.refl) (fun _ _ _ => StWk.refl)
end Gj
namespace Gq
structure C where
  h : Hi
structure V where
  f : Bool
  i : Int
def S (c : C) (v : V) : St := mkS 49 [(1, .one (.c (.ptr 0 0))), (2, .one (.c (.bool v.f))), (3, .one (.c (I v.i)))] [some (53, [.sl inSh c.h.s.n c.h.s.ρ, .sl wrSh c.h.w.n c.h.w.ρ, .sl evSh c.h.e.n c.h.e.ρ])]
def bad (c : C) (i : Nat) : Bool := lt 24 (vI c.h.s.ρ i)
def TX (c : C) (v : V) : Tree (XE × V) := .br (lt v.i (toInt64 c.h.s.n)) (.need (inRange v.i c.h.s.n) (.br (bad c v.i.toNat) (.leaf (.ret, ⟨false, v.i⟩)) (.leaf (.normal, ⟨v.f, w64 (v.i + 1)⟩)))) (.leaf (.exit 0, v))
theorem t (c : C) (v : V) : ((evCode Tryz.prog H15 (evFn Tryz.prog H15 10) 20 0 1 (loopBody Tryz.prog 20 0) (S c v)).bind fun y => gcT [1, 2, 3] 0 y) = (TX c v).bind fun y => .leaf (y.1, S c y.2) := by kernel_rfl
def st (_ : C) (i : Nat) : V := ⟨false, i⟩
def sb (_ : C) (i : Nat) : V := ⟨false, i⟩
def nn (c : C) : Nat := c.h.s.n
def good (c : C) : Prop := fewN c.h.s.n
def μ (c : C) (v : V) : Nat := (c.h.s.n - v.i).toNat
theorem sq (c : C) (h : good c) : Sq (TX c) (μ c) (st c) (sb c) (nn c) (bad c) .ret (.exit 0) := by
  have hn' : c.h.s.n ≤ 4611686018427387904 := h
  refine sqF (sn := fun i => ⟨false, w64 ((i : Int) + 1)⟩) (by simp) (by simp) (fun i hi => by show ((c.h.s.n : Int) - (i : Int)).toNat = c.h.s.n - i; omega) (fun i hi => ?_) (fun i hi => by rw [wS h hi]; rfl) ?_
  · have hi : i < c.h.s.n := hi
    refine ⟨fun _ => ⟨inR hi, fun hb => ?_, fun hb => ?_⟩, fun h' => ?_⟩
    · have : bad c i = true := hb
      rw [this]; rfl
    · have : bad c i = false := hb
      rw [this]; rfl
    · have h' : lt (i : Int) (toInt64 c.h.s.n) = false := h'
      rw [ltT hi] at h'; cases h'
  · refine ⟨fun h' => ?_, fun _ => rfl⟩
    have h' : lt (c.h.s.n : Int) (toInt64 c.h.s.n) = true := h'
    rw [ltFn] at h'; cases h'
def get : List (Nat × AV) → Mem → Option (C × V)
  | [(1, .one (.c (.ptr 0 0))), (2, .one (.c (.bool v_f))), (3, .one (.c (.int .i64 v_i)))], [some (53, [.sl [.int .i64] c_h_s_n c_h_s_ρ, .sl [.int .i64, .int .i64, .sl [.int .u8, .int .u8, .int .u8, .int .u8, .int .u8, .int .u8, .int .u8, .int .u8]] c_h_w_n c_h_w_ρ, .sl [.int .i64, .int .i64] c_h_e_n c_h_e_ρ])] =>
    some (⟨⟨⟨c_h_s_n, c_h_s_ρ⟩, ⟨c_h_w_n, c_h_w_ρ⟩, ⟨c_h_e_n, c_h_e_ρ⟩⟩⟩, ⟨v_f, v_i⟩)
  | _, _ => none
noncomputable def L : Nat → St → Tree (XE × St) := lqH [1, 2, 3] 0 49 get fun c v => lqT (S c) (good c ∧ v = st c 0) (anyB (bad c) (nn c)) .ret (.exit 0) (sb c (firstB (bad c) (nn c))) (st c (nn c))
theorem ok (fn : Func) (c b : Code) (hf : Tryz.prog.funcs[20]? = some fn) (hc : fn.body = some c) (hb : nthLoop c 0 = some b) : LoopOk Tryz.prog b L :=
  lq_ok h15 10 20 0 hf hc hb [1, 2, 3] 0 49 S TX t get (fun l m c v h => by unfold get at h; split at h <;> simp at h; obtain ⟨rfl, rfl⟩ := h; rfl)
    good μ st sb nn bad .ret (.exit 0) sq (fun c => (sb c (firstB (bad c) (nn c)))) (fun c => (st c (nn c))) (fun _ _ _ => StWk.refl) (fun _ _ _ => StWk.refl)
end Gq
namespace Gr
structure C where
  h : Hi
structure V where
  f : Bool
  i : Int
def S (c : C) (v : V) : St := mkS 49 [(1, .one (.c (.ptr 0 0))), (2, .one (.c (.bool v.f))), (4, .one (.c (I v.i)))] [some (53, [.sl inSh c.h.s.n c.h.s.ρ, .sl wrSh c.h.w.n c.h.w.ρ, .sl evSh c.h.e.n c.h.e.ρ])]
def bad (c : C) (i : Nat) : Bool := lt 30 (toInt64 (vL c.h.w.ρ 2 i))
def TX (c : C) (v : V) : Tree (XE × V) := .br (lt v.i (toInt64 c.h.w.n)) (.need (inRange v.i c.h.w.n) (.br (bad c v.i.toNat) (.leaf (.ret, ⟨false, v.i⟩)) (.leaf (.normal, ⟨v.f, w64 (v.i + 1)⟩)))) (.leaf (.exit 2, v))
theorem t (c : C) (v : V) : ((evCode Tryz.prog H15 (evFn Tryz.prog H15 10) 20 0 2 (loopBody Tryz.prog 20 1) (S c v)).bind fun y => gcT [1, 2, 4] 0 y) = (TX c v).bind fun y => .leaf (y.1, S c y.2) := by kernel_rfl
def st (_ : C) (i : Nat) : V := ⟨false, i⟩
def sb (_ : C) (i : Nat) : V := ⟨false, i⟩
def nn (c : C) : Nat := c.h.w.n
def good (c : C) : Prop := fewN c.h.w.n
def μ (c : C) (v : V) : Nat := (c.h.w.n - v.i).toNat
theorem sq (c : C) (h : good c) : Sq (TX c) (μ c) (st c) (sb c) (nn c) (bad c) .ret (.exit 2) := by
  have hn' : c.h.w.n ≤ 4611686018427387904 := h
  refine sqF (sn := fun i => ⟨false, w64 ((i : Int) + 1)⟩) (by simp) (by simp) (fun i hi => by show ((c.h.w.n : Int) - (i : Int)).toNat = c.h.w.n - i; omega) (fun i hi => ?_) (fun i hi => by rw [wS h hi]; rfl) ?_
  · have hi : i < c.h.w.n := hi
    refine ⟨fun _ => ⟨inR hi, fun hb => ?_, fun hb => ?_⟩, fun h' => ?_⟩
    · have : bad c i = true := hb
      rw [this]; rfl
    · have : bad c i = false := hb
      rw [this]; rfl
    · have h' : lt (i : Int) (toInt64 c.h.w.n) = false := h'
      rw [ltT hi] at h'; cases h'
  · refine ⟨fun h' => ?_, fun _ => rfl⟩
    have h' : lt (c.h.w.n : Int) (toInt64 c.h.w.n) = true := h'
    rw [ltFn] at h'; cases h'
def get : List (Nat × AV) → Mem → Option (C × V)
  | [(1, .one (.c (.ptr 0 0))), (2, .one (.c (.bool v_f))), (4, .one (.c (.int .i64 v_i)))], [some (53, [.sl [.int .i64] c_h_s_n c_h_s_ρ, .sl [.int .i64, .int .i64, .sl [.int .u8, .int .u8, .int .u8, .int .u8, .int .u8, .int .u8, .int .u8, .int .u8]] c_h_w_n c_h_w_ρ, .sl [.int .i64, .int .i64] c_h_e_n c_h_e_ρ])] =>
    some (⟨⟨⟨c_h_s_n, c_h_s_ρ⟩, ⟨c_h_w_n, c_h_w_ρ⟩, ⟨c_h_e_n, c_h_e_ρ⟩⟩⟩, ⟨v_f, v_i⟩)
  | _, _ => none
noncomputable def L : Nat → St → Tree (XE × St) := lqH [1, 2, 4] 0 49 get fun c v => lqT (S c) (good c ∧ v = st c 0) (anyB (bad c) (nn c)) .ret (.exit 2) (sb c (firstB (bad c) (nn c))) (st c (nn c))
theorem ok (fn : Func) (c b : Code) (hf : Tryz.prog.funcs[20]? = some fn) (hc : fn.body = some c) (hb : nthLoop c 1 = some b) : LoopOk Tryz.prog b L :=
  lq_ok h15 10 20 1 hf hc hb [1, 2, 4] 0 49 S TX t get (fun l m c v h => by unfold get at h; split at h <;> simp at h; obtain ⟨rfl, rfl⟩ := h; rfl)
    good μ st sb nn bad .ret (.exit 2) sq (fun c => (sb c (firstB (bad c) (nn c)))) (fun c => (st c (nn c))) (fun _ _ _ => StWk.refl) (fun _ _ _ => StWk.refl)
end Gr
namespace Gp
structure C where
  l : Il
  k : Il
structure V where
  f : Bool
  i : Int
def S (c : C) (v : V) : St := mkS 26 [(0, .one (.c (.sl inSh c.l.n c.l.ρ))), (1, .one (.c (.sl inSh c.k.n c.k.ρ))), (4, .one (.c (.bool v.f))), (5, .one (.c (I v.i)))] []
def bad (c : C) (i : Nat) : Bool := vI c.l.ρ i != vI c.k.ρ i
def TX (c : C) (v : V) : Tree (XE × V) := .br (lt v.i (toInt64 c.l.n)) (.need (inRange v.i c.l.n) (.need (inRange v.i c.k.n) (.br (bad c v.i.toNat) (.leaf (.ret, ⟨false, v.i⟩)) (.leaf (.normal, ⟨v.f, w64 (v.i + 1)⟩))))) (.leaf (.exit 0, v))
theorem t (c : C) (v : V) : ((evCode Tryz.prog H15 (evFn Tryz.prog H15 10) 25 0 1 (loopBody Tryz.prog 25 0) (S c v)).bind fun y => gcT [0, 1, 4, 5] 0 y) = (TX c v).bind fun y => .leaf (y.1, S c y.2) := by kernel_rfl
def st (_ : C) (i : Nat) : V := ⟨false, i⟩
def sb (_ : C) (i : Nat) : V := ⟨false, i⟩
def nn (c : C) : Nat := c.l.n
def good (c : C) : Prop := fewN c.l.n ∧ c.l.n = c.k.n
def μ (c : C) (v : V) : Nat := (c.l.n - v.i).toNat
theorem sq (c : C) (h : good c) : Sq (TX c) (μ c) (st c) (sb c) (nn c) (bad c) .ret (.exit 0) := by
  obtain ⟨h, hX⟩ := h
  have hn' : c.l.n ≤ 4611686018427387904 := h
  refine sqF (sn := fun i => ⟨false, w64 ((i : Int) + 1)⟩) (by simp) (by simp) (fun i hi => by show ((c.l.n : Int) - (i : Int)).toNat = c.l.n - i; omega) (fun i hi => ?_) (fun i hi => by rw [wS h hi]; rfl) ?_
  · have hi : i < c.l.n := hi
    refine ⟨fun _ => ⟨inR hi, ?_, fun hb => ?_, fun hb => ?_⟩, fun h' => ?_⟩
    · exact inR (show i < c.k.n by have := hX; omega)
    · have : bad c i = true := hb
      rw [this]; rfl
    · have : bad c i = false := hb
      rw [this]; rfl
    · have h' : lt (i : Int) (toInt64 c.l.n) = false := h'
      rw [ltT hi] at h'; cases h'
  · refine ⟨fun h' => ?_, fun _ => rfl⟩
    have h' : lt (c.l.n : Int) (toInt64 c.l.n) = true := h'
    rw [ltFn] at h'; cases h'
def get : List (Nat × AV) → Mem → Option (C × V)
  | [(0, .one (.c (.sl [.int .i64] c_l_n c_l_ρ))), (1, .one (.c (.sl [.int .i64] c_k_n c_k_ρ))), (4, .one (.c (.bool v_f))), (5, .one (.c (.int .i64 v_i)))], [] =>
    some (⟨⟨c_l_n, c_l_ρ⟩, ⟨c_k_n, c_k_ρ⟩⟩, ⟨v_f, v_i⟩)
  | _, _ => none
noncomputable def L : Nat → St → Tree (XE × St) := lqH [0, 1, 4, 5] 0 26 get fun c v => lqT (S c) (good c ∧ v = st c 0) (anyB (bad c) (nn c)) .ret (.exit 0) (sb c (firstB (bad c) (nn c))) (st c (nn c))
theorem ok (fn : Func) (c b : Code) (hf : Tryz.prog.funcs[25]? = some fn) (hc : fn.body = some c) (hb : nthLoop c 0 = some b) : LoopOk Tryz.prog b L :=
  lq_ok h15 10 25 0 hf hc hb [0, 1, 4, 5] 0 26 S TX t get (fun l m c v h => by unfold get at h; split at h <;> simp at h; obtain ⟨rfl, rfl⟩ := h; rfl)
    good μ st sb nn bad .ret (.exit 0) sq (fun c => (sb c (firstB (bad c) (nn c)))) (fun c => (st c (nn c))) (fun _ _ _ => StWk.refl) (fun _ _ _ => StWk.refl)
end Gp
namespace Gb
structure C where
  l : Il
structure V where
  f : Bool
  i : Int
def S (c : C) (v : V) : St := mkS 21 [(0, .one (.c (.sl inSh c.l.n c.l.ρ))), (2, .one (.c (.bool v.f))), (3, .one (.c (I v.i)))] []
def bad (c : C) (i : Nat) : Bool := lt (vI c.l.ρ (c.l.n - 1 - i)) (vI c.l.ρ (c.l.n - 1 - i - 1))
def TX (c : C) (v : V) : Tree (XE × V) :=
  let a := vI c.l.ρ v.i.toNat
  let b := vI c.l.ρ (w64 (v.i - 1)).toNat
  .br (lt 0 v.i) (.need (inRange v.i c.l.n) (.need (inRange (w64 (v.i - 1)) c.l.n) (.br ((a != a) == true) (.br ((a != a && !(b != b)) || lt a b) (.leaf (.ret, ⟨false, v.i⟩)) (.leaf (.normal, ⟨v.f, w64 (v.i - 1)⟩)))
    (.br ((a != a || false) || lt a b) (.leaf (.ret, ⟨false, v.i⟩)) (.leaf (.normal, ⟨v.f, w64 (v.i - 1)⟩)))))) (.leaf (.exit 0, v))
theorem t (c : C) (v : V) : ((evCode Tryz.prog H15 (evFn Tryz.prog H15 10) 66 0 1 (loopBody Tryz.prog 66 0) (S c v)).bind fun y => gcT [0, 2, 3] 0 y) = (TX c v).bind fun y => .leaf (y.1, S c y.2) := by kernel_rfl
def st (c : C) (i : Nat) : V := ⟨false, w64 (toInt64 c.l.n - 1) - i⟩
def sb (c : C) (i : Nat) : V := st c i
def nn (c : C) : Nat := c.l.n - 1
def good (c : C) : Prop := c.l.n ≤ 1000
def μ (_ : C) (v : V) : Nat := v.i.toNat
theorem sq (c : C) (h : good c) : Sq (TX c) (μ c) (st c) (st c) (nn c) (bad c) .ret (.exit 0) := by
  have h : c.l.n ≤ 1000 := h
  have e0 : w64 (toInt64 c.l.n - 1) = (c.l.n : Int) - 1 := by show IntKind.i64.wrap ((c.l.n : Int) - 1) = _; exact w64_id (by omega) (by omega)
  have es : ∀ i, (st c i).i = (c.l.n : Int) - 1 - i := fun i => by show w64 (toInt64 c.l.n - 1) - i = _; rw [e0]
  refine ⟨by simp, by simp, fun i hi => ?_, fun i hi => ?_, ?_⟩
  · have hi : i ≤ c.l.n - 1 := hi
    show (st c i).i.toNat = c.l.n - 1 - i
    rw [es]; omega
  · have hi : i < c.l.n - 1 := hi
    have ei : (st c i).i = ((c.l.n - 1 - i : Nat) : Int) := by rw [es]; omega
    have ej : w64 ((st c i).i - 1) = ((c.l.n - 1 - i - 1 : Nat) : Int) := by
      rw [es]
      show IntKind.i64.wrap _ = _
      rw [w64_id (by omega) (by omega)]; omega
    have eb : ((vI c.l.ρ (st c i).i.toNat != vI c.l.ρ (st c i).i.toNat || false) || lt (vI c.l.ρ (st c i).i.toNat) (vI c.l.ρ (w64 ((st c i).i - 1)).toNat)) = bad c i := by
      rw [ei, ej, Int.toNat_natCast] at *
      unfold bad
      rw [Int.toNat_natCast]
      simp
    refine ⟨fun _ => ⟨?_, ?_, fun hh => ?_, fun _ => ⟨fun hb => ?_, fun hb => ?_⟩⟩, fun hh => ?_⟩
    · rw [ei]; exact inR (by omega)
    · show inRange (w64 ((st c i).i - 1)) c.l.n = true
      rw [ej]; exact inR (by omega)
    · simp at hh
    · have : bad c i = true := by rw [← eb]; exact hb
      rw [this]; rfl
    · have : bad c i = false := by rw [← eb]; exact hb
      rw [this]
      show (XE.normal, (⟨false, w64 ((st c i).i - 1)⟩ : V)) = (XE.normal, st c (i + 1))
      have : w64 ((st c i).i - 1) = w64 (toInt64 c.l.n - 1) - ((i + 1 : Nat) : Int) := by rw [ej, e0]; omega
      rw [this]; rfl
    · have hh : lt 0 (st c i).i = false := hh
      rw [← Bool.not_eq_true, lt_iff, ei] at hh; omega
  · refine ⟨fun hh => ?_, fun _ => rfl⟩
    have hh : lt 0 (st c (c.l.n - 1)).i = true := hh
    rw [lt_iff, es] at hh; omega
def get : List (Nat × AV) → Mem → Option (C × V)
  | [(0, .one (.c (.sl [.int .i64] c_l_n c_l_ρ))), (2, .one (.c (.bool v_f))), (3, .one (.c (.int .i64 v_i)))], [] =>
    some (⟨⟨c_l_n, c_l_ρ⟩⟩, ⟨v_f, v_i⟩)
  | _, _ => none
noncomputable def L : Nat → St → Tree (XE × St) := lqH [0, 2, 3] 0 21 get fun c v => lqT (S c) (good c ∧ v = st c 0) (anyB (bad c) (nn c)) .ret (.exit 0) (sb c (firstB (bad c) (nn c))) (st c (nn c))
theorem ok (fn : Func) (c b : Code) (hf : Tryz.prog.funcs[66]? = some fn) (hc : fn.body = some c) (hb : nthLoop c 0 = some b) : LoopOk Tryz.prog b L :=
  lq_ok h15 10 66 0 hf hc hb [0, 2, 3] 0 21 S TX t get (fun l m c v h => by unfold get at h; split at h <;> simp at h; obtain ⟨rfl, rfl⟩ := h; rfl)
    good μ st sb nn bad .ret (.exit 0) sq (fun c => (sb c (firstB (bad c) (nn c)))) (fun c => (st c (nn c))) (fun _ _ _ => StWk.refl) (fun _ _ _ => StWk.refl)
end Gb
namespace Gl
structure C where
  h : Hi
  l : Il
  k : Nat
  σ : Val
  x : Int
structure V where
  f : Bool
  i : Int
def S (c : C) (v : V) : St := mkS 46 [(1, .one (.c (.sl inSh c.l.n c.l.ρ))), (2, .one (.c (.ptr 0 0))), (7, .one (.c (.os 1 1))), (8, .one (.c (I c.x))), (9, .one (.c (.bool v.f))), (10, .one (.c (I v.i)))] [some (53, [.sl inSh c.h.s.n c.h.s.ρ, .sl wrSh c.h.w.n c.h.w.ρ, .sl evSh c.h.e.n c.h.e.ρ]), some (3, [.row false inSh c.k c.σ])]
def TX (c : C) (v : V) : Tree (XE × V) := .br (lt v.i (toInt64 c.l.n)) (.need (!((v.f == false) && true) || inRange v.i c.l.n) (.leaf (.normal, ⟨v.f || vI c.l.ρ v.i.toNat == c.x, w64 (v.i + 1)⟩))) (.leaf (.exit 2, v))
theorem t (c : C) (v : V) : ((evCode Tryz.prog H15 (evFn Tryz.prog H15 10) 22 0 2 (loopBody Tryz.prog 22 1) (S c v)).bind fun y => gcT [1, 2, 7, 8, 9, 10] 0 y) = (TX c v).bind fun y => .leaf (y.1, S c y.2) := by kernel_rfl
def st (c : C) (i : Nat) : V := ⟨anyB (fun k => vI c.l.ρ k == c.x) i, i⟩
def nn (c : C) : Nat := c.l.n
def good (c : C) : Prop := fewN c.l.n
def μ (c : C) (v : V) : Nat := (c.l.n - v.i).toNat
theorem sq (c : C) (h : good c) : Sq (TX c) (μ c) (st c) (st c) (nn c) (fun _ => false) .ret (.exit 2) := by
  refine sqF (sn := fun i => ⟨anyB (fun k => vI c.l.ρ k == c.x) (i + 1), w64 ((i : Int) + 1)⟩) (by simp) (by simp) (fun i hi => by show ((c.l.n : Int) - (i : Int)).toNat = c.l.n - i; omega) (fun i hi => ?_) (fun i hi => by rw [wS h hi]; rfl) rS
  have hi : i < c.l.n := hi
  refine ⟨fun _ => ⟨?_, rfl⟩, fun h' => ?_⟩
  · show (_ || inRange (i : Int) c.l.n) = true
    rw [inR hi, Bool.or_true]
  · have h' : lt (i : Int) (toInt64 c.l.n) = false := h'
    rw [ltT hi] at h'; cases h'
def get : List (Nat × AV) → Mem → Option (C × V)
  | [(1, .one (.c (.sl [.int .i64] c_l_n c_l_ρ))), (2, .one (.c (.ptr 0 0))), (7, .one (.c (.os 1 1))), (8, .one (.c (.int .i64 c_x))), (9, .one (.c (.bool v_f))), (10, .one (.c (.int .i64 v_i)))], [some (53, [.sl [.int .i64] c_h_s_n c_h_s_ρ, .sl [.int .i64, .int .i64, .sl [.int .u8, .int .u8, .int .u8, .int .u8, .int .u8, .int .u8, .int .u8, .int .u8]] c_h_w_n c_h_w_ρ, .sl [.int .i64, .int .i64] c_h_e_n c_h_e_ρ]), some (3, [.row false [.int .i64] c_k c_σ])] =>
    some (⟨⟨⟨c_h_s_n, c_h_s_ρ⟩, ⟨c_h_w_n, c_h_w_ρ⟩, ⟨c_h_e_n, c_h_e_ρ⟩⟩, ⟨c_l_n, c_l_ρ⟩, c_k, c_σ, c_x⟩, ⟨v_f, v_i⟩)
  | _, _ => none
noncomputable def L : Nat → St → Tree (XE × St) := lqH [1, 2, 7, 8, 9, 10] 0 46 get fun c v => lq1 (S c) (good c ∧ v = st c 0) (.exit 2) (st c (nn c))
theorem ok (fn : Func) (c b : Code) (hf : Tryz.prog.funcs[22]? = some fn) (hc : fn.body = some c) (hb : nthLoop c 1 = some b) : LoopOk Tryz.prog b L :=
  lq1_ok h15 10 22 1 hf hc hb [1, 2, 7, 8, 9, 10] 0 46 S TX t get (fun l m c v h => by unfold get at h; split at h <;> simp at h; obtain ⟨rfl, rfl⟩ := h; rfl)
    good μ st nn (.exit 2) sq (fun c => (st c (nn c))) (fun _ _ => StWk.refl)
end Gl
namespace Gn
structure C where
  t : Il
  q : Int
  l : Il
structure V where
  r : Int
  e : Int
  a : Int
  i : Int
def S (c : C) (v : V) : St := mkS 66 [(2, .one (.c (.sl inSh c.t.n c.t.ρ))), (3, .one (.c (I c.q))), (8, .one (.c (I v.r))), (9, .one (.c (I v.e))), (10, .one (.c (.sl inSh c.l.n c.l.ρ))), (12, .one (.c (I v.a))), (13, .one (.c (I v.i)))] []
def last (c : C) : Nat → Int
  | 0 => 0
  | i + 1 => vI c.t.ρ i
def bad (c : C) (i : Nat) : Bool := lt (vI c.t.ρ i) (last c i) || lt c.q (vI c.t.ρ i)
def TX (c : C) (v : V) : Tree (XE × V) :=
  let x := vI c.t.ρ v.i.toNat
  .br (lt v.i (toInt64 c.t.n)) (.need (inRange v.i c.t.n) (.need (!((lt x v.a == false) && true) || inRange v.i c.t.n) (.br (lt x v.a || lt c.q x) (.leaf (.ret, ⟨0, 24, v.a, v.i⟩)) (.need (inRange v.i c.t.n) (.leaf (.normal, ⟨v.r, v.e, x, w64 (v.i + 1)⟩)))))) (.leaf (.exit 0, v))
theorem t (c : C) (v : V) : ((evCode Tryz.prog H15 (evFn Tryz.prog H15 10) 24 0 1 (loopBody Tryz.prog 24 0) (S c v)).bind fun y => gcT [2, 3, 8, 9, 10, 12, 13] 0 y) = (TX c v).bind fun y => .leaf (y.1, S c y.2) := by kernel_rfl
def st (c : C) (i : Nat) : V := ⟨0, 0, last c i, i⟩
def sb (c : C) (i : Nat) : V := ⟨0, 24, last c i, i⟩
def nn (c : C) : Nat := c.t.n
def good (c : C) : Prop := fewN c.t.n
def μ (c : C) (v : V) : Nat := (c.t.n - v.i).toNat
theorem sq (c : C) (h : good c) : Sq (TX c) (μ c) (st c) (sb c) (nn c) (bad c) .ret (.exit 0) := by
  refine sqF (sn := fun i => ⟨0, 0, last c (i + 1), w64 ((i : Int) + 1)⟩) (by simp) (by simp) (fun i hi => by show ((c.t.n : Int) - (i : Int)).toNat = c.t.n - i; omega) (fun i hi => ?_) (fun i hi => by rw [wS h hi]; rfl) rS
  have hi : i < c.t.n := hi
  refine ⟨fun _ => ⟨inR hi, ?_, fun hb => ?_, fun hb => ⟨inR hi, ?_⟩⟩, fun h' => ?_⟩
  · show (_ || inRange (i : Int) c.t.n) = true
    rw [inR hi, Bool.or_true]
  · have : bad c i = true := hb
    rw [this]; rfl
  · have : bad c i = false := hb
    rw [this]; rfl
  · have h' : lt (i : Int) (toInt64 c.t.n) = false := h'
    rw [ltT hi] at h'; cases h'
def get : List (Nat × AV) → Mem → Option (C × V)
  | [(2, .one (.c (.sl [.int .i64] c_t_n c_t_ρ))), (3, .one (.c (.int .i64 c_q))), (8, .one (.c (.int .i64 v_r))), (9, .one (.c (.int .i64 v_e))), (10, .one (.c (.sl [.int .i64] c_l_n c_l_ρ))), (12, .one (.c (.int .i64 v_a))), (13, .one (.c (.int .i64 v_i)))], [] =>
    some (⟨⟨c_t_n, c_t_ρ⟩, c_q, ⟨c_l_n, c_l_ρ⟩⟩, ⟨v_r, v_e, v_a, v_i⟩)
  | _, _ => none
noncomputable def L : Nat → St → Tree (XE × St) := lqH [2, 3, 8, 9, 10, 12, 13] 0 66 get fun c v => lqT (S c) (good c ∧ v = st c 0) (anyB (bad c) (nn c)) .ret (.exit 0) (sb c (firstB (bad c) (nn c))) (st c (nn c))
theorem ok (fn : Func) (c b : Code) (hf : Tryz.prog.funcs[24]? = some fn) (hc : fn.body = some c) (hb : nthLoop c 0 = some b) : LoopOk Tryz.prog b L :=
  lq_ok h15 10 24 0 hf hc hb [2, 3, 8, 9, 10, 12, 13] 0 66 S TX t get (fun l m c v h => by unfold get at h; split at h <;> simp at h; obtain ⟨rfl, rfl⟩ := h; rfl)
    good μ st sb nn bad .ret (.exit 0) sq (fun c => (sb c (firstB (bad c) (nn c)))) (fun c => (st c (nn c))) (fun _ _ _ => StWk.refl) (fun _ _ _ => StWk.refl)
end Gn
noncomputable abbrev H16 : Hd := ⟨H15.pc, H15.hc, [((82, 0), Ga.L), ((66, 0), Gb.L), ((114, 0), Gc.L), ((76, 0), Ge.L), ((78, 0), Gf.L), ((121, 0), Gg.L), ((31, 0), Gj.L), ((20, 0), Gq.L), ((20, 1), Gr.L), ((25, 0), Gp.L), ((22, 1), Gl.L), ((24, 0), Gn.L)], H15.mc⟩
theorem h16 : HdOk Tryz.prog H16 := HdOk.lhCons (HdOk.lhCons (HdOk.lhCons (HdOk.lhCons (HdOk.lhCons (HdOk.lhCons (HdOk.lhCons (HdOk.lhCons (HdOk.lhCons (HdOk.lhCons (HdOk.lhCons (HdOk.lhCons h15 Gn.ok) Gl.ok) Gp.ok) Gr.ok) Gq.ok) Gj.ok) Gg.ok) Gf.ok) Ge.ok) Gc.ok) Gb.ok) Ga.ok
end Hs
end Go.Proofs.YtennlgngdjegoaaGreat
namespace Go.Proofs.YtennlgngdjegoaaGreat
open Go Go.Sx Go.RowKit Classical
set_option maxRecDepth 100000
set_option maxHeartbeats 4000000
namespace Hs
open Fo (inSh scSh evSh pcH litK headK allB allB_ok lhsOf lhs_ok)
def bo (b : Bool) : AV := .one (.c (.bool b))
theorem find_all {c b x y z : Bool} (hc : c = true) (h1 : b = true → x = z) (h0 : b = false → y = z) : (Tree.need c (.br b (.leaf (bo x)) (.leaf (bo y)))).All (fun u => u = bo z) :=
  ⟨hc, fun h => by show bo x = bo z; rw [h1 h], fun h => by show bo y = bo z; rw [h0 h]⟩
noncomputable def Ghas : List A1 → Option (Bool × AV)
  | [.c (.sl [.int .i64] n ρ), .c (.int .i64 w)] => some (dec (fewN n), bo (anyB (fun i => w == vI ρ i) n))
  | _ => none
theorem p34 : TcOne Tryz.prog 34 (nG Ghas) := tcOne_of_tree h16 10 34 fun args r h => by
  unfold Ghas at h; split at h
  · rename_i n ρ w
    obtain ⟨hp, rfl⟩ := Prod.mk.inj (Option.some.inj h)
    have hp := dec_iff.1 hp
    refine ⟨rfl, .need (dec (Ga.good ⟨⟨n, ρ⟩, w, toInt64 n⟩ ∧ (⟨0, 0⟩ : Ga.V) = Ga.st ⟨⟨n, ρ⟩, w, toInt64 n⟩ 0)) (.br (anyB (fun i => w == vI ρ i) n) (.leaf (bo (le 0 ((firstB (fun i => w == vI ρ i) n : Nat) : Int)))) (.leaf (bo false))), by kernel_rfl,
      find_all (dec_iff.2 ⟨⟨rfl, hp⟩, rfl⟩) (fun h => by rw [h, le0_nat]) (fun h => h.symm)⟩
  · cases h
noncomputable def Ghr : List A1 → Option (Bool × AV)
  | [.c (.sl [.int .i64] n ρ), .c (.int .i64 w)] => some (dec (fewN n), bo (anyB (fun i => vI ρ i == w) n))
  | _ => none
theorem p121 : TcOne Tryz.prog 121 (nG Ghr) := tcOne_of_tree h16 10 121 fun args r h => by
  unfold Ghr at h; split at h
  · rename_i n ρ w
    obtain ⟨hp, rfl⟩ := Prod.mk.inj (Option.some.inj h)
    have hp := dec_iff.1 hp
    exact ⟨rfl, .need (dec (Gg.good ⟨⟨n, ρ⟩, w⟩ ∧ (⟨false, 0⟩ : Gg.V) = Gg.st ⟨⟨n, ρ⟩, w⟩ 0)) (.br (anyB (fun i => vI ρ i == w) n) (.leaf (bo true)) (.leaf (bo false))), by kernel_rfl,
      find_all (dec_iff.2 ⟨hp, rfl⟩) (fun h => h.symm) (fun h => h.symm)⟩
  · cases h
def evQ (ε : Val) (x y : Int) (i : Nat) : Bool := vI ε i == x && (vJ ε i == y && true)
def atI (n : Nat) (ε : Val) (x y : Int) : Int := bif anyB (evQ ε x y) n then ((firstB (evQ ε x y) n : Nat) : Int) else -1
noncomputable def Gat : List A1 → Option (Bool × AV)
  | [.c (.sl [.int .i64, .int .i64] n ρ), .agg [.int .i64 x, .int .i64 y]] => some (dec (fewN n), .one (.c (I (atI n ρ x y))))
  | _ => none
theorem p76 : TcOne Tryz.prog 76 (nG Gat) := tcOne_of_tree h16 10 76 fun args r h => by
  unfold Gat at h; split at h
  · rename_i n ρ x y
    obtain ⟨hp, rfl⟩ := Prod.mk.inj (Option.some.inj h)
    have hp := dec_iff.1 hp
    refine ⟨rfl, .need (dec (Ge.good ⟨⟨n, ρ⟩, x, y⟩ ∧ (⟨0, 0⟩ : Ge.V) = Ge.st ⟨⟨n, ρ⟩, x, y⟩ 0)) (.br (anyB (evQ ρ x y) n) (.leaf (.one (.c (I ((firstB (evQ ρ x y) n : Nat) : Int))))) (.leaf (.one (.c (I (-1)))))), by kernel_rfl,
      dec_iff.2 ⟨hp, rfl⟩, fun h => ?_, fun h => ?_⟩
    · show AV.one (.c (I _)) = .one (.c (I (atI n ρ x y))); unfold atI; rw [h]; rfl
    · show AV.one (.c (I _)) = .one (.c (I (atI n ρ x y))); unfold atI; rw [h]; rfl
  · cases h
noncomputable def Gset : List A1 → Option (Bool × AV)
  | [.c (.sl [.int .i64] n ρ), .c (.int .i64 a)] => some (dec (fewN n), bo (!(anyB (setB a ρ) n)))
  | _ => none
theorem p78 : TcOne Tryz.prog 78 (nG Gset) := tcOne_of_tree h16 10 78 fun args r h => by
  unfold Gset at h; split at h
  · rename_i n ρ w
    obtain ⟨hp, rfl⟩ := Prod.mk.inj (Option.some.inj h)
    have hp := dec_iff.1 hp
    exact ⟨rfl, .need (dec (Gf.good ⟨⟨n, ρ⟩, w⟩ ∧ (⟨false, 0⟩ : Gf.V) = Gf.st ⟨⟨n, ρ⟩, w⟩ 0)) (.br (anyB (setB w ρ) n) (.leaf (bo false)) (.leaf (bo true))), by kernel_rfl,
      find_all (dec_iff.2 ⟨hp, rfl⟩) (fun h => by rw [h]; rfl) (fun h => by rw [h]; rfl)⟩
  · cases h
def srtB (l : Il) : Bool := !(anyB (Gb.bad ⟨l⟩) (l.n - 1))
noncomputable def Gsrt : List A1 → Option (Bool × AV)
  | [.c (.sl [.int .i64] n ρ)] => some (dec (n ≤ 1000), bo (srtB ⟨n, ρ⟩))
  | _ => none
theorem p66 : TcOne Tryz.prog 66 (nG Gsrt) := tcOne_of_tree h16 10 66 fun args r h => by
  unfold Gsrt at h; split at h
  · rename_i n ρ
    obtain ⟨hp, rfl⟩ := Prod.mk.inj (Option.some.inj h)
    have hp := dec_iff.1 hp
    refine ⟨rfl, .need (dec (Gb.good ⟨⟨n, ρ⟩⟩ ∧ (⟨false, w64 (toInt64 n - 1)⟩ : Gb.V) = Gb.st ⟨⟨n, ρ⟩⟩ 0)) (.br (anyB (Gb.bad ⟨⟨n, ρ⟩⟩) (n - 1)) (.leaf (bo false)) (.leaf (bo true))), by kernel_rfl,
      find_all (dec_iff.2 ⟨hp, ?_⟩) (fun h => ?_) (fun h => ?_)⟩
    · show (⟨false, w64 (toInt64 n - 1)⟩ : Gb.V) = ⟨false, w64 (toInt64 n - 1) - ((0 : Nat) : Int)⟩
      have : w64 (toInt64 n - 1) - ((0 : Nat) : Int) = w64 (toInt64 n - 1) := by omega
      rw [this]
    · show false = !(anyB (Gb.bad ⟨⟨n, ρ⟩⟩) (n - 1)); rw [h]; rfl
    · show true = !(anyB (Gb.bad ⟨⟨n, ρ⟩⟩) (n - 1)); rw [h]; rfl
  · cases h
def fwB (h : Hi) : Bool := !((lt 9 (toInt64 h.s.n) || lt 40 (toInt64 h.w.n)) || lt 90 (toInt64 h.e.n)) && (!(anyB (Gq.bad ⟨h⟩) h.s.n) && !(anyB (Gr.bad ⟨h⟩) h.w.n))
noncomputable def Gfw : List A1 → Option (Bool × AV)
  | [.agg [.sl [.int .i64] n ρ, .sl [.int .i64, .int .i64, .sl [.int .u8, .int .u8, .int .u8, .int .u8, .int .u8, .int .u8, .int .u8, .int .u8]] m ω, .sl [.int .i64, .int .i64] q ε]] => some (true, bo (fwB ⟨⟨n, ρ⟩, ⟨m, ω⟩, ⟨q, ε⟩⟩))
  | _ => none
theorem p20 : TcOne Tryz.prog 20 (nG Gfw) := tcOne_of_tree h16 10 20 fun args r h => by
  unfold Gfw at h; split at h
  · rename_i n ρ m ω q ε
    obtain ⟨-, rfl⟩ := Prod.mk.inj (Option.some.inj h)
    refine ⟨rfl, .br ((lt 9 (toInt64 n) || lt 40 (toInt64 m)) || lt 90 (toInt64 q)) (.leaf (bo false)) (.need (dec (Gq.good ⟨⟨⟨n, ρ⟩, ⟨m, ω⟩, ⟨q, ε⟩⟩⟩ ∧ (⟨false, 0⟩ : Gq.V) = Gq.st ⟨⟨⟨n, ρ⟩, ⟨m, ω⟩, ⟨q, ε⟩⟩⟩ 0)) (.br (anyB (Gq.bad ⟨⟨⟨n, ρ⟩, ⟨m, ω⟩, ⟨q, ε⟩⟩⟩) n) (.leaf (bo false))
      (.need (dec (Gr.good ⟨⟨⟨n, ρ⟩, ⟨m, ω⟩, ⟨q, ε⟩⟩⟩ ∧ (⟨false, 0⟩ : Gr.V) = Gr.st ⟨⟨⟨n, ρ⟩, ⟨m, ω⟩, ⟨q, ε⟩⟩⟩ 0)) (.br (anyB (Gr.bad ⟨⟨⟨n, ρ⟩, ⟨m, ω⟩, ⟨q, ε⟩⟩⟩) m) (.leaf (bo false)) (.leaf (bo true)))))), by kernel_rfl,
      fun h => ?_, fun h => ?_⟩
    · show bo false = bo (fwB _); unfold fwB; simp only [h]; rfl
    · have h' := h
      rw [Bool.or_eq_false_iff, Bool.or_eq_false_iff, ← Bool.not_eq_true, ← Bool.not_eq_true, lt_iff, lt_iff] at h'
      have a1 : ¬ (9 : Int) < (n : Int) := h'.1.1
      have a2 : ¬ (40 : Int) < (m : Int) := h'.1.2
      refine ⟨dec_iff.2 ⟨by show fewN n; unfold fewN; omega, rfl⟩, fun h1 => ?_, fun h1 => ⟨dec_iff.2 ⟨by show fewN m; unfold fewN; omega, rfl⟩, fun h2 => ?_, fun h2 => ?_⟩⟩
      · show bo false = bo (fwB _); unfold fwB; simp only [h, h1]; rfl
      · show bo false = bo (fwB _); unfold fwB; simp only [h, h1, h2]; rfl
      · show bo true = bo (fwB _); unfold fwB; simp only [h, h1, h2]; rfl
  · cases h
def smB (a b : Il) : Bool := bif toInt64 a.n != toInt64 b.n then false else !(anyB (Gp.bad ⟨a, b⟩) a.n)
noncomputable def Gsm : List A1 → Option (Bool × AV)
  | [.c (.sl [.int .i64] n ρ), .c (.sl [.int .i64] m ω)] => some (dec (fewN n), bo (smB ⟨n, ρ⟩ ⟨m, ω⟩))
  | _ => none
theorem p25 : TcOne Tryz.prog 25 (nG Gsm) := tcOne_of_tree h16 10 25 fun args r h => by
  unfold Gsm at h; split at h
  · rename_i n ρ m ω
    obtain ⟨hp, rfl⟩ := Prod.mk.inj (Option.some.inj h)
    have hp := dec_iff.1 hp
    refine ⟨rfl, .br (toInt64 n != toInt64 m) (.leaf (bo false)) (.need (dec (Gp.good ⟨⟨n, ρ⟩, ⟨m, ω⟩⟩ ∧ (⟨false, 0⟩ : Gp.V) = Gp.st ⟨⟨n, ρ⟩, ⟨m, ω⟩⟩ 0)) (.br (anyB (Gp.bad ⟨⟨n, ρ⟩, ⟨m, ω⟩⟩) n) (.leaf (bo false)) (.leaf (bo true)))), by kernel_rfl,
      fun h => ?_, fun h => find_all (dec_iff.2 ⟨⟨hp, ?_⟩, rfl⟩) (fun h1 => ?_) (fun h1 => ?_)⟩
    · show bo false = bo (smB _ _); unfold smB; simp only [h]; rfl
    · have h : toInt64 n = toInt64 m := by simpa [bne] using h
      exact Int.ofNat.inj h
    · unfold smB; simp only [h, h1]; rfl
    · unfold smB; simp only [h, h1]; rfl
  · cases h
noncomputable abbrev H17 : Hd := ⟨(25, nG Gsm) :: (20, nG Gfw) :: (66, nG Gsrt) :: (78, nG Gset) :: (76, nG Gat) :: (121, nG Ghr) :: (34, nG Ghas) :: H15.pc, H15.hc, [], H15.mc⟩
theorem h17 : HdOk Tryz.prog H17 := ((((((h15.tcCons p34).tcCons p121).tcCons p76).tcCons p78).tcCons p66).tcCons p20).tcCons p25
noncomputable def Gev (k : Int) : List A1 → Option (Bool × AV)
  | [.c (.int .i64 w)] => some (true, .one (.agg [I k, I w]))
  | _ => none
theorem p77 : TcOne Tryz.prog 77 (nG (Gev 0)) := tcOne_of_tree h17 10 77 fun args r h => by
  unfold Gev at h; split at h
  · rename_i w
    obtain ⟨-, rfl⟩ := Prod.mk.inj (Option.some.inj h)
    exact ⟨rfl, .leaf (.one (.agg [I 0, I w])), by kernel_rfl, rfl⟩
  · cases h
theorem p151 : TcOne Tryz.prog 151 (nG (Gev 1)) := tcOne_of_tree h17 10 151 fun args r h => by
  unfold Gev at h; split at h
  · rename_i w
    obtain ⟨-, rfl⟩ := Prod.mk.inj (Option.some.inj h)
    exact ⟨rfl, .leaf (.one (.agg [I 1, I w])), by kernel_rfl, rfl⟩
  · cases h
noncomputable abbrev H17' : Hd := ⟨(151, nG (Gev 1)) :: (77, nG (Gev 0)) :: H17.pc, H17.hc, [], H17.mc⟩
theorem h17' : HdOk Tryz.prog H17' := (h17.tcCons p77).tcCons p151
def befB (h : Hi) (a b : Int) : Bool := bif le 0 (atI h.e.n h.e.ρ 1 a) then lt (atI h.e.n h.e.ρ 1 a) (atI h.e.n h.e.ρ 0 b) else false
noncomputable def Gbef : List A1 → Option (Bool × AV)
  | [.agg [.sl [.int .i64] n ρ, .sl [.int .i64, .int .i64, .sl [.int .u8, .int .u8, .int .u8, .int .u8, .int .u8, .int .u8, .int .u8, .int .u8]] m ω, .sl [.int .i64, .int .i64] q ε], .c (.int .i64 a), .c (.int .i64 b)] => some (dec (fewN q), bo (befB ⟨⟨n, ρ⟩, ⟨m, ω⟩, ⟨q, ε⟩⟩ a b))
  | _ => none
theorem p120 : TcOne Tryz.prog 120 (nG Gbef) := tcOne_of_tree h17' 10 120 fun args r h => by
  unfold Gbef at h; split at h
  · rename_i n ρ m ω q ε a b
    obtain ⟨hp, rfl⟩ := Prod.mk.inj (Option.some.inj h)
    exact ⟨rfl, .need true (.need (dec (fewN q)) (.need true (.need (dec (fewN q)) (.leaf (bo (befB ⟨⟨n, ρ⟩, ⟨m, ω⟩, ⟨q, ε⟩⟩ a b)))))), by kernel_rfl, rfl, hp, rfl, hp, rfl⟩
  · cases h
noncomputable abbrev H18 : Hd := ⟨(120, nG Gbef) :: H17'.pc, H17'.hc, [], H17'.mc⟩
theorem h18 : HdOk Tryz.prog H18 := h17'.tcCons p120
end Hs
end Go.Proofs.YtennlgngdjegoaaGreat
