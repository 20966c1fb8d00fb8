/-
  Part TlW of the proof: LosI LosJ LosK LosL LosN.
-/
import Derived.Test.YtennlgngdjegoaaGreatTlV
namespace Go.Proofs.YtennlgngdjegoaaGreat
open Go Go.Sx Go.RowKit Classical
set_option maxRecDepth 100000
set_option maxHeartbeats 4000000
namespace Hs
open Fo (inSh scSh evSh pcH litK headK allB allB_ok lhsOf lhs_ok)
def inB (l : Il) (x : Int) : Bool := anyB (fun i => x == vI l.ρ i) l.n
def ls (l : Il) : Nat → Nat × Val
  | 0 => (0, .zero)
  | i + 1 => bif !(inB l i) then ((ls l i).1 + 1, Val.cat (ls l i).1 (ls l i).2 (Val.ofFlat 1 [I i])) else ls l i
theorem ls_le (l : Il) : ∀ i, (ls l i).1 ≤ i
  | 0 => Nat.le_refl _
  | i + 1 => by
    have := ls_le l i
    unfold ls
    cases !(inB l i)
    · show (ls l i).1 ≤ i + 1; omega
    · show (ls l i).1 + 1 ≤ i + 1; omega
namespace Gd
structure C where
  l : Il
  m : Int
structure V where
  k : Nat
  σ : Val
  i : Int
def S (c : C) (v : V) : St := mkS 31 [(1, .one (.c (.sl inSh c.l.n c.l.ρ))), (7, .one (.c (.os 0 1))), (17, .one (.c (I c.m))), (18, .one (.c (I v.i)))] [some (3, [.row false inSh v.k v.σ])]
noncomputable def TX (c : C) (v : V) : Tree (XE × V) := .br (lt v.i c.m) (.need (dec (fewN c.l.n)) (.br (!(inB c.l v.i)) (.need (Nat.ble (((v.k + 1).mul 7).add v.k) 140737488355327) (.leaf (.normal, ⟨v.k + 1, Val.cat v.k v.σ (Val.ofFlat 1 [I v.i]), w64 (v.i + 1)⟩))) (.leaf (.normal, ⟨v.k, v.σ, w64 (v.i + 1)⟩)))) (.leaf (.exit 0, v))
theorem t (c : C) (v : V) : ((evCode Tryz.prog H18 (evFn Tryz.prog H18 10) 21 0 1 (loopBody Tryz.prog 21 0) (S c v)).bind fun y => gcT [1, 7, 17, 18] 0 y) = (TX c v).bind fun y => .leaf (y.1, S c y.2) := by kernel_rfl
def st (c : C) (i : Nat) : V := ⟨(ls c.l i).1, (ls c.l i).2, i⟩
def nn (c : C) : Nat := c.m.toNat
def good (c : C) : Prop := (0 ≤ c.m ∧ c.m ≤ 1000) ∧ fewN c.l.n
def μ (c : C) (v : V) : Nat := (c.m - v.i).toNat
theorem sq (c : C) (h : good c) : Sq (TX c) (μ c) (st c) (st c) (nn c) (fun _ => false) .ret (.exit 0) := by
  obtain ⟨⟨m0, m1⟩, hl⟩ := h
  have em : c.m = toInt64 c.m.toNat := by show c.m = ((c.m.toNat : Nat) : Int); omega
  refine sqF (sn := fun i => { st c (i + 1) with i := w64 ((i : Int) + 1) }) (by simp) (by simp) (fun i hi => by show (c.m - (i : Int)).toNat = c.m.toNat - i; omega) (fun i hi => ?_) (fun i hi => by rw [wS (n := c.m.toNat) (by unfold fewN; omega) hi]; rfl) ?_
  · have hi : i < c.m.toNat := hi
    have hk := ls_le c.l i
    have hS : ls c.l (i + 1) = bif !(inB c.l i) then ((ls c.l i).1 + 1, Val.cat (ls c.l i).1 (ls c.l i).2 (Val.ofFlat 1 [I i])) else ls c.l i := rfl
    refine ⟨fun _ => ⟨dec_iff.2 hl, fun h1 => ⟨Nat.ble_eq_true_of_le (by show (((ls c.l i).1 + 1) * 7 + (ls c.l i).1) ≤ _; omega), ?_⟩, fun h1 => ?_⟩, fun h' => ?_⟩
    · have h1 : (!(inB c.l i)) = true := h1
      show (XE.normal, _) = (XE.normal, _)
      unfold st; rw [hS, h1]; rfl
    · have h1 : (!(inB c.l i)) = false := h1
      show (XE.normal, _) = (XE.normal, _)
      unfold st; rw [hS, h1]; rfl
    · have h' : lt (i : Int) c.m = false := h'
      rw [em, ltT hi] at h'; cases h'
  · refine ⟨fun h' => ?_, fun _ => rfl⟩
    have h' : lt (c.m.toNat : Int) c.m = true := h'
    rw [lt_iff] at h'; omega
def get : List (Nat × AV) → Mem → Option (C × V)
  | [(1, .one (.c (.sl [.int .i64] c_l_n c_l_ρ))), (7, .one (.c (.os 0 1))), (17, .one (.c (.int .i64 c_m))), (18, .one (.c (.int .i64 v_i)))], [some (3, [.row false [.int .i64] v_k v_σ])] =>
    some (⟨⟨c_l_n, c_l_ρ⟩, c_m⟩, ⟨v_k, v_σ, v_i⟩)
  | _, _ => none
noncomputable def L : Nat → St → Tree (XE × St) := ownH [.own 7 3 inSh] (lqH [1, 7, 17, 18] 0 31 get fun c v => lq1 (S c) (good c ∧ v = st c 0) (.exit 0) (st c (nn c)))
theorem ok (fn : Func) (c b : Code) (hf : Tryz.prog.funcs[21]? = some fn) (hc : fn.body = some c) (hb : nthLoop c 0 = some b) : LoopOk Tryz.prog b L :=
  ownH_ok [.own 7 3 inSh] (lq1_ok h18 10 21 0 hf hc hb [1, 7, 17, 18] 0 31 S TX t get (fun l m c v h => by unfold get at h; split at h <;> simp at h; obtain ⟨rfl, rfl⟩ := h; rfl)
    good μ st nn (.exit 0) sq (fun c => (st c (nn c))) (fun _ _ => StWk.refl))
end Gd
namespace Gh
structure C where
  l : Il
  h : Hi
  x : Int
  f0 : Bool
structure V where
  f : Bool
  a : Int
def S (c : C) (v : V) : St := mkS 33 [(1, .one (.c (.sl inSh c.l.n c.l.ρ))), (2, .one (.c (.ptr 0 0))), (4, .one (.c (.bool v.f))), (5, .one (.c (I c.x))), (6, .one (.c (I v.a)))] [some (53, [.sl inSh c.h.s.n c.h.s.ρ, .sl wrSh c.h.w.n c.h.w.ρ, .sl evSh c.h.e.n c.h.e.ρ])]
def badX (c : C) (a : Int) : Bool := befB c.h a (vI c.l.ρ c.x.toNat) && !(anyB (fun i => vI c.l.ρ i == a) c.l.n)
noncomputable def TX (c : C) (v : V) : Tree (XE × V) := .br (lt v.a (toInt64 c.h.w.n)) (.need (inRange c.x c.l.n) (.need (dec (fewN c.h.e.n)) (.need (!((befB c.h v.a (vI c.l.ρ c.x.toNat) == true) && true) || dec (fewN c.l.n)) (.br (badX c v.a) (.leaf (.ret, ⟨false, v.a⟩)) (.leaf (.normal, ⟨v.f, w64 (v.a + 1)⟩)))))) (.leaf (.exit 2, v))
theorem t (c : C) (v : V) : ((evCode Tryz.prog H18 (evFn Tryz.prog H18 10) 79 0 2 (loopBody Tryz.prog 79 1) (S c v)).bind fun y => gcT [1, 2, 4, 5, 6] 0 y) = (TX c v).bind fun y => .leaf (y.1, S c y.2) := by kernel_rfl
def st (c : C) (i : Nat) : V := ⟨c.f0, i⟩
def sb (_ : C) (i : Nat) : V := ⟨false, i⟩
def nn (c : C) : Nat := c.h.w.n
def bad (c : C) (i : Nat) : Bool := badX c i
def good (c : C) : Prop := fewN c.h.w.n ∧ inRange c.x c.l.n = true ∧ fewN c.h.e.n ∧ fewN c.l.n
def μ (c : C) (v : V) : Nat := (c.h.w.n - v.a).toNat
theorem sq (c : C) (h : good c) : Sq (TX c) (μ c) (st c) (sb c) (nn c) (bad c) .ret (.exit 2) := by
  obtain ⟨h1, h2, h3, h4⟩ := h
  refine sqF (sn := fun i => ⟨c.f0, w64 ((i : Int) + 1)⟩) (by simp) (by simp) (fun i hi => by show ((c.h.w.n : Int) - (i : Int)).toNat = c.h.w.n - i; omega) (fun i hi => ?_) (fun i hi => by rw [wS h1 hi]; rfl) rS
  have hi : i < c.h.w.n := hi
  refine ⟨fun _ => ⟨h2, dec_iff.2 h3, ?_, fun hb => ?_, fun hb => ?_⟩, fun h' => ?_⟩
  · show (_ || dec (fewN c.l.n)) = true
    rw [dec_iff.2 h4, Bool.or_true]
  · have : bad c i = true := hb
    rw [this]; rfl
  · have : bad c i = false := hb
    rw [this]; rfl
  · have h' : lt (i : Int) (toInt64 c.h.w.n) = false := h'
    rw [ltT hi] at h'; cases h'
def get : List (Nat × AV) → Mem → Option (C × V)
  | [(1, .one (.c (.sl [.int .i64] c_l_n c_l_ρ))), (2, .one (.c (.ptr 0 0))), (4, .one (.c (.bool v_f))), (5, .one (.c (.int .i64 c_x))), (6, .one (.c (.int .i64 v_a)))], [some (53, [.sl [.int .i64] c_h_s_n c_h_s_ρ, .sl [.int .i64, .int .i64, .sl [.int .u8, .int .u8, .int .u8, .int .u8, .int .u8, .int .u8, .int .u8, .int .u8]] c_h_w_n c_h_w_ρ, .sl [.int .i64, .int .i64] c_h_e_n c_h_e_ρ])] =>
    some (⟨⟨c_l_n, c_l_ρ⟩, ⟨⟨c_h_s_n, c_h_s_ρ⟩, ⟨c_h_w_n, c_h_w_ρ⟩, ⟨c_h_e_n, c_h_e_ρ⟩⟩, c_x, v_f⟩, ⟨v_f, v_a⟩)
  | _, _ => none
noncomputable def L : Nat → St → Tree (XE × St) := lqH [1, 2, 4, 5, 6] 0 33 get fun c v => lqT (S c) (good c ∧ v = st c 0) (anyB (bad c) (nn c)) .ret (.exit 2) (sb c (firstB (bad c) (nn c))) (st c (nn c))
theorem ok (fn : Func) (c b : Code) (hf : Tryz.prog.funcs[79]? = some fn) (hc : fn.body = some c) (hb : nthLoop c 1 = some b) : LoopOk Tryz.prog b L :=
  lq_ok h18 10 79 1 hf hc hb [1, 2, 4, 5, 6] 0 33 S TX t get (fun l m c v h => by unfold get at h; split at h <;> simp at h; obtain ⟨rfl, rfl⟩ := h; rfl)
    good μ st sb nn bad .ret (.exit 2) sq (fun c => (sb c (firstB (bad c) (nn c)))) (fun c => (st c (nn c))) (fun _ _ _ => StWk.refl) (fun _ _ _ => StWk.refl)
end Gh
def ik (ε : Val) : Nat → Int
  | 0 => 0
  | i + 1 => bif vI ε i == 0 then w64 (ik ε i + 1) else ik ε i
def eR (nw : Nat) (ε : Val) (i : Nat) : Int :=
  bif vI ε i == 0 then (bif vJ ε i != ik ε i || le (toInt64 nw) (ik ε i) then 3 else 0) else bif vI ε i != 1 then 3 else bif lt (atI i ε 0 (vJ ε i)) 0 then 7 else bif le 0 (atI i ε (vI ε i) (vJ ε i)) then 8 else 0
namespace Gk
structure C where
  h : Hi
structure V where
  e : Int
  k : Int
  i : Int
def S (c : C) (v : V) : St := mkS 93 [(1, .one (.c (.ptr 0 0))), (2, .one (.c (I v.e))), (6, .one (.c (I v.k))), (7, .one (.c (I v.i)))] [some (53, [.sl inSh c.h.s.n c.h.s.ρ, .sl wrSh c.h.w.n c.h.w.ρ, .sl evSh c.h.e.n c.h.e.ρ])]
noncomputable def TX (c : C) (v : V) : Tree (XE × V) :=
  let ε := c.h.e.ρ
  let K := vI ε v.i.toNat
  let W := vJ ε v.i.toNat
  .br (lt v.i (toInt64 c.h.e.n)) (.need (inRange v.i c.h.e.n) (.br (K == 0) (.br (W != v.k || le (toInt64 c.h.w.n) v.k) (.leaf (.ret, ⟨3, v.k, v.i⟩)) (.leaf (.normal, ⟨v.e, w64 (v.k + 1), w64 (v.i + 1)⟩)))
    (.br (K != 1) (.leaf (.ret, ⟨3, v.k, v.i⟩)) (.need (le 0 v.i && le v.i (toInt64 c.h.e.n)) (.need true (.need (dec (fewN v.i.toNat)) (.br (lt (atI v.i.toNat ε 0 W) 0) (.leaf (.ret, ⟨7, v.k, v.i⟩))
      (.need (le 0 v.i && le v.i (toInt64 c.h.e.n)) (.need (dec (fewN v.i.toNat)) (.br (le 0 (atI v.i.toNat ε K W)) (.leaf (.ret, ⟨8, v.k, v.i⟩)) (.leaf (.normal, ⟨v.e, v.k, w64 (v.i + 1)⟩)))))))))))) (.leaf (.exit 2, v))
theorem t (c : C) (v : V) : ((evCode Tryz.prog H18 (evFn Tryz.prog H18 10) 31 0 2 (loopBody Tryz.prog 31 1) (S c v)).bind fun y => gcT [1, 2, 6, 7] 0 y) = (TX c v).bind fun y => .leaf (y.1, S c y.2) := by kernel_rfl
def er (c : C) (i : Nat) : Int := eR c.h.w.n c.h.e.ρ i
def st (c : C) (i : Nat) : V := ⟨0, ik c.h.e.ρ i, i⟩
def sb (c : C) (i : Nat) : V := ⟨er c i, ik c.h.e.ρ i, i⟩
def nn (c : C) : Nat := c.h.e.n
def bad (c : C) (i : Nat) : Bool := er c i != 0
def good (c : C) : Prop := c.h.e.n ≤ 1000
def μ (c : C) (v : V) : Nat := (c.h.e.n - v.i).toNat
theorem sq (c : C) (h : good c) : Sq (TX c) (μ c) (st c) (sb c) (nn c) (bad c) .ret (.exit 2) := by
  obtain ⟨h0⟩ := c
  have h : h0.e.n ≤ 1000 := h
  refine sqF (sn := fun i => { st ⟨h0⟩ (i + 1) with i := w64 ((i : Int) + 1) }) (by simp) (by simp) (fun i hi => by show ((h0.e.n : Int) - (i : Int)).toNat = h0.e.n - i; omega) (fun i hi => ?_) (fun i hi => by rw [wS (n := h0.e.n) (by unfold fewN; omega) hi]; rfl) rS
  have hi : i < h0.e.n := hi
  have c1 : (le 0 (i : Int) && le (i : Int) (toInt64 h0.e.n)) = true := by rw [Bool.and_eq_true, le_iff, le_iff]; exact ⟨by omega, by show (i : Int) ≤ (h0.e.n : Int); omega⟩
  have c2 : dec (fewN (i : Int).toNat) = true := dec_iff.2 (by unfold fewN; omega)
  have hB : bad ⟨h0⟩ i = (eR h0.w.n h0.e.ρ i != 0) := rfl
  have hE : er ⟨h0⟩ i = eR h0.w.n h0.e.ρ i := rfl
  have hS : ik h0.e.ρ (i + 1) = bif vI h0.e.ρ i == 0 then w64 (ik h0.e.ρ i + 1) else ik h0.e.ρ i := rfl
  refine ⟨fun _ => ⟨inR hi, fun h1 => ⟨fun h2 => ?_, fun h2 => ?_⟩, fun h1 => ⟨fun h2 => ?_, fun h2 => ⟨c1, rfl, c2, fun h3 => ?_, fun h3 => ⟨c1, c2, fun h4 => ?_, fun h4 => ?_⟩⟩⟩⟩, fun h' => ?_⟩
  · have h1 : (vI h0.e.ρ i == 0) = true := h1
    have h2 : (vJ h0.e.ρ i != ik h0.e.ρ i || le (toInt64 h0.w.n) (ik h0.e.ρ i)) = true := h2
    have e : eR h0.w.n h0.e.ρ i = 3 := by unfold eR; rw [h1, h2]; rfl
    rw [hB, e]
    show (XE.ret, _) = (XE.ret, sb _ i)
    unfold sb; rw [hE, e]; rfl
  · have h1 : (vI h0.e.ρ i == 0) = true := h1
    have h2 : (vJ h0.e.ρ i != ik h0.e.ρ i || le (toInt64 h0.w.n) (ik h0.e.ρ i)) = false := h2
    have e : eR h0.w.n h0.e.ρ i = 0 := by unfold eR; rw [h1, h2]; rfl
    rw [hB, e]
    show (XE.normal, _) = (XE.normal, _)
    unfold st; rw [hS, h1]; rfl
  · have h1 : (vI h0.e.ρ i == 0) = false := h1
    have h2 : (vI h0.e.ρ i != 1) = true := h2
    have e : eR h0.w.n h0.e.ρ i = 3 := by unfold eR; rw [h1, h2]; rfl
    rw [hB, e]
    show (XE.ret, _) = (XE.ret, sb _ i)
    unfold sb; rw [hE, e]; rfl
  · have h1 : (vI h0.e.ρ i == 0) = false := h1
    have h2 : (vI h0.e.ρ i != 1) = false := h2
    have h3 : lt (atI i h0.e.ρ 0 (vJ h0.e.ρ i)) 0 = true := h3
    have e : eR h0.w.n h0.e.ρ i = 7 := by unfold eR; rw [h1, h2, h3]; rfl
    rw [hB, e]
    show (XE.ret, _) = (XE.ret, sb _ i)
    unfold sb; rw [hE, e]; rfl
  · have h1 : (vI h0.e.ρ i == 0) = false := h1
    have h2 : (vI h0.e.ρ i != 1) = false := h2
    have h3 : lt (atI i h0.e.ρ 0 (vJ h0.e.ρ i)) 0 = false := h3
    have h4 : le 0 (atI i h0.e.ρ (vI h0.e.ρ i) (vJ h0.e.ρ i)) = true := h4
    have e : eR h0.w.n h0.e.ρ i = 8 := by unfold eR; rw [h1, h2, h3, h4]; rfl
    rw [hB, e]
    show (XE.ret, _) = (XE.ret, sb _ i)
    unfold sb; rw [hE, e]; rfl
  · have h1 : (vI h0.e.ρ i == 0) = false := h1
    have h2 : (vI h0.e.ρ i != 1) = false := h2
    have h3 : lt (atI i h0.e.ρ 0 (vJ h0.e.ρ i)) 0 = false := h3
    have h4 : le 0 (atI i h0.e.ρ (vI h0.e.ρ i) (vJ h0.e.ρ i)) = false := h4
    have e : eR h0.w.n h0.e.ρ i = 0 := by unfold eR; rw [h1, h2, h3, h4]; rfl
    rw [hB, e]
    show (XE.normal, _) = (XE.normal, _)
    unfold st; rw [hS, h1]; rfl
  · have h' : lt (i : Int) (toInt64 h0.e.n) = false := h'
    rw [ltT hi] at h'; cases h'
def get : List (Nat × AV) → Mem → Option (C × V)
  | [(1, .one (.c (.ptr 0 0))), (2, .one (.c (.int .i64 v_e))), (6, .one (.c (.int .i64 v_k))), (7, .one (.c (.int .i64 v_i)))], [some (53, [.sl [.int .i64] c_h_s_n c_h_s_ρ, .sl [.int .i64, .int .i64, .sl [.int .u8, .int .u8, .int .u8, .int .u8, .int .u8, .int .u8, .int .u8, .int .u8]] c_h_w_n c_h_w_ρ, .sl [.int .i64, .int .i64] c_h_e_n c_h_e_ρ])] =>
    some (⟨⟨⟨c_h_s_n, c_h_s_ρ⟩, ⟨c_h_w_n, c_h_w_ρ⟩, ⟨c_h_e_n, c_h_e_ρ⟩⟩⟩, ⟨v_e, v_k, v_i⟩)
  | _, _ => none
noncomputable def L : Nat → St → Tree (XE × St) := lqH [1, 2, 6, 7] 0 93 get fun c v => lqT (S c) (good c ∧ v = st c 0) (anyB (bad c) (nn c)) .ret (.exit 2) (sb c (firstB (bad c) (nn c))) (st c (nn c))
theorem ok (fn : Func) (c b : Code) (hf : Tryz.prog.funcs[31]? = some fn) (hc : fn.body = some c) (hb : nthLoop c 1 = some b) : LoopOk Tryz.prog b L :=
  lq_ok h18 10 31 1 hf hc hb [1, 2, 6, 7] 0 93 S TX t get (fun l m c v h => by unfold get at h; split at h <;> simp at h; obtain ⟨rfl, rfl⟩ := h; rfl)
    good μ st sb nn bad .ret (.exit 2) sq (fun c => (sb c (firstB (bad c) (nn c)))) (fun c => (st c (nn c))) (fun _ _ _ => StWk.refl) (fun _ _ _ => StWk.refl)
end Gk
noncomputable abbrev H19 : Hd := ⟨H18.pc, H18.hc, [((79, 1), Gh.L)], H18.mc⟩
theorem h19 : HdOk Tryz.prog H19 := HdOk.lhCons h18 Gh.ok
noncomputable abbrev H20 : Hd := ⟨H18.pc, H18.hc, [((22, 1), Gl.L)], H18.mc⟩
theorem h20 : HdOk Tryz.prog H20 := HdOk.lhCons h18 Gl.ok
theorem in_comm (l : Il) (x : Int) : anyB (fun k => vI l.ρ k == x) l.n = inB l x := by
  unfold inB
  congr 1
  funext i
  rw [Bool.eq_iff_iff, beq_iff_eq, beq_iff_eq]
  exact eq_comm
namespace Gi
structure C where
  l : Il
  h : Hi
structure V where
  f : Bool
  i : Int
def S (c : C) (v : V) : St := mkS 33 [(1, .one (.c (.sl inSh c.l.n c.l.ρ))), (2, .one (.c (.ptr 0 0))), (4, .one (.c (.bool v.f))), (5, .one (.c (I v.i)))] [some (53, [.sl inSh c.h.s.n c.h.s.ρ, .sl wrSh c.h.w.n c.h.w.ρ, .sl evSh c.h.e.n c.h.e.ρ])]
def jc (c : C) (v : V) : Gh.C := ⟨c.l, c.h, v.i, v.f⟩
noncomputable def TX (c : C) (v : V) : Tree (XE × V) := .br (lt v.i (toInt64 c.l.n)) (.need (dec (Gh.good (jc c v) ∧ (⟨v.f, 0⟩ : Gh.V) = Gh.st (jc c v) 0)) (.br (anyB (Gh.bad (jc c v)) c.h.w.n) (.leaf (.ret, ⟨false, v.i⟩)) (.leaf (.normal, ⟨v.f, w64 (v.i + 1)⟩)))) (.leaf (.exit 0, v))
theorem t (c : C) (v : V) : ((evCode Tryz.prog H19 (evFn Tryz.prog H19 10) 79 0 1 (loopBody Tryz.prog 79 0) (S c v)).bind fun y => gcT [1, 2, 4, 5] 0 y) = (TX c v).bind fun y => .leaf (y.1, S c y.2) := by kernel_rfl
def st (_ : C) (i : Nat) : V := ⟨false, i⟩
def sb (c : C) (i : Nat) : V := st c i
def nn (c : C) : Nat := c.l.n
def bad (c : C) (i : Nat) : Bool := anyB (fun a => befB c.h a (vI c.l.ρ i) && !(anyB (fun k => vI c.l.ρ k == (a : Int)) c.l.n)) c.h.w.n
def good (c : C) : Prop := fewN c.l.n ∧ fewN c.h.w.n ∧ fewN c.h.e.n
def μ (c : C) (v : V) : Nat := (c.l.n - v.i).toNat
theorem sq (c : C) (h : good c) : Sq (TX c) (μ c) (st c) (st c) (nn c) (bad c) .ret (.exit 0) := by
  obtain ⟨h1, h2, h3⟩ := h
  refine sqF (sn := fun i => ⟨false, w64 ((i : Int) + 1)⟩) (by simp) (by simp) (fun i hi => by show ((c.l.n : Int) - (i : Int)).toNat = c.l.n - i; omega) (fun i hi => ?_) (fun i hi => by rw [wS h1 hi]; rfl) rS
  have hi : i < c.l.n := hi
  refine ⟨fun _ => ⟨dec_iff.2 ⟨⟨h2, inR hi, h3, h1⟩, rfl⟩, fun hb => ?_, fun hb => ?_⟩, fun h' => ?_⟩
  · have : bad c i = true := hb
    rw [this]; rfl
  · have : bad c i = false := hb
    rw [this]; rfl
  · have h' : lt (i : Int) (toInt64 c.l.n) = false := h'
    rw [ltT hi] at h'; cases h'
def get : List (Nat × AV) → Mem → Option (C × V)
  | [(1, .one (.c (.sl [.int .i64] c_l_n c_l_ρ))), (2, .one (.c (.ptr 0 0))), (4, .one (.c (.bool v_f))), (5, .one (.c (.int .i64 v_i)))], [some (53, [.sl [.int .i64] c_h_s_n c_h_s_ρ, .sl [.int .i64, .int .i64, .sl [.int .u8, .int .u8, .int .u8, .int .u8, .int .u8, .int .u8, .int .u8, .int .u8]] c_h_w_n c_h_w_ρ, .sl [.int .i64, .int .i64] c_h_e_n c_h_e_ρ])] =>
    some (⟨⟨c_l_n, c_l_ρ⟩, ⟨⟨c_h_s_n, c_h_s_ρ⟩, ⟨c_h_w_n, c_h_w_ρ⟩, ⟨c_h_e_n, c_h_e_ρ⟩⟩⟩, ⟨v_f, v_i⟩)
  | _, _ => none
noncomputable def L : Nat → St → Tree (XE × St) := lqH [1, 2, 4, 5] 0 33 get fun c v => lqT (S c) (good c ∧ v = st c 0) (anyB (bad c) (nn c)) .ret (.exit 0) (sb c (firstB (bad c) (nn c))) (st c (nn c))
theorem ok (fn : Func) (c b : Code) (hf : Tryz.prog.funcs[79]? = some fn) (hc : fn.body = some c) (hb : nthLoop c 0 = some b) : LoopOk Tryz.prog b L :=
  lq_ok h19 10 79 0 hf hc hb [1, 2, 4, 5] 0 33 S TX t get (fun l m c v h => by unfold get at h; split at h <;> simp at h; obtain ⟨rfl, rfl⟩ := h; rfl)
    good μ st sb nn bad .ret (.exit 0) sq (fun c => (sb c (firstB (bad c) (nn c)))) (fun c => (st c (nn c))) (fun _ _ _ => StWk.refl) (fun _ _ _ => StWk.refl)
end Gi
namespace Gm
structure C where
  l : Il
  h : Hi
structure V where
  k : Nat
  σ : Val
  i : Int
def S (c : C) (v : V) : St := mkS 46 [(1, .one (.c (.sl inSh c.l.n c.l.ρ))), (2, .one (.c (.ptr 0 0))), (7, .one (.c (.os 1 1))), (8, .one (.c (I v.i)))] [some (53, [.sl inSh c.h.s.n c.h.s.ρ, .sl wrSh c.h.w.n c.h.w.ρ, .sl evSh c.h.e.n c.h.e.ρ]), some (3, [.row false inSh v.k v.σ])]
def jc (c : C) (v : V) : Gl.C := ⟨c.h, c.l, v.k, v.σ, v.i⟩
noncomputable def TX (c : C) (v : V) : Tree (XE × V) := .br (lt v.i (toInt64 c.h.w.n)) (.need (dec (Gl.good (jc c v) ∧ (⟨false, 0⟩ : Gl.V) = Gl.st (jc c v) 0)) (.br (!(anyB (fun k => vI c.l.ρ k == v.i) c.l.n)) (.need (Nat.ble (((v.k + 1).mul 7).add v.k) 140737488355327) (.leaf (.normal, ⟨v.k + 1, Val.cat v.k v.σ (Val.ofFlat 1 [I v.i]), w64 (v.i + 1)⟩))) (.leaf (.normal, ⟨v.k, v.σ, w64 (v.i + 1)⟩)))) (.leaf (.exit 0, v))
theorem t (c : C) (v : V) : ((evCode Tryz.prog H20 (evFn Tryz.prog H20 10) 22 0 1 (loopBody Tryz.prog 22 0) (S c v)).bind fun y => gcT [1, 2, 7, 8] 0 y) = (TX c v).bind fun y => .leaf (y.1, S c y.2) := by kernel_rfl
def st (c : C) (i : Nat) : V := ⟨(ls c.l i).1, (ls c.l i).2, i⟩
def nn (c : C) : Nat := c.h.w.n
def good (c : C) : Prop := c.h.w.n ≤ 1000 ∧ fewN c.l.n
def μ (c : C) (v : V) : Nat := (c.h.w.n - v.i).toNat
theorem sq (c : C) (h : good c) : Sq (TX c) (μ c) (st c) (st c) (nn c) (fun _ => false) .ret (.exit 0) := by
  obtain ⟨hn, hl⟩ := h
  refine sqF (sn := fun i => { st c (i + 1) with i := w64 ((i : Int) + 1) }) (by simp) (by simp) (fun i hi => by show ((c.h.w.n : Int) - (i : Int)).toNat = c.h.w.n - i; omega) (fun i hi => ?_) (fun i hi => by rw [wS (n := c.h.w.n) (by unfold fewN; omega) hi]; rfl) rS
  have hi : i < c.h.w.n := hi
  have hk := ls_le c.l i
  have hS : ls c.l (i + 1) = bif !(inB c.l i) then ((ls c.l i).1 + 1, Val.cat (ls c.l i).1 (ls c.l i).2 (Val.ofFlat 1 [I i])) else ls c.l i := rfl
  refine ⟨fun _ => ⟨dec_iff.2 ⟨hl, rfl⟩, fun h1 => ⟨Nat.ble_eq_true_of_le (by show (((ls c.l i).1 + 1) * 7 + (ls c.l i).1) ≤ _; omega), ?_⟩, fun h1 => ?_⟩, fun h' => ?_⟩
  · have h1 : (!(anyB (fun k => vI c.l.ρ k == (i : Int)) c.l.n)) = true := h1
    rw [in_comm] at h1
    show (XE.normal, _) = (XE.normal, _)
    unfold st; rw [hS, h1]; rfl
  · have h1 : (!(anyB (fun k => vI c.l.ρ k == (i : Int)) c.l.n)) = false := h1
    rw [in_comm] at h1
    show (XE.normal, _) = (XE.normal, _)
    unfold st; rw [hS, h1]; rfl
  · have h' : lt (i : Int) (toInt64 c.h.w.n) = false := h'
    rw [ltT hi] at h'; cases h'
def get : List (Nat × AV) → Mem → Option (C × V)
  | [(1, .one (.c (.sl [.int .i64] c_l_n c_l_ρ))), (2, .one (.c (.ptr 0 0))), (7, .one (.c (.os 1 1))), (8, .one (.c (.int .i64 v_i)))], [some (53, [.sl [.int .i64] c_h_s_n c_h_s_ρ, .sl [.int .i64, .int .i64, .sl [.int .u8, .int .u8, .int .u8, .int .u8, .int .u8, .int .u8, .int .u8, .int .u8]] c_h_w_n c_h_w_ρ, .sl [.int .i64, .int .i64] c_h_e_n c_h_e_ρ]), some (3, [.row false [.int .i64] v_k v_σ])] =>
    some (⟨⟨c_l_n, c_l_ρ⟩, ⟨⟨c_h_s_n, c_h_s_ρ⟩, ⟨c_h_w_n, c_h_w_ρ⟩, ⟨c_h_e_n, c_h_e_ρ⟩⟩⟩, ⟨v_k, v_σ, v_i⟩)
  | _, _ => none
noncomputable def L : Nat → St → Tree (XE × St) := ownH [.own 7 3 inSh] (lqH [1, 2, 7, 8] 0 46 get fun c v => lq1 (S c) (good c ∧ v = st c 0) (.exit 0) (st c (nn c)))
theorem ok (fn : Func) (c b : Code) (hf : Tryz.prog.funcs[22]? = some fn) (hc : fn.body = some c) (hb : nthLoop c 0 = some b) : LoopOk Tryz.prog b L :=
  ownH_ok [.own 7 3 inSh] (lq1_ok h20 10 22 0 hf hc hb [1, 2, 7, 8] 0 46 S TX t get (fun l m c v h => by unfold get at h; split at h <;> simp at h; obtain ⟨rfl, rfl⟩ := h; rfl)
    good μ st nn (.exit 0) sq (fun c => (st c (nn c))) (fun _ _ => StWk.refl))
end Gm
noncomputable abbrev H21 : Hd := ⟨H18.pc, H18.hc, [((31, 0), Gj.L), ((31, 1), Gk.L), ((79, 0), Gi.L), ((21, 0), Gd.L), ((22, 0), Gm.L), ((24, 0), Gn.L), ((114, 0), Gc.L)], H18.mc⟩
theorem h21 : HdOk Tryz.prog H21 := HdOk.lhCons (HdOk.lhCons (HdOk.lhCons (HdOk.lhCons (HdOk.lhCons (HdOk.lhCons (HdOk.lhCons h18 Gc.ok) Gn.ok) Gm.ok) Gd.ok) Gi.ok) Gk.ok) Gj.ok
def rfE (h : Hi) : Int :=
  bif szE h.s != 0 then szE h.s else bif lt 4096 (toInt64 h.w.n) then 6 else bif anyB (Gj.bad ⟨h⟩) h.w.n then wR h (firstB (Gj.bad ⟨h⟩) h.w.n)
  else bif anyB (Gk.bad ⟨h⟩) h.e.n then Gk.er ⟨h⟩ (firstB (Gk.bad ⟨h⟩) h.e.n) else bif lt (ik h.e.ρ h.e.n) (toInt64 h.w.n) then 3 else 0
def in1 (x : Int) : AV := .one (.c (I x))
noncomputable def Grc : List A1 → Option (Bool × AV)
  | [.agg [.sl [.int .i64] n ρ, .sl [.int .i64, .int .i64, .sl [.int .u8, .int .u8, .int .u8, .int .u8, .int .u8, .int .u8, .int .u8, .int .u8]] m ω, .sl [.int .i64, .int .i64] q ε]] => some (dec (fewH ⟨⟨n, ρ⟩, ⟨m, ω⟩, ⟨q, ε⟩⟩), in1 (rfE ⟨⟨n, ρ⟩, ⟨m, ω⟩, ⟨q, ε⟩⟩))
  | _ => none
theorem p31 : TcOne Tryz.prog 31 (nG Grc) := tcOne_of_tree h21 10 31 fun args r hr => by
  unfold Grc at hr; split at hr
  · rename_i n ρ m ω q ε
    obtain ⟨hp, rfl⟩ := Prod.mk.inj (Option.some.inj hr)
    obtain ⟨f1, f2, f3⟩ := dec_iff.1 hp
    have f1 : fewN n := f1
    have f2 : fewN m := f2
    have f3 : q ≤ 1000 := f3
    refine ⟨rfl, .need (dec (fewN n)) (.br (szE ⟨n, ρ⟩ != 0) (.leaf (in1 (szE ⟨n, ρ⟩))) (.br (lt 4096 (toInt64 m)) (.leaf (in1 6)) (.need (dec (Gj.good ⟨⟨⟨n, ρ⟩, ⟨m, ω⟩, ⟨q, ε⟩⟩⟩ ∧ (⟨0, 0⟩ : Gj.V) = Gj.st ⟨⟨⟨n, ρ⟩, ⟨m, ω⟩, ⟨q, ε⟩⟩⟩ 0)) (.br (anyB (Gj.bad ⟨⟨⟨n, ρ⟩, ⟨m, ω⟩, ⟨q, ε⟩⟩⟩) m) (.leaf (in1 (wR ⟨⟨n, ρ⟩, ⟨m, ω⟩, ⟨q, ε⟩⟩ (firstB (Gj.bad ⟨⟨⟨n, ρ⟩, ⟨m, ω⟩, ⟨q, ε⟩⟩⟩) m))))
      (.need (dec (Gk.good ⟨⟨⟨n, ρ⟩, ⟨m, ω⟩, ⟨q, ε⟩⟩⟩ ∧ (⟨0, 0, 0⟩ : Gk.V) = Gk.st ⟨⟨⟨n, ρ⟩, ⟨m, ω⟩, ⟨q, ε⟩⟩⟩ 0)) (.br (anyB (Gk.bad ⟨⟨⟨n, ρ⟩, ⟨m, ω⟩, ⟨q, ε⟩⟩⟩) q) (.leaf (in1 (Gk.er ⟨⟨⟨n, ρ⟩, ⟨m, ω⟩, ⟨q, ε⟩⟩⟩ (firstB (Gk.bad ⟨⟨⟨n, ρ⟩, ⟨m, ω⟩, ⟨q, ε⟩⟩⟩) q))))
      (.br (lt (ik ε q) (toInt64 m)) (.leaf (in1 3)) (.leaf (in1 0))))))))), by kernel_rfl,
      dec_iff.2 f1, fun a1 => ?_, fun a1 => ⟨fun a2 => ?_, fun a2 => ⟨dec_iff.2 ⟨f2, rfl⟩, fun a3 => ?_, fun a3 => ⟨dec_iff.2 ⟨f3, rfl⟩, fun a4 => ?_, fun a4 => ⟨fun a5 => ?_, fun a5 => ?_⟩⟩⟩⟩⟩
    · show in1 _ = in1 (rfE _); unfold rfE; simp only [a1]; rfl
    · show in1 _ = in1 (rfE _); unfold rfE; simp only [a1, a2]; rfl
    · show in1 _ = in1 (rfE _); unfold rfE; simp only [a1, a2, a3]; rfl
    · show in1 _ = in1 (rfE _); unfold rfE; simp only [a1, a2, a3, a4]; rfl
    · show in1 _ = in1 (rfE _); unfold rfE; simp only [a1, a2, a3, a4, a5]; rfl
    · show in1 _ = in1 (rfE _); unfold rfE; simp only [a1, a2, a3, a4, a5]; rfl
  · cases hr
def rclB (h : Hi) (l : Il) : Bool := !(anyB (Gi.bad ⟨l, h⟩) l.n)
noncomputable def Grcl : List A1 → Option (Bool × AV)
  | [.agg [.sl [.int .i64] n ρ, .sl [.int .i64, .int .i64, .sl [.int .u8, .int .u8, .int .u8, .int .u8, .int .u8, .int .u8, .int .u8, .int .u8]] m ω, .sl [.int .i64, .int .i64] q ε], .c (.sl [.int .i64] k κ)] => some (dec (fewH ⟨⟨n, ρ⟩, ⟨m, ω⟩, ⟨q, ε⟩⟩ ∧ fewN k), bo (rclB ⟨⟨n, ρ⟩, ⟨m, ω⟩, ⟨q, ε⟩⟩ ⟨k, κ⟩))
  | _ => none
theorem few1000 {n : Nat} (h : n ≤ 1000) : fewN n := by unfold fewN; omega
theorem p79 : TcOne Tryz.prog 79 (nG Grcl) := tcOne_of_tree h21 10 79 fun args r hr => by
  unfold Grcl at hr; split at hr
  · rename_i n ρ m ω q ε k κ
    obtain ⟨hp, rfl⟩ := Prod.mk.inj (Option.some.inj hr)
    obtain ⟨⟨f1, f2, f3⟩, f4⟩ := dec_iff.1 hp
    refine ⟨rfl, .need (dec (Gi.good ⟨⟨k, κ⟩, ⟨⟨n, ρ⟩, ⟨m, ω⟩, ⟨q, ε⟩⟩⟩ ∧ (⟨false, 0⟩ : Gi.V) = Gi.st ⟨⟨k, κ⟩, ⟨⟨n, ρ⟩, ⟨m, ω⟩, ⟨q, ε⟩⟩⟩ 0)) (.br (anyB (Gi.bad ⟨⟨k, κ⟩, ⟨⟨n, ρ⟩, ⟨m, ω⟩, ⟨q, ε⟩⟩⟩) k) (.leaf (bo false)) (.leaf (bo true))), by kernel_rfl,
      find_all (dec_iff.2 ⟨⟨f4, f2, few1000 f3⟩, rfl⟩) (fun h => ?_) (fun h => ?_)⟩
    · show false = rclB _ _; unfold rclB; simp only [h]; rfl
    · show true = rclB _ _; unfold rclB; simp only [h]; rfl
  · cases hr
noncomputable abbrev H22 : Hd := ⟨(79, nG Grcl) :: (31, nG Grc) :: H18.pc, H18.hc, [((21, 0), Gd.L), ((22, 0), Gm.L), ((24, 0), Gn.L), ((114, 0), Gc.L)], H18.mc⟩
theorem h22 : HdOk Tryz.prog H22 := HdOk.lhCons (HdOk.lhCons (HdOk.lhCons (HdOk.lhCons ((h18.tcCons p31).tcCons p79) Gc.ok) Gn.ok) Gm.ok) Gd.ok
def rcsB (h : Hi) (l : Il) : Bool := (rfE h == 0 && !(anyB (setB (toInt64 h.w.n) l.ρ) l.n)) && rclB h l
noncomputable def Gcs : List A1 → Option (Bool × AV)
  | [.agg [.sl [.int .i64] n ρ, .sl [.int .i64, .int .i64, .sl [.int .u8, .int .u8, .int .u8, .int .u8, .int .u8, .int .u8, .int .u8, .int .u8]] m ω, .sl [.int .i64, .int .i64] q ε], .c (.sl [.int .i64] k κ)] => some (dec (fewH ⟨⟨n, ρ⟩, ⟨m, ω⟩, ⟨q, ε⟩⟩ ∧ fewN k), bo (rcsB ⟨⟨n, ρ⟩, ⟨m, ω⟩, ⟨q, ε⟩⟩ ⟨k, κ⟩))
  | _ => none
theorem p32 : TcOne Tryz.prog 32 (nG Gcs) := tcOne_of_tree h22 10 32 fun args r hr => by
  unfold Gcs at hr; split at hr
  · rename_i n ρ m ω q ε k κ
    obtain ⟨hp, rfl⟩ := Prod.mk.inj (Option.some.inj hr)
    obtain ⟨f1, f4⟩ := dec_iff.1 hp
    refine ⟨rfl, .need (dec (fewH ⟨⟨n, ρ⟩, ⟨m, ω⟩, ⟨q, ε⟩⟩)) (.need (!(((rfE ⟨⟨n, ρ⟩, ⟨m, ω⟩, ⟨q, ε⟩⟩ == 0) == true) && true) || dec (fewN k)) (.need (!(((rfE ⟨⟨n, ρ⟩, ⟨m, ω⟩, ⟨q, ε⟩⟩ == 0 && !(anyB (setB (toInt64 m) κ) k)) == true) && true) || dec (fewH ⟨⟨n, ρ⟩, ⟨m, ω⟩, ⟨q, ε⟩⟩ ∧ fewN k))
      (.leaf (bo (rcsB ⟨⟨n, ρ⟩, ⟨m, ω⟩, ⟨q, ε⟩⟩ ⟨k, κ⟩))))), by kernel_rfl, dec_iff.2 f1, by rw [dec_iff.2 f4, Bool.or_true], by rw [hp, Bool.or_true], rfl⟩
  · cases hr
noncomputable abbrev H23 : Hd := ⟨(32, nG Gcs) :: H22.pc, H22.hc, H22.lh, H22.mc⟩
theorem h22b : HdOk Tryz.prog ⟨(32, nG Gcs) :: (79, nG Grcl) :: (31, nG Grc) :: H18.pc, H18.hc, [], H18.mc⟩ := ((h18.tcCons p31).tcCons p79).tcCons p32
theorem h23 : HdOk Tryz.prog H23 := HdOk.lhCons (HdOk.lhCons (HdOk.lhCons (HdOk.lhCons h22b Gc.ok) Gn.ok) Gm.ok) Gd.ok
def rctE (h : Hi) (l : Il) : Int := bif rfE h != 0 then rfE h else bif anyB (setB (toInt64 h.w.n) l.ρ) l.n then 2 else bif !(rcsB h l) then 27 else 0
noncomputable def Grct : List A1 → Option (Bool × AV)
  | [.agg [.sl [.int .i64] n ρ, .sl [.int .i64, .int .i64, .sl [.int .u8, .int .u8, .int .u8, .int .u8, .int .u8, .int .u8, .int .u8, .int .u8]] m ω, .sl [.int .i64, .int .i64] q ε], .c (.sl [.int .i64] k κ)] => some (dec (fewH ⟨⟨n, ρ⟩, ⟨m, ω⟩, ⟨q, ε⟩⟩ ∧ fewN k), in1 (rctE ⟨⟨n, ρ⟩, ⟨m, ω⟩, ⟨q, ε⟩⟩ ⟨k, κ⟩))
  | _ => none
noncomputable def rctX (h : Hi) (l : Il) : Tree AV := .need (dec (fewH h ∧ fewN l.n)) (.br (!(rcsB h l)) (.leaf (in1 27)) (.leaf (in1 0)))
theorem p65 : TcOne Tryz.prog 65 (nG Grct) := tcOne_of_tree h23 10 65 fun args r hr => by
  unfold Grct at hr; split at hr
  · rename_i n ρ m ω q ε k κ
    obtain ⟨hp, rfl⟩ := Prod.mk.inj (Option.some.inj hr)
    obtain ⟨f1, f4⟩ := dec_iff.1 hp
    refine ⟨rfl, .need (dec (fewH ⟨⟨n, ρ⟩, ⟨m, ω⟩, ⟨q, ε⟩⟩)) (.br (rfE ⟨⟨n, ρ⟩, ⟨m, ω⟩, ⟨q, ε⟩⟩ != 0) (.br (rfE ⟨⟨n, ρ⟩, ⟨m, ω⟩, ⟨q, ε⟩⟩ != 0) (.leaf (in1 (rfE ⟨⟨n, ρ⟩, ⟨m, ω⟩, ⟨q, ε⟩⟩))) (rctX ⟨⟨n, ρ⟩, ⟨m, ω⟩, ⟨q, ε⟩⟩ ⟨k, κ⟩))
      (.need (dec (fewN k)) (.br (!(!(anyB (setB (toInt64 m) κ) k))) (.br true (.leaf (in1 2)) (rctX ⟨⟨n, ρ⟩, ⟨m, ω⟩, ⟨q, ε⟩⟩ ⟨k, κ⟩)) (.br false (.leaf (in1 0)) (rctX ⟨⟨n, ρ⟩, ⟨m, ω⟩, ⟨q, ε⟩⟩ ⟨k, κ⟩))))), by kernel_rfl,
      dec_iff.2 f1, fun a1 => ⟨fun _ => ?_, fun a2 => ?_⟩, fun a1 => ⟨dec_iff.2 f4, fun a2 => ⟨fun _ => ?_, fun h => (by cases h)⟩, fun a2 => ⟨fun h => (by cases h), fun _ => ⟨hp, fun a3 => ?_, fun a3 => ?_⟩⟩⟩⟩
    · show in1 _ = in1 (rctE _ _); unfold rctE; simp only [a1]; rfl
    · rw [a1] at a2; cases a2
    · rw [Bool.not_not] at a2
      show in1 _ = in1 (rctE _ _); unfold rctE; simp only [a1, a2]; rfl
    · rw [Bool.not_not] at a2
      show in1 _ = in1 (rctE _ _); unfold rctE; simp only [a1, a2, a3]; rfl
    · rw [Bool.not_not] at a2
      show in1 _ = in1 (rctE _ _); unfold rctE; simp only [a1, a2, a3]; rfl
  · cases hr
noncomputable def lossR (e : Int) (h : Hi) (l : Il) : AV := .tup [.c (.sl inSh (okN e (ls l h.w.n).1) (ls l h.w.n).2), .c (I e)]
theorem loss_bad {e E : Int} {h : Hi} {l : Il} (he : E = e) (h0 : e ≠ 0) : leA (.tup [.c .nils, .c (I e)]) (lossR E h l) := by
  subst he
  have : ∀ n, okN E n = 0 := fun n => by
    unfold okN
    have : (E == 0) = false := by rw [beq_eq_false_iff_ne]; exact h0
    rw [this]; rfl
  unfold lossR
  rw [this]
  exact leA_nils2
theorem loss_ok {E : Int} {h : Hi} {l : Il} (he : E = 0) : leA (.tup [.c (.sl inSh (ls l h.w.n).1 (ls l h.w.n).2), .c (I 0)]) (lossR E h l) := by
  subst he; exact leA.refl
noncomputable def Glos : List A1 → Option (Bool × AV)
  | [.agg [.sl [.int .i64] n ρ, .sl [.int .i64, .int .i64, .sl [.int .u8, .int .u8, .int .u8, .int .u8, .int .u8, .int .u8, .int .u8, .int .u8]] m ω, .sl [.int .i64, .int .i64] q ε], .c (.sl [.int .i64] k κ)] => some (dec ((fewH ⟨⟨n, ρ⟩, ⟨m, ω⟩, ⟨q, ε⟩⟩ ∧ m ≤ 64) ∧ fewN k), lossR (cutE ⟨⟨n, ρ⟩, ⟨m, ω⟩, ⟨q, ε⟩⟩ ⟨k, κ⟩) ⟨⟨n, ρ⟩, ⟨m, ω⟩, ⟨q, ε⟩⟩ ⟨k, κ⟩)
  | _ => none
theorem u21 : UcOne Tryz.prog 21 (nG Glos) := ucOne_of_tree h23 10 21 fun args r hr => by
  unfold Glos at hr; split at hr
  · rename_i n ρ m ω q ε k κ
    obtain ⟨hp, rfl⟩ := Prod.mk.inj (Option.some.inj hr)
    obtain ⟨⟨f1, f2⟩, f4⟩ := dec_iff.1 hp
    refine ⟨.need (dec ((fewH ⟨⟨n, ρ⟩, ⟨m, ω⟩, ⟨q, ε⟩⟩ ∧ m ≤ 64) ∧ fewN k)) (.br (cutE ⟨⟨n, ρ⟩, ⟨m, ω⟩, ⟨q, ε⟩⟩ ⟨k, κ⟩ != 0) (.leaf (.tup [.c .nils, .c (I (cutE ⟨⟨n, ρ⟩, ⟨m, ω⟩, ⟨q, ε⟩⟩ ⟨k, κ⟩))])) (.need (dec (Gd.good ⟨⟨k, κ⟩, toInt64 m⟩ ∧ (⟨0, .zero, 0⟩ : Gd.V) = Gd.st ⟨⟨k, κ⟩, toInt64 m⟩ 0)) (.leaf (.tup [.c (.sl inSh (ls ⟨k, κ⟩ m).1 (ls ⟨k, κ⟩ m).2), .c (I 0)])))), by kernel_rfl,
      hp, fun a1 => ?_, fun a1 => ⟨dec_iff.2 ⟨⟨⟨?_, ?_⟩, f4⟩, rfl⟩, ?_⟩⟩
    · exact loss_bad rfl (by simpa [bne] using a1)
    · show (0 : Int) ≤ (m : Int); omega
    · show (m : Int) ≤ 1000; omega
    · exact loss_ok (h := ⟨⟨n, ρ⟩, ⟨m, ω⟩, ⟨q, ε⟩⟩) (l := ⟨k, κ⟩) (by simpa [bne] using a1)
  · cases hr
noncomputable abbrev H24 : Hd := ⟨(65, nG Grct) :: H23.pc, (21, nG Glos) :: H23.hc, H23.lh, H23.mc⟩
theorem h24 : HdOk Tryz.prog H24 := HdOk.lhCons (HdOk.lhCons (HdOk.lhCons (HdOk.lhCons ((h22b.ucCons u21).tcCons p65) Gc.ok) Gn.ok) Gm.ok) Gd.ok
noncomputable def Glor : List A1 → Option (Bool × AV)
  | [.agg [.sl [.int .i64] n ρ, .sl [.int .i64, .int .i64, .sl [.int .u8, .int .u8, .int .u8, .int .u8, .int .u8, .int .u8, .int .u8, .int .u8]] m ω, .sl [.int .i64, .int .i64] q ε], .c (.sl [.int .i64] k κ)] => some (dec ((fewH ⟨⟨n, ρ⟩, ⟨m, ω⟩, ⟨q, ε⟩⟩ ∧ m ≤ 64) ∧ fewN k), lossR (rctE ⟨⟨n, ρ⟩, ⟨m, ω⟩, ⟨q, ε⟩⟩ ⟨k, κ⟩) ⟨⟨n, ρ⟩, ⟨m, ω⟩, ⟨q, ε⟩⟩ ⟨k, κ⟩)
  | _ => none
theorem u22' : UcOne Tryz.prog 22 (nG Glor) := ucOne_of_tree h24 10 22 fun args r hr => by
  unfold Glor at hr; split at hr
  · rename_i n ρ m ω q ε k κ
    obtain ⟨hp, rfl⟩ := Prod.mk.inj (Option.some.inj hr)
    obtain ⟨⟨f1, f2⟩, f4⟩ := dec_iff.1 hp
    refine ⟨.need (dec (fewH ⟨⟨n, ρ⟩, ⟨m, ω⟩, ⟨q, ε⟩⟩ ∧ fewN k)) (.br (rctE ⟨⟨n, ρ⟩, ⟨m, ω⟩, ⟨q, ε⟩⟩ ⟨k, κ⟩ != 0) (.leaf (.tup [.c .nils, .c (I (rctE ⟨⟨n, ρ⟩, ⟨m, ω⟩, ⟨q, ε⟩⟩ ⟨k, κ⟩))])) (.need (dec (Gm.good ⟨⟨k, κ⟩, ⟨⟨n, ρ⟩, ⟨m, ω⟩, ⟨q, ε⟩⟩⟩ ∧ (⟨0, .zero, 0⟩ : Gm.V) = Gm.st ⟨⟨k, κ⟩, ⟨⟨n, ρ⟩, ⟨m, ω⟩, ⟨q, ε⟩⟩⟩ 0)) (.leaf (.tup [.c (.sl inSh (ls ⟨k, κ⟩ m).1 (ls ⟨k, κ⟩ m).2), .c (I 0)])))), by kernel_rfl,
      dec_iff.2 ⟨f1, f4⟩, fun a1 => ?_, fun a1 => ⟨dec_iff.2 ⟨⟨?_, f4⟩, rfl⟩, ?_⟩⟩
    · exact loss_bad rfl (by simpa [bne] using a1)
    · show m ≤ 1000; omega
    · exact loss_ok (h := ⟨⟨n, ρ⟩, ⟨m, ω⟩, ⟨q, ε⟩⟩) (l := ⟨k, κ⟩) (by simpa [bne] using a1)
  · cases hr
noncomputable abbrev H25 : Hd := ⟨H24.pc, (22, nG Glor) :: H24.hc, [((24, 0), Gn.L), ((114, 0), Gc.L)], H24.mc⟩
theorem h25 : HdOk Tryz.prog H25 := HdOk.lhCons (HdOk.lhCons (((h22b.ucCons u21).tcCons p65).ucCons u22') Gc.ok) Gn.ok
theorem ls_in (l : Il) : ∀ n j, j < (ls l n).1 → 0 ≤ vI (ls l n).2 j ∧ vI (ls l n).2 j < n
  | 0, j, h => by
    have h : j < 0 := h
    omega
  | n + 1, j, h => by
    have ih := ls_in l n
    have e : ls l (n + 1) = bif !(inB l n) then ((ls l n).1 + 1, Val.cat (ls l n).1 (ls l n).2 (Val.ofFlat 1 [I n])) else ls l n := rfl
    rw [e] at h ⊢
    cases hb : !(inB l n)
    · rw [hb] at h
      have := ih j h
      show 0 ≤ vI (ls l n).2 j ∧ vI (ls l n).2 j < _
      omega
    · rw [hb] at h
      have h : j < (ls l n).1 + 1 := h
      show 0 ≤ vI (Val.cat (ls l n).1 (ls l n).2 (Val.ofFlat 1 [I n])) j ∧ vI (Val.cat (ls l n).1 (ls l n).2 (Val.ofFlat 1 [I n])) j < _
      unfold vI
      rw [cat_at]
      by_cases hj : j < (ls l n).1
      · rw [if_pos hj]
        have := ih j hj
        unfold vI at this
        omega
      · have : j = (ls l n).1 := by omega
        subst this
        rw [if_neg hj, Nat.sub_self]
        show 0 ≤ (n : Int) ∧ (n : Int) < _
        omega
def pt (x e : Int) : AV := .tup [.c (I x), .c (I e)]
def ptV (h : Hi) (l t : Il) (w : Int) : Int := bif toInt64 (ls l h.w.n).1 == 0 then 0 else w64 (w - vI t.ρ (vI (ls l h.w.n).2 0).toNat)
def ptX (E : Int) (bad : Bool) (h : Hi) (l t : Il) (w : Int) : Int := bif E != 0 then 0 else bif toInt64 t.n != toInt64 h.w.n then 0 else bif bad then 0 else ptV h l t w
def ptY (E : Int) (bad : Bool) (h : Hi) (t : Il) : Int := bif E != 0 then E else bif toInt64 t.n != toInt64 h.w.n then 6 else bif bad then 24 else 0
def ptR (E : Int) (bad : Bool) (h : Hi) (l t : Il) (w : Int) : AV := pt (ptX E bad h l t w) (ptY E bad h t)
def ptT (E : Int) (h : Hi) (l t : Il) (w : Int) : Tree AV := .br (toInt64 (okN E (ls l h.w.n).1) == 0) (.leaf (pt 0 0)) (.need (inRange 0 (okN E (ls l h.w.n).1)) (.need (inRange (vI (ls l h.w.n).2 0) t.n) (.leaf (pt (w64 (w - vI t.ρ (vI (ls l h.w.n).2 0).toNat)) 0))))
theorem ptT_all {E : Int} {h : Hi} {l t : Il} {w : Int} (h0 : E = 0) (ht : t.n = h.w.n) : (ptT E h l t w).All (fun z => z = pt (ptV h l t w) 0) := by
  have e : okN E (ls l h.w.n).1 = (ls l h.w.n).1 := by unfold okN; rw [h0]; rfl
  unfold ptT ptV
  rw [e]
  refine ⟨fun a => ?_, fun a => ?_⟩
  · show pt 0 0 = pt _ 0
    rw [a]; rfl
  · have hp : 0 < (ls l h.w.n).1 := by
      rw [beq_eq_false_iff_ne] at a
      have a : ((ls l h.w.n).1 : Int) ≠ 0 := a
      omega
    obtain ⟨b1, b2⟩ := ls_in l h.w.n 0 hp
    refine ⟨?_, ?_, ?_⟩
    · unfold inRange; rw [Bool.and_eq_true, le_iff, lt_iff]; exact ⟨Int.le_refl _, by show (0 : Int) < ((ls l h.w.n).1 : Int); omega⟩
    · unfold inRange; rw [Bool.and_eq_true, le_iff, lt_iff]; exact ⟨b1, by show _ < (t.n : Int); rw [ht]; exact b2⟩
    · show pt _ 0 = pt _ 0
      rw [a]; rfl
def tmB (h : Hi) (t : Il) (w : Int) : Bool := lt 1073741824 w || (!(srtB t) || anyB (Gc.bad ⟨t, h, w, toInt64 t.n⟩) t.n)
noncomputable def Gpt : List A1 → Option (Bool × AV)
  | [.agg [.sl [.int .i64] n ρ, .sl [.int .i64, .int .i64, .sl [.int .u8, .int .u8, .int .u8, .int .u8, .int .u8, .int .u8, .int .u8, .int .u8]] m ω, .sl [.int .i64, .int .i64] q ε], .c (.sl [.int .i64] k κ), .c (.sl [.int .i64] t τ), .c (.int .i64 w)] =>
    let h : Hi := ⟨⟨n, ρ⟩, ⟨m, ω⟩, ⟨q, ε⟩⟩
    some (dec ((fewH h ∧ m ≤ 64) ∧ fewN k), ptR (cutE h ⟨k, κ⟩) (tmB h ⟨t, τ⟩ w) h ⟨k, κ⟩ ⟨t, τ⟩ w)
  | _ => none
noncomputable def tree23 (E : Int) (h : Hi) (l t : Il) (w : Int) : Tree AV :=
  let c : Gc.C := ⟨t, h, w, toInt64 t.n⟩
  .br (E != 0) (.leaf (pt 0 E)) (.br (toInt64 t.n != toInt64 h.w.n) (.leaf (pt 0 6)) (.br (lt 1073741824 w) (.br (lt 1073741824 w) (.leaf (pt 0 24)) (ptT E h l t w)) (.need (dec (t.n ≤ 1000)) (.br (!(srtB t)) (.br (!(srtB t)) (.leaf (pt 0 24)) (ptT E h l t w))
    (.need (dec (Gc.good c ∧ (⟨0, 0⟩ : Gc.V) = Gc.st c 0)) (.br (anyB (Gc.bad c) t.n) (.br (le 0 ((firstB (Gc.bad c) t.n : Nat) : Int)) (.leaf (pt 0 24)) (ptT E h l t w)) (.br false (.leaf (pt 0 24)) (ptT E h l t w))))))))
theorem p23 : TcOne Tryz.prog 23 (nG Gpt) := tcOne_of_tree h25 10 23 fun args r hr => by
  unfold Gpt at hr; split at hr
  · rename_i n ρ m ω q ε k κ t τ w
    obtain ⟨hp, rfl⟩ := Prod.mk.inj (Option.some.inj hr)
    obtain ⟨⟨f1, f2⟩, f4⟩ := dec_iff.1 hp
    refine ⟨rfl, .need (dec ((fewH ⟨⟨n, ρ⟩, ⟨m, ω⟩, ⟨q, ε⟩⟩ ∧ m ≤ 64) ∧ fewN k)) (tree23 (cutE ⟨⟨n, ρ⟩, ⟨m, ω⟩, ⟨q, ε⟩⟩ ⟨k, κ⟩) ⟨⟨n, ρ⟩, ⟨m, ω⟩, ⟨q, ε⟩⟩ ⟨k, κ⟩ ⟨t, τ⟩ w), by kernel_rfl, hp, ?_⟩
    obtain ⟨h, hh⟩ : ∃ h : Hi, (⟨⟨n, ρ⟩, ⟨m, ω⟩, ⟨q, ε⟩⟩ : Hi) = h := ⟨_, rfl⟩
    have hm : m = h.w.n := by rw [← hh]
    obtain ⟨E, hE⟩ : ∃ E, cutE h ⟨k, κ⟩ = E := ⟨_, rfl⟩
    rw [hh, hE]
    rw [hm] at f2
    refine ⟨fun a1 => ?_, fun a1 => ⟨fun a2 => ?_, fun a2 => ⟨fun a3 => ⟨fun _ => ?_, fun a4 => ?_⟩, fun a3 => ?_⟩⟩⟩
    · show pt 0 E = ptR E _ h _ _ w; unfold ptR ptX ptY; rw [a1]; rfl
    · show pt 0 6 = ptR E _ h _ _ w; unfold ptR ptX ptY; rw [a1, a2]; rfl
    · have : tmB h ⟨t, τ⟩ w = true := by unfold tmB; rw [a3]; rfl
      show pt 0 24 = ptR E _ h _ _ w; unfold ptR ptX ptY; rw [a1, a2, this]; rfl
    · rw [a3] at a4; cases a4
    · have a2' : toInt64 t = toInt64 h.w.n := by simpa [bne] using a2
      have ht : t = h.w.n := Int.ofNat.inj a2'
      have hE0 : E = 0 := by simpa [bne] using a1
      have hT := ptT_all (w := w) (l := ⟨k, κ⟩) (t := ⟨t, τ⟩) hE0 ht
      refine ⟨dec_iff.2 (by show t ≤ 1000; omega), fun a4 => ⟨fun _ => ?_, fun a5 => ?_⟩, fun a4 => ⟨dec_iff.2 ⟨⟨rfl, by show fewN t; unfold fewN; omega⟩, rfl⟩, fun a5 => ⟨fun _ => ?_, fun a6 => ?_⟩, fun a5 => ⟨fun h => (by cases h), fun _ => ?_⟩⟩⟩
      · have : tmB h ⟨t, τ⟩ w = true := by unfold tmB; rw [a3, a4]; rfl
        show pt 0 24 = ptR E _ h _ _ w; unfold ptR ptX ptY; rw [a1, a2, this]; rfl
      · rw [a4] at a5; cases a5
      · have : tmB h ⟨t, τ⟩ w = true := by
          unfold tmB
          have a5 : anyB (Gc.bad ⟨⟨t, τ⟩, h, w, toInt64 t⟩) t = true := a5
          show (lt 1073741824 w || (!(srtB ⟨t, τ⟩) || anyB (Gc.bad ⟨⟨t, τ⟩, h, w, toInt64 t⟩) t)) = true
          rw [a3, a4, a5]; rfl
        show pt 0 24 = ptR E _ h _ _ w; unfold ptR ptX ptY; rw [a1, a2, this]; rfl
      · rw [le0_nat] at a6; cases a6
      · have : tmB h ⟨t, τ⟩ w = false := by
          unfold tmB
          have a5 : anyB (Gc.bad ⟨⟨t, τ⟩, h, w, toInt64 t⟩) t = false := a5
          show (lt 1073741824 w || (!(srtB ⟨t, τ⟩) || anyB (Gc.bad ⟨⟨t, τ⟩, h, w, toInt64 t⟩) t)) = false
          rw [a3, a4, a5]; rfl
        have e : ptR E (tmB h ⟨t, τ⟩ w) h ⟨k, κ⟩ ⟨t, τ⟩ w = pt (ptV h ⟨k, κ⟩ ⟨t, τ⟩ w) 0 := by unfold ptR ptX ptY; rw [a1, a2, this]; rfl
        rw [e]; exact hT
  · cases hr
end Hs
end Go.Proofs.YtennlgngdjegoaaGreat
namespace Go.Proofs.YtennlgngdjegoaaGreat
open Go Go.Sx Go.RowKit Classical
set_option maxRecDepth 100000
namespace Hs
theorem first_same {f g : Nat → Int} {n : Nat} (h : ∀ i, i < n → (∀ j, j < i → f j = 0) → f i = g i) :
    anyB (fun i => f i != 0) n = anyB (fun i => g i != 0) n ∧ (anyB (fun i => f i != 0) n = true → f (firstB (fun i => f i != 0) n) = g (firstB (fun i => g i != 0) n)) ∧ (anyB (fun i => f i != 0) n = false → ∀ i, i < n → f i = 0 ∧ g i = 0) := by
  have z : ∀ {x : Int}, (x != 0) = false → x = 0 := fun {x} hx => by simpa [bne] using hx
  cases ha : anyB (fun i => f i != 0) n
  · have f0 : ∀ i, i < n → f i = 0 := fun i hi => by
      cases hx : f i != 0
      · exact z hx
      · rw [anyB_iff.2 ⟨i, hi, hx⟩] at ha; cases ha
    have g0 : ∀ i, i < n → g i = 0 := fun i hi => by rw [← h i hi fun j hj => f0 j (by omega)]; exact f0 i hi
    refine ⟨?_, fun hh => (by cases hh), fun _ i hi => ⟨f0 i hi, g0 i hi⟩⟩
    symm
    exact anyB_none fun i hi => by rw [g0 i hi]; rfl
  · obtain ⟨h1, h2, h3⟩ := firstB_ok ha
    have f0 : ∀ j, j < firstB (fun i => f i != 0) n → f j = 0 := fun j hj => z (h3 j hj)
    have e := h _ h1 f0
    have h2 : (f (firstB (fun i => f i != 0) n) != 0) = true := h2
    obtain ⟨b1, b2⟩ := firstB_eq (bad := fun i => g i != 0) h1 (by show (g _ != 0) = true; rw [← e]; exact h2) fun j hj => by
      show (g j != 0) = false
      rw [← h j (by omega) fun l hl => f0 l (by omega), f0 j hj]; rfl
    exact ⟨b1.symm, fun _ => by rw [b2]; exact e, fun hh => (by cases hh)⟩
structure Inv (ε : Val) (i : Nat) : Prop where
  k : ik ε i = ((evS ε i).k : Int)
  le : (evS ε i).k ≤ i
  iss : ∀ x : Int, anyB (evQ ε 0 x) i = true ↔ 0 ≤ x ∧ x < (evS ε i).k
  ack : ∀ x : Nat, x < (evS ε i).k → (0 ≤ vI (evS ε i).τ x ↔ anyB (evQ ε 1 x) i = true)
  old : ∀ x : Int, anyB (evQ ε 1 x) i = true → 0 ≤ x ∧ x < (evS ε i).k
theorem evQ_iff {ε : Val} {x y : Int} {i : Nat} : evQ ε x y i = true ↔ vI ε i = x ∧ vJ ε i = y := by
  unfold evQ
  rw [Bool.and_true, Bool.and_eq_true, beq_iff_eq, beq_iff_eq]
theorem any_succ {p : Nat → Bool} {n : Nat} : anyB p (n + 1) = true ↔ anyB p n = true ∨ p n = true := by
  show (anyB p n || p n) = true ↔ _
  rw [Bool.or_eq_true]
theorem at_pos {n : Nat} {ε : Val} {x y : Int} : le 0 (atI n ε x y) = anyB (evQ ε x y) n := by
  unfold atI
  cases h : anyB (evQ ε x y) n
  · rfl
  · show le 0 ((firstB (evQ ε x y) n : Nat) : Int) = true
    exact le0_nat _
theorem at_neg {n : Nat} {ε : Val} {x y : Int} : lt (atI n ε x y) 0 = !(anyB (evQ ε x y) n) := by
  rw [← at_pos, Bool.eq_iff_iff, lt_iff, Bool.not_eq_true', ← Bool.not_eq_true, le_iff]; omega
theorem vI_upds (σ : Val) (k : Nat) (y : Int) (j : Nat) : vI (σ.upds k 0 [I y]) j = if j = k then y else vI σ j := by
  show (((Val.upd σ k 0 (I y)).at j).at 0).N [] = _
  by_cases h : j = k
  · subst h
    rw [if_pos rfl]
    show ((pickV (Nat.beq j j) (.byFst fun g => pickV (Nat.beq g 0) (.ofC (I y)) ((σ.at j).at g)) (σ.at j)).at 0).N [] = y
    have : Nat.beq j j = true := by simp
    rw [this]; rfl
  · rw [if_neg h]
    show ((pickV (Nat.beq j k) (.byFst fun g => pickV (Nat.beq g 0) (.ofC (I y)) ((σ.at k).at g)) (σ.at j)).at 0).N [] = _
    have : Nat.beq j k = false := by rw [← Bool.not_eq_true]; intro hh; exact h (Nat.eq_of_beq_eq_true hh)
    rw [this]; rfl
theorem vI_cat (n : Nat) (a b : Val) (i : Nat) : vI (Val.cat n a b) i = if i < n then vI a i else vI b (i - n) := by
  unfold vI
  rw [cat_at]
  split <;> rfl
theorem inv_same {nw : Nat} {ε : Val} {i : Nat} (h : Inv ε i) : evE nw ε i (evS ε i) = eR nw ε i := by
  unfold evE eR
  cases h0 : vI ε i == 0
  · cases h1 : vI ε i == 1
    · have : (vI ε i != 1) = true := by rw [bne, h1]; rfl
      rw [this]; rfl
    · have e1 : vI ε i = 1 := by simpa using h1
      have : (vI ε i != 1) = false := by rw [bne, h1]; rfl
      rw [this]
      have a7 : (lt (vJ ε i) 0 || le (toInt64 (evS ε i).k) (vJ ε i)) = lt (atI i ε 0 (vJ ε i)) 0 := by
        rw [at_neg, Bool.eq_iff_iff, Bool.not_eq_true', ← Bool.not_eq_true, h.iss, Bool.or_eq_true, lt_iff, le_iff]
        show vJ ε i < 0 ∨ ((evS ε i).k : Int) ≤ vJ ε i ↔ _
        omega
      rw [a7]
      cases h7 : lt (atI i ε 0 (vJ ε i)) 0
      · rw [at_neg, Bool.not_eq_false'] at h7
        have h7' := (h.iss _).1 h7
        have a8 : le 0 (vI (evS ε i).τ (vJ ε i).toNat) = le 0 (atI i ε (vI ε i) (vJ ε i)) := by
          rw [at_pos, Bool.eq_iff_iff, le_iff, h.ack _ (by omega), e1]
          have : (((vJ ε i).toNat : Nat) : Int) = vJ ε i := by omega
          rw [this]
        rw [a8]; rfl
      · rfl
  · have e : (vJ ε i != toInt64 (evS ε i).k || le (toInt64 nw) (vJ ε i)) = (vJ ε i != ik ε i || le (toInt64 nw) (ik ε i)) := by
      rw [h.k]
      show (vJ ε i != ((evS ε i).k : Int) || _) = _
      cases hv : vJ ε i != ((evS ε i).k : Int)
      · have : vJ ε i = ((evS ε i).k : Int) := by simpa [bne] using hv
        rw [this]
      · rfl
    rw [e]; rfl
theorem inv_zero (ε : Val) : Inv ε 0 := ⟨rfl, Nat.le_refl _, fun x => by
  show (false = true) ↔ 0 ≤ x ∧ x < (0 : Nat)
  constructor
  · intro h; cases h
  · intro h; omega, fun x hx => by
  have hx : x < 0 := hx
  omega, fun x h => by cases h⟩
theorem inv_step {nw : Nat} {ε : Val} {i : Nat} (hi : i < 100000) (h : Inv ε i) (h0 : evE nw ε i (evS ε i) = 0) : Inv ε (i + 1) := by
  have hS : evS ε (i + 1) = evN ε i (evS ε i) := rfl
  have hI : ik ε (i + 1) = bif vI ε i == 0 then w64 (ik ε i + 1) else ik ε i := rfl
  have hle := h.le
  unfold evE at h0
  cases c0 : vI ε i == 0
  · rw [c0] at h0
    have n0 : vI ε i ≠ 0 := by simpa using c0
    have eS : evS ε (i + 1) = ⟨(evS ε i).k, (evS ε i).σ, (evS ε i).τ.upds (vJ ε i).toNat 0 [I i]⟩ := by rw [hS]; unfold evN; rw [c0]; rfl
    cases c1 : vI ε i == 1
    · rw [c1] at h0; cases h0
    · rw [c1] at h0
      have n1 : vI ε i = 1 := by simpa using c1
      cases c7 : lt (vJ ε i) 0 || le (toInt64 (evS ε i).k) (vJ ε i)
      · rw [c7] at h0
        rw [Bool.or_eq_false_iff, ← Bool.not_eq_true, ← Bool.not_eq_true, lt_iff, le_iff] at c7
        have c7b : ¬ ((evS ε i).k : Int) ≤ vJ ε i := c7.2
        refine ⟨?_, ?_, fun x => ?_, fun x hx => ?_, fun x hx => ?_⟩
        · rw [hI, c0, eS]; exact h.k
        · rw [eS]; show (evS ε i).k ≤ i + 1; omega
        · rw [eS, any_succ, evQ_iff, h.iss]
          show _ ↔ 0 ≤ x ∧ x < ((evS ε i).k : Int)
          constructor
          · rintro (hh | ⟨hh, _⟩)
            · exact hh
            · exact (n0 hh).elim
          · exact .inl
        · rw [eS] at hx ⊢
          have hx : x < (evS ε i).k := hx
          show 0 ≤ vI ((evS ε i).τ.upds (vJ ε i).toNat 0 [I i]) x ↔ _
          rw [vI_upds, any_succ, evQ_iff]
          by_cases hw : x = (vJ ε i).toNat
          · rw [if_pos hw]
            constructor
            · intro _; exact .inr ⟨n1, by omega⟩
            · intro _; omega
          · rw [if_neg hw, h.ack x hx]
            constructor
            · exact .inl
            · rintro (hh | ⟨_, hh⟩)
              · exact hh
              · omega
        · rw [any_succ, evQ_iff] at hx
          rw [eS]
          show 0 ≤ x ∧ x < ((evS ε i).k : Int)
          rcases hx with hh | ⟨_, hh⟩
          · exact h.old x hh
          · omega
      · rw [c7] at h0; cases h0
  · rw [c0] at h0
    have n0 : vI ε i = 0 := by simpa using c0
    have eS : evS ε (i + 1) = ⟨(evS ε i).k + 1, Val.cat (evS ε i).k (evS ε i).σ (Val.ofFlat 1 [I i]), Val.cat (evS ε i).k (evS ε i).τ (Val.ofFlat 1 [I (-1)])⟩ := by rw [hS]; unfold evN; rw [c0]; rfl
    cases c3 : vJ ε i != toInt64 (evS ε i).k || le (toInt64 nw) (vJ ε i)
    · rw [Bool.or_eq_false_iff] at c3
      have e3 : vJ ε i = toInt64 (evS ε i).k := by simpa [bne] using c3.1
      have e3 : vJ ε i = ((evS ε i).k : Int) := e3
      refine ⟨?_, ?_, fun x => ?_, fun x hx => ?_, fun x hx => ?_⟩
      · rw [hI, c0, eS, h.k]
        show w64 (((evS ε i).k : Int) + 1) = (((evS ε i).k + 1 : Nat) : Int)
        rw [show w64 (((evS ε i).k : Int) + 1) = ((evS ε i).k : Int) + 1 from w64_id (by omega) (by omega)]
        omega
      · rw [eS]; show (evS ε i).k + 1 ≤ i + 1; omega
      · rw [eS, any_succ, evQ_iff, h.iss]
        show _ ↔ 0 ≤ x ∧ x < (((evS ε i).k + 1 : Nat) : Int)
        constructor
        · rintro (hh | ⟨_, hh⟩)
          · omega
          · omega
        · intro hh
          by_cases hx : x = (evS ε i).k
          · exact .inr ⟨n0, by omega⟩
          · exact .inl (by omega)
      · rw [eS] at hx ⊢
        have hx : x < (evS ε i).k + 1 := hx
        show 0 ≤ vI (Val.cat (evS ε i).k (evS ε i).τ (Val.ofFlat 1 [I (-1)])) x ↔ _
        rw [vI_cat, any_succ, evQ_iff]
        by_cases hk : x < (evS ε i).k
        · rw [if_pos hk, h.ack x hk]
          constructor
          · exact .inl
          · rintro (hh | ⟨hh, _⟩)
            · exact hh
            · omega
        · have : x = (evS ε i).k := by omega
          subst this
          rw [if_neg hk, Nat.sub_self]
          show 0 ≤ (-1 : Int) ↔ _
          constructor
          · intro hh; omega
          · rintro (hh | ⟨hh, _⟩)
            · have := h.old _ hh
              omega
            · omega
      · rw [any_succ, evQ_iff] at hx
        rw [eS]
        show 0 ≤ x ∧ x < (((evS ε i).k + 1 : Nat) : Int)
        rcases hx with hh | ⟨hh, _⟩
        · have := h.old x hh
          omega
        · omega
    · rw [c3] at h0; cases h0
theorem inv_all {nw : Nat} {ε : Val} : ∀ n, n ≤ 1000 → (∀ i, i < n → evE nw ε i (evS ε i) = 0) → Inv ε n
  | 0, _, _ => inv_zero ε
  | n + 1, hn, h => inv_step (by omega) (inv_all n (by omega) fun i hi => h i (by omega)) (h n (by omega))
def datOk (h : Hi) : Prop := ∀ i, i < h.w.n → fewN (vL h.w.ρ 2 i)
theorem wr_same {h : Hi} (h0 : szE h.s = 0) (hd : datOk h) {i : Nat} (hi : i < h.w.n) : wE h i = wR h i := by
  unfold wE wrE wR
  refine (fit_same (hd i hi) fun j hj => ?_).symm
  obtain ⟨_, _, c⟩ := szE_few (n := h.s.n) (ρ := h.s.ρ) h0
  have := c j hj
  unfold bsz at this
  rw [Bool.or_eq_false_iff, ← Bool.not_eq_true, ← Bool.not_eq_true, lt_iff, lt_iff] at this
  omega
theorem ev_same {h : Hi} (hn : h.e.n ≤ 1000) : ∀ i, i < h.e.n → (∀ j, j < i → eE h j = 0) → eE h i = Gk.er ⟨h⟩ i := fun i hi hj =>
  inv_same (inv_all (nw := h.w.n) i (by omega) hj)
theorem his_same {h : Hi} (hf : fewH h) (hd : datOk h) : rfE h = hisE h := by
  unfold rfE hisE
  cases a1 : szE h.s != 0
  · have h0 : szE h.s = 0 := by simpa [bne] using a1
    cases a2 : lt 4096 (toInt64 h.w.n)
    · obtain ⟨w1, w2, w3⟩ := first_same (f := wE h) (g := wR h) (n := h.w.n) fun i hi _ => wr_same h0 hd hi
      have w1 : anyB (wB h) h.w.n = anyB (Gj.bad ⟨h⟩) h.w.n := w1
      rw [← w1]
      cases a3 : anyB (wB h) h.w.n
      · obtain ⟨e1, e2, e3⟩ := first_same (f := eE h) (g := Gk.er ⟨h⟩) (n := h.e.n) (ev_same hf.2.2)
        have e1 : anyB (eB h) h.e.n = anyB (Gk.bad ⟨h⟩) h.e.n := e1
        rw [← e1]
        cases a4 : anyB (eB h) h.e.n
        · have hi := inv_all (nw := h.w.n) h.e.n hf.2.2 fun i hi => (e3 a4 i hi).1
          rw [hi.k]; rfl
        · exact (e2 a4).symm
      · exact (w2 a3).symm
    · rfl
  · rfl
end Hs
end Go.Proofs.YtennlgngdjegoaaGreat
