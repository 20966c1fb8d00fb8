/-
  Part TlY of the proof: TfI TfJ TfK TfL TfM TfN TfO TfP.
-/
import Derived.Test.YtennlgngdjegoaaGreatTlX
namespace Go.Proofs.YtennlgngdjegoaaGreat
open Go Go.Sx Go.RowKit Classical
set_option maxRecDepth 100000
set_option maxHeartbeats 4000000
namespace Hs
open Fo (inSh scSh evSh pcH litK headK allB allB_ok lhsOf lhs_ok)
structure IclOk (m k a b : Nat) (κ α β : Val) : Prop where
  m1 : m ≤ 1000
  k1 : k ≤ 1000
  rng : ∀ j, j < k → 0 ≤ vI κ j ∧ vI κ j < (m : Int)
  a1 : m ≤ a
  b1 : m ≤ b
  cl : ∀ j, j < k → ∀ i : Nat, i < m → 0 ≤ vI β i → vI β i < vI α (vI κ j).toNat → ∃ l, l < k ∧ vI κ l = (i : Int)
def icF (h : Hi) (a b : Il) (k : Nat) (κ : Val) : If.C := ⟨h, a, b, h.w, ⟨k, κ⟩, (toInt64 h.w.n).toNat, zB, ⟨k, κ⟩, toInt64 k⟩
def icG (h : Hi) (a b : Il) (k : Nat) (κ : Val) : Ig.C := ⟨h.w, a, b, (toInt64 h.w.n).toNat, mkS' κ zB k, h.w, ⟨k, κ⟩, toInt64 k, false⟩
noncomputable def icP (h : Hi) (a b : Il) (k : Nat) (κ : Val) : List (Bool × Bool) :=
  [(le 0 (toInt64 h.w.n) && le (toInt64 h.w.n) (toInt64 h.w.n) && le (toInt64 h.w.n * toInt64 1) 140737488355328, true), (dec (If.good (icF h a b k κ) ∧ (⟨zB, 0⟩ : If.V) = If.st (icF h a b k κ) 0), true), (dec (Ig.good (icG h a b k κ) ∧ (⟨0, false⟩ : Ig.V) = Ig.st (icG h a b k κ) 0), true)]
theorem path85 (h : Hi) (a b : Il) (k : Nat) (κ : Val) : (evFn Tryz.prog HS 10 85 [.agg [.sl inSh h.s.n h.s.ρ, .sl wrSh h.w.n h.w.ρ, .sl evSh h.e.n h.e.ρ, .sl inSh a.n a.ρ, .sl inSh b.n b.ρ], .c (.sl inSh k κ)] []).vals.follow [] = some (icP h a b k κ, tt) := by kernel_rfl
theorem icl_path {h : Hi} {a b : Il} {k : Nat} {κ : Val} (ho : IclOk h.w.n k a.n b.n κ a.ρ b.ρ) : okB (icP h a b k κ) = true := by
  have hm := ho.m1
  have hk := ho.k1
  have e1 : (le 0 (toInt64 h.w.n) && le (toInt64 h.w.n) (toInt64 h.w.n) && le (toInt64 h.w.n * toInt64 1) 140737488355328) = true := by
    rw [Bool.and_eq_true, Bool.and_eq_true, le_iff, le_iff, le_iff]
    refine ⟨⟨?_, Int.le_refl _⟩, ?_⟩
    · show (0 : Int) ≤ (h.w.n : Int); omega
    · show (h.w.n : Int) * 1 ≤ _; omega
  have hB : (toInt64 h.w.n).toNat = h.w.n := rfl
  have inr : ∀ j, j < k → inRange (vI κ j) h.w.n = true := fun j hj => by
    obtain ⟨x0, x1⟩ := ho.rng j hj
    unfold inRange
    rw [Bool.and_eq_true, le_iff, lt_iff]
    exact ⟨x0, x1⟩
  have e2 : dec (If.good (icF h a b k κ) ∧ (⟨zB, 0⟩ : If.V) = If.st (icF h a b k κ) 0) = true := dec_iff.2 ⟨⟨rfl, hk, fun i hi => ⟨inr i hi, inr i hi⟩⟩, rfl⟩
  have e3 : dec (Ig.good (icG h a b k κ) ∧ (⟨0, false⟩ : Ig.V) = Ig.st (icG h a b k κ) 0) = true := dec_iff.2 ⟨⟨rfl, hk, fun j hj => ⟨inr j hj, {
      m0 := by show (0 : Int) ≤ (h.w.n : Int); omega
      m1 := by show (h.w.n : Int) ≤ 1000; omega
      B := Nat.le_refl _
      q := ho.b1
      b := by
        obtain ⟨x0, x1⟩ := ho.rng j hj
        have := ho.a1
        show inRange (vI κ j) a.n = true
        unfold inRange
        rw [Bool.and_eq_true, le_iff, lt_iff]
        refine ⟨x0, ?_⟩
        show vI κ j < (a.n : Int)
        omega
      no := anyB_none fun i hi => by
        have hi : i < h.w.n := hi
        have em := mark_at (κ := κ) k (fun j hj => (ho.rng j hj).1) i
        show (!(vB (mkS' κ zB k) i) && (le 0 (vI b.ρ i) && lt (vI b.ρ i) (vI a.ρ (vI κ j).toNat))) = false
        rw [em]
        cases c1 : le 0 (vI b.ρ i)
        · rw [Bool.false_and, Bool.and_false]
        · cases c2 : lt (vI b.ρ i) (vI a.ρ (vI κ j).toNat)
          · rw [Bool.and_false, Bool.and_false]
          · rw [le_iff] at c1
            rw [lt_iff] at c2
            obtain ⟨l, hl, hv⟩ := ho.cl j hj i hi c1 c2
            have : anyB (fun j => vI κ j == (i : Int)) k = true := anyB_iff.2 ⟨l, hl, by rw [beq_iff_eq]; exact hv⟩
            rw [this]; rfl }⟩⟩, rfl⟩
  unfold icP
  rw [e1, e2, e3]
  rfl
noncomputable def Gicl : List A1 → Option (Bool × AV)
  | [.agg [.sl [.int .i64] _ _, .sl [.int .i64, .int .i64, .sl [.int .u8, .int .u8, .int .u8, .int .u8, .int .u8, .int .u8, .int .u8, .int .u8]] m _, .sl [.int .i64, .int .i64] _ _, .sl [.int .i64] a α, .sl [.int .i64] b β], .c (.sl [.int .i64] k κ)] => some (dec (IclOk m k a b κ α β), tt)
  | _ => none
theorem p85 : TcOne Tryz.prog 85 (nG Gicl) := tcOne_of_follow hS 10 85 fun args r h => by
  unfold Gicl at h; split at h
  · rename_i n ρ m ω q ε a α b β k κ
    obtain ⟨hp, rfl⟩ := Prod.mk.inj (Option.some.inj h)
    have ho := dec_iff.1 hp
    exact ⟨rfl, _, _, _, path85 ⟨⟨n, ρ⟩, ⟨m, ω⟩, ⟨q, ε⟩⟩ ⟨a, α⟩ ⟨b, β⟩ k κ, icl_path ho, rfl⟩
  · cases h
end Hs
end Go.Proofs.YtennlgngdjegoaaGreat
namespace Go.Proofs.YtennlgngdjegoaaGreat
open Go Go.Sx Go.RowKit Classical
set_option maxRecDepth 100000
set_option maxHeartbeats 4000000
namespace Hs
open Fo (inSh scSh evSh pcH litK headK allB allB_ok lhsOf lhs_ok)
noncomputable def Gidx : List A1 → Option (Bool × AV)
  | [.c (.sl [.int .i64] n ρ), .c (.int .i64 w)] => some (dec (fewN n), .one (.c (I (bif anyB (fun i => w == vI ρ i) n then ((firstB (fun i => w == vI ρ i) n : Nat) : Int) else -1))))
  | _ => none
theorem p82 : TcOne Tryz.prog 82 (nG Gidx) := tcOne_of_tree h16 10 82 fun args r h => by
  unfold Gidx at h; split at h
  · rename_i n ρ w
    obtain ⟨hp, rfl⟩ := Prod.mk.inj (Option.some.inj h)
    have hp := dec_iff.1 hp
    refine ⟨rfl, .need (dec (Ga.good ⟨⟨n, ρ⟩, w, toInt64 n⟩ ∧ (⟨0, 0⟩ : Ga.V) = Ga.st ⟨⟨n, ρ⟩, w, toInt64 n⟩ 0)) (.br (anyB (fun i => w == vI ρ i) n) (.leaf (.one (.c (I ((firstB (fun i => w == vI ρ i) n : Nat) : Int))))) (.leaf (.one (.c (I (-1)))))), by kernel_rfl,
      dec_iff.2 ⟨⟨rfl, hp⟩, rfl⟩, fun hb => ?_, fun hb => ?_⟩
    · show AV.one (.c (I _)) = .one (.c (I _)); rw [hb]; rfl
    · show AV.one (.c (I _)) = .one (.c (I _)); rw [hb]; rfl
  · cases h
noncomputable abbrev HT : Hd := ⟨(82, nG Gidx) :: (85, nG Gicl) :: (84, nG Giset) :: H3.pc, (83, nG Gck) :: H3.hc, [], []⟩
theorem hT : HdOk Tryz.prog HT := (((h3.ucCons u83).tcCons p84).tcCons p85).tcCons p82
namespace Ij
structure C where
  e : Il
  s : Il
  d : Il
  s1 : Il
  l : Il
  m : Int
structure V where
  k : Nat
  σ : Val
  i : Int
def S (c : C) (v : V) : St := mkS 23 [(0, .one (.c (.yld 6))), (1, .one (.c (.ptr 5 0))), (2, .one (.c (.ptr 4 0))), (6, .one (.c (.sl inSh c.l.n c.l.ρ))), (7, .one (.c (I c.m))), (8, .one (.c (I v.i)))] [some (53, [.any, .any, .sl evSh c.e.n c.e.ρ]), some (53, [.nils, .nils, .nils]), none, some (53, [.sl inSh c.s.n c.s.ρ, .os 7 3, .nils]), some (149, [.any, .sl wrSh c.d.n c.d.ρ, .any, .any, .any]), some (49, [.any]), some (0, .lp 35 0 LpS.ready :: .any :: .sl inSh c.s1.n c.s1.ρ :: .ptr 0 0 :: .any :: .ptr 1 0 :: .any :: .any :: .any :: .ptr 3 0 :: anyN' 66), some (96, [.row false wrSh v.k v.σ])]
def x (c : C) (v : V) : Int := vI c.l.ρ v.i.toNat
def TX (c : C) (v : V) : Tree (XE × V) := .br (lt v.i c.m) (.need (inRange v.i c.l.n) (.need (inRange (x c v) c.d.n) (.need (Nat.ble (((v.k + 1).mul 39).add v.k) 140737488355327) (.br false (.leaf (.ret, ⟨v.k + 1, Val.cat v.k v.σ (Val.ofFlat 3 (selC c.d.ρ (x c v).toNat)), v.i⟩)) (.leaf (.normal, ⟨v.k + 1, Val.cat v.k v.σ (Val.ofFlat 3 (selC c.d.ρ (x c v).toNat)), w64 (v.i + 1)⟩)))))) (.leaf (.exit 0, v))
theorem t (c : C) (v : V) : ((evCode Tryz.prog HT (evFn Tryz.prog HT 10) 129 7 1 (loopBody Tryz.prog 129 0) (S c v)).bind fun y => gcT [0, 1, 2, 6, 7, 8] 7 y) = (TX c v).bind fun y => .leaf (y.1, S c y.2) := by kernel_rfl
def st (c : C) (i : Nat) : V := ⟨i, selW c.d.ρ c.l.ρ i, i⟩
def nn (c : C) : Nat := c.l.n
def good (c : C) : Prop := c.m = toInt64 c.l.n ∧ c.l.n ≤ 1000 ∧ ∀ i, i < c.l.n → inRange (vI c.l.ρ i) c.d.n = true
def μ (c : C) (v : V) : Nat := (c.l.n - v.i).toNat
theorem sq (c : C) (h : good c) : Sq (TX c) (μ c) (st c) (st c) (nn c) (fun _ => false) .ret (.exit 0) := by
  obtain ⟨hm, h, hr⟩ := h
  refine sqF (sn := fun i => { st c (i + 1) with i := w64 ((i : Int) + 1) }) (by simp) (by simp) (fun i hi => by show ((c.l.n : Int) - (i : Int)).toNat = c.l.n - i; omega) (fun i hi => ?_) (fun i hi => by rw [wS (n := c.l.n) (by unfold fewN; omega) hi]; rfl) ?_
  · have hi : i < c.l.n := hi
    refine ⟨fun _ => ⟨inR hi, hr i hi, Nat.ble_eq_true_of_le (by show ((i + 1) * 39 + i) ≤ _; omega), fun h => (by cases h), fun _ => rfl⟩, fun h' => ?_⟩
    have h' : lt (i : Int) c.m = false := h'
    rw [hm, ltT hi] at h'; cases h'
  · refine ⟨fun h' => ?_, fun _ => rfl⟩
    have h' : lt (c.l.n : Int) c.m = true := h'
    rw [hm, lt_iff] at h'
    have h' : (c.l.n : Int) < (c.l.n : Int) := h'
    omega
def get : List (Nat × AV) → Mem → Option (C × V)
  | [(0, .one (.c (.yld 6))), (1, .one (.c (.ptr 5 0))), (2, .one (.c (.ptr 4 0))), (6, .one (.c (.sl [.int .i64] c_l_n c_l_ρ))), (7, .one (.c (.int .i64 c_m))), (8, .one (.c (.int .i64 v_i)))], [some (53, [.any, .any, .sl [.int .i64, .int .i64] c_e_n c_e_ρ]), some (53, [.nils, .nils, .nils]), none, some (53, [.sl [.int .i64] c_s_n c_s_ρ, .os 7 3, .nils]), some (149, [.any, .sl [.int .i64, .int .i64, .sl [.int .u8, .int .u8, .int .u8, .int .u8, .int .u8, .int .u8, .int .u8, .int .u8]] c_d_n c_d_ρ, .any, .any, .any]), some (49, [.any]), some (0, .lp 35 0 LpS.ready :: .any :: .sl [.int .i64] c_s1_n c_s1_ρ :: .ptr 0 0 :: .any :: .ptr 1 0 :: .any :: .any :: .any :: .ptr 3 0 :: t_6), some (96, [.row false [.int .i64, .int .i64, .sl [.int .u8, .int .u8, .int .u8, .int .u8, .int .u8, .int .u8, .int .u8, .int .u8]] v_k v_σ])] =>
    bif allAny t_6 66 then some (⟨⟨c_e_n, c_e_ρ⟩, ⟨c_s_n, c_s_ρ⟩, ⟨c_d_n, c_d_ρ⟩, ⟨c_s1_n, c_s1_ρ⟩, ⟨c_l_n, c_l_ρ⟩, c_m⟩, ⟨v_k, v_σ, v_i⟩) else none
  | _, _ => none
theorem get_ok {l : List (Nat × AV)} {m : Mem} {c : C} {v : V} (h : get l m = some (c, v)) : mkS 23 l m = S c v := by
  unfold get at h
  split at h
  · obtain ⟨ha, h⟩ := bif_some h
    have := allAny_ok ha
    subst this
    cases h
    rfl
  · cases h
noncomputable def L : Nat → St → Tree (XE × St) := dropH [2] [(0, [2]), (4, [1]), (5, []), (6, [1, 2, 4, 8])] (ownH [.ownM 3 1 96 wrSh] (lqH [0, 1, 2, 6, 7, 8] 7 23 get fun c v => lq1 (S c) (good c ∧ v = st c 0) (.exit 0) (st c (nn c))))
theorem ok (fn : Func) (c b : Code) (hf : Tryz.prog.funcs[129]? = some fn) (hc : fn.body = some c) (hb : nthLoop c 0 = some b) : LoopOk Tryz.prog b L :=
  dropH_ok [2] [(0, [2]), (4, [1]), (5, []), (6, [1, 2, 4, 8])] (ownH_ok [.ownM 3 1 96 wrSh] (lq1_ok hT 10 129 0 hf hc hb [0, 1, 2, 6, 7, 8] 7 23 S TX t get (fun _ _ _ _ h => get_ok h)
    good μ st nn (.exit 0) sq (fun c => (st c (nn c))) (fun _ _ => StWk.refl)))
end Ij
end Hs
end Go.Proofs.YtennlgngdjegoaaGreat
namespace Go.Proofs.YtennlgngdjegoaaGreat
open Go Go.Sx Go.RowKit Classical
set_option maxRecDepth 100000
set_option maxHeartbeats 4000000
namespace Hs
open Fo (inSh scSh evSh pcH litK headK allB allB_ok lhsOf lhs_ok)
def idxI (l : Il) (x : Int) : Int := bif anyB (fun i => x == vI l.ρ i) l.n then ((firstB (fun i => x == vI l.ρ i) l.n : Nat) : Int) else -1
def reE (ε : Val) (l : Il) : Nat → Nat × Val
  | 0 => (0, .zero)
  | i + 1 => bif le 0 (idxI l (vJ ε i)) then ((reE ε l i).1 + 1, Val.cat (reE ε l i).1 (reE ε l i).2 (Val.ofFlat 2 [I (vI ε i), I (idxI l (vJ ε i))])) else reE ε l i
theorem reE_le (ε : Val) (l : Il) : ∀ i, (reE ε l i).1 ≤ i
  | 0 => Nat.le_refl _
  | i + 1 => by
    have := reE_le ε l i
    have e : reE ε l (i + 1) = bif le 0 (idxI l (vJ ε i)) then ((reE ε l i).1 + 1, Val.cat (reE ε l i).1 (reE ε l i).2 (Val.ofFlat 2 [I (vI ε i), I (idxI l (vJ ε i))])) else reE ε l i := rfl
    rw [e]
    cases le 0 (idxI l (vJ ε i))
    · show (reE ε l i).1 ≤ i + 1; omega
    · show (reE ε l i).1 + 1 ≤ i + 1; omega
namespace Ik
structure C where
  s : Il
  r : Il
  l : Il
  e : Il
  m : Int
structure V where
  k : Nat
  σ : Val
  i : Int
def S (c : C) (v : V) : St := mkS 75 [(1, .one (.c (.sl inSh c.l.n c.l.ρ))), (4, .one (.c (.ptr 0 0))), (5, .one (.c (.int .i64 0))), (8, .one (.c (.ptr 1 0))), (51, .one (.c (.sl evSh c.e.n c.e.ρ))), (52, .one (.c (I c.m))), (53, .one (.c (I v.i)))] [some (53, [.nils, .nils, .nils]), some (53, [.sl inSh c.s.n c.s.ρ, .os 2 3, .os 3 2]), some (96, [.row false wrSh c.r.n c.r.ρ]), some (135, [.row false evSh v.k v.σ])]
noncomputable def TX (c : C) (v : V) : Tree (XE × V) := .br (lt v.i c.m) (.need (inRange v.i c.e.n) (.need (dec (fewN c.l.n)) (.br (le 0 (idxI c.l (vJ c.e.ρ v.i.toNat))) (.need (Nat.ble (((v.k + 1).mul 15).add v.k) 140737488355327) (.leaf (.normal, ⟨v.k + 1, Val.cat v.k v.σ (Val.ofFlat 2 [I (vI c.e.ρ v.i.toNat), I (idxI c.l (vJ c.e.ρ v.i.toNat))]), w64 (v.i + 1)⟩))) (.leaf (.normal, ⟨v.k, v.σ, w64 (v.i + 1)⟩))))) (.leaf (.exit 3, v))
theorem t (c : C) (v : V) : ((evCode Tryz.prog HT (evFn Tryz.prog HT 10) 35 0 1 (loopBody Tryz.prog 35 0) (S c v)).bind fun y => gcT [1, 4, 5, 8, 51, 52, 53] 0 y) = (TX c v).bind fun y => .leaf (y.1, S c y.2) := by kernel_rfl
def st (c : C) (i : Nat) : V := ⟨(reE c.e.ρ c.l i).1, (reE c.e.ρ c.l i).2, i⟩
def nn (c : C) : Nat := c.e.n
def good (c : C) : Prop := c.m = toInt64 c.e.n ∧ c.e.n ≤ 1000 ∧ fewN c.l.n
def μ (c : C) (v : V) : Nat := (c.e.n - v.i).toNat
theorem sq (c : C) (h : good c) : Sq (TX c) (μ c) (st c) (st c) (nn c) (fun _ => false) .ret (.exit 3) := by
  obtain ⟨hm, h, hl⟩ := h
  refine sqF (sn := fun i => { st c (i + 1) with i := w64 ((i : Int) + 1) }) (by simp) (by simp) (fun i hi => by show ((c.e.n : Int) - (i : Int)).toNat = c.e.n - i; omega) (fun i hi => ?_) (fun i hi => by rw [wS (n := c.e.n) (by unfold fewN; omega) hi]; rfl) ?_
  · have hi : i < c.e.n := hi
    have hk := reE_le c.e.ρ c.l i
    have e : reE c.e.ρ c.l (i + 1) = bif le 0 (idxI c.l (vJ c.e.ρ i)) then ((reE c.e.ρ c.l i).1 + 1, Val.cat (reE c.e.ρ c.l i).1 (reE c.e.ρ c.l i).2 (Val.ofFlat 2 [I (vI c.e.ρ i), I (idxI c.l (vJ c.e.ρ i))])) else reE c.e.ρ c.l i := rfl
    refine ⟨fun _ => ⟨inR hi, dec_iff.2 hl, fun hb => ⟨Nat.ble_eq_true_of_le (by show (((reE c.e.ρ c.l i).1 + 1) * 15 + (reE c.e.ρ c.l i).1) ≤ _; omega), ?_⟩, fun hb => ?_⟩, fun h' => ?_⟩
    · have hb : le 0 (idxI c.l (vJ c.e.ρ i)) = true := hb
      show (XE.normal, _) = (XE.normal, _)
      unfold st; rw [e, hb]; rfl
    · have hb : le 0 (idxI c.l (vJ c.e.ρ i)) = false := hb
      show (XE.normal, _) = (XE.normal, _)
      unfold st; rw [e, hb]; rfl
    · have h' : lt (i : Int) c.m = false := h'
      rw [hm, ltT hi] at h'; cases h'
  · refine ⟨fun h' => ?_, fun _ => rfl⟩
    have h' : lt (c.e.n : Int) c.m = true := h'
    rw [hm, lt_iff] at h'
    have h' : (c.e.n : Int) < (c.e.n : Int) := h'
    omega
def get : List (Nat × AV) → Mem → Option (C × V)
  | [(1, .one (.c (.sl [.int .i64] c_l_n c_l_ρ))), (4, .one (.c (.ptr 0 0))), (5, .one (.c (.int .i64 0))), (8, .one (.c (.ptr 1 0))), (51, .one (.c (.sl [.int .i64, .int .i64] c_e_n c_e_ρ))), (52, .one (.c (.int .i64 c_m))), (53, .one (.c (.int .i64 v_i)))], [some (53, [.nils, .nils, .nils]), some (53, [.sl [.int .i64] c_s_n c_s_ρ, .os 2 3, .os 3 2]), some (96, [.row false [.int .i64, .int .i64, .sl [.int .u8, .int .u8, .int .u8, .int .u8, .int .u8, .int .u8, .int .u8, .int .u8]] c_r_n c_r_ρ]), some (135, [.row false [.int .i64, .int .i64] v_k v_σ])] =>
    some (⟨⟨c_s_n, c_s_ρ⟩, ⟨c_r_n, c_r_ρ⟩, ⟨c_l_n, c_l_ρ⟩, ⟨c_e_n, c_e_ρ⟩, c_m⟩, ⟨v_k, v_σ, v_i⟩)
  | _, _ => none
noncomputable def L : Nat → St → Tree (XE × St) := ownH [.ownM 3 2 135 evSh] (lqH [1, 4, 5, 8, 51, 52, 53] 0 75 get fun c v => lq1 (S c) (good c ∧ v = st c 0) (.exit 3) (st c (nn c)))
theorem ok (fn : Func) (c b : Code) (hf : Tryz.prog.funcs[35]? = some fn) (hc : fn.body = some c) (hb : nthLoop c 0 = some b) : LoopOk Tryz.prog b L :=
  ownH_ok [.ownM 3 2 135 evSh] (lq1_ok hT 10 35 0 hf hc hb [1, 4, 5, 8, 51, 52, 53] 0 75 S TX t get (fun l m c v h => by unfold get at h; split at h <;> simp at h; obtain ⟨rfl, rfl⟩ := h; rfl)
    good μ st nn (.exit 3) sq (fun c => (st c (nn c))) (fun _ _ => StWk.refl))
end Ik
end Hs
end Go.Proofs.YtennlgngdjegoaaGreat
namespace Go.Proofs.YtennlgngdjegoaaGreat
open Go Go.Sx Go.RowKit Classical
set_option maxRecDepth 100000
set_option maxHeartbeats 4000000
namespace Hs
open Fo (inSh scSh evSh pcH litK headK allB allB_ok lhsOf lhs_ok)
noncomputable abbrev HW : Hd := ⟨[], [], [], Fo.mcA⟩
theorem hW : HdOk Tryz.prog HW := Fo.hA0
def cpW (ω : Val) : Nat → Val
  | 0 => .zero
  | i + 1 => Val.cat i (cpW ω i) (Val.ofFlat 3 (selC ω i))
namespace Im
structure C where
  s : Il
  e : Il
  l : Il
  m : Int
structure V where
  k : Nat
  σ : Val
  i : Int
def S (c : C) (v : V) : St := mkS 32 [(2, .one (.c (.ptr 0 0))), (3, .one (.c (.ptr 1 0))), (14, .one (.c (.sl wrSh c.l.n c.l.ρ))), (15, .one (.c (I c.m))), (16, .one (.c (I v.i)))] [some (53, [.nils, .nils, .nils]), some (53, [.os 2 1, .os 3 3, .os 4 2]), some (3, [.row false inSh c.s.n c.s.ρ]), some (96, [.row false wrSh v.k v.σ]), some (135, [.row false evSh c.e.n c.e.ρ])]
def TX (c : C) (v : V) : Tree (XE × V) := .br (lt v.i c.m) (.need (inRange v.i c.l.n) (.need (Nat.ble ((0 + vL c.l.ρ 2 v.i.toNat) * 8) 140737488355328) (.need (Nat.ble (((v.k + 1).mul 39).add v.k) 140737488355327) (.leaf (.normal, ⟨v.k + 1, Val.cat v.k v.σ (Val.ofFlat 3 (selC c.l.ρ v.i.toNat)), w64 (v.i + 1)⟩))))) (.leaf (.exit 0, v))
theorem t (c : C) (v : V) : ((evCode Tryz.prog HW (evFn Tryz.prog HW 10) 87 0 1 (loopBody Tryz.prog 87 0) (S c v)).bind fun y => gcT [2, 3, 14, 15, 16] 0 y) = (TX c v).bind fun y => .leaf (y.1, S c y.2) := by kernel_rfl
def st (c : C) (i : Nat) : V := ⟨i, cpW c.l.ρ i, i⟩
def nn (c : C) : Nat := c.l.n
def good (c : C) : Prop := c.m = toInt64 c.l.n ∧ c.l.n ≤ 1000 ∧ ∀ i, i < c.l.n → vL c.l.ρ 2 i ≤ 1000
def μ (c : C) (v : V) : Nat := (c.l.n - v.i).toNat
theorem sq (c : C) (h : good c) : Sq (TX c) (μ c) (st c) (st c) (nn c) (fun _ => false) .ret (.exit 0) := by
  obtain ⟨hm, h, hl⟩ := h
  refine sqF (sn := fun i => { st c (i + 1) with i := w64 ((i : Int) + 1) }) (by simp) (by simp) (fun i hi => by show ((c.l.n : Int) - (i : Int)).toNat = c.l.n - i; omega) (fun i hi => ?_) (fun i hi => by rw [wS (n := c.l.n) (by unfold fewN; omega) hi]; rfl) ?_
  · have hi : i < c.l.n := hi
    have := hl i hi
    refine ⟨fun _ => ⟨inR hi, Nat.ble_eq_true_of_le (by show (0 + vL c.l.ρ 2 i) * 8 ≤ _; omega), Nat.ble_eq_true_of_le (by show ((i + 1) * 39 + i) ≤ _; omega), rfl⟩, fun h' => ?_⟩
    have h' : lt (i : Int) c.m = false := h'
    rw [hm, ltT hi] at h'; cases h'
  · refine ⟨fun h' => ?_, fun _ => rfl⟩
    have h' : lt (c.l.n : Int) c.m = true := h'
    rw [hm, lt_iff] at h'
    have h' : (c.l.n : Int) < (c.l.n : Int) := h'
    omega
def get : List (Nat × AV) → Mem → Option (C × V)
  | [(2, .one (.c (.ptr 0 0))), (3, .one (.c (.ptr 1 0))), (14, .one (.c (.sl [.int .i64, .int .i64, .sl [.int .u8, .int .u8, .int .u8, .int .u8, .int .u8, .int .u8, .int .u8, .int .u8]] c_l_n c_l_ρ))), (15, .one (.c (.int .i64 c_m))), (16, .one (.c (.int .i64 v_i)))], [some (53, [.nils, .nils, .nils]), some (53, [.os 2 1, .os 3 3, .os 4 2]), some (3, [.row false [.int .i64] c_s_n c_s_ρ]), some (96, [.row false [.int .i64, .int .i64, .sl [.int .u8, .int .u8, .int .u8, .int .u8, .int .u8, .int .u8, .int .u8, .int .u8]] v_k v_σ]), some (135, [.row false [.int .i64, .int .i64] c_e_n c_e_ρ])] =>
    some (⟨⟨c_s_n, c_s_ρ⟩, ⟨c_e_n, c_e_ρ⟩, ⟨c_l_n, c_l_ρ⟩, c_m⟩, ⟨v_k, v_σ, v_i⟩)
  | _, _ => none
noncomputable def L : Nat → St → Tree (XE × St) := ownH [.ownM 9 1 96 wrSh] (lqH [2, 3, 14, 15, 16] 0 32 get fun c v => lq1 (S c) (good c ∧ v = st c 0) (.exit 0) (st c (nn c)))
theorem ok (fn : Func) (c b : Code) (hf : Tryz.prog.funcs[87]? = some fn) (hc : fn.body = some c) (hb : nthLoop c 0 = some b) : LoopOk Tryz.prog b L :=
  ownH_ok [.ownM 9 1 96 wrSh] (lq1_ok hW 10 87 0 hf hc hb [2, 3, 14, 15, 16] 0 32 S TX t get (fun l m c v h => by unfold get at h; split at h <;> simp at h; obtain ⟨rfl, rfl⟩ := h; rfl)
    good μ st nn (.exit 0) sq (fun c => (st c (nn c))) (fun _ _ => StWk.refl))
end Im
noncomputable abbrev HX : Hd := ⟨[], [], [((87, 0), Im.L)], Fo.mcA⟩
theorem hX : HdOk Tryz.prog HX := HdOk.lhCons hW Im.ok
structure CpOk (h : Hi) : Prop where
  s : h.s.n ≤ 1000
  w : h.w.n ≤ 1000
  e : h.e.n ≤ 1000
  d : ∀ i, i < h.w.n → vL h.w.ρ 2 i ≤ 1000
def cpC (h : Hi) : Im.C := ⟨h.s, h.e, h.w, toInt64 h.w.n⟩
noncomputable def cpP (h : Hi) : List (Bool × Bool) := [(Nat.ble ((0 + h.s.n) * 8) 140737488355328, true), (Nat.ble ((0 + h.e.n) * 16) 140737488355328, true), (dec (Im.good (cpC h) ∧ (⟨0, .zero, 0⟩ : Im.V) = Im.st (cpC h) 0), true)]
theorem path87 (h : Hi) : (hcTreeP Tryz.prog HX Fo.XA 10 87 [.agg [.sl inSh h.s.n h.s.ρ, .sl wrSh h.w.n h.w.ρ, .sl evSh h.e.n h.e.ρ]]).follow [] = some (cpP h, .one (.agg [.sl inSh h.s.n h.s.ρ, .sl wrSh h.w.n (cpW h.w.ρ h.w.n), .sl evSh h.e.n h.e.ρ])) := by kernel_rfl
noncomputable def Gcp : List A1 → Option (Bool × AV)
  | [.agg [.sl [.int .i64] n ρ, .sl [.int .i64, .int .i64, .sl [.int .u8, .int .u8, .int .u8, .int .u8, .int .u8, .int .u8, .int .u8, .int .u8]] m ω, .sl [.int .i64, .int .i64] q ε]] => some (dec (CpOk ⟨⟨n, ρ⟩, ⟨m, ω⟩, ⟨q, ε⟩⟩), .one (.agg [.sl inSh n ρ, .sl wrSh m (cpW ω m), .sl evSh q ε]))
  | _ => none
theorem u87 : UcOne Tryz.prog 87 (nG Gcp) := ucOneP_of_tree hX Fo.xA 10 87 fun args r hr => by
  unfold Gcp at hr; split at hr
  · rename_i n ρ m ω q ε
    obtain ⟨hp, rfl⟩ := Prod.mk.inj (Option.some.inj hr)
    have ho := dec_iff.1 hp
    refine ⟨_, rfl, follow_all (path87 ⟨⟨n, ρ⟩, ⟨m, ω⟩, ⟨q, ε⟩⟩) ?_ leA.refl⟩
    have h1 : n ≤ 1000 := ho.s
    have h2 : q ≤ 1000 := ho.e
    have e1 : Nat.ble ((0 + n) * 8) 140737488355328 = true := Nat.ble_eq_true_of_le (by omega)
    have e2 : Nat.ble ((0 + q) * 16) 140737488355328 = true := Nat.ble_eq_true_of_le (by omega)
    have e3 : dec (Im.good (cpC ⟨⟨n, ρ⟩, ⟨m, ω⟩, ⟨q, ε⟩⟩) ∧ (⟨0, .zero, 0⟩ : Im.V) = Im.st (cpC ⟨⟨n, ρ⟩, ⟨m, ω⟩, ⟨q, ε⟩⟩) 0) = true := dec_iff.2 ⟨⟨rfl, ho.w, ho.d⟩, rfl⟩
    unfold cpP
    rw [e1, e2, e3]
    rfl
  · cases hr
noncomputable abbrev HTc : Hd := ⟨HT.pc, (87, nG Gcp) :: HT.hc, [], []⟩
theorem hTc : HdOk Tryz.prog HTc := hT.ucCons u87
noncomputable abbrev HY : Hd := ⟨HTc.pc, HTc.hc, [((35, 0), Ik.L), ((129, 0), Ij.L)], []⟩
theorem hY : HdOk Tryz.prog HY := HdOk.lhCons (HdOk.lhCons hTc Ij.ok) Ik.ok
def ijC (h : Hi) (k : Nat) (κ : Val) : Ij.C := ⟨h.e, h.s, ⟨okN (hisE h) h.w.n, h.w.ρ⟩, ⟨k, κ⟩, ⟨k, κ⟩, toInt64 k⟩
def ikC (h : Hi) (k : Nat) (κ : Val) : Ik.C := ⟨h.s, ⟨k, selW h.w.ρ κ k⟩, ⟨k, κ⟩, h.e, toInt64 h.e.n⟩
def rsH (h : Hi) (k : Nat) (κ : Val) : Hi := ⟨h.s, ⟨k, selW h.w.ρ κ k⟩, ⟨(reE h.e.ρ ⟨k, κ⟩ h.e.n).1, (reE h.e.ρ ⟨k, κ⟩ h.e.n).2⟩⟩
def rsX (h : Hi) (k : Nat) (κ : Val) : Hi := ⟨h.s, ⟨k, cpW (selW h.w.ρ κ k) k⟩, ⟨(reE h.e.ρ ⟨k, κ⟩ h.e.n).1, (reE h.e.ρ ⟨k, κ⟩ h.e.n).2⟩⟩
noncomputable def rsP (h : Hi) (k : Nat) (κ : Val) : List (Bool × Bool) :=
  [(dec (fewH h), true), (hisE h != 0, false), (dec (fewN k), true), (!(!(anyB (setB (toInt64 (okN (hisE h) h.w.n)) κ) k)), false),
   (dec (IclOk (okN (hisE h) h.w.n) k (okN (hisE h) (evS h.e.ρ h.e.n).k) (okN (hisE h) (evS h.e.ρ h.e.n).k) κ (evS h.e.ρ h.e.n).σ (evS h.e.ρ h.e.n).τ), true), (false, false),
   (dec (Ij.good (ijC h k κ) ∧ (⟨0, .zero, 0⟩ : Ij.V) = Ij.st (ijC h k κ) 0), true), (dec (Ik.good (ikC h k κ) ∧ (⟨0, .zero, 0⟩ : Ik.V) = Ik.st (ikC h k κ) 0), true), (dec (CpOk (rsH h k κ)), true)]
def hiA (h : Hi) : A1 := .agg [.sl inSh h.s.n h.s.ρ, .sl wrSh h.w.n h.w.ρ, .sl evSh h.e.n h.e.ρ]
theorem path35 (h : Hi) (k : Nat) (κ : Val) : (hcTree Tryz.prog HY 10 35 [.agg [.sl inSh h.s.n h.s.ρ, .sl wrSh h.w.n h.w.ρ, .sl evSh h.e.n h.e.ρ], .c (.sl inSh k κ)]).follow [false, false, false] = some (rsP h k κ, .tup [hiA (rsX h k κ), .c (I 0)]) := by kernel_rfl
structure RsOk (h : Hi) (k : Nat) (κ : Val) : Prop where
  im : ImOk h k κ
  w : h.w.n ≤ 1000
  icl : IclOk h.w.n k (evS h.e.ρ h.e.n).k (evS h.e.ρ h.e.n).k κ (evS h.e.ρ h.e.n).σ (evS h.e.ρ h.e.n).τ
  d : ∀ i, i < h.w.n → vL h.w.ρ 2 i ≤ 1000
theorem rs_path {h : Hi} {k : Nat} {κ : Val} (ho : RsOk h k κ) : okB (rsP h k κ) = true := by
  have hk := ho.im.k1
  have hw : okN (hisE h) h.w.n = h.w.n := by unfold okN; rw [ho.im.his]; rfl
  have hv : okN (hisE h) (evS h.e.ρ h.e.n).k = (evS h.e.ρ h.e.n).k := by unfold okN; rw [ho.im.his]; rfl
  obtain ⟨h1, _⟩ := his0 ho.im.his
  obtain ⟨a, b, c⟩ := szE_few (n := h.s.n) (ρ := h.s.ρ) h1
  have e1 : dec (fewH h) = true := dec_iff.2 ho.im.few
  have e2 : (hisE h != 0) = false := by rw [ho.im.his]; rfl
  have fk : fewN k := by unfold fewN; omega
  have e3 : dec (fewN k) = true := dec_iff.2 fk
  have e4 : dec (IclOk (okN (hisE h) h.w.n) k (okN (hisE h) (evS h.e.ρ h.e.n).k) (okN (hisE h) (evS h.e.ρ h.e.n).k) κ (evS h.e.ρ h.e.n).σ (evS h.e.ρ h.e.n).τ) = true := dec_iff.2 (by rw [hw, hv]; exact ho.icl)
  have e5 : dec (Ij.good (ijC h k κ) ∧ (⟨0, .zero, 0⟩ : Ij.V) = Ij.st (ijC h k κ) 0) = true := dec_iff.2 ⟨⟨rfl, hk, fun i hi => by
    obtain ⟨x0, x1⟩ := im_in ho.im i hi
    show inRange (vI κ i) (okN (hisE h) h.w.n) = true
    rw [hw]
    unfold inRange
    rw [Bool.and_eq_true, le_iff, lt_iff]
    exact ⟨x0, x1⟩⟩, rfl⟩
  have e6 : dec (Ik.good (ikC h k κ) ∧ (⟨0, .zero, 0⟩ : Ik.V) = Ik.st (ikC h k κ) 0) = true := dec_iff.2 ⟨⟨rfl, ho.im.few.2.2, fk⟩, rfl⟩
  have e7 : dec (CpOk (rsH h k κ)) = true := dec_iff.2 ⟨by show h.s.n ≤ 1000; omega, hk, by
      have := reE_le h.e.ρ ⟨k, κ⟩ h.e.n
      have hq := ho.im.few.2.2
      show (reE h.e.ρ ⟨k, κ⟩ h.e.n).1 ≤ 1000
      omega, fun i hi => by
      have hi : i < k := hi
      obtain ⟨x0, x1⟩ := im_in ho.im i hi
      show vL (selW h.w.ρ κ k) 2 i ≤ 1000
      rw [sel_L hi]
      exact ho.d _ (by omega)⟩
  unfold rsP
  rw [e1, e2, e3, e4, e5, e6, e7, hw, ho.im.set]
  rfl
noncomputable def Grs : List A1 → Option (Bool × AV)
  | [.agg [.sl [.int .i64] n ρ, .sl [.int .i64, .int .i64, .sl [.int .u8, .int .u8, .int .u8, .int .u8, .int .u8, .int .u8, .int .u8, .int .u8]] m ω, .sl [.int .i64, .int .i64] q ε], .c (.sl [.int .i64] k κ)] => some (dec (RsOk ⟨⟨n, ρ⟩, ⟨m, ω⟩, ⟨q, ε⟩⟩ k κ), .tup [hiA (rsX ⟨⟨n, ρ⟩, ⟨m, ω⟩, ⟨q, ε⟩⟩ k κ), .c (I 0)])
  | _ => none
theorem u35 : UcOne Tryz.prog 35 (nG Grs) := ucOne_of_follow hY 10 35 fun args r hr => by
  unfold Grs at hr; split at hr
  · rename_i n ρ m ω q ε k κ
    obtain ⟨hp, rfl⟩ := Prod.mk.inj (Option.some.inj hr)
    have ho := dec_iff.1 hp
    exact ⟨_, _, _, path35 ⟨⟨n, ρ⟩, ⟨m, ω⟩, ⟨q, ε⟩⟩ k κ, rs_path ho, leA.refl⟩
  · cases hr
def idV : Nat → Val
  | 0 => .zero
  | i + 1 => Val.cat i (idV i) (Val.ofFlat 1 [I (i : Int)])
namespace Io
structure C where
  m : Int
structure V where
  k : Nat
  σ : Val
  i : Int
def S (c : C) (v : V) : St := mkS 15 [(0, .one (.c (I c.m))), (3, .one (.c (.os 0 1))), (4, .one (.c (I v.i)))] [some (3, [.row false inSh v.k v.σ])]
def TX (c : C) (v : V) : Tree (XE × V) := .br (lt v.i c.m) (.need (Nat.ble (((v.k + 1).mul 7).add v.k) 140737488355327) (.leaf (.normal, ⟨v.k + 1, Val.cat v.k v.σ (Val.ofFlat 1 [I v.i]), w64 (v.i + 1)⟩))) (.leaf (.exit 0, v))
theorem t (c : C) (v : V) : ((evCode Tryz.prog H16 (evFn Tryz.prog H16 10) 37 0 1 (loopBody Tryz.prog 37 0) (S c v)).bind fun y => gcT [0, 3, 4] 0 y) = (TX c v).bind fun y => .leaf (y.1, S c y.2) := by kernel_rfl
def st (_ : C) (i : Nat) : V := ⟨i, idV i, i⟩
def nn (c : C) : Nat := c.m.toNat
def good (c : C) : Prop := 0 ≤ c.m ∧ c.m ≤ 1000
def μ (c : C) (v : V) : Nat := (c.m - v.i).toNat
theorem sq (c : C) (h : good c) : Sq (TX c) (μ c) (st c) (st c) (nn c) (fun _ => false) .ret (.exit 0) := by
  obtain ⟨m0, m1⟩ := h
  have em : c.m = toInt64 c.m.toNat := by show c.m = ((c.m.toNat : Nat) : Int); omega
  refine sqF (sn := fun i => { st c (i + 1) with i := w64 ((i : Int) + 1) }) (by simp) (by simp) (fun i hi => by show (c.m - (i : Int)).toNat = c.m.toNat - i; omega) (fun i hi => ?_) (fun i hi => by rw [wS (n := c.m.toNat) (by unfold fewN; omega) hi]; rfl) ?_
  · have hi : i < c.m.toNat := hi
    refine ⟨fun _ => ⟨Nat.ble_eq_true_of_le (by show ((i + 1) * 7 + i) ≤ _; omega), rfl⟩, fun h' => ?_⟩
    have h' : lt (i : Int) c.m = false := h'
    rw [em, ltT hi] at h'; cases h'
  · refine ⟨fun h' => ?_, fun _ => rfl⟩
    have h' : lt (c.m.toNat : Int) c.m = true := h'
    rw [lt_iff] at h'; omega
def get : List (Nat × AV) → Mem → Option (C × V)
  | [(0, .one (.c (.int .i64 c_m))), (3, .one (.c (.os 0 1))), (4, .one (.c (.int .i64 v_i)))], [some (3, [.row false [.int .i64] v_k v_σ])] =>
    some (⟨c_m⟩, ⟨v_k, v_σ, v_i⟩)
  | _, _ => none
noncomputable def L : Nat → St → Tree (XE × St) := ownH [.own 3 3 inSh] (lqH [0, 3, 4] 0 15 get fun c v => lq1 (S c) (good c ∧ v = st c 0) (.exit 0) (st c (nn c)))
theorem ok (fn : Func) (c b : Code) (hf : Tryz.prog.funcs[37]? = some fn) (hc : fn.body = some c) (hb : nthLoop c 0 = some b) : LoopOk Tryz.prog b L :=
  ownH_ok [.own 3 3 inSh] (lq1_ok h16 10 37 0 hf hc hb [0, 3, 4] 0 15 S TX t get (fun l m c v h => by unfold get at h; split at h <;> simp at h; obtain ⟨rfl, rfl⟩ := h; rfl)
    good μ st nn (.exit 0) sq (fun c => (st c (nn c))) (fun _ _ => StWk.refl))
end Io
noncomputable abbrev H37 : Hd := ⟨H16.pc, H16.hc, [((37, 0), Io.L)], H16.mc⟩
theorem h37 : HdOk Tryz.prog H37 := HdOk.lhCons h15 Io.ok
noncomputable def Gfi : List A1 → Option (Bool × AV)
  | [.c (.int .i64 m)] => some (dec (0 ≤ m ∧ m ≤ 1000), .one (.c (.sl inSh m.toNat (idV m.toNat))))
  | _ => none
theorem u37 : UcOne Tryz.prog 37 (nG Gfi) := ucOne_of_tree h37 10 37 fun args r hr => by
  unfold Gfi at hr; split at hr
  · rename_i m
    obtain ⟨hp, rfl⟩ := Prod.mk.inj (Option.some.inj hr)
    have ho := dec_iff.1 hp
    exact ⟨.need (dec (Io.good ⟨m⟩ ∧ (⟨0, .zero, 0⟩ : Io.V) = Io.st ⟨m⟩ 0)) (.leaf (.one (.c (.sl inSh m.toNat (idV m.toNat))))), by kernel_rfl, dec_iff.2 ⟨ho, rfl⟩, leA.refl⟩
  · cases hr
theorem idV_at : ∀ n j, j < n → vI (idV n) j = (j : Int)
  | 0, j, h => by omega
  | n + 1, j, h => by
    show vI (Val.cat n (idV n) (Val.ofFlat 1 [I (n : Int)])) j = _
    rw [vI_cat]
    by_cases hj : j < n
    · rw [if_pos hj]; exact idV_at n j hj
    · have : j = n := by omega
      subst this
      rw [if_neg hj, Nat.sub_self]; rfl
end Hs
end Go.Proofs.YtennlgngdjegoaaGreat
namespace Go.Proofs.YtennlgngdjegoaaGreat
open Go Go.Sx Go.RowKit Classical
set_option maxRecDepth 100000
set_option maxHeartbeats 4000000
namespace Hs
open Fo (inSh scSh evSh pcH litK headK allB allB_ok lhsOf lhs_ok)
noncomputable abbrev HZ0 : Hd := ⟨(4294967295, fun _ => .fail) :: (38, nG Gsi) :: (32, nG Gcs) :: (31, nG Grc) :: (23, nG Gpt) :: (34, nG Ghas) :: (20, nG Gfw) :: pcH, (37, nG Gfi) :: (36, nG Gimg) :: (35, nG Grs) :: (21, nG Glos) :: [], [], []⟩
theorem hZ0 : HdOk Tryz.prog HZ0 := by
  have a : HdOk Tryz.prog ⟨pcH, [], [], []⟩ := h0
  have b := (((((((((a.ucCons u21).ucCons u35).ucCons u36).ucCons u37).tcCons p20).tcCons p34).tcCons p23).tcCons p31).tcCons p32).tcCons p38
  exact b.tcCons (f := 4294967295) (G := fun _ => .fail) (fun _ _ h => by simp [Tree.sel] at h)
def unB (a b : Il) (x : Int) : Bool := inB a x || inB b x
def unS (a b : Il) : Nat → Nat × Val
  | 0 => (0, .zero)
  | i + 1 => bif unB a b i then ((unS a b i).1 + 1, Val.cat (unS a b i).1 (unS a b i).2 (Val.ofFlat 1 [I (i : Int)])) else unS a b i
theorem unS_le (a b : Il) : ∀ i, (unS a b i).1 ≤ i
  | 0 => Nat.le_refl _
  | i + 1 => by
    have := unS_le a b i
    have e : unS a b (i + 1) = bif unB a b i then ((unS a b i).1 + 1, Val.cat (unS a b i).1 (unS a b i).2 (Val.ofFlat 1 [I (i : Int)])) else unS a b i := rfl
    rw [e]
    cases unB a b i
    · show (unS a b i).1 ≤ i + 1; omega
    · show (unS a b i).1 + 1 ≤ i + 1; omega
def nwS (τ : Val) : Nat → Int
  | 0 => 0
  | i + 1 => w64 (nwS τ i + w64 (vI τ i))
def atS (τ : Val) : Nat → Val
  | 0 => .zero
  | i + 1 => Val.cat i (atS τ i) (Val.ofFlat 1 [I (nwS τ (i + 1))])
namespace Ip
structure C where
  a : Il
  b : Il
  h : Hi
  t : Il
  m : Int
structure V where
  k : Nat
  σ : Val
  j : Nat
  τ : Val
  w : Int
  i : Int
def S (c : C) (v : V) : St := mkS 237 [(2, .one (.c (.sl [.int .u8] c.t.n c.t.ρ))), (3, .one (.c (.ptr 0 0))), (4, .one (.c (.ptr 1 0))), (6, .one (.c (.bool false))), (7, .one (.c (.os 2 1))), (8, .one (.c (.os 3 1))), (9, .one (.c (I v.w))), (74, .one (.c (I c.m))), (75, .one (.c (I v.i)))] [some (53, [.sl inSh c.h.s.n c.h.s.ρ, .sl wrSh c.h.w.n c.h.w.ρ, .sl evSh c.h.e.n c.h.e.ρ]), some (74, [.sl inSh c.a.n c.a.ρ, .sl inSh c.b.n c.b.ρ]), some (3, [.row false inSh v.k v.σ]), some (3, [.row false inSh v.j v.τ])]
noncomputable def TX (c : C) (v : V) : Tree (XE × V) :=
  let w' := w64 (v.w + w64 (vI c.t.ρ v.i.toNat))
  .br (lt v.i c.m) (.need (dec (fewN c.a.n)) (.need (!(inB c.a v.i == false && true) || dec (fewN c.b.n)) (.br (unB c.a c.b v.i)
    (.need (Nat.ble (((v.k + 1).mul 7).add v.k) 140737488355327) (.need (inRange v.i c.t.n) (.need (Nat.ble (((v.j + 1).mul 7).add v.j) 140737488355327) (.leaf (.normal, ⟨v.k + 1, Val.cat v.k v.σ (Val.ofFlat 1 [I v.i]), v.j + 1, Val.cat v.j v.τ (Val.ofFlat 1 [I w']), w', w64 (v.i + 1)⟩)))))
    (.need (inRange v.i c.t.n) (.need (Nat.ble (((v.j + 1).mul 7).add v.j) 140737488355327) (.leaf (.normal, ⟨v.k, v.σ, v.j + 1, Val.cat v.j v.τ (Val.ofFlat 1 [I w']), w', w64 (v.i + 1)⟩))))))) (.leaf (.exit 0, v))
theorem t (c : C) (v : V) : ((evCode Tryz.prog HZ0 (evFn Tryz.prog HZ0 10) 8 0 1 (loopBody Tryz.prog 8 0) (S c v)).bind fun y => gcT [2, 3, 4, 6, 7, 8, 9, 74, 75] 0 y) = (TX c v).bind fun y => .leaf (y.1, S c y.2) := by kernel_rfl
def st (c : C) (i : Nat) : V := ⟨(unS c.a c.b i).1, (unS c.a c.b i).2, i, atS c.t.ρ i, nwS c.t.ρ i, i⟩
def nn (c : C) : Nat := c.m.toNat
structure good (c : C) : Prop where
  m0 : 0 ≤ c.m
  m1 : c.m ≤ 1000
  a : fewN c.a.n
  b : fewN c.b.n
  t : c.m.toNat ≤ c.t.n
def μ (c : C) (v : V) : Nat := (c.m - v.i).toNat
theorem sq (c : C) (h : good c) : Sq (TX c) (μ c) (st c) (st c) (nn c) (fun _ => false) .ret (.exit 0) := by
  have m0 := h.m0
  have m1 := h.m1
  have ht := h.t
  have em : c.m = toInt64 c.m.toNat := by show c.m = ((c.m.toNat : Nat) : Int); omega
  refine sqF (sn := fun i => { st c (i + 1) with i := w64 ((i : Int) + 1) }) (by simp) (by simp) (fun i hi => by show (c.m - (i : Int)).toNat = c.m.toNat - i; omega) (fun i hi => ?_) (fun i hi => by rw [wS (n := c.m.toNat) (by unfold fewN; omega) hi]; rfl) ?_
  · have hi : i < c.m.toNat := hi
    have hk := unS_le c.a c.b i
    have e : unS c.a c.b (i + 1) = bif unB c.a c.b i then ((unS c.a c.b i).1 + 1, Val.cat (unS c.a c.b i).1 (unS c.a c.b i).2 (Val.ofFlat 1 [I (i : Int)])) else unS c.a c.b i := rfl
    have g1 : Nat.ble (((i + 1).mul 7).add i) 140737488355327 = true := Nat.ble_eq_true_of_le (by show (i + 1) * 7 + i ≤ _; omega)
    refine ⟨fun _ => ⟨dec_iff.2 h.a, ?_, fun hb => ⟨Nat.ble_eq_true_of_le (by show ((unS c.a c.b i).1 + 1) * 7 + (unS c.a c.b i).1 ≤ _; omega), inR (by omega), g1, ?_⟩, fun hb => ⟨inR (by omega), g1, ?_⟩⟩, fun h' => ?_⟩
    · show (_ || dec (fewN c.b.n)) = true
      rw [dec_iff.2 h.b, Bool.or_true]
    · have hb : unB c.a c.b i = true := hb
      show (XE.normal, _) = (XE.normal, _)
      unfold st; rw [e, hb]; rfl
    · have hb : unB c.a c.b i = false := hb
      show (XE.normal, _) = (XE.normal, _)
      unfold st; rw [e, hb]; rfl
    · have h' : lt (i : Int) c.m = false := h'
      rw [em, ltT hi] at h'; cases h'
  · refine ⟨fun h' => ?_, fun _ => rfl⟩
    have h' : lt (c.m.toNat : Int) c.m = true := h'
    rw [lt_iff] at h'; omega
def get : List (Nat × AV) → Mem → Option (C × V)
  | [(2, .one (.c (.sl [.int .u8] c_t_n c_t_ρ))), (3, .one (.c (.ptr 0 0))), (4, .one (.c (.ptr 1 0))), (6, .one (.c (.bool false))), (7, .one (.c (.os 2 1))), (8, .one (.c (.os 3 1))), (9, .one (.c (.int .i64 v_w))), (74, .one (.c (.int .i64 c_m))), (75, .one (.c (.int .i64 v_i)))], [some (53, [.sl [.int .i64] c_h_s_n c_h_s_ρ, .sl [.int .i64, .int .i64, .sl [.int .u8, .int .u8, .int .u8, .int .u8, .int .u8, .int .u8, .int .u8, .int .u8]] c_h_w_n c_h_w_ρ, .sl [.int .i64, .int .i64] c_h_e_n c_h_e_ρ]), some (74, [.sl [.int .i64] c_a_n c_a_ρ, .sl [.int .i64] c_b_n c_b_ρ]), some (3, [.row false [.int .i64] v_k v_σ]), some (3, [.row false [.int .i64] v_j v_τ])] =>
    some (⟨⟨c_a_n, c_a_ρ⟩, ⟨c_b_n, c_b_ρ⟩, ⟨⟨c_h_s_n, c_h_s_ρ⟩, ⟨c_h_w_n, c_h_w_ρ⟩, ⟨c_h_e_n, c_h_e_ρ⟩⟩, ⟨c_t_n, c_t_ρ⟩, c_m⟩, ⟨v_k, v_σ, v_j, v_τ, v_w, v_i⟩)
  | _, _ => none
noncomputable def L : Nat → St → Tree (XE × St) := ownH [.own 7 3 inSh, .own 8 3 inSh] (lqH [2, 3, 4, 6, 7, 8, 9, 74, 75] 0 237 get fun c v => lq1 (S c) (good c ∧ v = st c 0) (.exit 0) (st c (nn c)))
theorem ok (fn : Func) (c b : Code) (hf : Tryz.prog.funcs[8]? = some fn) (hc : fn.body = some c) (hb : nthLoop c 0 = some b) : LoopOk Tryz.prog b L :=
  ownH_ok [.own 7 3 inSh, .own 8 3 inSh] (lq1_ok hZ0 10 8 0 hf hc hb [2, 3, 4, 6, 7, 8, 9, 74, 75] 0 237 S TX t get (fun l m c v h => by unfold get at h; split at h <;> simp at h; obtain ⟨rfl, rfl⟩ := h; rfl)
    good μ st nn (.exit 0) sq (fun c => (st c (nn c))) (fun _ _ => StWk.refl))
end Ip
namespace Iq
structure C where
  a : Il
  b : Il
  h : Hi
  t : Il
  w : Int
  s : Il
  o : Il
  p : Int
  l : Il
  m : Int
structure V where
  i : Int
def S (c : C) (v : V) : St := mkS 237 [(3, .one (.c (.ptr 0 0))), (4, .one (.c (.ptr 1 0))), (6, .one (.c (.bool false))), (8, .one (.c (.os 2 1))), (9, .one (.c (I c.w))), (11, .one (.c (.sl inSh c.s.n c.s.ρ))), (13, .one (.c (.sl inSh c.o.n c.o.ρ))), (17, .one (.c (I c.p))), (168, .one (.c (.sl inSh c.l.n c.l.ρ))), (169, .one (.c (I c.m))), (170, .one (.c (I v.i)))] [some (53, [.sl inSh c.h.s.n c.h.s.ρ, .sl wrSh c.h.w.n c.h.w.ρ, .sl evSh c.h.e.n c.h.e.ρ]), some (74, [.sl inSh c.a.n c.a.ρ, .sl inSh c.b.n c.b.ρ]), some (3, [.row false inSh c.t.n c.t.ρ])]
def bad (c : C) (i : Nat) : Bool := inB c.a (vI c.l.ρ i) || lt c.p (w64 (c.w - vI c.t.ρ (vI c.l.ρ i).toNat))
noncomputable def TX (c : C) (v : V) : Tree (XE × V) := .br (lt v.i c.m) (.need (inRange v.i c.l.n) (.need (dec (fewN c.a.n)) (.need (!(inB c.a (vI c.l.ρ v.i.toNat) == false && true) || inRange (vI c.l.ρ v.i.toNat) c.t.n) (.br (bad c v.i.toNat) (.leaf (.ret, v)) (.leaf (.normal, ⟨w64 (v.i + 1)⟩)))))) (.leaf (.exit 2, v))
theorem t (c : C) (v : V) : ((evCode Tryz.prog HZ0 (evFn Tryz.prog HZ0 10) 8 0 2 (loopBody Tryz.prog 8 1) (S c v)).bind fun y => gcT [3, 4, 6, 8, 9, 11, 13, 17, 168, 169, 170] 0 y) = (TX c v).bind fun y => .leaf (y.1, S c y.2) := by kernel_rfl
def st (_ : C) (i : Nat) : V := ⟨i⟩
def nn (c : C) : Nat := c.l.n
structure good (c : C) : Prop where
  m : c.m = toInt64 c.l.n
  f : fewN c.l.n
  a : fewN c.a.n
  r : ∀ i, i < c.l.n → inRange (vI c.l.ρ i) c.t.n = true
  no : anyB (bad c) c.l.n = false
def μ (c : C) (v : V) : Nat := (c.l.n - v.i).toNat
theorem sq (c : C) (h : good c) : Sq (TX c) (μ c) (st c) (st c) (nn c) (fun _ => false) .ret (.exit 2) := by
  have hm := h.m
  refine sqF (sn := fun i => ⟨w64 ((i : Int) + 1)⟩) (by simp) (by simp) (fun i hi => by show ((c.l.n : Int) - (i : Int)).toNat = c.l.n - i; omega) (fun i hi => ?_) (fun i hi => by rw [wS h.f hi]; rfl) ?_
  · have hi : i < c.l.n := hi
    refine ⟨fun _ => ⟨inR hi, dec_iff.2 h.a, ?_, fun hb => ?_, fun _ => rfl⟩, fun h' => ?_⟩
    · show (_ || inRange (vI c.l.ρ i) c.t.n) = true
      rw [h.r i hi, Bool.or_true]
    · have hb : bad c i = true := hb
      have := anyB_iff.2 ⟨i, hi, hb⟩
      rw [h.no] at this; cases this
    · have h' : lt (i : Int) c.m = false := h'
      rw [hm, ltT hi] at h'; cases h'
  · refine ⟨fun h' => ?_, fun _ => rfl⟩
    have h' : lt (c.l.n : Int) c.m = true := h'
    rw [hm, lt_iff] at h'
    have h' : (c.l.n : Int) < (c.l.n : Int) := h'
    omega
def get : List (Nat × AV) → Mem → Option (C × V)
  | [(3, .one (.c (.ptr 0 0))), (4, .one (.c (.ptr 1 0))), (6, .one (.c (.bool false))), (8, .one (.c (.os 2 1))), (9, .one (.c (.int .i64 c_w))), (11, .one (.c (.sl [.int .i64] c_s_n c_s_ρ))), (13, .one (.c (.sl [.int .i64] c_o_n c_o_ρ))), (17, .one (.c (.int .i64 c_p))), (168, .one (.c (.sl [.int .i64] c_l_n c_l_ρ))), (169, .one (.c (.int .i64 c_m))), (170, .one (.c (.int .i64 v_i)))], [some (53, [.sl [.int .i64] c_h_s_n c_h_s_ρ, .sl [.int .i64, .int .i64, .sl [.int .u8, .int .u8, .int .u8, .int .u8, .int .u8, .int .u8, .int .u8, .int .u8]] c_h_w_n c_h_w_ρ, .sl [.int .i64, .int .i64] c_h_e_n c_h_e_ρ]), some (74, [.sl [.int .i64] c_a_n c_a_ρ, .sl [.int .i64] c_b_n c_b_ρ]), some (3, [.row false [.int .i64] c_t_n c_t_ρ])] =>
    some (⟨⟨c_a_n, c_a_ρ⟩, ⟨c_b_n, c_b_ρ⟩, ⟨⟨c_h_s_n, c_h_s_ρ⟩, ⟨c_h_w_n, c_h_w_ρ⟩, ⟨c_h_e_n, c_h_e_ρ⟩⟩, ⟨c_t_n, c_t_ρ⟩, c_w, ⟨c_s_n, c_s_ρ⟩, ⟨c_o_n, c_o_ρ⟩, c_p, ⟨c_l_n, c_l_ρ⟩, c_m⟩, ⟨v_i⟩)
  | _, _ => none
noncomputable def L : Nat → St → Tree (XE × St) := lqH [3, 4, 6, 8, 9, 11, 13, 17, 168, 169, 170] 0 237 get fun c v => lq1 (S c) (good c ∧ v = st c 0) (.exit 2) (st c (nn c))
theorem ok (fn : Func) (c b : Code) (hf : Tryz.prog.funcs[8]? = some fn) (hc : fn.body = some c) (hb : nthLoop c 1 = some b) : LoopOk Tryz.prog b L :=
  lq1_ok hZ0 10 8 1 hf hc hb [3, 4, 6, 8, 9, 11, 13, 17, 168, 169, 170] 0 237 S TX t get (fun l m c v h => by unfold get at h; split at h <;> simp at h; obtain ⟨rfl, rfl⟩ := h; rfl)
    good μ st nn (.exit 2) sq (fun c => (st c (nn c))) (fun _ _ => StWk.refl)
end Iq
namespace Ir
structure C where
  a : Il
  b : Il
  h : Hi
  o : Il
  l : Il
  m : Int
structure V where
  i : Int
def S (c : C) (v : V) : St := mkS 237 [(3, .one (.c (.ptr 0 0))), (4, .one (.c (.ptr 1 0))), (6, .one (.c (.bool false))), (13, .one (.c (.sl inSh c.o.n c.o.ρ))), (189, .one (.c (.sl inSh c.l.n c.l.ρ))), (190, .one (.c (I c.m))), (191, .one (.c (I v.i)))] [some (53, [.sl inSh c.h.s.n c.h.s.ρ, .sl wrSh c.h.w.n c.h.w.ρ, .sl evSh c.h.e.n c.h.e.ρ]), some (74, [.sl inSh c.a.n c.a.ρ, .sl inSh c.b.n c.b.ρ])]
def bad (c : C) (i : Nat) : Bool := !(inB c.o (vI c.l.ρ i))
noncomputable def TX (c : C) (v : V) : Tree (XE × V) := .br (lt v.i c.m) (.need (inRange v.i c.l.n) (.need (dec (fewN c.o.n)) (.br (bad c v.i.toNat) (.leaf (.ret, v)) (.leaf (.normal, ⟨w64 (v.i + 1)⟩))))) (.leaf (.exit 4, v))
theorem t (c : C) (v : V) : ((evCode Tryz.prog HZ0 (evFn Tryz.prog HZ0 10) 8 0 3 (loopBody Tryz.prog 8 2) (S c v)).bind fun y => gcT [3, 4, 6, 13, 189, 190, 191] 0 y) = (TX c v).bind fun y => .leaf (y.1, S c y.2) := by kernel_rfl
def st (_ : C) (i : Nat) : V := ⟨i⟩
def nn (c : C) : Nat := c.l.n
structure good (c : C) : Prop where
  m : c.m = toInt64 c.l.n
  f : fewN c.l.n
  o : fewN c.o.n
  no : anyB (bad c) c.l.n = false
def μ (c : C) (v : V) : Nat := (c.l.n - v.i).toNat
theorem sq (c : C) (h : good c) : Sq (TX c) (μ c) (st c) (st c) (nn c) (fun _ => false) .ret (.exit 4) := by
  have hm := h.m
  refine sqF (sn := fun i => ⟨w64 ((i : Int) + 1)⟩) (by simp) (by simp) (fun i hi => by show ((c.l.n : Int) - (i : Int)).toNat = c.l.n - i; omega) (fun i hi => ?_) (fun i hi => by rw [wS h.f hi]; rfl) ?_
  · have hi : i < c.l.n := hi
    refine ⟨fun _ => ⟨inR hi, dec_iff.2 h.o, fun hb => ?_, fun _ => rfl⟩, fun h' => ?_⟩
    · have hb : bad c i = true := hb
      have := anyB_iff.2 ⟨i, hi, hb⟩
      rw [h.no] at this; cases this
    · have h' : lt (i : Int) c.m = false := h'
      rw [hm, ltT hi] at h'; cases h'
  · refine ⟨fun h' => ?_, fun _ => rfl⟩
    have h' : lt (c.l.n : Int) c.m = true := h'
    rw [hm, lt_iff] at h'
    have h' : (c.l.n : Int) < (c.l.n : Int) := h'
    omega
def get : List (Nat × AV) → Mem → Option (C × V)
  | [(3, .one (.c (.ptr 0 0))), (4, .one (.c (.ptr 1 0))), (6, .one (.c (.bool false))), (13, .one (.c (.sl [.int .i64] c_o_n c_o_ρ))), (189, .one (.c (.sl [.int .i64] c_l_n c_l_ρ))), (190, .one (.c (.int .i64 c_m))), (191, .one (.c (.int .i64 v_i)))], [some (53, [.sl [.int .i64] c_h_s_n c_h_s_ρ, .sl [.int .i64, .int .i64, .sl [.int .u8, .int .u8, .int .u8, .int .u8, .int .u8, .int .u8, .int .u8, .int .u8]] c_h_w_n c_h_w_ρ, .sl [.int .i64, .int .i64] c_h_e_n c_h_e_ρ]), some (74, [.sl [.int .i64] c_a_n c_a_ρ, .sl [.int .i64] c_b_n c_b_ρ])] =>
    some (⟨⟨c_a_n, c_a_ρ⟩, ⟨c_b_n, c_b_ρ⟩, ⟨⟨c_h_s_n, c_h_s_ρ⟩, ⟨c_h_w_n, c_h_w_ρ⟩, ⟨c_h_e_n, c_h_e_ρ⟩⟩, ⟨c_o_n, c_o_ρ⟩, ⟨c_l_n, c_l_ρ⟩, c_m⟩, ⟨v_i⟩)
  | _, _ => none
noncomputable def L : Nat → St → Tree (XE × St) := lqH [3, 4, 6, 13, 189, 190, 191] 0 237 get fun c v => lq1 (S c) (good c ∧ v = st c 0) (.exit 4) (st c (nn c))
theorem ok (fn : Func) (c b : Code) (hf : Tryz.prog.funcs[8]? = some fn) (hc : fn.body = some c) (hb : nthLoop c 2 = some b) : LoopOk Tryz.prog b L :=
  lq1_ok hZ0 10 8 2 hf hc hb [3, 4, 6, 13, 189, 190, 191] 0 237 S TX t get (fun l m c v h => by unfold get at h; split at h <;> simp at h; obtain ⟨rfl, rfl⟩ := h; rfl)
    good μ st nn (.exit 4) sq (fun c => (st c (nn c))) (fun _ _ => StWk.refl)
end Ir
end Hs
end Go.Proofs.YtennlgngdjegoaaGreat
namespace Go.Proofs.YtennlgngdjegoaaGreat
open Go Go.Sx Go.RowKit Classical
set_option maxRecDepth 100000
namespace Hs
open Fo (inSh scSh evSh)
theorem vJ_cat (n : Nat) (a b : Val) (i : Nat) : vJ (Val.cat n a b) i = if i < n then vJ a i else vJ b (i - n) := by
  unfold vJ
  rw [cat_at]
  split <;> rfl
theorem any_congr {p r : Nat → Bool} : ∀ n, (∀ i, i < n → p i = r i) → anyB p n = anyB r n
  | 0, _ => rfl
  | n + 1, h => by
    show (anyB p n || p n) = (anyB r n || r n)
    rw [any_congr n fun i hi => h i (by omega), h n (by omega)]
def evEq (ε δ : Val) (n : Nat) : Prop := ∀ e, e < n → vI ε e = vI δ e ∧ vJ ε e = vJ δ e
theorem q_congr {ε δ : Val} {n : Nat} (h : evEq ε δ n) (x y : Int) : anyB (evQ ε x y) n = anyB (evQ δ x y) n :=
  any_congr n fun i hi => by unfold evQ; rw [(h i hi).1, (h i hi).2]
theorem ik_congr {ε δ : Val} : ∀ n, evEq ε δ n → ik ε n = ik δ n
  | 0, _ => rfl
  | n + 1, h => by
    have e1 : ik ε (n + 1) = bif vI ε n == 0 then w64 (ik ε n + 1) else ik ε n := rfl
    have e2 : ik δ (n + 1) = bif vI δ n == 0 then w64 (ik δ n + 1) else ik δ n := rfl
    rw [e1, e2, ik_congr n fun i hi => h i (by omega), (h n (by omega)).1]
theorem ik_le (ε : Val) : ∀ n, n ≤ 100000 → 0 ≤ ik ε n ∧ ik ε n ≤ n
  | 0, _ => ⟨Int.le_refl _, Int.le_refl _⟩
  | n + 1, hn => by
    have ih := ik_le ε n (by omega)
    have e1 : ik ε (n + 1) = bif vI ε n == 0 then w64 (ik ε n + 1) else ik ε n := rfl
    rw [e1]
    cases vI ε n == 0
    · show 0 ≤ ik ε n ∧ ik ε n ≤ _; omega
    · have : w64 (ik ε n + 1) = ik ε n + 1 := by unfold w64; exact w64_id (by omega) (by omega)
      show 0 ≤ w64 (ik ε n + 1) ∧ w64 (ik ε n + 1) ≤ _
      rw [this]; omega
def eQ (nw : Nat) (ε : Val) (i : Nat) : Int :=
  bif vI ε i == 0 then (bif vJ ε i != ik ε i || le (toInt64 nw) (ik ε i) then 3 else 0) else bif vI ε i != 1 then 3 else bif !(anyB (evQ ε 0 (vJ ε i)) i) then 7 else bif anyB (evQ ε (vI ε i) (vJ ε i)) i then 8 else 0
theorem eQ_eq (nw : Nat) (ε : Val) (i : Nat) : eR nw ε i = eQ nw ε i := by
  unfold eR eQ
  rw [at_neg, at_pos]
theorem eQ_congr {ε δ : Val} {nw i : Nat} (h : evEq ε δ (i + 1)) : eQ nw ε i = eQ nw δ i := by
  have h' : evEq ε δ i := fun e he => h e (by omega)
  unfold eQ
  rw [(h i (by omega)).1, (h i (by omega)).2, ik_congr i h', q_congr h', q_congr h']
section
variable {ε κ : Val} {k nw : Nat} (mono : ∀ i j, i < j → j < k → vI κ i < vI κ j) (rng : ∀ j, j < k → 0 ≤ vI κ j)
include mono
theorem kap_lt {i j : Nat} (hi : i < k) (hj : j < k) : vI κ i < vI κ j ↔ i < j := by
  constructor
  · intro h
    apply Classical.byContradiction
    intro hn
    rcases Nat.lt_or_ge j i with h1 | h1
    · have := mono j i h1 hi; omega
    · have : i = j := by omega
      subst this; omega
  · intro h; exact mono i j h hj
theorem kap_eq {i j : Nat} (hi : i < k) (hj : j < k) : vI κ i = vI κ j ↔ i = j := by
  constructor
  · intro h
    rcases Nat.lt_trichotomy i j with h1 | h1 | h1
    · have := mono i j h1 hj; omega
    · exact h1
    · have := mono j i h1 hi; omega
  · intro h; rw [h]
theorem idx_mem {j : Nat} (hj : j < k) : idxI ⟨k, κ⟩ (vI κ j) = (j : Int) := by
  obtain ⟨b1, b2⟩ := firstB_eq (bad := fun i => vI κ j == vI κ i) (n := k) hj (by show (vI κ j == vI κ j) = true; simp) fun l hl => by
    show (vI κ j == vI κ l) = false
    rw [beq_eq_false_iff_ne]
    have := mono l j hl hj
    omega
  show (bif anyB (fun i => vI κ j == vI κ i) k then ((firstB (fun i => vI κ j == vI κ i) k : Nat) : Int) else -1) = _
  rw [b1, b2]; rfl
omit mono in
theorem idx_no {x : Int} (h : ∀ j, j < k → vI κ j ≠ x) : idxI ⟨k, κ⟩ x = -1 := by
  have : anyB (fun i => x == vI κ i) k = false := anyB_none fun i hi => by
    rw [beq_eq_false_iff_ne]
    exact fun e => h i hi e.symm
  show (bif anyB (fun i => x == vI κ i) k then ((firstB (fun i => x == vI κ i) k : Nat) : Int) else -1) = _
  rw [this]; rfl
structure EvP (ε κ : Val) (k i : Nat) : Prop where
  ok : ∀ e, e < (reE ε ⟨k, κ⟩ i).1 → eQ k (reE ε ⟨k, κ⟩ i).2 e = 0
  cnt : ∀ j, j < k → (vI κ j < ik ε i ↔ (j : Int) < ik (reE ε ⟨k, κ⟩ i).2 (reE ε ⟨k, κ⟩ i).1)
  top : 0 ≤ ik (reE ε ⟨k, κ⟩ i).2 (reE ε ⟨k, κ⟩ i).1 ∧ ik (reE ε ⟨k, κ⟩ i).2 (reE ε ⟨k, κ⟩ i).1 ≤ k
  any : ∀ (y : Int) j, j < k → (anyB (evQ (reE ε ⟨k, κ⟩ i).2 y j) (reE ε ⟨k, κ⟩ i).1 = true ↔ anyB (evQ ε y (vI κ j)) i = true)
include rng
omit mono in
theorem evP_zero : EvP ε κ k 0 := by
  refine ⟨fun e he => ?_, fun j hj => ?_, ⟨Int.le_refl _, ?_⟩, fun y j hj => Iff.rfl⟩
  · have he : e < 0 := he
    omega
  · have := rng j hj
    show vI κ j < 0 ↔ (j : Int) < 0
    omega
  · show (0 : Int) ≤ (k : Int)
    omega
omit rng in
theorem evP_step {i : Nat} (hi : i < 1000) (h : EvP ε κ k i) (h0 : eQ nw ε i = 0) : EvP ε κ k (i + 1) := by
  have e : reE ε ⟨k, κ⟩ (i + 1) = bif le 0 (idxI ⟨k, κ⟩ (vJ ε i)) then ((reE ε ⟨k, κ⟩ i).1 + 1, Val.cat (reE ε ⟨k, κ⟩ i).1 (reE ε ⟨k, κ⟩ i).2 (Val.ofFlat 2 [I (vI ε i), I (idxI ⟨k, κ⟩ (vJ ε i))])) else reE ε ⟨k, κ⟩ i := rfl
  have eI : ik ε (i + 1) = bif vI ε i == 0 then w64 (ik ε i + 1) else ik ε i := rfl
  have hI := ik_le ε i (by omega)
  have hw : w64 (ik ε i + 1) = ik ε i + 1 := by unfold w64; exact w64_id (by omega) (by omega)
  have hn := reE_le ε ⟨k, κ⟩ i
  obtain ⟨n', E', hnE⟩ : ∃ n' E', reE ε ⟨k, κ⟩ i = (n', E') := ⟨_, _, rfl⟩
  obtain ⟨h1, h2, h3, h4⟩ := h
  rw [hnE] at e h1 h2 h3 h4 hn
  have h1 : ∀ e, e < n' → eQ k E' e = 0 := h1
  have h2 : ∀ j, j < k → (vI κ j < ik ε i ↔ (j : Int) < ik E' n') := h2
  have h3 : 0 ≤ ik E' n' ∧ ik E' n' ≤ k := h3
  have h4 : ∀ (y : Int) j, j < k → (anyB (evQ E' y j) n' = true ↔ anyB (evQ ε y (vI κ j)) i = true) := h4
  have hn : n' ≤ i := hn
  by_cases hm : ∃ j, j < k ∧ vI κ j = vJ ε i
  · obtain ⟨j, hj, hv⟩ := hm
    have hx : idxI ⟨k, κ⟩ (vJ ε i) = (j : Int) := by rw [← hv]; exact idx_mem mono hj
    have e : reE ε ⟨k, κ⟩ (i + 1) = (n' + 1, Val.cat n' E' (Val.ofFlat 2 [I (vI ε i), I (j : Int)])) := by
      rw [e, hx, le0_nat]; rfl
    obtain ⟨E2, hE2⟩ : ∃ E2, Val.cat n' E' (Val.ofFlat 2 [I (vI ε i), I (j : Int)]) = E2 := ⟨_, rfl⟩
    rw [hE2] at e
    have hq : evEq E2 E' n' := fun a ha => by
      rw [← hE2, vI_cat, vJ_cat, if_pos ha, if_pos ha]; exact ⟨rfl, rfl⟩
    have hK : vI E2 n' = vI ε i := by rw [← hE2, vI_cat, if_neg (by omega), Nat.sub_self]; rfl
    have hJ : vJ E2 n' = (j : Int) := by rw [← hE2, vJ_cat, if_neg (by omega), Nat.sub_self]; rfl
    have hik : ik E2 n' = ik E' n' := ik_congr n' hq
    have eI2 : ik E2 (n' + 1) = bif vI E2 n' == 0 then w64 (ik E2 n' + 1) else ik E2 n' := rfl
    rw [hK, hik] at eI2
    have hany : ∀ (y : Int) l, l < k → (anyB (evQ E2 y l) (n' + 1) = true ↔ anyB (evQ ε y (vI κ l)) (i + 1) = true) := fun y l hl => by
      rw [any_succ, any_succ, q_congr hq, h4 y l hl, evQ_iff, evQ_iff, hK, hJ, ← hv, kap_eq mono hj hl]
      constructor
      · rintro (h | ⟨a, b⟩)
        · exact .inl h
        · exact .inr ⟨a, by omega⟩
      · rintro (h | ⟨a, b⟩)
        · exact .inl h
        · exact .inr ⟨a, by omega⟩
    unfold eQ at h0
    cases c0 : vI ε i == 0
    · rw [c0] at h0 eI eI2
      have eI : ik ε (i + 1) = ik ε i := eI
      have eI2 : ik E2 (n' + 1) = ik E' n' := eI2
      refine ⟨fun a ha => ?_, fun l hl => ?_, ?_, fun y l hl => ?_⟩
      · rw [e] at ha ⊢
        have ha : a < n' + 1 := ha
        show eQ k E2 a = 0
        by_cases hl : a < n'
        · rw [eQ_congr (δ := E') fun b hb => hq b (by omega)]; exact h1 a hl
        · have : a = n' := by omega
          subst this
          unfold eQ
          rw [hK, hJ, c0, q_congr hq, q_congr hq]
          cases c1 : vI ε i != 1
          · rw [c1] at h0
            cases c7 : !(anyB (evQ ε 0 (vJ ε i)) i)
            · rw [c7] at h0
              cases c8 : anyB (evQ ε (vI ε i) (vJ ε i)) i
              · have i1 : anyB (evQ E' 0 (j : Int)) a = true := (h4 0 j hj).2 (by rw [hv]; simpa using c7)
                have i2 : anyB (evQ E' (vI ε i) (j : Int)) a = false := by
                  rw [← Bool.not_eq_true, h4 _ j hj, hv, c8]; simp
                rw [i1, i2]; rfl
              · rw [c8] at h0; cases h0
            · rw [c7] at h0; cases h0
          · rw [c1] at h0; cases h0
      · rw [e, eI]
        show _ ↔ (l : Int) < ik E2 (n' + 1)
        rw [eI2]; exact h2 l hl
      · rw [e]
        show 0 ≤ ik E2 (n' + 1) ∧ ik E2 (n' + 1) ≤ k
        rw [eI2]; exact h3
      · rw [e]; exact hany y l hl
    · rw [c0] at h0 eI eI2
      cases c3 : vJ ε i != ik ε i || le (toInt64 nw) (ik ε i)
      · rw [Bool.or_eq_false_iff] at c3
        have hW : vJ ε i = ik ε i := by simpa [bne] using c3.1
        have hc : ik E' n' = (j : Int) := by
          have g1 := h2 j hj
          rw [hv, hW] at g1
          have g1 : ¬ ((j : Int) < ik E' n') := fun hh => by have := g1.2 hh; omega
          rcases Nat.eq_zero_or_pos j with hz | hz
          · subst hz; omega
          · have g2 := (h2 (j - 1) (by omega)).1 (by
              have := mono (j - 1) j (by omega) hj
              omega)
            omega
        have eI : ik ε (i + 1) = ik ε i + 1 := by rw [eI]; exact hw
        have hkE := ik_le E' n' (by omega)
        have hw2 : w64 ((j : Int) + 1) = (j : Int) + 1 := by unfold w64; exact w64_id (by omega) (by omega)
        have eI2 : ik E2 (n' + 1) = (j : Int) + 1 := by rw [eI2, hc]; exact hw2
        refine ⟨fun a ha => ?_, fun l hl => ?_, ?_, fun y l hl => ?_⟩
        · rw [e] at ha ⊢
          have ha : a < n' + 1 := ha
          show eQ k E2 a = 0
          by_cases hl : a < n'
          · rw [eQ_congr (δ := E') fun b hb => hq b (by omega)]; exact h1 a hl
          · have : a = n' := by omega
            subst this
            unfold eQ
            rw [hK, hJ, c0, hik, hc]
            have : ((j : Int) != (j : Int) || le (toInt64 k) (j : Int)) = false := by
              rw [Bool.or_eq_false_iff]
              refine ⟨by simp, ?_⟩
              rw [← Bool.not_eq_true, le_iff]
              show ¬ ((k : Int) ≤ (j : Int))
              omega
            rw [this]; rfl
        · rw [e]
          show vI κ l < ik ε (i + 1) ↔ (l : Int) < ik E2 (n' + 1)
          rw [eI, eI2, ← hW, ← hv]
          have g := kap_lt mono hj hl
          omega
        · rw [e]
          show 0 ≤ ik E2 (n' + 1) ∧ ik E2 (n' + 1) ≤ k
          rw [eI2]; omega
        · rw [e]; exact hany y l hl
      · rw [c3] at h0; cases h0
  · have hm : ∀ j, j < k → vI κ j ≠ vJ ε i := fun j hj hh => hm ⟨j, hj, hh⟩
    have e : reE ε ⟨k, κ⟩ (i + 1) = (n', E') := by rw [e, idx_no hm]; rfl
    refine ⟨fun a ha => ?_, fun l hl => ?_, ?_, fun y l hl => ?_⟩
    · rw [e] at ha ⊢; exact h1 a ha
    · rw [e]
      show vI κ l < ik ε (i + 1) ↔ (l : Int) < ik E' n'
      rw [← h2 l hl, eI]
      unfold eQ at h0
      cases c0 : vI ε i == 0
      · exact Iff.rfl
      · rw [c0] at h0
        show vI κ l < w64 (ik ε i + 1) ↔ _
        rw [hw]
        cases c3 : vJ ε i != ik ε i || le (toInt64 nw) (ik ε i)
        · rw [Bool.or_eq_false_iff] at c3
          have hW : vJ ε i = ik ε i := by simpa [bne] using c3.1
          have := hm l hl
          omega
        · rw [c3] at h0; cases h0
    · rw [e]; exact h3
    · rw [e]
      show anyB (evQ E' y l) n' = true ↔ anyB (evQ ε y (vI κ l)) (i + 1) = true
      rw [any_succ, h4 y l hl, evQ_iff]
      constructor
      · exact .inl
      · rintro (h | ⟨_, b⟩)
        · exact h
        · exact (hm l hl b.symm).elim
theorem evP_all : ∀ n, n ≤ 1000 → (∀ i, i < n → eQ nw ε i = 0) → EvP ε κ k n
  | 0, _, _ => evP_zero rng
  | n + 1, hn, h => evP_step mono (by omega) (evP_all n (by omega) fun i hi => h i (by omega)) (h n (by omega))
end
end Hs
end Go.Proofs.YtennlgngdjegoaaGreat
