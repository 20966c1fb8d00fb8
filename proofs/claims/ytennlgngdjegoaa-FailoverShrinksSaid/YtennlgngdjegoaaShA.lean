/-
  Shrinks, plain: a cut that holds more loses no more, and reaches a point that is no older.
-/
import Derived.Test.YtennlgngdjegoaaLoC
namespace Go.Proofs.Ytennlgngdjegoaa
open Go Go.Sx Go.RowKit Classical

set_option maxRecDepth 100000
set_option maxHeartbeats 4000000

namespace Hs
open Fo (inSh scSh evSh pcH litK headK)

theorem vI_cat (n : Nat) (a b : Val) (i : Nat) : vI (Val.cat n a b) i = if i < n then vI a i else vI b (i - n) := by
  unfold vI
  rw [cat_at]
  split <;> rfl

theorem fw_ok {h : Hi} (hf : fwB h = true) : (fewH h ∧ h.w.n ≤ 40) := by
  unfold fwB at hf
  rw [Bool.and_eq_true, Bool.and_eq_true, Bool.not_eq_true', Bool.or_eq_false_iff, Bool.or_eq_false_iff, ← Bool.not_eq_true, ← Bool.not_eq_true, ← Bool.not_eq_true, lt_iff, lt_iff, lt_iff] at hf
  obtain ⟨⟨⟨a1, a2⟩, a3⟩, _⟩ := hf
  have a1 : ¬ (9 : Int) < (h.s.n : Int) := a1
  have a2 : ¬ (40 : Int) < (h.w.n : Int) := a2
  have a3 : ¬ (90 : Int) < (h.e.n : Int) := a3
  exact ⟨⟨by unfold fewN; omega, by unfold fewN; omega, by omega⟩, by omega⟩


/-- a strictly ascending list of numbers below n loses what is not in it -/
theorem ls_few {l : Il} (hs : ∀ i j, i < j → j < l.n → vI l.ρ i < vI l.ρ j) (h0 : ∀ j, j < l.n → 0 ≤ vI l.ρ j) (hin : ∀ (n : Nat), inB l n = true ↔ ∃ j, j < l.n ∧ vI l.ρ j = (n : Int)) :
    ∀ n : Nat, ∃ p, p ≤ l.n ∧ (ls l n).1 + p = n ∧ (∀ j, j < p → vI l.ρ j < (n : Int)) ∧ ∀ j, p ≤ j → j < l.n → (n : Int) ≤ vI l.ρ j
  | 0 => ⟨0, by omega, rfl, fun j hj => by omega, fun j _ hj => h0 j hj⟩
  | n + 1 => by
    obtain ⟨p, p1, p2, p3, p4⟩ := ls_few hs h0 hin n
    have e : ls l (n + 1) = bif !(inB l n) then ((ls l n).1 + 1, Val.cat (ls l n).1 (ls l n).2 (Val.ofFlat 1 [I n])) else ls l n := rfl
    cases hb : inB l n
    · rw [hb] at e
      have e1 : (ls l (n + 1)).1 = (ls l n).1 + 1 := by rw [e]; rfl
      have hno : ∀ j, j < l.n → vI l.ρ j ≠ (n : Int) := fun j hj hh => by
        have := (hin n).2 ⟨j, hj, hh⟩
        rw [hb] at this; cases this
      refine ⟨p, p1, by omega, fun j hj => ?_, fun j hj hl => ?_⟩
      · have := p3 j hj; omega
      · have := p4 j hj hl
        have := hno j hl
        omega
    · rw [hb] at e
      have e1 : (ls l (n + 1)).1 = (ls l n).1 := by rw [e]; rfl
      obtain ⟨j, hj, hv⟩ := (hin n).1 hb
      have hp : p ≤ j := by
        apply Classical.byContradiction
        intro hh
        have := p3 j (by omega)
        omega
      have hjp : j = p := by
        apply Classical.byContradiction
        intro hh
        have := hs p j (by omega) hj
        have := p4 p (Nat.le_refl _) (by omega)
        omega
      subst hjp
      refine ⟨j + 1, by omega, by omega, fun i hi => ?_, fun i hi hl => ?_⟩
      · by_cases hij : i = j
        · subst hij; omega
        · have := p3 i (by omega); omega
      · have := hs j i (by omega) hl
        omega

theorem ls_count {l : Il} {n : Nat} (hs : ∀ i j, i < j → j < l.n → vI l.ρ i < vI l.ρ j) (h0 : ∀ j, j < l.n → 0 ≤ vI l.ρ j ∧ vI l.ρ j < (n : Int)) (hin : ∀ (n : Nat), inB l n = true ↔ ∃ j, j < l.n ∧ vI l.ρ j = (n : Int)) : (ls l n).1 + l.n = n := by
  obtain ⟨p, p1, p2, _, p4⟩ := ls_few hs (fun j hj => (h0 j hj).1) hin n
  by_cases h : p < l.n
  · have := p4 p (Nat.le_refl _) h
    have := (h0 p h).2
    omega
  · omega


theorem ls_len {a b : Il} (h : ∀ n : Nat, inB a n = true → inB b n = true) : ∀ n, (ls b n).1 ≤ (ls a n).1
  | 0 => Nat.le_refl _
  | n + 1 => by
    have ih := ls_len h n
    have ea : ls a (n + 1) = bif !(inB a n) then ((ls a n).1 + 1, Val.cat (ls a n).1 (ls a n).2 (Val.ofFlat 1 [I n])) else ls a n := rfl
    have eb : ls b (n + 1) = bif !(inB b n) then ((ls b n).1 + 1, Val.cat (ls b n).1 (ls b n).2 (Val.ofFlat 1 [I n])) else ls b n := rfl
    rw [ea, eb]
    cases hb : inB b n
    · cases ha : inB a n
      · show (ls b n).1 + 1 ≤ (ls a n).1 + 1; omega
      · rw [h n ha] at hb; cases hb
    · cases inB a n
      · show (ls b n).1 ≤ (ls a n).1 + 1; omega
      · exact ih

/-- the first that is lost -/
theorem ls_first (l : Il) : ∀ n, 0 < (ls l n).1 → ∃ f : Nat, f < n ∧ vI (ls l n).2 0 = (f : Int) ∧ inB l f = false ∧ ∀ i, i < f → inB l (i : Nat) = true
  | 0, h => by
    have h : 0 < 0 := h
    omega
  | n + 1, h => by
    have e : ls l (n + 1) = bif !(inB l n) then ((ls l n).1 + 1, Val.cat (ls l n).1 (ls l n).2 (Val.ofFlat 1 [I n])) else ls l n := rfl
    rw [e] at h ⊢
    cases hb : inB l n
    · rw [hb] at h
      show ∃ f : Nat, f < n + 1 ∧ vI (Val.cat (ls l n).1 (ls l n).2 (Val.ofFlat 1 [I n])) 0 = (f : Int) ∧ _
      rw [vI_cat]
      by_cases h0 : 0 < (ls l n).1
      · obtain ⟨f, f1, f2, f3, f4⟩ := ls_first l n h0
        rw [if_pos h0]
        exact ⟨f, by omega, f2, f3, f4⟩
      · rw [if_neg h0]
        refine ⟨n, by omega, ?_, hb, fun i hi => ?_⟩
        · have : 0 - (ls l n).1 = 0 := by omega
          rw [this]; rfl
        · exact ls_none l n (by omega) i hi
    · rw [hb] at h
      obtain ⟨f, f1, f2, f3, f4⟩ := ls_first l n h
      exact ⟨f, by omega, f2, f3, f4⟩
where
  ls_none (l : Il) : ∀ n, (ls l n).1 = 0 → ∀ i, i < n → inB l (i : Nat) = true
  | 0, _, i, hi => by omega
  | n + 1, h, i, hi => by
    have e : ls l (n + 1) = bif !(inB l n) then ((ls l n).1 + 1, Val.cat (ls l n).1 (ls l n).2 (Val.ofFlat 1 [I n])) else ls l n := rfl
    rw [e] at h
    cases hb : inB l n
    · rw [hb] at h
      have h : (ls l n).1 + 1 = 0 := h
      omega
    · rw [hb] at h
      by_cases hin : i = n
      · subst hin; exact hb
      · exact ls_none l n h i (by omega)

theorem first_le {a b : Il} {n : Nat} (h : ∀ n : Nat, inB a n = true → inB b n = true) (hb : 0 < (ls b n).1) : vI (ls a n).2 0 ≤ vI (ls b n).2 0 := by
  have := ls_len h n
  obtain ⟨f, _, f2, f3, f4⟩ := ls_first a n (by omega)
  obtain ⟨g, _, g2, g3, _⟩ := ls_first b n hb
  rw [f2, g2]
  apply Classical.byContradiction
  intro hh
  have := h g (f4 g (by omega))
  rw [g3] at this; cases this


theorem set_mono {a : Int} {l : Il} (hn : fewN l.n) (h : anyB (setB a l.ρ) l.n = false) : (∀ j, j < l.n → 0 ≤ vI l.ρ j ∧ vI l.ρ j < a) ∧ ∀ i j, i < j → j < l.n → vI l.ρ i < vI l.ρ j := by
  have hj : ∀ j, j < l.n → ¬ (setB a l.ρ j = true) := fun j hj hh => by
    have := anyB_iff.2 ⟨j, hj, hh⟩
    rw [h] at this; cases this
  have hb : ∀ j, j < l.n → (0 ≤ vI l.ρ j ∧ vI l.ρ j < a) ∧ ∀ k, j = k + 1 → vI l.ρ k < vI l.ρ j := fun j hjn => by
    have := hj j hjn
    unfold setB at this
    rw [Bool.or_eq_true, Bool.or_eq_true, Bool.and_eq_true, lt_iff, le_iff, lt_iff, le_iff] at this
    refine ⟨by omega, fun k hk => ?_⟩
    have e : (w64 ((j : Int) - 1)).toNat = k := by
      unfold fewN at hn
      unfold w64
      rw [w64_id (by omega) (by omega)]; omega
    rw [e] at this
    omega
  refine ⟨fun j hjn => (hb j hjn).1, fun i j => ?_⟩
  induction j with
  | zero => intro hij; omega
  | succ j ih =>
    intro hij hjn
    have h1 := (hb (j + 1) hjn).2 j rfl
    by_cases he : i = j
    · subst he; exact h1
    · have := ih (by omega) (by omega)
      omega

theorem inB_iff {l : Il} (n : Nat) : inB l n = true ↔ ∃ j, j < l.n ∧ vI l.ρ j = (n : Int) := by
  unfold inB
  rw [anyB_iff]
  constructor
  · rintro ⟨j, hj, hh⟩
    have hh : ((n : Int) == vI l.ρ j) = true := hh
    rw [beq_iff_eq] at hh
    exact ⟨j, hj, hh.symm⟩
  · rintro ⟨j, hj, hh⟩
    exact ⟨j, hj, by show ((n : Int) == vI l.ρ j) = true; rw [beq_iff_eq]; exact hh.symm⟩

theorem cut_set {h : Hi} {l : Il} (h0 : cutE h l = 0) : anyB (setB (toInt64 h.w.n) l.ρ) l.n = false := by
  have eS : anyB (Fi.bad (iC h l.n l.ρ)) l.n = anyB (setB (toInt64 h.w.n) l.ρ) l.n := rfl
  unfold cutE at h0
  cases a1 : hisE h != 0
  · rw [a1, eS] at h0
    cases a2 : anyB (setB (toInt64 h.w.n) l.ρ) l.n
    · rfl
    · rw [a2] at h0; cases h0
  · rw [a1] at h0
    have : hisE h = 0 := h0
    rw [this] at a1; cases a1

/-- a cut and what it loses are all writes -/
theorem cut_count {h : Hi} {l : Il} (hn : fewN l.n) (h0 : cutE h l = 0) : (ls l h.w.n).1 + l.n = h.w.n := by
  obtain ⟨b1, b2⟩ := set_mono hn (cut_set h0)
  exact ls_count b2 b1 inB_iff


/-- the times 0, 2, 4, .. -/
def evn (t : Il) : Prop := ∀ i, i < t.n → vI t.ρ i = 2 * (i : Int)

theorem tm_evn {h : Hi} {t : Il} (ht : evn t) (hn : t.n ≤ 100) : tmB h t 500 = false := by
  unfold tmB
  have e1 : lt 1073741824 500 = false := rfl
  have e2 : anyB (Gb.bad ⟨t⟩) (t.n - 1) = false := anyB_none fun i hi => by
    show lt (vI t.ρ (t.n - 1 - i)) (vI t.ρ (t.n - 1 - i - 1)) = false
    rw [ht _ (by omega), ht _ (by omega), ← Bool.not_eq_true, lt_iff]; omega
  have e3 : anyB (Gc.bad ⟨t, h, 500, toInt64 t.n⟩) t.n = false := anyB_none fun i hi => by
    show (lt (vI t.ρ i) 0 || lt 500 (vI t.ρ i)) = false
    rw [ht i hi, Bool.or_eq_false_iff, ← Bool.not_eq_true, ← Bool.not_eq_true, lt_iff, lt_iff]; omega
  unfold srtB
  rw [e1, e2, e3]; rfl

theorem pt_val {h : Hi} {l t : Il} (ht : evn t) (hn : t.n = h.w.n) (h4 : h.w.n ≤ 100) : ptV h l t 500 = if (ls l h.w.n).1 = 0 then 0 else 500 - 2 * vI (ls l h.w.n).2 0 := by
  unfold ptV
  by_cases h0 : (ls l h.w.n).1 = 0
  · rw [if_pos h0, h0]; rfl
  · rw [if_neg h0]
    have : (toInt64 (ls l h.w.n).1 == 0) = false := by
      rw [beq_eq_false_iff_ne]
      show ((ls l h.w.n).1 : Int) ≠ 0
      omega
    rw [this]
    obtain ⟨b1, b2⟩ := ls_in l h.w.n 0 (by omega)
    show w64 (500 - vI t.ρ (vI (ls l h.w.n).2 0).toNat) = _
    rw [ht _ (by omega)]
    unfold w64
    rw [w64_id (by omega) (by omega)]
    omega

theorem shrinks {h : Hi} {a b t : Il} (hab : ∀ n : Nat, inB a n = true → inB b n = true) (ha : cutE h a = 0) (hb : cutE h b = 0) (ht : evn t) (hn : t.n = h.w.n) (h4 : h.w.n ≤ 100) :
    ptY (cutE h a) (tmB h t 500) h t = 0 ∧ ptY (cutE h b) (tmB h t 500) h t = 0 ∧ (ls b h.w.n).1 ≤ (ls a h.w.n).1 ∧ ptX (cutE h b) (tmB h t 500) h b t 500 ≤ ptX (cutE h a) (tmB h t 500) h a t 500 := by
  have e : (toInt64 t.n != toInt64 h.w.n) = false := by rw [hn]; simp
  have n0 : ((0 : Int) != 0) = false := rfl
  have tm := tm_evn (h := h) ht (by omega)
  refine ⟨?_, ?_, ls_len hab _, ?_⟩
  · unfold ptY; rw [ha, tm, e, n0]; rfl
  · unfold ptY; rw [hb, tm, e, n0]; rfl
  · unfold ptX
    rw [ha, hb, tm, e, n0]
    show ptV h b t 500 ≤ ptV h a t 500
    rw [pt_val ht hn h4, pt_val ht hn h4]
    have hl := ls_len hab h.w.n
    by_cases hb0 : (ls b h.w.n).1 = 0
    · rw [if_pos hb0]
      by_cases ha0 : (ls a h.w.n).1 = 0
      · rw [if_pos ha0]; omega
      · rw [if_neg ha0]
        have := ls_in a h.w.n 0 (by omega)
        omega
    · rw [if_neg hb0, if_neg (by omega)]
      have := first_le (n := h.w.n) hab (by omega)
      omega

end Hs
end Go.Proofs.Ytennlgngdjegoaa
/-
  Shrinks: the loops of the law, and its tree.
-/
namespace Go.Proofs.Ytennlgngdjegoaa
open Go Go.Sx Go.RowKit Classical

set_option maxRecDepth 100000
set_option maxHeartbeats 4000000

namespace Hs
open Fo (inSh scSh evSh pcH litK headK)

noncomputable abbrev H27 : Hd := ⟨(28, oG Fo.Gawk) :: (33, nG Gpt) :: H24.pc, H24.hc, [], H24.mc⟩
theorem h27 : HdOk Try.prog H27 := ((h22b.ucCons u21).tcCons p23).pcCons Fo.pAwake

/-- the times 0, 2, 4 .. -/
def tmV : Nat → Val
  | 0 => .zero
  | i + 1 => Val.cat i (tmV i) (Val.ofFlat 1 [I (w64 (2 * (i : Int)))])
namespace Ta
structure C where
  a : Il
  b : Il
  h : Hi
structure V where
  k : Nat
  σ : Val
  i : Int
def S (c : C) (v : V) : St := mkS 147 [(1, .one (.c (.sl inSh c.a.n c.a.ρ))), (2, .one (.c (.sl inSh c.b.n c.b.ρ))), (3, .one (.c (.ptr 0 0))), (6, .one (.c (.bool false))), (7, .one (.c (.os 1 1))), (8, .one (.c (I v.i)))] [some (75, [.sl inSh c.h.s.n c.h.s.ρ, .sl wrSh c.h.w.n c.h.w.ρ, .sl evSh c.h.e.n c.h.e.ρ]), some (3, [.row false inSh v.k v.σ])]
noncomputable def TX (c : C) (v : V) : Tree (XE × V) := .br (lt v.i (toInt64 c.h.w.n)) (.need (Nat.ble (((v.k + 1).mul 7).add v.k) 140737488355327) (.leaf (.normal, ⟨v.k + 1, Val.cat v.k v.σ (Val.ofFlat 1 [I (w64 (2 * v.i))]), w64 (v.i + 1)⟩))) (.leaf (.exit 0, v))
theorem t (c : C) (v : V) : ((evCode Try.prog H27 (evFn Try.prog H27 10) 8 0 1 (loopBody Try.prog 8 0) (S c v)).bind fun y => gcT [1, 2, 3, 6, 7, 8] 0 y) = (TX c v).bind fun y => .leaf (y.1, S c y.2) := by kernel_rfl
def st (_ : C) (i : Nat) : V := ⟨i, tmV i, i⟩
def nn (c : C) : Nat := c.h.w.n
def good (c : C) : Prop := c.h.w.n ≤ 1000
def μ (c : C) (v : V) : Nat := (c.h.w.n - v.i).toNat
theorem sq (c : C) (h : good c) : Sq (TX c) (μ c) (st c) (st c) (nn c) (fun _ => false) .ret (.exit 0) := by
  have h : c.h.w.n ≤ 1000 := h
  refine sqF (sn := fun i => { st c (i + 1) with i := w64 ((i : Int) + 1) }) (by simp) (by simp) (fun i hi => by show ((c.h.w.n : Int) - (i : Int)).toNat = c.h.w.n - i; omega) (fun i hi => ?_) (fun i hi => by rw [wS (n := c.h.w.n) (by unfold fewN; omega) hi]; rfl) rS
  have hi : i < c.h.w.n := hi
  refine ⟨fun _ => ⟨Nat.ble_eq_true_of_le (by show ((i + 1) * 7 + i) ≤ _; omega), rfl⟩, fun h' => ?_⟩
  have h' : lt (i : Int) (toInt64 c.h.w.n) = false := h'
  rw [ltT hi] at h'; cases h'
def get : List (Nat × AV) → Mem → Option (C × V)
  | [(1, .one (.c (.sl [.int .i64] c_a_n c_a_ρ))), (2, .one (.c (.sl [.int .i64] c_b_n c_b_ρ))), (3, .one (.c (.ptr 0 0))), (6, .one (.c (.bool false))), (7, .one (.c (.os 1 1))), (8, .one (.c (.int .i64 v_i)))], [some (75, [.sl [.int .i64] c_h_s_n c_h_s_ρ, .sl [.int .i64, .int .i64, .sl [.int .u8, .int .u8, .int .u8, .int .u8, .int .u8, .int .u8, .int .u8, .int .u8]] c_h_w_n c_h_w_ρ, .sl [.int .i64, .int .i64] c_h_e_n c_h_e_ρ]), some (3, [.row false [.int .i64] v_k v_σ])] =>
    some (⟨⟨c_a_n, c_a_ρ⟩, ⟨c_b_n, c_b_ρ⟩, ⟨⟨c_h_s_n, c_h_s_ρ⟩, ⟨c_h_w_n, c_h_w_ρ⟩, ⟨c_h_e_n, c_h_e_ρ⟩⟩⟩, ⟨v_k, v_σ, v_i⟩)
  | _, _ => none
noncomputable def L : Nat → St → Tree (XE × St) := ownH [.own 7 3 inSh] (lqH [1, 2, 3, 6, 7, 8] 0 147 get fun c v => lq1 (S c) (good c ∧ v = st c 0) (.exit 0) (st c (nn c)))
theorem ok (fn : Func) (c b : Code) (hf : Try.prog.funcs[8]? = some fn) (hc : fn.body = some c) (hb : nthLoop c 0 = some b) : LoopOk Try.prog b L :=
  ownH_ok [.own 7 3 inSh] (lq1_ok h27 10 8 0 hf hc hb [1, 2, 3, 6, 7, 8] 0 147 S TX t get (fun l m c v h => by unfold get at h; split at h <;> simp at h; obtain ⟨rfl, rfl⟩ := h; rfl)
    good μ st nn (.exit 0) sq (fun c => (st c (nn c))) (fun _ _ => StWk.refl))
end Ta
namespace Tb
structure C where
  a : Il
  b : Il
  h : Hi
  t : Il
  la : Il
  lb : Il
  x : Int
  r : Bool
structure V where
  f : Bool
  i : Int
def S (c : C) (v : V) : St := mkS 147 [(1, .one (.c (.sl inSh c.a.n c.a.ρ))), (2, .one (.c (.sl inSh c.b.n c.b.ρ))), (3, .one (.c (.ptr 0 0))), (6, .one (.c (.bool c.r))), (7, .one (.c (.os 1 1))), (9, .one (.c (.sl inSh c.la.n c.la.ρ))), (11, .one (.c (.sl inSh c.lb.n c.lb.ρ))), (13, .one (.c (I c.x))), (14, .one (.c (.bool v.f))), (15, .one (.c (I v.i)))] [some (75, [.sl inSh c.h.s.n c.h.s.ρ, .sl wrSh c.h.w.n c.h.w.ρ, .sl evSh c.h.e.n c.h.e.ρ]), some (3, [.row false inSh c.t.n c.t.ρ])]
def TX (c : C) (v : V) : Tree (XE × V) := .br (lt v.i (toInt64 c.b.n)) (.need (!((v.f == false) && true) || inRange c.x c.a.n) (.need (!((v.f == false) && true) || inRange v.i c.b.n) (.leaf (.normal, ⟨v.f || vI c.a.ρ c.x.toNat == vI c.b.ρ v.i.toNat, w64 (v.i + 1)⟩)))) (.leaf (.exit 4, v))
theorem t (c : C) (v : V) : ((evCode Try.prog H27 (evFn Try.prog H27 10) 8 0 3 (loopBody Try.prog 8 2) (S c v)).bind fun y => gcT [1, 2, 3, 6, 7, 9, 11, 13, 14, 15] 0 y) = (TX c v).bind fun y => .leaf (y.1, S c y.2) := by kernel_rfl
def st (c : C) (i : Nat) : V := ⟨anyB (fun k => vI c.a.ρ c.x.toNat == vI c.b.ρ k) i, i⟩
def nn (c : C) : Nat := c.b.n
def good (c : C) : Prop := fewN c.b.n ∧ inRange c.x c.a.n = true
def μ (c : C) (v : V) : Nat := (c.b.n - v.i).toNat
theorem sq (c : C) (h : good c) : Sq (TX c) (μ c) (st c) (st c) (nn c) (fun _ => false) .ret (.exit 4) := by
  obtain ⟨h, h2⟩ := h
  refine sqF (sn := fun i => ⟨anyB (fun k => vI c.a.ρ c.x.toNat == vI c.b.ρ k) (i + 1), w64 ((i : Int) + 1)⟩) (by simp) (by simp) (fun i hi => by show ((c.b.n : Int) - (i : Int)).toNat = c.b.n - i; omega) (fun i hi => ?_) (fun i hi => by rw [wS h hi]; rfl) rS
  have hi : i < c.b.n := hi
  refine ⟨fun _ => ⟨?_, ?_, rfl⟩, fun h' => ?_⟩
  · show (_ || inRange c.x c.a.n) = true
    rw [h2, Bool.or_true]
  · show (_ || inRange (i : Int) c.b.n) = true
    rw [inR hi, Bool.or_true]
  · have h' : lt (i : Int) (toInt64 c.b.n) = false := h'
    rw [ltT hi] at h'; cases h'
def get : List (Nat × AV) → Mem → Option (C × V)
  | [(1, .one (.c (.sl [.int .i64] c_a_n c_a_ρ))), (2, .one (.c (.sl [.int .i64] c_b_n c_b_ρ))), (3, .one (.c (.ptr 0 0))), (6, .one (.c (.bool c_r))), (7, .one (.c (.os 1 1))), (9, .one (.c (.sl [.int .i64] c_la_n c_la_ρ))), (11, .one (.c (.sl [.int .i64] c_lb_n c_lb_ρ))), (13, .one (.c (.int .i64 c_x))), (14, .one (.c (.bool v_f))), (15, .one (.c (.int .i64 v_i)))], [some (75, [.sl [.int .i64] c_h_s_n c_h_s_ρ, .sl [.int .i64, .int .i64, .sl [.int .u8, .int .u8, .int .u8, .int .u8, .int .u8, .int .u8, .int .u8, .int .u8]] c_h_w_n c_h_w_ρ, .sl [.int .i64, .int .i64] c_h_e_n c_h_e_ρ]), some (3, [.row false [.int .i64] c_t_n c_t_ρ])] =>
    some (⟨⟨c_a_n, c_a_ρ⟩, ⟨c_b_n, c_b_ρ⟩, ⟨⟨c_h_s_n, c_h_s_ρ⟩, ⟨c_h_w_n, c_h_w_ρ⟩, ⟨c_h_e_n, c_h_e_ρ⟩⟩, ⟨c_t_n, c_t_ρ⟩, ⟨c_la_n, c_la_ρ⟩, ⟨c_lb_n, c_lb_ρ⟩, c_x, c_r⟩, ⟨v_f, v_i⟩)
  | _, _ => none
noncomputable def L : Nat → St → Tree (XE × St) := lqH [1, 2, 3, 6, 7, 9, 11, 13, 14, 15] 0 147 get fun c v => lq1 (S c) (good c ∧ v = st c 0) (.exit 4) (st c (nn c))
theorem ok (fn : Func) (c b : Code) (hf : Try.prog.funcs[8]? = some fn) (hc : fn.body = some c) (hb : nthLoop c 2 = some b) : LoopOk Try.prog b L :=
  lq1_ok h27 10 8 2 hf hc hb [1, 2, 3, 6, 7, 9, 11, 13, 14, 15] 0 147 S TX t get (fun l m c v h => by unfold get at h; split at h <;> simp at h; obtain ⟨rfl, rfl⟩ := h; rfl)
    good μ st nn (.exit 4) sq (fun c => (st c (nn c))) (fun _ _ => StWk.refl)
end Tb

noncomputable abbrev H28 : Hd := ⟨H27.pc, H27.hc, [((8, 2), Tb.L)], H27.mc⟩
theorem h28 : HdOk Try.prog H28 := HdOk.lhCons h27 Tb.ok
namespace Tc
structure C where
  a : Il
  b : Il
  h : Hi
  t : Il
  la : Il
  lb : Il
structure V where
  r : Bool
  i : Int
def S (c : C) (v : V) : St := mkS 147 [(1, .one (.c (.sl inSh c.a.n c.a.ρ))), (2, .one (.c (.sl inSh c.b.n c.b.ρ))), (3, .one (.c (.ptr 0 0))), (6, .one (.c (.bool v.r))), (7, .one (.c (.os 1 1))), (9, .one (.c (.sl inSh c.la.n c.la.ρ))), (11, .one (.c (.sl inSh c.lb.n c.lb.ρ))), (13, .one (.c (I v.i)))] [some (75, [.sl inSh c.h.s.n c.h.s.ρ, .sl wrSh c.h.w.n c.h.w.ρ, .sl evSh c.h.e.n c.h.e.ρ]), some (3, [.row false inSh c.t.n c.t.ρ])]
def jc (c : C) (v : V) : Tb.C := ⟨c.a, c.b, c.h, c.t, c.la, c.lb, v.i, v.r⟩
noncomputable def TX (c : C) (v : V) : Tree (XE × V) := .br (lt v.i (toInt64 c.a.n)) (.need (dec (Tb.good (jc c v) ∧ (⟨false, 0⟩ : Tb.V) = Tb.st (jc c v) 0)) (.br (!(inB c.b (vI c.a.ρ v.i.toNat))) (.leaf (.ret, ⟨true, v.i⟩)) (.leaf (.normal, ⟨v.r, w64 (v.i + 1)⟩)))) (.leaf (.exit 2, v))
theorem t (c : C) (v : V) : ((evCode Try.prog H28 (evFn Try.prog H28 10) 8 0 2 (loopBody Try.prog 8 1) (S c v)).bind fun y => gcT [1, 2, 3, 6, 7, 9, 11, 13] 0 y) = (TX c v).bind fun y => .leaf (y.1, S c y.2) := by kernel_rfl
def st (_ : C) (i : Nat) : V := ⟨false, i⟩
def sb (_ : C) (i : Nat) : V := ⟨true, i⟩
def nn (c : C) : Nat := c.a.n
def bad (c : C) (i : Nat) : Bool := !(inB c.b (vI c.a.ρ i))
def good (c : C) : Prop := fewN c.a.n ∧ fewN c.b.n
def μ (c : C) (v : V) : Nat := (c.a.n - v.i).toNat
theorem sq (c : C) (h : good c) : Sq (TX c) (μ c) (st c) (sb c) (nn c) (bad c) .ret (.exit 2) := by
  obtain ⟨h1, h2⟩ := h
  refine sqF (sn := fun i => ⟨false, w64 ((i : Int) + 1)⟩) (by simp) (by simp) (fun i hi => by show ((c.a.n : Int) - (i : Int)).toNat = c.a.n - i; omega) (fun i hi => ?_) (fun i hi => by rw [wS h1 hi]; rfl) rS
  have hi : i < c.a.n := hi
  refine ⟨fun _ => ⟨dec_iff.2 ⟨⟨h2, inR hi⟩, rfl⟩, fun hb => ?_, fun hb => ?_⟩, fun h' => ?_⟩
  · have : bad c i = true := hb
    rw [this]; rfl
  · have : bad c i = false := hb
    rw [this]; rfl
  · have h' : lt (i : Int) (toInt64 c.a.n) = false := h'
    rw [ltT hi] at h'; cases h'
def get : List (Nat × AV) → Mem → Option (C × V)
  | [(1, .one (.c (.sl [.int .i64] c_a_n c_a_ρ))), (2, .one (.c (.sl [.int .i64] c_b_n c_b_ρ))), (3, .one (.c (.ptr 0 0))), (6, .one (.c (.bool v_r))), (7, .one (.c (.os 1 1))), (9, .one (.c (.sl [.int .i64] c_la_n c_la_ρ))), (11, .one (.c (.sl [.int .i64] c_lb_n c_lb_ρ))), (13, .one (.c (.int .i64 v_i)))], [some (75, [.sl [.int .i64] c_h_s_n c_h_s_ρ, .sl [.int .i64, .int .i64, .sl [.int .u8, .int .u8, .int .u8, .int .u8, .int .u8, .int .u8, .int .u8, .int .u8]] c_h_w_n c_h_w_ρ, .sl [.int .i64, .int .i64] c_h_e_n c_h_e_ρ]), some (3, [.row false [.int .i64] c_t_n c_t_ρ])] =>
    some (⟨⟨c_a_n, c_a_ρ⟩, ⟨c_b_n, c_b_ρ⟩, ⟨⟨c_h_s_n, c_h_s_ρ⟩, ⟨c_h_w_n, c_h_w_ρ⟩, ⟨c_h_e_n, c_h_e_ρ⟩⟩, ⟨c_t_n, c_t_ρ⟩, ⟨c_la_n, c_la_ρ⟩, ⟨c_lb_n, c_lb_ρ⟩⟩, ⟨v_r, v_i⟩)
  | _, _ => none
noncomputable def L : Nat → St → Tree (XE × St) := lqH [1, 2, 3, 6, 7, 9, 11, 13] 0 147 get fun c v => lqT (S c) (good c ∧ v = st c 0) (anyB (bad c) (nn c)) .ret (.exit 2) (sb c (firstB (bad c) (nn c))) (st c (nn c))
theorem ok (fn : Func) (c b : Code) (hf : Try.prog.funcs[8]? = some fn) (hc : fn.body = some c) (hb : nthLoop c 1 = some b) : LoopOk Try.prog b L :=
  lq_ok h28 10 8 1 hf hc hb [1, 2, 3, 6, 7, 9, 11, 13] 0 147 S TX t get (fun l m c v h => by unfold get at h; split at h <;> simp at h; obtain ⟨rfl, rfl⟩ := h; rfl)
    good μ st sb nn bad .ret (.exit 2) sq (fun c => (sb c (firstB (bad c) (nn c)))) (fun c => (st c (nn c))) (fun _ _ _ => StWk.refl) (fun _ _ _ => StWk.refl)
end Tc

noncomputable abbrev H29 : Hd := ⟨H27.pc, H27.hc, [((8, 1), Tc.L), ((8, 0), Ta.L)], H27.mc⟩
theorem h29 : HdOk Try.prog H29 := HdOk.lhCons (HdOk.lhCons h27 Ta.ok) Tc.ok

end Hs
end Go.Proofs.Ytennlgngdjegoaa
/-
  Shrinks: the law holds.
-/
namespace Go.Proofs.Ytennlgngdjegoaa
open Go Go.Sx Go.RowKit Classical

set_option maxRecDepth 100000
set_option maxHeartbeats 4000000

namespace Hs
open Fo (inSh scSh evSh pcH litK headK)

theorem tm_evs : ∀ m : Nat, m ≤ 1000 → ∀ i, i < m → vI (tmV m) i = 2 * (i : Int)
  | 0, _, i, hi => by omega
  | m + 1, hm, i, hi => by
    show vI (Val.cat m (tmV m) (Val.ofFlat 1 [I (w64 (2 * (m : Int)))])) i = _
    rw [vI_cat]
    by_cases h : i < m
    · rw [if_pos h]; exact tm_evs m (by omega) i h
    · rw [if_neg h]
      have : i = m := by omega
      subst this
      rw [Nat.sub_self]
      show w64 (2 * (i : Int)) = _
      unfold w64
      rw [w64_id (by omega) (by omega)]

/-- what the law answers where nothing ends it -/
noncomputable def shrV (h : Hi) (a b t : Il) : Bool :=
  ((ptY (cutE h a) (tmB h t 500) h t == 0 && ptY (cutE h b) (tmB h t 500) h t == 0) && le (toInt64 (okN (cutE h b) (ls b h.w.n).1)) (toInt64 (okN (cutE h a) (ls a h.w.n).1))) && le (ptX (cutE h b) (tmB h t 500) h b t 500) (ptX (cutE h a) (tmB h t 500) h a t 500)
noncomputable def lossIl (h : Hi) (l : Il) : Il := ⟨okN (cutE h l) (ls l h.w.n).1, (ls l h.w.n).2⟩
def lenB (h : Hi) (x l : Il) : Bool := IntKind.i64.wrap (toInt64 x.n + toInt64 l.n) != toInt64 h.w.n

theorem shr_true {h : Hi} {a b t : Il} (hab : ∀ n : Nat, inB a n = true → inB b n = true) (ha : cutE h a = 0) (hb : cutE h b = 0) (ht : evn t) (hn : t.n = h.w.n) (h4 : h.w.n ≤ 100) : shrV h a b t = true := by
  obtain ⟨s1, s2, s3, s4⟩ := shrinks hab ha hb ht hn h4
  unfold shrV
  rw [s1, s2, Bool.and_eq_true, Bool.and_eq_true, le_iff, le_iff]
  refine ⟨⟨rfl, ?_⟩, s4⟩
  rw [ha, hb]
  show ((ls b h.w.n).1 : Int) ≤ ((ls a h.w.n).1 : Int)
  omega

theorem len_ok {h : Hi} {l : Il} (hn : fewN l.n) (h4 : h.w.n ≤ 100) (h0 : cutE h l = 0) : lenB h (lossIl h l) l = false := by
  have hc := cut_count hn h0
  unfold lenB lossIl
  rw [h0]
  show (IntKind.i64.wrap (((ls l h.w.n).1 : Int) + (l.n : Int)) != (h.w.n : Int)) = false
  rw [w64_id (by omega) (by omega)]
  have : ((ls l h.w.n).1 : Int) + (l.n : Int) = (h.w.n : Int) := by omega
  rw [this]; simp

theorem law8 (n : Nat) (ρ : Val) (m : Nat) (ω : Val) (q : Nat) (ε : Val) (k : Nat) (κ : Val) (t : Nat) (τ : Val) {F : Nat → Prop} {W : World} {vs : List Value}
    (h : All2 (A1.Rel F W []) [.agg [.sl inSh n ρ, .sl wrSh m ω, .sl evSh q ε], .c (.sl inSh k κ), .c (.sl inSh t τ)] vs) :
    Calls Try.prog 8 vs.toArray W (fun e W' => e = .returned (.bool true) ∧ Below W.heap.size W W') := by
  refine law_of_tree h29 10 8 (u := .need true (.br ((!(fwB ⟨⟨n, ρ⟩, ⟨m, ω⟩, ⟨q, ε⟩⟩) || lt 60 (toInt64 k)) || lt 60 (toInt64 t)) (.leaf (.one (.c (.bool true))))
    (.need (dec (Ta.good ⟨⟨k, κ⟩, ⟨t, τ⟩, ⟨⟨n, ρ⟩, ⟨m, ω⟩, ⟨q, ε⟩⟩⟩ ∧ (⟨0, .zero, 0⟩ : Ta.V) = Ta.st ⟨⟨k, κ⟩, ⟨t, τ⟩, ⟨⟨n, ρ⟩, ⟨m, ω⟩, ⟨q, ε⟩⟩⟩ 0))
    (.need (dec ((fewH ⟨⟨n, ρ⟩, ⟨m, ω⟩, ⟨q, ε⟩⟩ ∧ m ≤ 64) ∧ fewN k)) (.need (dec ((fewH ⟨⟨n, ρ⟩, ⟨m, ω⟩, ⟨q, ε⟩⟩ ∧ m ≤ 64) ∧ fewN t))
    (.br (cutE ⟨⟨n, ρ⟩, ⟨m, ω⟩, ⟨q, ε⟩⟩ ⟨k, κ⟩ != 0 || cutE ⟨⟨n, ρ⟩, ⟨m, ω⟩, ⟨q, ε⟩⟩ ⟨t, τ⟩ != 0) (.leaf (.one (.c (.bool true))))
    (.br (lenB ⟨⟨n, ρ⟩, ⟨m, ω⟩, ⟨q, ε⟩⟩ (lossIl ⟨⟨n, ρ⟩, ⟨m, ω⟩, ⟨q, ε⟩⟩ ⟨k, κ⟩) ⟨k, κ⟩ || lenB ⟨⟨n, ρ⟩, ⟨m, ω⟩, ⟨q, ε⟩⟩ (lossIl ⟨⟨n, ρ⟩, ⟨m, ω⟩, ⟨q, ε⟩⟩ ⟨t, τ⟩) ⟨t, τ⟩) (.leaf (.one (.c (.bool false))))
    (.need (dec (Tc.good ⟨⟨k, κ⟩, ⟨t, τ⟩, ⟨⟨n, ρ⟩, ⟨m, ω⟩, ⟨q, ε⟩⟩, ⟨m, tmV m⟩, lossIl ⟨⟨n, ρ⟩, ⟨m, ω⟩, ⟨q, ε⟩⟩ ⟨k, κ⟩, lossIl ⟨⟨n, ρ⟩, ⟨m, ω⟩, ⟨q, ε⟩⟩ ⟨t, τ⟩⟩ ∧ (⟨false, 0⟩ : Tc.V) = Tc.st ⟨⟨k, κ⟩, ⟨t, τ⟩, ⟨⟨n, ρ⟩, ⟨m, ω⟩, ⟨q, ε⟩⟩, ⟨m, tmV m⟩, lossIl ⟨⟨n, ρ⟩, ⟨m, ω⟩, ⟨q, ε⟩⟩ ⟨k, κ⟩, lossIl ⟨⟨n, ρ⟩, ⟨m, ω⟩, ⟨q, ε⟩⟩ ⟨t, τ⟩⟩ 0))
    (.br (anyB (fun i => !(inB ⟨t, τ⟩ (vI κ i))) k) (.leaf (.one (.c (.bool true))))
    (.need (dec ((fewH ⟨⟨n, ρ⟩, ⟨m, ω⟩, ⟨q, ε⟩⟩ ∧ m ≤ 64) ∧ fewN k)) (.need (dec ((fewH ⟨⟨n, ρ⟩, ⟨m, ω⟩, ⟨q, ε⟩⟩ ∧ m ≤ 64) ∧ fewN t))
    (.leaf (.one (.c (.bool (shrV ⟨⟨n, ρ⟩, ⟨m, ω⟩, ⟨q, ε⟩⟩ ⟨k, κ⟩ ⟨t, τ⟩ ⟨m, tmV m⟩))))))))))))))))
    (by kernel_rfl) ⟨rfl, fun _ => rfl, fun hc => ?_⟩ h
  rw [Bool.or_eq_false_iff, Bool.or_eq_false_iff, Bool.not_eq_false', ← Bool.not_eq_true, ← Bool.not_eq_true, lt_iff, lt_iff] at hc
  obtain ⟨⟨c1, c2⟩, c3⟩ := hc
  have c2 : ¬ (60 : Int) < (k : Int) := c2
  have c3 : ¬ (60 : Int) < (t : Int) := c3
  obtain ⟨f1, f2⟩ := fw_ok c1
  have f2 : m ≤ 40 := f2
  have fk : fewN k := by unfold fewN; omega
  have ft : fewN t := by unfold fewN; omega
  have hd := dec_iff.2 (⟨⟨f1, by omega⟩, fk⟩ : (fewH ⟨⟨n, ρ⟩, ⟨m, ω⟩, ⟨q, ε⟩⟩ ∧ m ≤ 64) ∧ fewN k)
  have hd' := dec_iff.2 (⟨⟨f1, by omega⟩, ft⟩ : (fewH ⟨⟨n, ρ⟩, ⟨m, ω⟩, ⟨q, ε⟩⟩ ∧ m ≤ 64) ∧ fewN t)
  refine ⟨dec_iff.2 ⟨(by show m ≤ 1000; omega), rfl⟩, hd, hd', fun _ => rfl, fun hE => ?_⟩
  rw [Bool.or_eq_false_iff] at hE
  have eA : cutE ⟨⟨n, ρ⟩, ⟨m, ω⟩, ⟨q, ε⟩⟩ ⟨k, κ⟩ = 0 := by simpa [bne] using hE.1
  have eB : cutE ⟨⟨n, ρ⟩, ⟨m, ω⟩, ⟨q, ε⟩⟩ ⟨t, τ⟩ = 0 := by simpa [bne] using hE.2
  refine ⟨fun hl => ?_, fun _ => ⟨dec_iff.2 ⟨⟨fk, ft⟩, rfl⟩, fun _ => rfl, fun hin => ⟨hd, hd', ?_⟩⟩⟩
  · rw [len_ok (l := ⟨k, κ⟩) fk (by show m ≤ 100; omega) eA, len_ok (l := ⟨t, τ⟩) ft (by show m ≤ 100; omega) eB] at hl
    cases hl
  · show AV.one (.c (.bool _)) = .one (.c (.bool true))
    rw [shr_true (t := ⟨m, tmV m⟩) (fun x hx => ?_) eA eB (fun i hi => tm_evs m (by omega) i hi) rfl (by show m ≤ 100; omega)]
    obtain ⟨j, hj, hv⟩ := (inB_iff x).1 hx
    have hj : j < k := hj
    have hv : vI κ j = (x : Int) := hv
    apply Classical.byContradiction
    intro hno
    have : anyB (fun i => !(inB ⟨t, τ⟩ (vI κ i))) k = true := anyB_iff.2 ⟨j, hj, by
      show (!(inB ⟨t, τ⟩ (vI κ j))) = true
      rw [hv, Bool.not_eq_true']
      simpa using hno⟩
    rw [hin] at this; cases this

theorem argH_eq (ρ : Val) : argOf Try.prog 75 [.sl inSh, .sl wrSh, .sl evSh] ρ = .agg [.sl inSh ((ρ.at 0).L []) (ρ.at 0), .sl wrSh ((ρ.at 1).L []) (ρ.at 1), .sl evSh ((ρ.at 2).L []) (ρ.at 2)] := by kernel_rfl
theorem argN_eq (ρ : Val) : argOf Try.prog 26 [.sl inSh] ρ = .c (.sl inSh ((ρ.at 0).L []) (ρ.at 0)) := by kernel_rfl

end Hs
end Go.Proofs.Ytennlgngdjegoaa
