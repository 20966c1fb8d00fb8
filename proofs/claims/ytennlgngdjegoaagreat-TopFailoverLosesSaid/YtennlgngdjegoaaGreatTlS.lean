/-
  Part TlS of the proof: LosA LosB.
-/
import Derived.Test.YtennlgngdjegoaaGreatTlR
namespace Go.Proofs.YtennlgngdjegoaaGreat
open Go Go.Sx Go.RowKit Classical
set_option maxRecDepth 100000
set_option maxHeartbeats 4000000
namespace Hs
open Fo (inSh scSh evSh pcH litK headK)
abbrev imSh : List Sh := [.sl scSh]
abbrev wrSh : List Sh := [.int .i64, .int .i64, .sl scSh]
structure Il where
  n : Nat
  ρ : Val
def vI (ρ : Val) (i : Nat) : Int := ((ρ.at i).at 0).N []
def vJ (ρ : Val) (i : Nat) : Int := ((ρ.at i).at 1).N []
def vL (ρ : Val) (f i : Nat) : Nat := ((ρ.at i).at f).L []
def w64 (x : Int) : Int := IntKind.i64.wrap x
theorem wS {i n : Nat} (hn : fewN n) (hi : i < n) : w64 ((i : Int) + 1) = ((i + 1 : Nat) : Int) := by
  unfold fewN at hn
  unfold w64
  rw [w64_id (by omega) (by omega)]; omega
noncomputable abbrev H0 : Hd := ⟨pcH, [], [], []⟩
theorem h0 : HdOk Tryz.prog H0 := by
  have h3 := HdOk.nil (P := Tryz.prog) |>.tcCons (f := 4294967291) (G := fun _ => .fail) (fun _ _ h => by simp [Tree.sel] at h)
  have h4 := h3.tcCons (f := 4294967292) (G := fun _ => .fail) (fun _ _ h => by simp [Tree.sel] at h)
  exact h4.tail
theorem sqF {V : Type} {TX : V → Tree (XE × V)} {st sb sn : Nat → V} {n : Nat} {bad : Nat → Bool} {e1 e0 : XE} {μ : V → Nat} (h1 : e1 ≠ .normal) (h0 : e0 ≠ .normal) (hμ : ∀ i, i ≤ n → μ (st i) = n - i)
    (hr : ∀ i, i < n → (TX (st i)).All fun y => if bad i then y = (e1, sb i) else y = (.normal, sn i)) (hn : ∀ i, i < n → sn i = st (i + 1)) (hs : (TX (st n)).All fun y => y = (e0, st n)) : Sq TX μ st sb n bad e1 e0 :=
  ⟨h0, h1, hμ, fun i hi => by rw [← hn i hi]; exact hr i hi, hs⟩
theorem ltT {i n : Nat} (h : i < n) : lt (i : Int) (toInt64 n) = true := (lt_iff _ _).2 (by show (i : Int) < (n : Int); omega)
theorem ltFn {n : Nat} : lt (n : Int) (toInt64 n) = false := by rw [← Bool.not_eq_true, lt_iff]; show ¬ (n : Int) < (n : Int); omega
theorem rF {V : Type} {i n : Nat} (hi : i < n) {b : Bool} {x y z : XE × V} : (Tree.br (lt (i : Int) (toInt64 n)) (.need (inRange (i : Int) n) (.br b (.leaf x) (.leaf y))) (.leaf z)).All fun u => if b then u = x else u = y := by
  refine ⟨fun _ => ⟨inR hi, fun hb => ?_, fun hb => ?_⟩, fun h => ?_⟩
  · rw [hb]; rfl
  · rw [hb]; rfl
  · rw [ltT hi] at h; cases h
theorem rS {V : Type} {n : Nat} {t : Tree (XE × V)} {z : XE × V} : (Tree.br (lt (n : Int) (toInt64 n)) t (.leaf z)).All fun u => u = z :=
  ⟨fun h => (by rw [ltFn] at h; cases h), fun _ => rfl⟩
def bsz (ρ : Val) (i : Nat) : Bool := lt (vI ρ i) 1 || lt 4096 (vI ρ i)
namespace Fa
structure C where
  l : Il
  m : Int
structure V where
  r : Int
  i : Int
def S (c : C) (v : V) : St := mkS 19 [(0, .one (.c (.sl inSh c.l.n c.l.ρ))), (1, .one (.c (.fn (.func 164) [] []))), (4, .one (.c (I v.r))), (7, .one (.c (I c.m))), (8, .one (.c (I v.i)))] []
def TX (c : C) (v : V) : Tree (XE × V) := .br (lt v.i c.m) (.need (inRange v.i c.l.n) (.br (bsz c.l.ρ v.i.toNat) (.leaf (.ret, ⟨v.i, v.i⟩)) (.leaf (.normal, ⟨v.r, w64 (v.i + 1)⟩)))) (.leaf (.exit 0, v))
theorem t (c : C) (v : V) : ((evCode Tryz.prog H0 (evFn Tryz.prog H0 10) 114 0 1 (loopBody Tryz.prog 114 0) (S c v)).bind fun y => gcT [0, 1, 4, 7, 8] 0 y) = (TX c v).bind fun y => .leaf (y.1, S c y.2) := by kernel_rfl
def st (_ : C) (i : Nat) : V := ⟨0, i⟩
def sb (_ : C) (i : Nat) : V := ⟨i, i⟩
def nn (c : C) : Nat := c.l.n
def bad (c : C) : Nat → Bool := bsz c.l.ρ
def good (c : C) : Prop := c.m = toInt64 c.l.n ∧ fewN c.l.n
def μ (c : C) (v : V) : Nat := (c.l.n - v.i).toNat
theorem sq (c : C) (h : good c) : Sq (TX c) (μ c) (st c) (sb c) (nn c) (bad c) .ret (.exit 0) := by
  obtain ⟨l, m⟩ := c
  obtain ⟨hm, hn⟩ := h
  have hm : m = toInt64 l.n := hm
  subst hm
  refine sqF (sn := fun i => ⟨0, w64 ((i : Int) + 1)⟩) (by simp) (by simp) (fun i hi => by show ((l.n : Int) - (i : Int)).toNat = l.n - i; omega) (fun i hi => rF (b := bsz l.ρ i) hi) (fun i hi => by rw [wS hn hi]; rfl) rS
def get : List (Nat × AV) → Mem → Option (C × V)
  | [(0, .one (.c (.sl [.int .i64] c_l_n c_l_ρ))), (1, .one (.c (.fn (.func 164) [] []))), (4, .one (.c (.int .i64 v_r))), (7, .one (.c (.int .i64 c_m))), (8, .one (.c (.int .i64 v_i)))], [] =>
    some (⟨⟨c_l_n, c_l_ρ⟩, c_m⟩, ⟨v_r, v_i⟩)
  | _, _ => none
noncomputable def L : Nat → St → Tree (XE × St) := lqH [0, 1, 4, 7, 8] 0 19 get fun c v => lqT (S c) (good c ∧ v = st c 0) (anyB (bad c) (nn c)) .ret (.exit 0) (sb c (firstB (bad c) (nn c))) (st c (nn c))
theorem ok (fn : Func) (c b : Code) (hf : Tryz.prog.funcs[114]? = some fn) (hc : fn.body = some c) (hb : nthLoop c 0 = some b) : LoopOk Tryz.prog b L :=
  lq_ok h0 10 114 0 hf hc hb [0, 1, 4, 7, 8] 0 19 S TX t get (fun l m c v h => by unfold get at h; split at h <;> simp at h; obtain ⟨rfl, rfl⟩ := h; rfl)
    good μ st sb nn bad .ret (.exit 0) sq (fun c => (sb c (firstB (bad c) (nn c)))) (fun c => (st c (nn c))) (fun _ _ _ => StWk.refl) (fun _ _ _ => StWk.refl)
end Fa
namespace Fb
structure C where
  l : Il
structure V where
  r : Int
  i : Int
def S (c : C) (v : V) : St := mkS 30 [(0, .one (.c (.sl inSh c.l.n c.l.ρ))), (2, .one (.c (I v.r))), (3, .one (.c (I v.i)))] []
def TX (c : C) (v : V) : Tree (XE × V) := .br (lt v.i (toInt64 c.l.n)) (.need (inRange v.i c.l.n) (.need (!((lt (vI c.l.ρ v.i.toNat) 1 == false) && true) || inRange v.i c.l.n) (.br (bsz c.l.ρ v.i.toNat) (.leaf (.ret, ⟨2, v.i⟩)) (.leaf (.normal, ⟨v.r, w64 (v.i + 1)⟩))))) (.leaf (.exit 0, v))
theorem t (c : C) (v : V) : ((evCode Tryz.prog H0 (evFn Tryz.prog H0 10) 74 0 1 (loopBody Tryz.prog 74 0) (S c v)).bind fun y => gcT [0, 2, 3] 0 y) = (TX c v).bind fun y => .leaf (y.1, S c y.2) := by kernel_rfl
def st (_ : C) (i : Nat) : V := ⟨0, i⟩
def sb (_ : C) (i : Nat) : V := ⟨2, i⟩
def nn (c : C) : Nat := c.l.n
def bad (c : C) : Nat → Bool := bsz c.l.ρ
def good (c : C) : Prop := fewN c.l.n
def μ (c : C) (v : V) : Nat := (c.l.n - v.i).toNat
theorem sq (c : C) (hn : good c) : Sq (TX c) (μ c) (st c) (sb c) (nn c) (bad c) .ret (.exit 0) := by
  obtain ⟨l⟩ := c
  refine sqF (sn := fun i => ⟨0, w64 ((i : Int) + 1)⟩) (by simp) (by simp) (fun i hi => by show ((l.n : Int) - (i : Int)).toNat = l.n - i; omega) (fun i hi => ?_) (fun i hi => by rw [wS hn hi]; rfl) rS
  have hi : i < l.n := hi
  refine ⟨fun _ => ⟨inR hi, ?_, fun hb => ?_, fun hb => ?_⟩, fun h => ?_⟩
  · show (_ || inRange (i : Int) l.n) = true
    rw [inR hi, Bool.or_true]
  · have : bad ⟨l⟩ i = true := hb
    rw [this]; rfl
  · have : bad ⟨l⟩ i = false := hb
    rw [this]; rfl
  · have h : lt (i : Int) (toInt64 l.n) = false := h
    rw [ltT hi] at h; cases h
def get : List (Nat × AV) → Mem → Option (C × V)
  | [(0, .one (.c (.sl [.int .i64] c_l_n c_l_ρ))), (2, .one (.c (.int .i64 v_r))), (3, .one (.c (.int .i64 v_i)))], [] =>
    some (⟨⟨c_l_n, c_l_ρ⟩⟩, ⟨v_r, v_i⟩)
  | _, _ => none
noncomputable def L : Nat → St → Tree (XE × St) := lqH [0, 2, 3] 0 30 get fun c v => lqT (S c) (good c ∧ v = st c 0) (anyB (bad c) (nn c)) .ret (.exit 0) (sb c (firstB (bad c) (nn c))) (st c (nn c))
theorem ok (fn : Func) (c b : Code) (hf : Tryz.prog.funcs[74]? = some fn) (hc : fn.body = some c) (hb : nthLoop c 0 = some b) : LoopOk Tryz.prog b L :=
  lq_ok h0 10 74 0 hf hc hb [0, 2, 3] 0 30 S TX t get (fun l m c v h => by unfold get at h; split at h <;> simp at h; obtain ⟨rfl, rfl⟩ := h; rfl)
    good μ st sb nn bad .ret (.exit 0) sq (fun c => (sb c (firstB (bad c) (nn c)))) (fun c => (st c (nn c))) (fun _ _ _ => StWk.refl) (fun _ _ _ => StWk.refl)
end Fb
def szE (l : Il) : Int := bif lt (toInt64 l.n) 1 || lt 8 (toInt64 l.n) then 6 else bif anyB (bsz l.ρ) l.n then 2 else 0
noncomputable def Gsz : List A1 → Option (Bool × AV)
  | [.c (.sl [.int .i64] n ρ)] => some (dec (fewN n), .one (.c (I (szE ⟨n, ρ⟩))))
  | _ => none
noncomputable abbrev H1a : Hd := ⟨pcH, [], [((114, 0), Fa.L)], []⟩
theorem h1a : HdOk Tryz.prog H1a := HdOk.lhCons h0 Fa.ok
noncomputable abbrev H1b : Hd := ⟨pcH, [], [((74, 0), Fb.L)], []⟩
theorem h1b : HdOk Tryz.prog H1b := HdOk.lhCons h0 Fb.ok
namespace Fc
structure C where
  l : Il
  m : Int
structure V where
  k : Nat
  σ : Val
  i : Int
def S (c : C) (v : V) : St := mkS 25 [(1, .one (.c (.fn (.func 133) [] []))), (5, .one (.c (.os 0 1))), (11, .one (.c (.sl inSh c.l.n c.l.ρ))), (12, .one (.c (I c.m))), (13, .one (.c (I v.i)))] [some (94, [.row false imSh v.k v.σ])]
def zro : Val := .byFst fun _ => Val.ofCs [.int .u8 0, .int .u8 0, .int .u8 0, .int .u8 0, .int .u8 0, .int .u8 0, .int .u8 0, .int .u8 0]
def TX (c : C) (v : V) : Tree (XE × V) :=
  let x := vI c.l.ρ v.i.toNat
  .br (lt v.i c.m) (.need (inRange v.i c.l.n) (.need (le 0 x && le x x && le (x * toInt64 8) 140737488355328) (.need (Nat.ble (((v.k + 1).mul 23).add v.k) 140737488355327)
    (.leaf (.normal, ⟨v.k + 1, Val.cat v.k v.σ (Val.ofFlat 1 [.sl scSh x.toNat zro]), w64 (v.i + 1)⟩))))) (.leaf (.exit 0, v))
theorem t (c : C) (v : V) : ((evCode Tryz.prog H0 (evFn Tryz.prog H0 10) 132 0 1 (loopBody Tryz.prog 132 0) (S c v)).bind fun y => gcT [1, 5, 11, 12, 13] 0 y) = (TX c v).bind fun y => .leaf (y.1, S c y.2) := by kernel_rfl
def im (ρ : Val) : Nat → Val
  | 0 => .byFst fun _ => Val.ofCs [.nils]
  | i + 1 => Val.cat i (im ρ i) (Val.ofFlat 1 [.sl scSh (vI ρ i).toNat zro])
def st (c : C) (i : Nat) : V := ⟨i, im c.l.ρ i, i⟩
def nn (c : C) : Nat := c.l.n
def good (c : C) : Prop := c.m = toInt64 c.l.n ∧ c.l.n ≤ 8 ∧ ∀ i, i < c.l.n → bsz c.l.ρ i = false
def μ (c : C) (v : V) : Nat := (c.l.n - v.i).toNat
theorem sq (c : C) (h : good c) : Sq (TX c) (μ c) (st c) (st c) (nn c) (fun _ => false) .ret (.exit 0) := by
  obtain ⟨l, m⟩ := c
  obtain ⟨hm, hn, hb⟩ := h
  have hm : m = toInt64 l.n := hm
  subst hm
  have hn : l.n ≤ 8 := hn
  refine sqF (sn := fun i => ⟨i + 1, im l.ρ (i + 1), w64 ((i : Int) + 1)⟩) (by simp) (by simp) (fun i hi => by show ((l.n : Int) - (i : Int)).toNat = l.n - i; omega) (fun i hi => ?_) (fun i hi => by rw [wS (n := l.n) (by unfold fewN; omega) hi]; rfl) rS
  have hi : i < l.n := hi
  have hx : bsz l.ρ i = false := hb i hi
  unfold bsz at hx
  rw [Bool.or_eq_false_iff, ← Bool.not_eq_true, ← Bool.not_eq_true, lt_iff, lt_iff] at hx
  refine ⟨fun _ => ⟨inR hi, ?_, Nat.ble_eq_true_of_le (by show ((i + 1) * 23 + i) ≤ _; omega), rfl⟩, fun h => ?_⟩
  · show (le 0 (vI l.ρ i) && le (vI l.ρ i) (vI l.ρ i) && le (vI l.ρ i * 8) 140737488355328) = true
    rw [Bool.and_eq_true, Bool.and_eq_true, le_iff, le_iff, le_iff]; omega
  · have h : lt (i : Int) (toInt64 l.n) = false := h
    rw [ltT hi] at h; cases h
theorem im_at (ρ : Val) : ∀ n i, i < n → (im ρ n).at i = .byFst fun f => if f = 0 then .ofC (.sl scSh (vI ρ i).toNat zro) else .zero
  | 0, i, h => by omega
  | n + 1, i, h => by
    unfold im
    rw [cat_at]
    by_cases hi : i < n
    · rw [if_pos hi, im_at ρ n i hi]
    · have : i = n := by omega
      subst this
      rw [if_neg hi, Nat.sub_self]
      show (Val.byFst fun f => match nth [CV.sl scSh (vI ρ i).toNat zro] (0 * 1 + f) with | some x => .ofC x | none => .zero) = _
      congr 1
      funext f
      match f with
      | 0 => rfl
      | f + 1 => simp [nth]
def get : List (Nat × AV) → Mem → Option (C × V)
  | [(1, .one (.c (.fn (.func 133) [] []))), (5, .one (.c (.os 0 1))), (11, .one (.c (.sl [.int .i64] c_l_n c_l_ρ))), (12, .one (.c (.int .i64 c_m))), (13, .one (.c (.int .i64 v_i)))], [some (94, [.row false [.sl [.int .u8, .int .u8, .int .u8, .int .u8, .int .u8, .int .u8, .int .u8, .int .u8]] v_k v_σ])] =>
    some (⟨⟨c_l_n, c_l_ρ⟩, c_m⟩, ⟨v_k, v_σ, v_i⟩)
  | _, _ => none
noncomputable def L : Nat → St → Tree (XE × St) := lqH [1, 5, 11, 12, 13] 0 25 get fun c v => lq1 (S c) (good c ∧ v = st c 0) (.exit 0) (st c (nn c))
theorem ok (fn : Func) (c b : Code) (hf : Tryz.prog.funcs[132]? = some fn) (hc : fn.body = some c) (hb : nthLoop c 0 = some b) : LoopOk Tryz.prog b L :=
  lq1_ok h0 10 132 0 hf hc hb [1, 5, 11, 12, 13] 0 25 S TX t get (fun l m c v h => by unfold get at h; split at h <;> simp at h; obtain ⟨rfl, rfl⟩ := h; rfl)
    good μ st nn (.exit 0) sq (fun c => (st c (nn c))) (fun _ _ => StWk.refl)
end Fc
namespace Fd
structure C where
  l : Il
  m : Int
structure V where
  k : Nat
  σ : Val
  i : Int
def S (c : C) (v : V) : St := mkS 25 [(1, .one (.c (.fn (.func 184) [] []))), (5, .one (.c (.os 0 1))), (11, .one (.c (.sl imSh c.l.n c.l.ρ))), (12, .one (.c (I c.m))), (13, .one (.c (I v.i)))] [some (3, [.row false inSh v.k v.σ])]
def TX (c : C) (v : V) : Tree (XE × V) :=
  .br (lt v.i c.m) (.need (inRange v.i c.l.n) (.need (Nat.ble (((v.k + 1).mul 7).add v.k) 140737488355327)
    (.leaf (.normal, ⟨v.k + 1, Val.cat v.k v.σ (Val.ofFlat 1 [.int .i64 (toInt64 (vL c.l.ρ 0 v.i.toNat))]), w64 (v.i + 1)⟩)))) (.leaf (.exit 0, v))
theorem t (c : C) (v : V) : ((evCode Tryz.prog H0 (evFn Tryz.prog H0 10) 183 0 1 (loopBody Tryz.prog 183 0) (S c v)).bind fun y => gcT [1, 5, 11, 12, 13] 0 y) = (TX c v).bind fun y => .leaf (y.1, S c y.2) := by kernel_rfl
def ln (ρ : Val) : Nat → Val
  | 0 => .byFst fun _ => Val.ofCs [.int .i64 0]
  | i + 1 => Val.cat i (ln ρ i) (Val.ofFlat 1 [.int .i64 (toInt64 (vL ρ 0 i))])
def st (c : C) (i : Nat) : V := ⟨i, ln c.l.ρ i, i⟩
def nn (c : C) : Nat := c.l.n
def good (c : C) : Prop := c.m = toInt64 c.l.n ∧ c.l.n ≤ 1000
def μ (c : C) (v : V) : Nat := (c.l.n - v.i).toNat
theorem sq (c : C) (h : good c) : Sq (TX c) (μ c) (st c) (st c) (nn c) (fun _ => false) .ret (.exit 0) := by
  obtain ⟨l, m⟩ := c
  obtain ⟨hm, hn⟩ := h
  have hm : m = toInt64 l.n := hm
  subst hm
  have hn : l.n ≤ 1000 := hn
  refine sqF (sn := fun i => ⟨i + 1, ln l.ρ (i + 1), w64 ((i : Int) + 1)⟩) (by simp) (by simp) (fun i hi => by show ((l.n : Int) - (i : Int)).toNat = l.n - i; omega) (fun i hi => ?_) (fun i hi => by rw [wS (n := l.n) (by unfold fewN; omega) hi]; rfl) rS
  have hi : i < l.n := hi
  refine ⟨fun _ => ⟨inR hi, Nat.ble_eq_true_of_le (by show ((i + 1) * 7 + i) ≤ _; omega), rfl⟩, fun h => ?_⟩
  have h : lt (i : Int) (toInt64 l.n) = false := h
  rw [ltT hi] at h; cases h
theorem ln_at (ρ : Val) : ∀ n i, i < n → vI (ln ρ n) i = toInt64 (vL ρ 0 i)
  | 0, i, h => by omega
  | n + 1, i, h => by
    unfold ln vI
    rw [cat_at]
    by_cases hi : i < n
    · rw [if_pos hi]; exact ln_at ρ n i hi
    · have : i = n := by omega
      subst this
      rw [if_neg hi, Nat.sub_self]; rfl
def get : List (Nat × AV) → Mem → Option (C × V)
  | [(1, .one (.c (.fn (.func 184) [] []))), (5, .one (.c (.os 0 1))), (11, .one (.c (.sl [.sl [.int .u8, .int .u8, .int .u8, .int .u8, .int .u8, .int .u8, .int .u8, .int .u8]] c_l_n c_l_ρ))), (12, .one (.c (.int .i64 c_m))), (13, .one (.c (.int .i64 v_i)))], [some (3, [.row false [.int .i64] v_k v_σ])] =>
    some (⟨⟨c_l_n, c_l_ρ⟩, c_m⟩, ⟨v_k, v_σ, v_i⟩)
  | _, _ => none
noncomputable def L : Nat → St → Tree (XE × St) := lqH [1, 5, 11, 12, 13] 0 25 get fun c v => lq1 (S c) (good c ∧ v = st c 0) (.exit 0) (st c (nn c))
theorem ok (fn : Func) (c b : Code) (hf : Tryz.prog.funcs[183]? = some fn) (hc : fn.body = some c) (hb : nthLoop c 0 = some b) : LoopOk Tryz.prog b L :=
  lq1_ok h0 10 183 0 hf hc hb [1, 5, 11, 12, 13] 0 25 S TX t get (fun l m c v h => by unfold get at h; split at h <;> simp at h; obtain ⟨rfl, rfl⟩ := h; rfl)
    good μ st nn (.exit 0) sq (fun c => (st c (nn c))) (fun _ _ => StWk.refl)
end Fd
theorem szE_few {n : Nat} {ρ : Val} (h : szE ⟨n, ρ⟩ = 0) : 1 ≤ n ∧ n ≤ 8 ∧ ∀ i, i < n → bsz ρ i = false := by
  unfold szE at h
  cases h1 : lt (toInt64 n) 1 || lt 8 (toInt64 n)
  · rw [h1] at h
    rw [Bool.or_eq_false_iff, ← Bool.not_eq_true, ← Bool.not_eq_true, lt_iff, lt_iff] at h1
    obtain ⟨a, b⟩ := h1
    have a : ¬ (n : Int) < 1 := a
    have b : ¬ (8 : Int) < (n : Int) := b
    refine ⟨by omega, by omega, fun i hi => ?_⟩
    cases hb : anyB (bsz ρ) n
    · cases hc : bsz ρ i
      · rfl
      · rw [anyB_iff.2 ⟨i, hi, hc⟩] at hb; cases hb
    · rw [hb] at h; cases h
  · rw [h1] at h; cases h
theorem le0_nat (k : Nat) : le 0 (k : Int) = true := (le_iff _ _).2 (by omega)
theorem p131 : TcOne Tryz.prog 131 (nG Gsz) := tcOne_of_tree h1a 10 131 fun args r h => by
  unfold Gsz at h; split at h
  · rename_i n ρ
    obtain ⟨hp, rfl⟩ := Prod.mk.inj (Option.some.inj h)
    have hp := dec_iff.1 hp
    refine ⟨rfl, .br (lt (toInt64 n) 1 || lt 8 (toInt64 n)) (.leaf (.one (.c (I 6)))) (.need (dec (Fa.good ⟨⟨n, ρ⟩, toInt64 n⟩ ∧ (⟨0, 0⟩ : Fa.V) = Fa.st ⟨⟨n, ρ⟩, toInt64 n⟩ 0))
      (.br (anyB (bsz ρ) n) (.br (le 0 ((firstB (bsz ρ) n : Nat) : Int)) (.leaf (.one (.c (I 2)))) (.leaf (.one (.c (I 0))))) (.br false (.leaf (.one (.c (I 2)))) (.leaf (.one (.c (I 0))))))), by kernel_rfl,
      fun h => ?_, fun h => ⟨dec_iff.2 ⟨⟨rfl, hp⟩, rfl⟩, fun hb => ⟨fun _ => ?_, fun hh => ?_⟩, fun hb => ⟨fun hh => (by cases hh), fun _ => ?_⟩⟩⟩
    · show AV.one (.c (I 6)) = .one (.c (I (szE ⟨n, ρ⟩))); unfold szE; rw [h]; rfl
    · show AV.one (.c (I 2)) = .one (.c (I (szE ⟨n, ρ⟩))); unfold szE; rw [h, hb]; rfl
    · rw [le0_nat] at hh; cases hh
    · show AV.one (.c (I 0)) = .one (.c (I (szE ⟨n, ρ⟩))); unfold szE; rw [h, hb]; rfl
  · cases h
theorem p74 : TcOne Tryz.prog 74 (nG Gsz) := tcOne_of_tree h1b 10 74 fun args r h => by
  unfold Gsz at h; split at h
  · rename_i n ρ
    obtain ⟨hp, rfl⟩ := Prod.mk.inj (Option.some.inj h)
    have hp := dec_iff.1 hp
    refine ⟨rfl, .br (lt (toInt64 n) 1 || lt 8 (toInt64 n)) (.leaf (.one (.c (I 6)))) (.need (dec (Fb.good ⟨⟨n, ρ⟩⟩ ∧ (⟨0, 0⟩ : Fb.V) = Fb.st ⟨⟨n, ρ⟩⟩ 0))
      (.br (anyB (bsz ρ) n) (.leaf (.one (.c (I 2)))) (.leaf (.one (.c (I 0)))))), by kernel_rfl,
      fun h => ?_, fun h => ⟨dec_iff.2 ⟨hp, rfl⟩, fun hb => ?_, fun hb => ?_⟩⟩
    · show AV.one (.c (I 6)) = .one (.c (I (szE ⟨n, ρ⟩))); unfold szE; rw [h]; rfl
    · show AV.one (.c (I 2)) = .one (.c (I (szE ⟨n, ρ⟩))); unfold szE; rw [h, hb]; rfl
    · show AV.one (.c (I 0)) = .one (.c (I (szE ⟨n, ρ⟩))); unfold szE; rw [h, hb]; rfl
  · cases h
noncomputable abbrev H2 : Hd := ⟨(74, nG Gsz) :: (131, nG Gsz) :: pcH, [], [((132, 0), Fc.L), ((183, 0), Fd.L)], []⟩
theorem h2 : HdOk Tryz.prog H2 := HdOk.lhCons (HdOk.lhCons ((h0.tcCons p131).tcCons p74) Fd.ok) Fc.ok
def newN (l : Il) : Nat := bif szE l == 0 then l.n else 0
noncomputable def Gnew : List A1 → Option (Bool × AV)
  | [.c (.sl [.int .i64] n ρ)] => some (dec (fewN n), .tup [.c (.sl imSh (newN ⟨n, ρ⟩) (Fc.im ρ n)), .c (I (szE ⟨n, ρ⟩))])
  | _ => none
theorem leA_nils2 {es : List Sh} {ρ : Val} {e : Int} : leA (.tup [.c .nils, .c (I e)]) (.tup [.c (.sl es 0 ρ), .c (I e)]) := fun F w v hv => by
  obtain ⟨vs, rfl, hv⟩ := hv
  cases hv with
  | cons h1 h2 =>
    refine ⟨_, rfl, .cons ?_ h2⟩
    have h1 : CV.Rel F w [] .nils _ := h1
    cases h1
    exact CV.Rel.slnil
theorem u88 : UcOne Tryz.prog 88 (nG Gnew) := ucOne_of_tree h2 10 88 fun args r h => by
  unfold Gnew at h; split at h
  · rename_i n ρ
    obtain ⟨hp, rfl⟩ := Prod.mk.inj (Option.some.inj h)
    have hp := dec_iff.1 hp
    refine ⟨.need (dec (fewN n)) (.br (szE ⟨n, ρ⟩ != 0) (.leaf (.tup [.c .nils, .c (I (szE ⟨n, ρ⟩))])) (.need (true && le 0 (toInt64 n) && le (toInt64 n * toInt64 24) 140737488355328)
      (.need (dec (Fc.good ⟨⟨n, ρ⟩, toInt64 n⟩ ∧ (⟨0, .byFst fun _ => Val.ofCs [.nils], 0⟩ : Fc.V) = Fc.st ⟨⟨n, ρ⟩, toInt64 n⟩ 0)) (.leaf (.tup [.c (.sl imSh n (Fc.im ρ n)), .c (I 0)]))))), by kernel_rfl,
      dec_iff.2 hp, fun h => ?_, fun h => ?_⟩
    · have : newN ⟨n, ρ⟩ = 0 := by
        unfold newN
        have : (szE ⟨n, ρ⟩ == 0) = false := by simpa [bne] using h
        rw [this]; rfl
      rw [this]
      exact leA_nils2
    · have h0 : szE ⟨n, ρ⟩ = 0 := by simpa [bne] using h
      have hn : newN ⟨n, ρ⟩ = n := by unfold newN; rw [h0]; rfl
      obtain ⟨a, b, c⟩ := szE_few h0
      rw [hn, h0]
      refine ⟨?_, dec_iff.2 ⟨⟨rfl, b, c⟩, rfl⟩, leA.refl⟩
      rw [Bool.and_eq_true, Bool.and_eq_true, le_iff, le_iff]
      refine ⟨⟨rfl, by show (0 : Int) ≤ (n : Int); omega⟩, by show (n : Int) * 24 ≤ _; omega⟩
  · cases h
noncomputable def Gchi : List A1 → Option (Bool × AV)
  | [.c (.sl [.sl [.int .u8, .int .u8, .int .u8, .int .u8, .int .u8, .int .u8, .int .u8, .int .u8]] n ρ)] => some (dec (n ≤ 1000), .one (.c (I (szE ⟨n, Fd.ln ρ n⟩))))
  | _ => none
theorem p134 : TcOne Tryz.prog 134 (nG Gchi) := tcOne_of_tree h2 10 134 fun args r h => by
  unfold Gchi at h; split at h
  · rename_i n ρ
    obtain ⟨hp, rfl⟩ := Prod.mk.inj (Option.some.inj h)
    have hp := dec_iff.1 hp
    refine ⟨rfl, .need (true && le 0 (toInt64 n) && le (toInt64 n * toInt64 8) 140737488355328) (.need (dec (Fd.good ⟨⟨n, ρ⟩, toInt64 n⟩ ∧ (⟨0, .byFst fun _ => Val.ofCs [.int .i64 0], 0⟩ : Fd.V) = Fd.st ⟨⟨n, ρ⟩, toInt64 n⟩ 0)) (.need (dec (fewN n)) (.leaf (.one (.c (I (szE ⟨n, Fd.ln ρ n⟩))))))), by kernel_rfl,
      ?_, dec_iff.2 ⟨⟨rfl, hp⟩, rfl⟩, dec_iff.2 (by unfold fewN; omega), rfl⟩
    rw [Bool.and_eq_true, Bool.and_eq_true, le_iff, le_iff]
    refine ⟨⟨rfl, by show (0 : Int) ≤ (n : Int); omega⟩, by show (n : Int) * 8 ≤ _; omega⟩
  · cases h
theorem inR_of {v : Int} {n : Nat} (h : (lt v 0 || le (toInt64 n) v) = false) : inRange v n = true := by
  rw [Bool.or_eq_false_iff, ← Bool.not_eq_true, ← Bool.not_eq_true, lt_iff, le_iff] at h
  unfold inRange
  rw [Bool.and_eq_true, le_iff, lt_iff]
  omega
def fitE (n : Nat) (len : Nat → Int) (v s : Int) (m : Nat) : Int :=
  bif lt v 0 || le (toInt64 n) v then 7 else bif toInt64 m == 0 then 1 else bif lt s 0 || lt (w64 (len v.toNat - toInt64 m)) s then 2 else 0
def fitR (n : Nat) (len : Nat → Int) (v s : Int) (m : Nat) : Int :=
  bif lt v 0 || le (toInt64 n) v then 7 else bif toInt64 m == 0 then 1 else bif lt s 0 || le (len v.toNat) s || lt (w64 (len v.toNat - s)) (toInt64 m) then 2 else 0
noncomputable def Gfts : List A1 → Option (Bool × AV)
  | [.c (.sl [.sl [.int .u8, .int .u8, .int .u8, .int .u8, .int .u8, .int .u8, .int .u8, .int .u8]] n ρ), .agg [.int .i64 v, .int .i64 s, .sl [.int .u8, .int .u8, .int .u8, .int .u8, .int .u8, .int .u8, .int .u8, .int .u8] m _]] => some (true, .one (.c (I (fitE n (fun i => toInt64 (vL ρ 0 i)) v s m))))
  | _ => none
theorem p136 : TcOne Tryz.prog 136 (nG Gfts) := tcOne_of_tree h0 10 136 fun args r h => by
  unfold Gfts at h; split at h
  · rename_i n ρ v s m δ
    obtain ⟨-, rfl⟩ := Prod.mk.inj (Option.some.inj h)
    refine ⟨rfl, .br (lt v 0 || le (toInt64 n) v) (.leaf (.one (.c (I 7)))) (.br (toInt64 m == 0) (.leaf (.one (.c (I 1)))) (.need (!(lt s 0 == false && true) || inRange v n)
      (.br (lt s 0 || lt (w64 (toInt64 (vL ρ 0 v.toNat) - toInt64 m)) s) (.leaf (.one (.c (I 2)))) (.leaf (.one (.c (I 0))))))), by kernel_rfl, fun h => ?_, fun h => ⟨fun h2 => ?_, fun h2 => ⟨?_, fun h3 => ?_, fun h3 => ?_⟩⟩⟩
    · show AV.one (.c (I 7)) = .one (.c (I (fitE n _ v s m))); unfold fitE; rw [h]; rfl
    · show AV.one (.c (I 1)) = .one (.c (I (fitE n _ v s m))); unfold fitE; rw [h, h2]; rfl
    · rw [inR_of h, Bool.or_true]
    · show AV.one (.c (I 2)) = .one (.c (I (fitE n _ v s m))); unfold fitE; rw [h, h2, h3]; rfl
    · show AV.one (.c (I 0)) = .one (.c (I (fitE n _ v s m))); unfold fitE; rw [h, h2, h3]; rfl
  · cases h
noncomputable def Gfsz : List A1 → Option (Bool × AV)
  | [.c (.sl [.int .i64] n ρ), .agg [.int .i64 v, .int .i64 s, .sl [.int .u8, .int .u8, .int .u8, .int .u8, .int .u8, .int .u8, .int .u8, .int .u8] m _]] => some (true, .one (.c (I (fitR n (vI ρ) v s m))))
  | _ => none
theorem p75 : TcOne Tryz.prog 75 (nG Gfsz) := tcOne_of_tree h0 10 75 fun args r h => by
  unfold Gfsz at h; split at h
  · rename_i n ρ v s m δ
    obtain ⟨-, rfl⟩ := Prod.mk.inj (Option.some.inj h)
    refine ⟨rfl, .br (lt v 0 || le (toInt64 n) v) (.leaf (.one (.c (I 7)))) (.br (toInt64 m == 0) (.leaf (.one (.c (I 1)))) (.need (!(lt s 0 == false && true) || inRange v n) (.need (!((lt s 0 || le (vI ρ v.toNat) s) == false && true) || inRange v n)
      (.br (lt s 0 || le (vI ρ v.toNat) s || lt (w64 (vI ρ v.toNat - s)) (toInt64 m)) (.leaf (.one (.c (I 2)))) (.leaf (.one (.c (I 0)))))))), by kernel_rfl, fun h => ?_, fun h => ⟨fun h2 => ?_, fun h2 => ⟨?_, ?_, fun h3 => ?_, fun h3 => ?_⟩⟩⟩
    · show AV.one (.c (I 7)) = .one (.c (I (fitR n _ v s m))); unfold fitR; rw [h]; rfl
    · show AV.one (.c (I 1)) = .one (.c (I (fitR n _ v s m))); unfold fitR; rw [h, h2]; rfl
    · rw [inR_of h, Bool.or_true]
    · rw [inR_of h, Bool.or_true]
    · show AV.one (.c (I 2)) = .one (.c (I (fitR n _ v s m))); unfold fitR; rw [h, h2, h3]; rfl
    · show AV.one (.c (I 0)) = .one (.c (I (fitR n _ v s m))); unfold fitR; rw [h, h2, h3]; rfl
  · cases h
theorem fit_same {n : Nat} {len : Nat → Int} {v s : Int} {m : Nat} (hm : fewN m) (hl : ∀ i, i < n → 1 ≤ len i ∧ len i ≤ 4096) : fitR n len v s m = fitE n len v s m := by
  unfold fitR fitE
  cases h1 : lt v 0 || le (toInt64 n) v
  · cases h2 : toInt64 m == 0
    · rw [Bool.or_eq_false_iff, ← Bool.not_eq_true, ← Bool.not_eq_true, lt_iff, le_iff] at h1
      rw [beq_eq_false_iff_ne] at h2
      have h2 : (m : Int) ≠ 0 := h2
      have h1' : ¬ (n : Int) ≤ v := h1.2
      obtain ⟨a, b⟩ := hl v.toNat (by omega)
      unfold fewN at hm
      have e : (lt s 0 || le (len v.toNat) s || lt (w64 (len v.toNat - s)) (toInt64 m)) = (lt s 0 || lt (w64 (len v.toNat - toInt64 m)) s) := by
        have e1 : w64 (len v.toNat - toInt64 m) = len v.toNat - m := by
          show IntKind.i64.wrap (len v.toNat - (m : Int)) = _
          exact w64_id (by omega) (by omega)
        cases hs : lt s 0
        · rw [← Bool.not_eq_true, lt_iff] at hs
          simp only [Bool.false_or]
          cases h3 : le (len v.toNat) s
          · rw [← Bool.not_eq_true, le_iff] at h3
            have e2 : w64 (len v.toNat - s) = len v.toNat - s := w64_id (by omega) (by omega)
            rw [e1, e2, Bool.eq_iff_iff, Bool.false_or, lt_iff, lt_iff]
            show len v.toNat - s < (m : Int) ↔ _
            omega
          · rw [le_iff] at h3
            rw [e1, Bool.true_or, eq_comm, lt_iff]
            omega
        · rfl
      rw [e]
    · rfl
  · rfl
noncomputable abbrev H3 : Hd := ⟨(75, nG Gfsz) :: (136, nG Gfts) :: (134, nG Gchi) :: (74, nG Gsz) :: (131, nG Gsz) :: pcH, [(88, nG Gnew)], [], []⟩
theorem h3 : HdOk Tryz.prog H3 := by
  have a : HdOk Tryz.prog ⟨(74, nG Gsz) :: (131, nG Gsz) :: pcH, [], [], []⟩ := (h0.tcCons p131).tcCons p74
  exact (((a.ucCons u88).tcCons p134).tcCons p136).tcCons p75
noncomputable def Gfit : List A1 → Option (Bool × AV)
  | [.c (.sl [.sl [.int .u8, .int .u8, .int .u8, .int .u8, .int .u8, .int .u8, .int .u8, .int .u8]] n ρ), .agg [.int .i64 v, .int .i64 s, .sl [.int .u8, .int .u8, .int .u8, .int .u8, .int .u8, .int .u8, .int .u8, .int .u8] m _]] =>
    some (dec (n ≤ 1000 ∧ szE ⟨n, Fd.ln ρ n⟩ = 0), .one (.c (I (fitE n (fun i => toInt64 (vL ρ 0 i)) v s m))))
  | _ => none
theorem p93 : TcOne Tryz.prog 93 (nG Gfit) := tcOne_of_tree h3 10 93 fun args r h => by
  unfold Gfit at h; split at h
  · rename_i n ρ v s m δ
    obtain ⟨hp, rfl⟩ := Prod.mk.inj (Option.some.inj h)
    obtain ⟨hp, h0⟩ := dec_iff.1 hp
    refine ⟨rfl, .need (dec (n ≤ 1000)) (.br (szE ⟨n, Fd.ln ρ n⟩ != 0) (.leaf (.one (.c (I (szE ⟨n, Fd.ln ρ n⟩))))) (.need true (.leaf (.one (.c (I (fitE n (fun i => toInt64 (vL ρ 0 i)) v s m))))))), by kernel_rfl, dec_iff.2 hp, fun h => ?_, fun _ => ⟨rfl, rfl⟩⟩
    rw [h0] at h; cases h
  · cases h
noncomputable abbrev H4 : Hd := ⟨(93, nG Gfit) :: H3.pc, H3.hc, [], []⟩
theorem h4 : HdOk Tryz.prog H4 := h3.tcCons p93
structure Hi where
  s : Il
  w : Il
  e : Il
def wrE (n : Nat) (len : Nat → Int) (ω : Val) (i : Nat) : Int := fitE n len (vI ω i) (vJ ω i) (vL ω 2 i)
namespace Fe
structure C where
  h : Hi
  g : Hi
  im : Il
  w : Il
  m : Int
structure V where
  e : Int
  i : Int
def S (c : C) (v : V) : St := mkS 71 [(1, .one (.c (.ptr 0 0))), (2, .one (.c (.ptr 1 0))), (3, .one (.c (I v.e))), (4, .one (.c (.ptr 2 0))), (5, .one (.c (.sl imSh c.im.n c.im.ρ))), (31, .one (.c (.sl wrSh c.w.n c.w.ρ))), (32, .one (.c (I c.m))), (33, .one (.c (I v.i)))] [some (53, [.sl inSh c.h.s.n c.h.s.ρ, .sl wrSh c.h.w.n c.h.w.ρ, .sl evSh c.h.e.n c.h.e.ρ]), some (149, [.nils, .nils, .nils, .nils, .nils]), some (149, [.sl inSh c.g.s.n c.g.s.ρ, .sl wrSh c.g.w.n c.g.w.ρ, .sl evSh c.g.e.n c.g.e.ρ, .nils, .nils])]
def len (c : C) (i : Nat) : Int := toInt64 (vL c.im.ρ 0 i)
def er (c : C) (i : Nat) : Int := wrE c.im.n (len c) c.w.ρ i
noncomputable def TX (c : C) (v : V) : Tree (XE × V) := .br (lt v.i c.m) (.need (inRange v.i c.w.n) (.need (dec (c.im.n ≤ 1000 ∧ szE ⟨c.im.n, Fd.ln c.im.ρ c.im.n⟩ = 0)) (.br (er c v.i.toNat != 0) (.leaf (.ret, ⟨er c v.i.toNat, v.i⟩)) (.leaf (.normal, ⟨v.e, w64 (v.i + 1)⟩))))) (.leaf (.exit 0, v))
theorem t (c : C) (v : V) : ((evCode Tryz.prog H4 (evFn Tryz.prog H4 10) 83 0 1 (loopBody Tryz.prog 83 0) (S c v)).bind fun y => gcT [1, 2, 3, 4, 5, 31, 32, 33] 0 y) = (TX c v).bind fun y => .leaf (y.1, S c y.2) := by kernel_rfl
def st (_ : C) (i : Nat) : V := ⟨0, i⟩
def sb (c : C) (i : Nat) : V := ⟨er c i, i⟩
def nn (c : C) : Nat := c.w.n
def bad (c : C) (i : Nat) : Bool := er c i != 0
def good (c : C) : Prop := c.m = toInt64 c.w.n ∧ fewN c.w.n ∧ c.im.n ≤ 1000 ∧ szE ⟨c.im.n, Fd.ln c.im.ρ c.im.n⟩ = 0
def μ (c : C) (v : V) : Nat := (c.w.n - v.i).toNat
theorem sq (c : C) (h : good c) : Sq (TX c) (μ c) (st c) (sb c) (nn c) (bad c) .ret (.exit 0) := by
  obtain ⟨h0, g, im, w, m⟩ := c
  obtain ⟨hm, hn, h1, h2⟩ := h
  have hm : m = toInt64 w.n := hm
  subst hm
  have hn : fewN w.n := hn
  refine sqF (sn := fun i => ⟨0, w64 ((i : Int) + 1)⟩) (by simp) (by simp) (fun i hi => by show ((w.n : Int) - (i : Int)).toNat = w.n - i; omega) (fun i hi => ?_) (fun i hi => by rw [wS hn hi]; rfl) rS
  have hi : i < w.n := hi
  refine ⟨fun _ => ⟨inR hi, dec_iff.2 ⟨h1, h2⟩, fun hb => ?_, fun hb => ?_⟩, fun h => ?_⟩
  · have : bad ⟨h0, g, im, w, toInt64 w.n⟩ i = true := hb
    rw [this]; rfl
  · have : bad ⟨h0, g, im, w, toInt64 w.n⟩ i = false := hb
    rw [this]; rfl
  · have h : lt (i : Int) (toInt64 w.n) = false := h
    rw [ltT hi] at h; cases h
def get : List (Nat × AV) → Mem → Option (C × V)
  | [(1, .one (.c (.ptr 0 0))), (2, .one (.c (.ptr 1 0))), (3, .one (.c (.int .i64 v_e))), (4, .one (.c (.ptr 2 0))), (5, .one (.c (.sl [.sl [.int .u8, .int .u8, .int .u8, .int .u8, .int .u8, .int .u8, .int .u8, .int .u8]] c_im_n c_im_ρ))), (31, .one (.c (.sl [.int .i64, .int .i64, .sl [.int .u8, .int .u8, .int .u8, .int .u8, .int .u8, .int .u8, .int .u8, .int .u8]] c_w_n c_w_ρ))), (32, .one (.c (.int .i64 c_m))), (33, .one (.c (.int .i64 v_i)))], [some (53, [.sl [.int .i64] c_h_s_n c_h_s_ρ, .sl [.int .i64, .int .i64, .sl [.int .u8, .int .u8, .int .u8, .int .u8, .int .u8, .int .u8, .int .u8, .int .u8]] c_h_w_n c_h_w_ρ, .sl [.int .i64, .int .i64] c_h_e_n c_h_e_ρ]), some (149, [.nils, .nils, .nils, .nils, .nils]), some (149, [.sl [.int .i64] c_g_s_n c_g_s_ρ, .sl [.int .i64, .int .i64, .sl [.int .u8, .int .u8, .int .u8, .int .u8, .int .u8, .int .u8, .int .u8, .int .u8]] c_g_w_n c_g_w_ρ, .sl [.int .i64, .int .i64] c_g_e_n c_g_e_ρ, .nils, .nils])] =>
    some (⟨⟨⟨c_h_s_n, c_h_s_ρ⟩, ⟨c_h_w_n, c_h_w_ρ⟩, ⟨c_h_e_n, c_h_e_ρ⟩⟩, ⟨⟨c_g_s_n, c_g_s_ρ⟩, ⟨c_g_w_n, c_g_w_ρ⟩, ⟨c_g_e_n, c_g_e_ρ⟩⟩, ⟨c_im_n, c_im_ρ⟩, ⟨c_w_n, c_w_ρ⟩, c_m⟩, ⟨v_e, v_i⟩)
  | _, _ => none
noncomputable def L : Nat → St → Tree (XE × St) := lqH [1, 2, 3, 4, 5, 31, 32, 33] 0 71 get fun c v => lqT (S c) (good c ∧ v = st c 0) (anyB (bad c) (nn c)) .ret (.exit 0) (sb c (firstB (bad c) (nn c))) (st c (nn c))
theorem ok (fn : Func) (c b : Code) (hf : Tryz.prog.funcs[83]? = some fn) (hc : fn.body = some c) (hb : nthLoop c 0 = some b) : LoopOk Tryz.prog b L :=
  lq_ok h4 10 83 0 hf hc hb [1, 2, 3, 4, 5, 31, 32, 33] 0 71 S TX t get (fun l m c v h => by unfold get at h; split at h <;> simp at h; obtain ⟨rfl, rfl⟩ := h; rfl)
    good μ st sb nn bad .ret (.exit 0) sq (fun c => (sb c (firstB (bad c) (nn c)))) (fun c => (st c (nn c))) (fun _ _ _ => StWk.refl) (fun _ _ _ => StWk.refl)
end Fe
structure Ev where
  k : Nat
  σ : Val
  τ : Val
def evE (nw : Nat) (ε : Val) (i : Nat) (s : Ev) : Int :=
  bif vI ε i == 0 then (bif vJ ε i != toInt64 s.k || le (toInt64 nw) (vJ ε i) then 3 else 0) else bif vI ε i == 1 then (bif lt (vJ ε i) 0 || le (toInt64 s.k) (vJ ε i) then 7 else bif le 0 (vI s.τ (vJ ε i).toNat) then 8 else 0) else 3
def evN (ε : Val) (i : Nat) (s : Ev) : Ev :=
  bif vI ε i == 0 then ⟨s.k + 1, Val.cat s.k s.σ (Val.ofFlat 1 [I i]), Val.cat s.k s.τ (Val.ofFlat 1 [I (-1)])⟩ else ⟨s.k, s.σ, s.τ.upds (vJ ε i).toNat 0 [I i]⟩
def evS (ε : Val) : Nat → Ev
  | 0 => ⟨0, .zero, .zero⟩
  | i + 1 => evN ε i (evS ε i)
theorem evS_k (ε : Val) : ∀ i, (evS ε i).k ≤ i
  | 0 => Nat.le_refl _
  | i + 1 => by
    have := evS_k ε i
    unfold evS evN
    cases vI ε i == 0
    · show (evS ε i).k ≤ i + 1; omega
    · show (evS ε i).k + 1 ≤ i + 1; omega
namespace Ff
structure C where
  h : Hi
  g : Hi
  l : Il
  m : Int
structure V where
  e : Int
  i : Int
  k : Nat
  σ : Val
  j : Nat
  τ : Val
def S (c : C) (v : V) : St := mkS 71 [(1, .one (.c (.ptr 0 0))), (2, .one (.c (.ptr 1 0))), (3, .one (.c (I v.e))), (4, .one (.c (.ptr 2 0))), (46, .one (.c (.sl evSh c.l.n c.l.ρ))), (47, .one (.c (I c.m))), (48, .one (.c (I v.i)))] [some (53, [.sl inSh c.h.s.n c.h.s.ρ, .sl wrSh c.h.w.n c.h.w.ρ, .sl evSh c.h.e.n c.h.e.ρ]), some (149, [.nils, .nils, .nils, .nils, .nils]), some (149, [.sl inSh c.g.s.n c.g.s.ρ, .sl wrSh c.g.w.n c.g.w.ρ, .sl evSh c.g.e.n c.g.e.ρ, .os 3 1, .os 4 1]), some (3, [.row false inSh v.k v.σ]), some (3, [.row false inSh v.j v.τ])]
def out (v : V) (e : Int) (w : V) : Tree (XE × V) := .br (e != 0) (.leaf (.ret, { w with e := e, i := v.i })) (.leaf (.normal, { w with i := w64 (v.i + 1) }))
def TX (c : C) (v : V) : Tree (XE × V) :=
  let K := vI c.l.ρ v.i.toNat
  let W := vJ c.l.ρ v.i.toNat
  .br (lt v.i c.m) (.need (inRange v.i c.l.n) (.br (K == 0) (.br (W != toInt64 v.k || le (toInt64 c.g.w.n) W) (out v 3 v)
      (.need (Nat.ble (((v.k + 1).mul 7).add v.k) 140737488355327) (.need (Nat.ble (((v.j + 1).mul 7).add v.j) 140737488355327) (out v 0 { v with k := v.k + 1, σ := Val.cat v.k v.σ (Val.ofFlat 1 [I v.i]), j := v.j + 1, τ := Val.cat v.j v.τ (Val.ofFlat 1 [I (-1)]) }))))
    (.br (K == 1) (.br (lt W 0 || le (toInt64 v.k) W) (out v 7 v) (.need (inRange W v.j) (.br (le 0 (vI v.τ W.toNat)) (out v 8 v) (.need (inRange W v.j) (out v 0 { v with τ := v.τ.upds W.toNat 0 [I v.i] })))))
      (out v 3 v)))) (.leaf (.exit 2, v))
theorem t (c : C) (v : V) : ((evCode Tryz.prog H4 (evFn Tryz.prog H4 10) 83 0 2 (loopBody Tryz.prog 83 1) (S c v)).bind fun y => gcT [1, 2, 3, 4, 46, 47, 48] 0 y) = (TX c v).bind fun y => .leaf (y.1, S c y.2) := by kernel_rfl
def er (c : C) (i : Nat) : Int := evE c.g.w.n c.l.ρ i (evS c.l.ρ i)
def st (c : C) (i : Nat) : V := ⟨0, i, (evS c.l.ρ i).k, (evS c.l.ρ i).σ, (evS c.l.ρ i).k, (evS c.l.ρ i).τ⟩
def sb (c : C) (i : Nat) : V := { st c i with e := er c i }
def nn (c : C) : Nat := c.l.n
def bad (c : C) (i : Nat) : Bool := er c i != 0
def good (c : C) : Prop := c.m = toInt64 c.l.n ∧ c.l.n ≤ 1000
def μ (c : C) (v : V) : Nat := (c.l.n - v.i).toNat
theorem sq (c : C) (h : good c) : Sq (TX c) (μ c) (st c) (sb c) (nn c) (bad c) .ret (.exit 2) := by
  obtain ⟨h0, g, l, m⟩ := c
  obtain ⟨hm, hn⟩ := h
  have hm : m = toInt64 l.n := hm
  subst hm
  have hn : l.n ≤ 1000 := hn
  refine sqF (sn := fun i => { st ⟨h0, g, l, toInt64 l.n⟩ (i + 1) with i := w64 ((i : Int) + 1) }) (by simp) (by simp) (fun i hi => by show ((l.n : Int) - (i : Int)).toNat = l.n - i; omega) (fun i hi => ?_) (fun i hi => by rw [wS (n := l.n) (by unfold fewN; omega) hi]; rfl) rS
  have hi : i < l.n := hi
  have hk := evS_k l.ρ i
  have hb1 : Nat.ble ((((evS l.ρ i).k + 1).mul 7).add (evS l.ρ i).k) 140737488355327 = true := Nat.ble_eq_true_of_le (by show (((evS l.ρ i).k + 1) * 7 + (evS l.ρ i).k) ≤ _; omega)
  have hE : er ⟨h0, g, l, toInt64 l.n⟩ i = evE g.w.n l.ρ i (evS l.ρ i) := rfl
  have hB : bad ⟨h0, g, l, toInt64 l.n⟩ i = (evE g.w.n l.ρ i (evS l.ρ i) != 0) := rfl
  have hS : evS l.ρ (i + 1) = evN l.ρ i (evS l.ρ i) := rfl
  refine ⟨fun _ => ⟨inR hi, fun h1 => ⟨fun h2 => ?_, fun h2 => ⟨hb1, hb1, ?_⟩⟩, fun h1 => ⟨fun h2 => ⟨fun h3 => ?_, fun h3 => ?_⟩, fun h2 => ?_⟩⟩, fun h => ?_⟩
  · have h1 : (vI l.ρ i == 0) = true := h1
    have h2 : (vJ l.ρ i != toInt64 (evS l.ρ i).k || le (toInt64 g.w.n) (vJ l.ρ i)) = true := h2
    have e : evE g.w.n l.ρ i (evS l.ρ i) = 3 := by unfold evE; rw [h1, h2]; rfl
    refine ⟨fun _ => ?_, fun h => (by cases h)⟩
    rw [hB, e]
    show (XE.ret, _) = (XE.ret, sb _ i)
    unfold sb; rw [hE, e]
  · have h1 : (vI l.ρ i == 0) = true := h1
    have h2 : (vJ l.ρ i != toInt64 (evS l.ρ i).k || le (toInt64 g.w.n) (vJ l.ρ i)) = false := h2
    have e : evE g.w.n l.ρ i (evS l.ρ i) = 0 := by unfold evE; rw [h1, h2]; rfl
    refine ⟨fun h => (by cases h), fun _ => ?_⟩
    rw [hB, e]
    show (XE.normal, _) = (XE.normal, _)
    unfold st; rw [hS]; unfold evN; rw [h1]; rfl
  · have h1 : (vI l.ρ i == 0) = false := h1
    have h2 : (vI l.ρ i == 1) = true := h2
    have h3 : (lt (vJ l.ρ i) 0 || le (toInt64 (evS l.ρ i).k) (vJ l.ρ i)) = true := h3
    have e : evE g.w.n l.ρ i (evS l.ρ i) = 7 := by unfold evE; rw [h1, h2, h3]; rfl
    refine ⟨fun _ => ?_, fun h => (by cases h)⟩
    rw [hB, e]
    show (XE.ret, _) = (XE.ret, sb _ i)
    unfold sb; rw [hE, e]
  · have h1 : (vI l.ρ i == 0) = false := h1
    have h2 : (vI l.ρ i == 1) = true := h2
    have h3 : (lt (vJ l.ρ i) 0 || le (toInt64 (evS l.ρ i).k) (vJ l.ρ i)) = false := h3
    refine ⟨inR_of h3, fun h4 => ⟨fun _ => ?_, fun h => (by cases h)⟩, fun h4 => ⟨inR_of h3, fun h => (by cases h), fun _ => ?_⟩⟩
    · have h4 : le 0 (vI (evS l.ρ i).τ (vJ l.ρ i).toNat) = true := h4
      have e : evE g.w.n l.ρ i (evS l.ρ i) = 8 := by unfold evE; rw [h1, h2, h3, h4]; rfl
      rw [hB, e]
      show (XE.ret, _) = (XE.ret, sb _ i)
      unfold sb; rw [hE, e]
    · have h4 : le 0 (vI (evS l.ρ i).τ (vJ l.ρ i).toNat) = false := h4
      have e : evE g.w.n l.ρ i (evS l.ρ i) = 0 := by unfold evE; rw [h1, h2, h3, h4]; rfl
      rw [hB, e]
      show (XE.normal, _) = (XE.normal, _)
      unfold st; rw [hS]; unfold evN; rw [h1]; rfl
  · have h1 : (vI l.ρ i == 0) = false := h1
    have h2 : (vI l.ρ i == 1) = false := h2
    have e : evE g.w.n l.ρ i (evS l.ρ i) = 3 := by unfold evE; rw [h1, h2]; rfl
    refine ⟨fun _ => ?_, fun h => (by cases h)⟩
    rw [hB, e]
    show (XE.ret, _) = (XE.ret, sb _ i)
    unfold sb; rw [hE, e]
  · have h : lt (i : Int) (toInt64 l.n) = false := h
    rw [ltT hi] at h; cases h
def get : List (Nat × AV) → Mem → Option (C × V)
  | [(1, .one (.c (.ptr 0 0))), (2, .one (.c (.ptr 1 0))), (3, .one (.c (.int .i64 v_e))), (4, .one (.c (.ptr 2 0))), (46, .one (.c (.sl [.int .i64, .int .i64] c_l_n c_l_ρ))), (47, .one (.c (.int .i64 c_m))), (48, .one (.c (.int .i64 v_i)))], [some (53, [.sl [.int .i64] c_h_s_n c_h_s_ρ, .sl [.int .i64, .int .i64, .sl [.int .u8, .int .u8, .int .u8, .int .u8, .int .u8, .int .u8, .int .u8, .int .u8]] c_h_w_n c_h_w_ρ, .sl [.int .i64, .int .i64] c_h_e_n c_h_e_ρ]), some (149, [.nils, .nils, .nils, .nils, .nils]), some (149, [.sl [.int .i64] c_g_s_n c_g_s_ρ, .sl [.int .i64, .int .i64, .sl [.int .u8, .int .u8, .int .u8, .int .u8, .int .u8, .int .u8, .int .u8, .int .u8]] c_g_w_n c_g_w_ρ, .sl [.int .i64, .int .i64] c_g_e_n c_g_e_ρ, .os 3 1, .os 4 1]), some (3, [.row false [.int .i64] v_k v_σ]), some (3, [.row false [.int .i64] v_j v_τ])] =>
    some (⟨⟨⟨c_h_s_n, c_h_s_ρ⟩, ⟨c_h_w_n, c_h_w_ρ⟩, ⟨c_h_e_n, c_h_e_ρ⟩⟩, ⟨⟨c_g_s_n, c_g_s_ρ⟩, ⟨c_g_w_n, c_g_w_ρ⟩, ⟨c_g_e_n, c_g_e_ρ⟩⟩, ⟨c_l_n, c_l_ρ⟩, c_m⟩, ⟨v_e, v_i, v_k, v_σ, v_j, v_τ⟩)
  | _, _ => none
noncomputable def L : Nat → St → Tree (XE × St) := ownH [.ownM 2 3 3 inSh, .ownM 2 4 3 inSh] (lqH [1, 2, 3, 4, 46, 47, 48] 0 71 get fun c v => lqT (S c) (good c ∧ v = st c 0) (anyB (bad c) (nn c)) .ret (.exit 2) (sb c (firstB (bad c) (nn c))) (st c (nn c)))
theorem ok (fn : Func) (c b : Code) (hf : Tryz.prog.funcs[83]? = some fn) (hc : fn.body = some c) (hb : nthLoop c 1 = some b) : LoopOk Tryz.prog b L :=
  ownH_ok [.ownM 2 3 3 inSh, .ownM 2 4 3 inSh] (lq_ok h4 10 83 1 hf hc hb [1, 2, 3, 4, 46, 47, 48] 0 71 S TX t get (fun l m c v h => by unfold get at h; split at h <;> simp at h; obtain ⟨rfl, rfl⟩ := h; rfl)
    good μ st sb nn bad .ret (.exit 2) sq (fun c => (sb c (firstB (bad c) (nn c)))) (fun c => (st c (nn c))) (fun _ _ _ => StWk.refl) (fun _ _ _ => StWk.refl))
end Ff
noncomputable abbrev H5 : Hd := ⟨H4.pc, H4.hc, [((83, 0), Fe.L), ((83, 1), Ff.L)], []⟩
theorem h5 : HdOk Tryz.prog H5 := HdOk.lhCons (HdOk.lhCons h4 Ff.ok) Fe.ok
def wE (h : Hi) (i : Nat) : Int := wrE h.s.n (vI h.s.ρ) h.w.ρ i
def eE (h : Hi) (i : Nat) : Int := evE h.w.n h.e.ρ i (evS h.e.ρ i)
def wB (h : Hi) (i : Nat) : Bool := wE h i != 0
def eB (h : Hi) (i : Nat) : Bool := eE h i != 0
def hisE (h : Hi) : Int :=
  bif szE h.s != 0 then szE h.s else bif lt 4096 (toInt64 h.w.n) then 6 else bif anyB (wB h) h.w.n then wE h (firstB (wB h) h.w.n)
  else bif anyB (eB h) h.e.n then eE h (firstB (eB h) h.e.n) else bif lt (toInt64 (evS h.e.ρ h.e.n).k) (toInt64 h.w.n) then 3 else 0
def fewH (h : Hi) : Prop := fewN h.s.n ∧ fewN h.w.n ∧ h.e.n ≤ 1000
theorem fit_congr {n : Nat} {len len' : Nat → Int} (h : ∀ i, i < n → len i = len' i) (v s : Int) (m : Nat) : fitE n len v s m = fitE n len' v s m := by
  unfold fitE
  cases h1 : lt v 0 || le (toInt64 n) v
  · rw [Bool.or_eq_false_iff, ← Bool.not_eq_true, ← Bool.not_eq_true, lt_iff, le_iff] at h1
    have h2 : ¬ (n : Int) ≤ v := h1.2
    rw [h v.toNat (by omega)]
  · rfl
theorem im_len {ρ : Val} {n i : Nat} (hi : i < n) (hb : bsz ρ i = false) : toInt64 (vL (Fc.im ρ n) 0 i) = vI ρ i := by
  unfold bsz at hb
  rw [Bool.or_eq_false_iff, ← Bool.not_eq_true, ← Bool.not_eq_true, lt_iff, lt_iff] at hb
  unfold vL
  rw [Fc.im_at ρ n i hi]
  show (((vI ρ i).toNat : Nat) : Int) = vI ρ i
  omega
section
variable {h : Hi} (h0 : szE h.s = 0)
include h0
theorem im_sz : szE ⟨newN h.s, Fd.ln (Fc.im h.s.ρ h.s.n) (newN h.s)⟩ = 0 ∧ newN h.s = h.s.n := by
  have hn : newN h.s = h.s.n := by unfold newN; rw [h0]; rfl
  obtain ⟨a, b, c⟩ := szE_few (n := h.s.n) (ρ := h.s.ρ) h0
  refine ⟨?_, hn⟩
  rw [hn]
  unfold szE
  have e1 : (lt (toInt64 h.s.n) 1 || lt 8 (toInt64 h.s.n)) = false := by
    rw [Bool.or_eq_false_iff, ← Bool.not_eq_true, ← Bool.not_eq_true, lt_iff, lt_iff]
    exact ⟨by show ¬ (h.s.n : Int) < 1; omega, by show ¬ (8 : Int) < (h.s.n : Int); omega⟩
  have e2 : anyB (bsz (Fd.ln (Fc.im h.s.ρ h.s.n) h.s.n)) h.s.n = false := anyB_none fun i hi => by
    have := c i hi
    unfold bsz at this ⊢
    rw [Fd.ln_at _ _ _ hi, im_len hi (c i hi)]
    exact this
  simp only [e1, e2]
  rfl
theorem wE_eq (g : Hi) (m : Int) : Fe.er ⟨g, g, ⟨newN h.s, Fc.im h.s.ρ h.s.n⟩, h.w, m⟩ = wE h := by
  obtain ⟨_, hn⟩ := im_sz h0
  obtain ⟨a, b, c⟩ := szE_few (n := h.s.n) (ρ := h.s.ρ) h0
  funext i
  unfold Fe.er wE wrE Fe.len
  simp only
  rw [hn]
  exact fit_congr (fun j hj => im_len hj (c j hj)) _ _ _
end
def okN (e : Int) (n : Nat) : Nat := bif e == 0 then n else 0
noncomputable def Gck : List A1 → Option (Bool × AV)
  | [.agg [.sl [.int .i64] n ρ, .sl [.int .i64, .int .i64, .sl [.int .u8, .int .u8, .int .u8, .int .u8, .int .u8, .int .u8, .int .u8, .int .u8]] m ω, .sl [.int .i64, .int .i64] q ε]] =>
    let h : Hi := ⟨⟨n, ρ⟩, ⟨m, ω⟩, ⟨q, ε⟩⟩
    some (dec (fewH h), .tup [.agg [.sl inSh (okN (hisE h) n) ρ, .sl wrSh (okN (hisE h) m) ω, .sl evSh (okN (hisE h) q) ε, .sl inSh (okN (hisE h) (evS ε q).k) (evS ε q).σ, .sl inSh (okN (hisE h) (evS ε q).k) (evS ε q).τ], .c (I (hisE h))])
  | _ => none
theorem leC_nils0 {es : List Sh} {ρ : Val} : leC .nils (.sl es 0 ρ) := fun F w v hv => by cases hv; exact .slnil
theorem ck_bad {n m q k : Nat} {ρ ω ε σ τ : Val} {e E : Int} (he : E = e) (h0 : e ≠ 0) : leA (.tup [.agg [.nils, .nils, .nils, .nils, .nils], .c (I e)]) (.tup [.agg [.sl inSh (okN E n) ρ, .sl wrSh (okN E m) ω, .sl evSh (okN E q) ε, .sl inSh (okN E k) σ, .sl inSh (okN E k) τ], .c (I E)]) := by
  subst he
  have : ∀ n, okN E n = 0 := fun n => by
    unfold okN
    have : (E == 0) = false := by rw [beq_eq_false_iff_ne]; exact h0
    rw [this]; rfl
  simp only [this]
  exact leA_tup (.cons (.agg (.cons leC_nils0 (.cons leC_nils0 (.cons leC_nils0 (.cons leC_nils0 (.cons leC_nils0 .nil)))))) (.cons le1.refl .nil))
theorem ck_ok {n m q k : Nat} {ρ ω ε σ τ : Val} {E : Int} (he : E = 0) : leA (.tup [.agg [.sl inSh n ρ, .sl wrSh m ω, .sl evSh q ε, .sl inSh k σ, .sl inSh k τ], .c (I 0)]) (.tup [.agg [.sl inSh (okN E n) ρ, .sl wrSh (okN E m) ω, .sl evSh (okN E q) ε, .sl inSh (okN E k) σ, .sl inSh (okN E k) τ], .c (I E)]) := by
  subst he; exact leA.refl
noncomputable def ckT (h : Hi) : Tree AV :=
  let c : Fe.C := ⟨h, h, ⟨newN h.s, Fc.im h.s.ρ h.s.n⟩, h.w, toInt64 h.w.n⟩
  let d : Ff.C := ⟨h, h, h.e, toInt64 h.e.n⟩
  let Z (e : Int) : AV := .tup [.agg [.nils, .nils, .nils, .nils, .nils], .c (I e)]
  .need (dec (fewN h.s.n)) (.br (szE h.s != 0) (.leaf (Z (szE h.s))) (.br (lt 4096 (toInt64 h.w.n)) (.leaf (Z 6)) (.need (dec (Fe.good c ∧ (⟨0, 0⟩ : Fe.V) = Fe.st c 0)) (.br (anyB (Fe.bad c) (Fe.nn c)) (.leaf (Z (Fe.er c (firstB (Fe.bad c) (Fe.nn c)))))
    (.need (dec (Ff.good d ∧ (⟨0, 0, 0, .zero, 0, .zero⟩ : Ff.V) = Ff.st d 0)) (.br (anyB (Ff.bad d) (Ff.nn d)) (.leaf (Z (Ff.er d (firstB (Ff.bad d) (Ff.nn d)))))
      (.br (lt (toInt64 (evS h.e.ρ h.e.n).k) (toInt64 h.w.n)) (.leaf (Z 3)) (.leaf (.tup [.agg [.sl inSh h.s.n h.s.ρ, .sl wrSh h.w.n h.w.ρ, .sl evSh h.e.n h.e.ρ, .sl inSh (evS h.e.ρ h.e.n).k (evS h.e.ρ h.e.n).σ, .sl inSh (evS h.e.ρ h.e.n).k (evS h.e.ρ h.e.n).τ], .c (I 0)])))))))))
theorem t83 (h : Hi) : hcTree Tryz.prog H5 10 83 [.agg [.sl inSh h.s.n h.s.ρ, .sl wrSh h.w.n h.w.ρ, .sl evSh h.e.n h.e.ρ]] = ckT h := by kernel_rfl
theorem first_ne {f : Nat → Int} {n : Nat} (h : anyB (fun i => f i != 0) n = true) : f (firstB (fun i => f i != 0) n) ≠ 0 := by
  have := (firstB_ok h).2.1
  simpa [bne] using this
theorem u83 : UcOne Tryz.prog 83 (nG Gck) := ucOne_of_tree h5 10 83 fun args r hr => by
  unfold Gck at hr; split at hr
  · rename_i n ρ m ω q ε
    obtain ⟨hp, rfl⟩ := Prod.mk.inj (Option.some.inj hr)
    obtain ⟨f1, f2, f3⟩ := dec_iff.1 hp
    have f1 : fewN n := f1
    have f2 : fewN m := f2
    have f3 : q ≤ 1000 := f3
    obtain ⟨h, hh⟩ : ∃ h : Hi, h = ⟨⟨n, ρ⟩, ⟨m, ω⟩, ⟨q, ε⟩⟩ := ⟨_, rfl⟩
    refine ⟨ckT ⟨⟨n, ρ⟩, ⟨m, ω⟩, ⟨q, ε⟩⟩, t83 ⟨⟨n, ρ⟩, ⟨m, ω⟩, ⟨q, ε⟩⟩, dec_iff.2 f1, fun a1 => ?_, fun a1 => ⟨fun a2 => ?_, fun a2 => ?_⟩⟩
    · refine ck_bad ?_ (by simpa [bne] using a1)
      unfold hisE; rw [a1]; rfl
    · refine ck_bad ?_ (by omega)
      unfold hisE; rw [a1, a2]; rfl
    · have h0 : szE (⟨⟨n, ρ⟩, ⟨m, ω⟩, ⟨q, ε⟩⟩ : Hi).s = 0 := by simpa [bne] using a1
      obtain ⟨z1, z2⟩ := im_sz h0
      obtain ⟨z3, z4, _⟩ := szE_few (n := n) (ρ := ρ) h0
      have ew := wE_eq h0 ⟨⟨n, ρ⟩, ⟨m, ω⟩, ⟨q, ε⟩⟩ (toInt64 m)
      have eb : Fe.bad ⟨⟨⟨n, ρ⟩, ⟨m, ω⟩, ⟨q, ε⟩⟩, ⟨⟨n, ρ⟩, ⟨m, ω⟩, ⟨q, ε⟩⟩, ⟨newN ⟨n, ρ⟩, Fc.im ρ n⟩, ⟨m, ω⟩, toInt64 m⟩ = wB ⟨⟨n, ρ⟩, ⟨m, ω⟩, ⟨q, ε⟩⟩ := funext fun i => by
        unfold Fe.bad wB
        exact congrArg (fun f => f i != 0) ew
      refine ⟨dec_iff.2 ⟨⟨rfl, f2, ?_, z1⟩, rfl⟩, fun a3 => ?_, fun a3 => ⟨dec_iff.2 ⟨⟨rfl, f3⟩, rfl⟩, fun a4 => ?_, fun a4 => ⟨fun a5 => ?_, fun a5 => ?_⟩⟩⟩
      · show newN ⟨n, ρ⟩ ≤ 1000
        have z2 : newN ⟨n, ρ⟩ = n := z2
        rw [z2]; omega
      · have a3 : anyB (Fe.bad ⟨⟨⟨n, ρ⟩, ⟨m, ω⟩, ⟨q, ε⟩⟩, ⟨⟨n, ρ⟩, ⟨m, ω⟩, ⟨q, ε⟩⟩, ⟨newN ⟨n, ρ⟩, Fc.im ρ n⟩, ⟨m, ω⟩, toInt64 m⟩) m = true := a3
        rw [eb] at a3
        have e : Fe.er ⟨⟨⟨n, ρ⟩, ⟨m, ω⟩, ⟨q, ε⟩⟩, ⟨⟨n, ρ⟩, ⟨m, ω⟩, ⟨q, ε⟩⟩, ⟨newN ⟨n, ρ⟩, Fc.im ρ n⟩, ⟨m, ω⟩, toInt64 m⟩ (firstB (Fe.bad ⟨⟨⟨n, ρ⟩, ⟨m, ω⟩, ⟨q, ε⟩⟩, ⟨⟨n, ρ⟩, ⟨m, ω⟩, ⟨q, ε⟩⟩, ⟨newN ⟨n, ρ⟩, Fc.im ρ n⟩, ⟨m, ω⟩, toInt64 m⟩) m) = wE ⟨⟨n, ρ⟩, ⟨m, ω⟩, ⟨q, ε⟩⟩ (firstB (wB ⟨⟨n, ρ⟩, ⟨m, ω⟩, ⟨q, ε⟩⟩) m) := by
          rw [eb]; exact congrFun ew _
        refine ck_bad ?_ ?_
        · unfold hisE; rw [a1, a2]
          show (bif anyB (wB _) m then _ else _) = _
          rw [a3]; exact e.symm
        · exact fun hz => first_ne a3 (e.symm.trans hz)
      · have a3 : anyB (Fe.bad ⟨⟨⟨n, ρ⟩, ⟨m, ω⟩, ⟨q, ε⟩⟩, ⟨⟨n, ρ⟩, ⟨m, ω⟩, ⟨q, ε⟩⟩, ⟨newN ⟨n, ρ⟩, Fc.im ρ n⟩, ⟨m, ω⟩, toInt64 m⟩) m = false := a3
        rw [eb] at a3
        have a4 : anyB (eB ⟨⟨n, ρ⟩, ⟨m, ω⟩, ⟨q, ε⟩⟩) q = true := a4
        refine ck_bad ?_ ?_
        · unfold hisE; rw [a1, a2]
          show (bif anyB (wB _) m then _ else bif anyB (eB _) q then _ else _) = _
          rw [a3, a4]; rfl
        · exact first_ne a4
      · have a3 : anyB (Fe.bad ⟨⟨⟨n, ρ⟩, ⟨m, ω⟩, ⟨q, ε⟩⟩, ⟨⟨n, ρ⟩, ⟨m, ω⟩, ⟨q, ε⟩⟩, ⟨newN ⟨n, ρ⟩, Fc.im ρ n⟩, ⟨m, ω⟩, toInt64 m⟩) m = false := a3
        rw [eb] at a3
        have a4 : anyB (eB ⟨⟨n, ρ⟩, ⟨m, ω⟩, ⟨q, ε⟩⟩) q = false := a4
        refine ck_bad ?_ (by omega)
        unfold hisE; rw [a1, a2]
        show (bif anyB (wB _) m then _ else bif anyB (eB _) q then _ else _) = _
        rw [a3, a4, a5]; rfl
      · have a3 : anyB (Fe.bad ⟨⟨⟨n, ρ⟩, ⟨m, ω⟩, ⟨q, ε⟩⟩, ⟨⟨n, ρ⟩, ⟨m, ω⟩, ⟨q, ε⟩⟩, ⟨newN ⟨n, ρ⟩, Fc.im ρ n⟩, ⟨m, ω⟩, toInt64 m⟩) m = false := a3
        rw [eb] at a3
        have a4 : anyB (eB ⟨⟨n, ρ⟩, ⟨m, ω⟩, ⟨q, ε⟩⟩) q = false := a4
        refine ck_ok ?_
        unfold hisE; rw [a1, a2]
        show (bif anyB (wB _) m then _ else bif anyB (eB _) q then _ else _) = _
        rw [a3, a4, a5]; rfl
  · cases hr
noncomputable def Ghc : List A1 → Option (Bool × AV)
  | [.agg [.sl [.int .i64] n ρ, .sl [.int .i64, .int .i64, .sl [.int .u8, .int .u8, .int .u8, .int .u8, .int .u8, .int .u8, .int .u8, .int .u8]] m ω, .sl [.int .i64, .int .i64] q ε]] =>
    some (dec (fewH ⟨⟨n, ρ⟩, ⟨m, ω⟩, ⟨q, ε⟩⟩), .one (.c (I (hisE ⟨⟨n, ρ⟩, ⟨m, ω⟩, ⟨q, ε⟩⟩))))
  | _ => none
noncomputable abbrev H6 : Hd := ⟨H4.pc, (83, nG Gck) :: H4.hc, [], []⟩
theorem h6 : HdOk Tryz.prog H6 := h4.ucCons u83
theorem p167 : TcOne Tryz.prog 167 (nG Ghc) := tcOne_of_tree h6 10 167 fun args r hr => by
  unfold Ghc at hr; split at hr
  · rename_i n ρ m ω q ε
    obtain ⟨hp, rfl⟩ := Prod.mk.inj (Option.some.inj hr)
    exact ⟨rfl, .need (dec (fewH ⟨⟨n, ρ⟩, ⟨m, ω⟩, ⟨q, ε⟩⟩)) (.leaf (.one (.c (I (hisE ⟨⟨n, ρ⟩, ⟨m, ω⟩, ⟨q, ε⟩⟩))))), by kernel_rfl, hp, rfl⟩
  · cases hr
end Hs
end Go.Proofs.YtennlgngdjegoaaGreat
