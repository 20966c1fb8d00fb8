/-
  The planned change of the primary: there is never more than one primary; and it comes to an end.
-/
import Derived.Test.YtbliboojdlkpfaaSwB
namespace Go.Proofs.Ytbliboojdlkpfaa
open Go Go.Sx Go.RowKit Classical

set_option maxRecDepth 100000

/-! ### Exclusive -/

structure C7 where
  a : Int
  b : Int
  n : Nat
  ε : Val
def S7 (c : C7) (v : Int) : St := mkS 61 [(0, .one (.c (.int .u8 c.a))), (1, .one (.c (.int .u8 c.b))), (2, .one (.c (.sl evSh c.n c.ε))), (6, .one (.c (.bool false))), (7, .one (.c (I v)))] []
noncomputable def TX7 (c : C7) (v : Int) : Tree (XE × Int) :=
  let R := runS c.a c.b v.toNat c.ε true
  let A := R.L.at 0
  let B := R.L.at 1
  let d := ckE R.L != 0
  .br (le v (toInt64 c.n) && le v 30) (.need (le 0 v && le v (toInt64 c.n)) (.need (dec (v.toNat ≤ 900 ∧ byt c.a ∧ byt c.b)) (.br (!R.ri || toInt64 R.L.n != 2) (.leaf (.ret, v))
    (.need (dec (fewS R.L)) (.need (!(d == false && true) || inRange 0 R.L.n) (.need (!((A.r == 1) == true && (d == false && true)) || inRange 1 R.L.n) (.br (d || (A.r == 1 && B.r == 1)) (.leaf (.ret, v)) (.leaf (.normal, IntKind.i64.wrap (v + 1)))))))))) (.leaf (.exit 0, v))
theorem t7 (c : C7) (v : Int) : ((evCode Try.prog HX (evFn Try.prog HX 10) 7 0 1 (loopBody Try.prog 7 0) (S7 c v)).bind fun y => gcT [0, 1, 2, 6, 7] 0 y) = (TX7 c v).bind fun y => .leaf (y.1, S7 c y.2) := by kernel_rfl

def min31 (n : Nat) : Nat := if n ≤ 30 then n + 1 else 31
def good7 (c : C7) : Prop := byt c.a ∧ byt c.b

theorem Good.one {s : Stt} {k : Nat} (h : Good s k) : ((s.L.at 0).r == 1 && (s.L.at 1).r == 1) = false := by
  rcases h.ph with g | g | g
  · obtain ⟨b, hb, hL⟩ := g.L
    rw [hL.A.r, hL.B.r]; rfl
  · rw [g.L.A.r, g.L.B.r]; rfl
  · rw [g.L.A.r, g.L.B.r]; rfl

theorem sq7 (c : C7) (h : good7 c) : Sq (TX7 c) (fun v => (min31 c.n - v).toNat) (fun i => (i : Int)) (fun i => (i : Int)) (min31 c.n) (fun _ => false) .ret (.exit 0) where
  out := by simp
  hit := by simp
  meas i hi := by show ((min31 c.n : Int) - (i : Int)).toNat = _; omega
  round i hi := by
    have hi1 : i ≤ c.n ∧ i ≤ 30 := by unfold min31 at hi; split at hi <;> omega
    have hg := run_good h.1 h.2 (show i ≤ 1000 by omega) c.ε true
    have hw : IntKind.i64.wrap ((i : Int) + 1) = ((i + 1 : Nat) : Int) := by rw [w64_id (by omega) (by omega)]; omega
    have l1 : le (i : Int) (toInt64 c.n) = true := (le_iff _ _).2 (show (i : Int) ≤ (c.n : Int) by omega)
    have l2 : le (i : Int) 30 = true := (le_iff _ _).2 (by omega)
    have l3 : le 0 (i : Int) = true := (le_iff _ _).2 (by omega)
    have hn := hg.n2 (by omega)
    have i0 : inRange 0 (runS c.a c.b i c.ε true).L.n = true := by rw [hn]; rfl
    have i1 : inRange 1 (runS c.a c.b i c.ε true).L.n = true := by rw [hn]; rfl
    have hck := hg.ck (by omega)
    refine ⟨fun _ => ⟨by rw [l3, l1]; rfl, dec_iff.2 ⟨by show i ≤ 900; omega, h.1, h.2⟩, fun hb => ?_, fun _ => ⟨dec_iff.2 (small_fewS (hg.sml (by omega))), ?_, ?_, fun hb => ?_, fun _ => ?_⟩⟩, fun hlt => ?_⟩
    · have hb : (!(runS c.a c.b i c.ε true).ri || toInt64 (runS c.a c.b i c.ε true).L.n != 2) = true := hb
      rw [hg.ri, hn] at hb; cases hb
    · show (_ || inRange 0 (runS c.a c.b i c.ε true).L.n) = true
      rw [i0, Bool.or_true]
    · show (_ || inRange 1 (runS c.a c.b i c.ε true).L.n) = true
      rw [i1, Bool.or_true]
    · have hb : (ckE (runS c.a c.b i c.ε true).L != 0 || (((runS c.a c.b i c.ε true).L.at 0).r == 1 && ((runS c.a c.b i c.ε true).L.at 1).r == 1)) = true := hb
      rw [hck, hg.one] at hb; cases hb
    · show (XE.normal, IntKind.i64.wrap ((i : Int) + 1)) = (.normal, ((i + 1 : Nat) : Int))
      rw [hw]
    · rw [l1, l2] at hlt; cases hlt
  stop := by
    refine ⟨fun hlt => ?_, fun _ => rfl⟩
    rw [Bool.and_eq_true, le_iff, le_iff] at hlt
    have h1 : (min31 c.n : Int) ≤ (c.n : Int) := hlt.1
    have h2 := hlt.2
    unfold min31 at h1 h2
    split at h1 <;> split at h2 <;> omega
def get7 : List (Nat × AV) → Mem → Option (C7 × Int)
  | [(0, .one (.c (.int .u8 a))), (1, .one (.c (.int .u8 b))), (2, .one (.c (.sl [.int .u8, .int .i64] n ε))), (6, .one (.c (.bool false))), (7, .one (.c (.int .i64 i)))], [] => some (⟨a, b, n, ε⟩, i)
  | _, _ => none
noncomputable def L7 : Nat → St → Tree (XE × St) := lqH [0, 1, 2, 6, 7] 0 61 get7 fun c v => lq1 (S7 c) (good7 c ∧ v = ((0 : Nat) : Int)) (.exit 0) (min31 c.n : Int)
theorem l7 (fn : Func) (c b : Code) (hf : Try.prog.funcs[7]? = some fn) (hc : fn.body = some c) (hb : nthLoop c 0 = some b) : LoopOk Try.prog b L7 :=
  lq1_ok hX 10 7 0 hf hc hb [0, 1, 2, 6, 7] 0 61 S7 TX7 t7 get7 (fun l m c v h => by unfold get7 at h; split at h <;> simp at h; obtain ⟨rfl, rfl⟩ := h; rfl)
    good7 (fun c v => (min31 c.n - v).toNat) (fun _ i => (i : Int)) (fun c => min31 c.n) (.exit 0) sq7 (fun c => (min31 c.n : Int)) (fun _ _ => StWk.refl)

theorem h7' : HdOk Try.prog ⟨HX.pc, HX.hc, [((7, 0), L7)], HX.mc⟩ := HdOk.lhCons hX l7

theorem law7 (a b : Int) (ha : byt a) (hb : byt b) (n : Nat) (ε : Val) {F : Nat → Prop} {W : World} {vs : List Value} (h : All2 (A1.Rel F W []) [.c (.int .u8 a), .c (.int .u8 b), .c (.sl evSh n ε)] vs) :
    Calls Try.prog 7 vs.toArray W (fun e W' => e = .returned (.bool true) ∧ Below W.heap.size W W') :=
  law_of_tree h7' 12 7 (u := .need (dec (good7 ⟨a, b, n, ε⟩ ∧ (0 : Int) = ((0 : Nat) : Int))) (.leaf (bT true))) (by kernel_rfl) ⟨dec_iff.2 ⟨⟨ha, hb⟩, rfl⟩, rfl⟩ h

end Go.Proofs.Ytbliboojdlkpfaa
/-
  The planned change of the primary: it comes to an end.
-/
namespace Go.Proofs.Ytbliboojdlkpfaa
open Go Go.Sx Go.RowKit Classical

set_option maxRecDepth 100000

/-! ### the loops -/

/-- some events of one kind -/
def itS (kd : Int) (s : Stt) : Nat → Stt
  | 0 => s
  | i + 1 => stepS (itS kd s i) kd 0

theorem Good.it {s : Stt} {k : Nat} (h : Good s k) (hk : k ≤ 900) (kd : Int) : ∀ i : Nat, i ≤ 20 → Good (itS kd s i) (k + i)
  | 0, _ => h
  | i + 1, hi => (Good.it h hk kd i (by omega)).step (by omega) kd 0

def S10a (_ : Stt) (v : VR) : St := mkS 55 [(7, .one (.c (.ptr 0 0))), (8, .one (.c (I v.i)))] [some (51, v.s.cs)]
def S10b (_ : Stt) (v : VR) : St := mkS 55 [(7, .one (.c (.ptr 0 0))), (9, .one (.c (I v.i)))] [some (51, v.s.cs)]
noncomputable def TX10 (e kd : Int) (x : Nat) (_ : Stt) (v : VR) : Tree (XE × VR) :=
  .br (lt v.i e && v.s.ri) (.need (dec (smallS v.s.L)) (.leaf (.normal, ⟨stepS v.s kd 0, IntKind.i64.wrap (v.i + 1)⟩))) (.leaf (.exit x, v))
theorem t10a (c : Stt) (v : VR) : ((evCode Try.prog HX (evFn Try.prog HX 10) 10 0 1 (loopBody Try.prog 10 0) (S10a c v)).bind fun y => gcT [7, 8] 0 y) = (TX10 6 6 0 c v).bind fun y => .leaf (y.1, S10a c y.2) := by kernel_rfl
theorem t10b (c : Stt) (v : VR) : ((evCode Try.prog HX (evFn Try.prog HX 10) 10 0 2 (loopBody Try.prog 10 1) (S10b c v)).bind fun y => gcT [7, 9] 0 y) = (TX10 6 0 2 c v).bind fun y => .leaf (y.1, S10b c y.2) := by kernel_rfl

def good10 (s : Stt) : Prop := ∃ k : Nat, k ≤ 900 ∧ Good s k
def st10 (kd : Int) (c : Stt) (i : Nat) : VR := ⟨itS kd c i, i⟩
theorem sq10 (kd : Int) (x : Nat) (c : Stt) (h : good10 c) : Sq (TX10 6 kd x c) (fun v => (6 - v.i).toNat) (st10 kd c) (st10 kd c) 6 (fun _ => false) .ret (.exit x) where
  out := by simp
  hit := by simp
  meas i hi := by show ((6 : Int) - (i : Int)).toNat = _; omega
  round i hi := by
    obtain ⟨k, hk, hg⟩ := h
    have hgi := hg.it hk kd i (by omega)
    have hw : IntKind.i64.wrap ((i : Int) + 1) = ((i + 1 : Nat) : Int) := by rw [w64_id (by omega) (by omega)]; omega
    refine ⟨fun _ => ⟨dec_iff.2 (hgi.sml (by omega)), ?_⟩, fun hlt => ?_⟩
    · show (XE.normal, (⟨stepS (itS kd c i) kd 0, IntKind.i64.wrap ((i : Int) + 1)⟩ : VR)) = (.normal, st10 kd c (i + 1))
      rw [hw]; rfl
    · have : (lt (i : Int) 6 && (itS kd c i).ri) = false := hlt
      rw [(lt_iff _ _).2 (show (i : Int) < 6 by omega), hgi.ri] at this; cases this
  stop := by
    refine ⟨fun hlt => ?_, fun _ => rfl⟩
    have : (lt ((6 : Nat) : Int) 6 && (itS kd c 6).ri) = true := hlt
    cases this

def get10a : List (Nat × AV) → Mem → Option (Stt × VR)
  | [(7, .one (.c (.ptr 0 0))), (8, .one (.c (.int .i64 i)))],
    [some (51, [.int .i64 k, .int .i64 f, .int .i64 t, .int .i64 s, .int .i64 e, .int .i64 c, .bool d, .bool x, .sl [.int .i64, .int .i64, .int .i64, .int .i64, .sl [.int .i64, .int .i64, .int .i64], .int .i64, .bool, .bool] ln lρ, .int .i64 cy, .sl [.int .i64, .int .i64, .int .i64, .int .i64, .sl [.int .i64, .int .i64, .int .i64], .int .i64, .bool, .bool] on oρ, .bool cl, .bool ri])] =>
    some (⟨⟨k, f, t, s, e, c, d, x⟩, ⟨ln, lρ⟩, cy, ⟨on, oρ⟩, cl, ri⟩, ⟨⟨⟨k, f, t, s, e, c, d, x⟩, ⟨ln, lρ⟩, cy, ⟨on, oρ⟩, cl, ri⟩, i⟩)
  | _, _ => none
def get10b : List (Nat × AV) → Mem → Option (Stt × VR)
  | [(7, .one (.c (.ptr 0 0))), (9, .one (.c (.int .i64 i)))],
    [some (51, [.int .i64 k, .int .i64 f, .int .i64 t, .int .i64 s, .int .i64 e, .int .i64 c, .bool d, .bool x, .sl [.int .i64, .int .i64, .int .i64, .int .i64, .sl [.int .i64, .int .i64, .int .i64], .int .i64, .bool, .bool] ln lρ, .int .i64 cy, .sl [.int .i64, .int .i64, .int .i64, .int .i64, .sl [.int .i64, .int .i64, .int .i64], .int .i64, .bool, .bool] on oρ, .bool cl, .bool ri])] =>
    some (⟨⟨k, f, t, s, e, c, d, x⟩, ⟨ln, lρ⟩, cy, ⟨on, oρ⟩, cl, ri⟩, ⟨⟨⟨k, f, t, s, e, c, d, x⟩, ⟨ln, lρ⟩, cy, ⟨on, oρ⟩, cl, ri⟩, i⟩)
  | _, _ => none
noncomputable def L10a : Nat → St → Tree (XE × St) := lqH [7, 8] 0 55 get10a fun c v => lq1 (S10a c) (good10 c ∧ v = st10 6 c 0) (.exit 0) (st10 6 c 6)
noncomputable def L10b : Nat → St → Tree (XE × St) := lqH [7, 9] 0 55 get10b fun c v => lq1 (S10b c) (good10 c ∧ v = st10 0 c 0) (.exit 2) (st10 0 c 6)
theorem l10a (fn : Func) (c b : Code) (hf : Try.prog.funcs[10]? = some fn) (hc : fn.body = some c) (hb : nthLoop c 0 = some b) : LoopOk Try.prog b L10a :=
  lq1_ok hX 10 10 0 hf hc hb [7, 8] 0 55 S10a (TX10 6 6 0) t10a get10a (fun l m c v h => by unfold get10a at h; split at h <;> simp at h; obtain ⟨rfl, rfl⟩ := h; rfl)
    good10 (fun _ v => (6 - v.i).toNat) (st10 6) (fun _ => 6) (.exit 0) (sq10 6 0) (fun c => st10 6 c 6) (fun _ _ => StWk.refl)
theorem l10b (fn : Func) (c b : Code) (hf : Try.prog.funcs[10]? = some fn) (hc : fn.body = some c) (hb : nthLoop c 1 = some b) : LoopOk Try.prog b L10b :=
  lq1_ok hX 10 10 1 hf hc hb [7, 9] 0 55 S10b (TX10 6 0 2) t10b get10b (fun l m c v h => by unfold get10b at h; split at h <;> simp at h; obtain ⟨rfl, rfl⟩ := h; rfl)
    good10 (fun _ v => (6 - v.i).toNat) (st10 0) (fun _ => 6) (.exit 2) (sq10 0 2) (fun c => st10 0 c 6) (fun _ _ => StWk.refl)
theorem h10' : HdOk Try.prog ⟨HX.pc, HX.hc, [((10, 0), L10a), ((10, 1), L10b)], HX.mc⟩ := (HdOk.lhCons hX l10b).lhCons l10a

/-! ### nothing is closed any more -/

theorem stepS_cl (s : Stt) (kd v : Int) (h : s.cl = false) : (stepS s kd v).cl = false ∧ (stepS s kd v).cy = s.cy := by
  unfold stepS
  cases toInt64 s.L.n != 2
  · cases kd.tmod 9 == 8
    · cases kd.tmod 9 == 6
      · cases kd.tmod 9 == 7
        · show (evD s _ _).cl = false ∧ (evD s _ _).cy = s.cy
          unfold evD
          cases stpE s.P s.L (kd.tmod 9 != 4) (bif kd.tmod 9 == 5 then v else s.val) == 0 <;> exact ⟨h, rfl⟩
        · show (evC s).cl = false ∧ (evC s).cy = s.cy
          unfold evC
          cases abtE s.P s.L == 0 <;> exact ⟨h, rfl⟩
      · simp only [cond_true, cond_false]
        cases ((lt s.B.p s.cy && s.B.r == 2) && s.A.r == 1) <;> exact ⟨h, rfl⟩
    · simp only [cond_true, cond_false]
      rw [h, Bool.and_false]
      exact ⟨h, rfl⟩
  · exact ⟨h, rfl⟩

theorem fold_cl (s : Stt) (ε : Val) (h : s.cl = false) : ∀ i : Nat, (foldS s ε i).cl = false ∧ (foldS s ε i).cy = s.cy
  | 0 => ⟨h, rfl⟩
  | i + 1 => by
    obtain ⟨h1, h2⟩ := fold_cl s ε h i
    obtain ⟨h3, h4⟩ := stepS_cl (foldS s ε i) (ekd ε i) (evl ε i) h1
    exact ⟨h3, h4.trans h2⟩

/-- the secondary has come so far -/
structure Up (s : Stt) (k : Nat) (m : Int) : Prop where
  g : Good s k
  cl : s.cl = false
  b : PhA s → ∃ b, TwoOk s.L 1 1 s.cy (-1) 2 1 b 0 ∧ b ≤ s.cy ∧ (m ≤ b ∨ b = s.cy)

theorem step6 {s : Stt} {k : Nat} {m : Int} (h : Up s k m) (hk : k ≤ 1000) : Up (stepS s 6 0) (k + 1) (m + 1) := by
  refine ⟨h.g.step hk 6 0, (stepS_cl s 6 0 h.cl).1, fun hA => ?_⟩
  have hn : (toInt64 s.L.n != 2) = false := by rw [h.g.n2 hk]; rfl
  have e : stepS s 6 0 = bif (lt s.B.p s.cy && s.B.r == 2) && s.A.r == 1 then evB s else s := by
    unfold stepS
    rw [hn]; rfl
  rw [e] at hA ⊢
  rcases h.g.ph with g | g | g
  · obtain ⟨b, hT, hb, hm⟩ := h.b g
    have h1 : s.B.r = 2 := hT.B.r
    have h2 : s.A.r = 1 := hT.A.r
    have h3 : s.B.p = b := hT.B.p
    rw [h1, h2, h3] at hA ⊢
    cases hlt : lt b s.cy
    · rw [← Bool.not_eq_true, lt_iff] at hlt
      exact ⟨b, hT, hb, .inr (show b = s.cy by omega)⟩
    · have hlt' := (lt_iff _ _).1 hlt
      obtain ⟨_, hcy, _, _, hB⟩ := h.g.evB hk g (by rw [h3]; exact hlt)
      refine ⟨b + 1, ?_, ?_, ?_⟩
      · show TwoOk (evB s).L 1 1 (evB s).cy (-1) 2 1 (b + 1) 0
        rw [hcy]; exact hB b hT
      · show b + 1 ≤ (evB s).cy
        rw [hcy]; omega
      · show m + 1 ≤ b + 1 ∨ b + 1 = (evB s).cy
        rw [hcy]; omega
  · have h2 : s.A.r = 2 := g.L.A.r
    have e1 : ((lt s.B.p s.cy && s.B.r == 2) && s.A.r == 1) = false := by rw [h2]; cases (lt s.B.p s.cy && s.B.r == 2) <;> rfl
    rw [e1] at hA
    have hA : PhA s := hA
    have h1 := hA.s0.2
    have h2 := g.s0
    omega
  · have h2 : s.A.r = 2 := g.L.A.r
    have e1 : ((lt s.B.p s.cy && s.B.r == 2) && s.A.r == 1) = false := by rw [h2]; cases (lt s.B.p s.cy && s.B.r == 2) <;> rfl
    rw [e1] at hA
    have hA : PhA s := hA
    have h1 := hA.s0.2
    have h2 := g.s0
    omega

theorem it6 {s : Stt} {k : Nat} {m : Int} (h : Up s k m) (hk : k ≤ 900) : ∀ i : Nat, i ≤ 20 → Up (itS 6 s i) (k + i) (m + i)
  | 0, _ => by
    have e : m + ((0 : Nat) : Int) = m := by omega
    rw [e]; exact h
  | i + 1, hi => by
    have := step6 (it6 h hk i (by omega)) (by omega)
    have e : m + ((i : Nat) : Int) + 1 = m + ((i + 1 : Nat) : Int) := by omega
    rw [e] at this
    exact this

/-! ### the steps succeed -/

/-- the secondary has all -/
structure Rdy (s : Stt) (k : Nat) : Prop where
  g : Good s k
  cl : s.cl = false
  b : PhA s → TwoOk s.L 1 1 s.cy (-1) 2 1 s.cy 0

theorem demo0 {A : Sit} {c e : Int} (h : SitOk A 0 1 1 c (-1)) (hc : 0 ≤ c ∧ c ≤ 1073741824) (he : 2 ≤ e ∧ e ≤ 1073741824) : demoE A e 1 = 0 := by
  unfold demoE
  rw [h.chk (.inl rfl) (.inl ⟨rfl, rfl⟩) (by omega) hc, h.r, h.e, h.a]
  refine chain_all fun q hq => ?_
  simp only [List.mem_cons, List.not_mem_nil, or_false] at hq
  rcases hq with rfl | rfl | rfl | rfl
  · rfl
  · exact (le_iff _ _).2 (by omega)
  · exact (le_iff _ _).2 (by omega)
  · rfl

theorem pro0 {B : Sit} {c e : Int} (h : SitOk B 1 2 1 c 0) (hc : 0 ≤ c ∧ c ≤ 1073741824) (he : 2 ≤ e ∧ e ≤ 1073741824) : proE B e = 0 := by
  unfold proE
  rw [h.chk (.inr rfl) (.inr ⟨rfl, rfl⟩) (by omega) hc, h.r, h.e, h.l]
  refine chain_all fun q hq => ?_
  simp only [List.mem_cons, List.not_mem_nil, or_false] at hq
  rcases hq with rfl | rfl | rfl | rfl
  · rfl
  · cases (((2 : Int) == 0 && toInt64 B.n == 0)) <;> rfl
  · exact (lt_iff _ _).2 (by omega)
  · exact (le_iff _ _).2 (by omega)

theorem step0_eq {s : Stt} {k : Nat} (h : Good s k) (hk : k ≤ 1000) : stepS s 0 0 = evD s true s.val := by
  have hn : (toInt64 s.L.n != 2) = false := by rw [h.n2 hk]; rfl
  unfold stepS
  rw [hn]; rfl

/-- a step that succeeds -/
theorem step0 {s : Stt} {k : Nat} (h : Rdy s k) (hk : k ≤ 1000) (hx : s.P.x = false) (hs : s.P.s ≤ 4) : stpE s.P s.L true s.val = 0 := by
  have hg := h.g
  have hcy := hg.cy
  have hpe := hg.pe
  have hpre := hg.pre hk
  obtain ⟨_, _, _, _, _, _, _, _, hT0, _⟩ := hg.two hk
  have hpf := hg.pf
  have hpt := hg.pt
  unfold stpE
  rw [hpre, hx, hpf, hpt, hT0.by0, hT0.by1]
  rcases hg.ph with g | g | g
  · have hT := h.b g
    rw [g.d]
    show sucE s.P (s.L.at 0) (s.L.at 1) s.val = 0
    have hsz : s.P.s = 0 ∨ s.P.s = 1 ∨ s.P.s = 2 ∨ s.P.s = 3 := by have := g.s0; omega
    unfold sucE Stt.val
    rcases hsz with h0 | h0 | h0 | h0
    · rw [h0]
      show s0E (s.L.at 0) (s.L.at 0).p = 0
      unfold s0E
      rw [hT.A.r]; simp
    · have hc := g.c h.cl (by omega)
      rw [h0]
      show s1E s.P (s.L.at 0) (s.L.at 1) (s.L.at 1).p = 0
      unfold s1E
      have e : eqL ⟨(s.L.at 0).ln, (s.L.at 1).ln⟩ = true := lin_eq hT.A.lin hT.B.lin
      have l1 : le s.cy s.cy = true := (le_iff _ _).2 (by omega)
      have l2 : lt s.cy s.cy = false := by rw [← Bool.not_eq_true, lt_iff]; omega
      rw [hT.B.p, hc, e, l1, l2]; simp
    · rw [h0]
      show s2E (s.L.at 0) (s.L.at 1) 7 = 0
      unfold s2E
      rw [hT.A.e, hT.B.e]; rfl
    · have hc := g.c h.cl (by omega)
      have he := g.e h0
      rw [h0]
      show s3E s.P (s.L.at 0) (s.L.at 1) = 0
      unfold s3E
      rw [hT.A.p, hT.B.p, hc, hpt, demo0 hT.A (by omega) (by omega)]; simp
  · rw [g.d]
    show sucE s.P (s.L.at 0) (s.L.at 1) s.val = 0
    have hT := g.L
    have he := g.e
    unfold sucE
    rw [g.s0]
    show s4E s.P (s.L.at 1) = 0
    unfold s4E
    rw [hT.B.p, g.c, pro0 hT.B (by omega) (by omega)]; simp
  · have := g.s0; omega

theorem rdy0 {s : Stt} {k : Nat} (h : Rdy s k) (hk : k ≤ 1000) : Rdy (stepS s 0 0) (k + 1) ∧ (stepS s 0 0).P.x = s.P.x ∧ (s.P.x = false → (s.P.s ≤ 4 → (stepS s 0 0).P.s = s.P.s + 1) ∧ (s.P.s = 5 → (stepS s 0 0).P.s = 5)) := by
  have hg := h.g
  have hgs := hg.step hk 0 0
  obtain ⟨hcl, hcy⟩ := stepS_cl s 0 0 h.cl
  have e := step0_eq hg hk
  -- nothing happens
  have none : (stpE s.P s.L true s.val == 0) = false → Rdy (stepS s 0 0) (k + 1) ∧ (stepS s 0 0).P = s.P := fun h0 => by
    have e2 : stepS s 0 0 = setO s := by
      rw [e]; unfold evD; rw [h0]; rfl
    refine ⟨⟨hgs, hcl, fun hA => ?_⟩, by rw [e2]; rfl⟩
    rw [e2] at hA ⊢
    exact h.b ⟨hA.d, hA.s0, hA.e, hA.L, hA.c⟩
  cases hx : s.P.x
  · by_cases h5 : s.P.s ≤ 4
    · have h0 := step0 h hk hx h5
      have hd := hg.done hk h0
      have e2 : stepS s 0 0 = { s with P := stpP s.P s.L true s.val, L := stpL s.P s.L true s.val, O := bif s.P.s == 3 then s.L else s.O } := by
        rw [e]; unfold evD; rw [h0]; rfl
      rw [← e2] at hd
      have hval : s.P.s = 1 → s.val = s.B.p := fun h1 => by unfold Stt.val; rw [h1]; rfl
      rcases hd.step with ⟨h1, h2, h3⟩ | ⟨h1, h2, h3, h4⟩ | ⟨h1, h2, h3, h4⟩ | ⟨h1, h2, h3, h4⟩ | ⟨h1, h2, h3, h4⟩ | ⟨h1, h4⟩
      · rw [h3] at hgs hcl hcy ⊢
        refine ⟨⟨hgs, hcl, fun hA => ?_⟩, hx, fun _ => ⟨fun _ => by rw [h1]; rfl, fun h => by omega⟩⟩
        rcases hg.ph with g | g | g
        · exact h.b g
        · have := g.s0; omega
        · have := g.s0; omega
      · exfalso
        rcases hg.ph with g | g | g
        · have hc := g.c h.cl (by omega)
          have := (h.b g).B.p
          have hBp : s.B.p = s.cy := this
          omega
        · have := g.s0; omega
        · have := g.s0; omega
      · rw [h4] at hgs hcl hcy ⊢
        refine ⟨⟨hgs, hcl, fun hA => ?_⟩, hx, fun _ => ⟨fun _ => by rw [h1]; rfl, fun h => by omega⟩⟩
        rcases hg.ph with g | g | g
        · exact h.b g
        · have := g.s0; omega
        · have := g.s0; omega
      · rw [h4] at hgs hcl hcy ⊢
        refine ⟨⟨hgs, hcl, fun hA => ?_⟩, hx, fun _ => ⟨fun _ => by rw [h1]; rfl, fun h => by omega⟩⟩
        rcases hg.ph with g | g | g
        · exact h.b g
        · have := g.s0; omega
        · have := g.s0; omega
      · rw [h4] at hgs hcl hcy ⊢
        refine ⟨⟨hgs, hcl, fun hA => ?_⟩, hx, fun _ => ⟨fun _ => by rw [h1]; rfl, fun h => by omega⟩⟩
        have := hA.s0.2
        simp at this
      · rw [h4] at hgs hcl hcy ⊢
        refine ⟨⟨hgs, hcl, fun hA => ?_⟩, hx, fun _ => ⟨fun _ => by rw [h1]; rfl, fun h => by omega⟩⟩
        have := hA.s0.2
        simp at this
    · have h55 : s.P.s = 5 := by
        have := fmd_step (hg.fmd hk); omega
      have h0 : (stpE s.P s.L true s.val == 0) = false := by
        have hd := fmd_done (hg.fmd hk) h55
        unfold stpE
        rw [hg.pre hk, hd]; rfl
      obtain ⟨r, hP⟩ := none h0
      rw [hP]
      exact ⟨r, hx, fun _ => ⟨fun h => (h5 h).elim, fun _ => h55⟩⟩
  · have h0 : (stpE s.P s.L true s.val == 0) = false := by
      unfold stpE
      rw [hg.pre hk, hx]
      cases s.P.d <;> rfl
    obtain ⟨r, hP⟩ := none h0
    rw [hP]
    exact ⟨r, hx, fun h => by cases h⟩

theorem it0 {s : Stt} {k : Nat} (h : Rdy s k) (hk : k ≤ 900) : ∀ i : Nat, i ≤ 20 → Rdy (itS 0 s i) (k + i) ∧ (itS 0 s i).P.x = s.P.x ∧ (s.P.x = false → (i : Int) ≤ (itS 0 s i).P.s ∨ (itS 0 s i).P.s = 5)
  | 0, _ => ⟨h, rfl, fun _ => .inl (by
      have := fmd_step (h.g.fmd (by omega))
      show ((0 : Nat) : Int) ≤ s.P.s
      omega)⟩
  | i + 1, hi => by
    obtain ⟨h1, h2, h3⟩ := it0 h hk i (by omega)
    obtain ⟨r1, r2, r3⟩ := rdy0 h1 (by omega)
    refine ⟨r1, r2.trans h2, fun hx => ?_⟩
    obtain ⟨r4, r5⟩ := r3 (h2.trans hx)
    show ((i + 1 : Nat) : Int) ≤ (stepS (itS 0 s i) 0 0).P.s ∨ (stepS (itS 0 s i) 0 0).P.s = 5
    have hr := fmd_step (h1.g.fmd (by omega))
    rcases h3 hx with h | h
    · by_cases h4 : (itS 0 s i).P.s ≤ 4
      · rw [r4 h4]; left; omega
      · right; exact r5 (by omega)
    · right; exact r5 h

theorem rdy_of {s : Stt} {k : Nat} (h : Up s k 6) (hc : s.cy ≤ 5) : Rdy s k := ⟨h.g, h.cl, fun g => by
  obtain ⟨b, hT, hb, hm⟩ := h.b g
  have : b = s.cy := by
    rcases hm with h | h
    · omega
    · exact h
  subst this
  exact hT⟩

theorem done_of {s t : Stt} {k : Nat} (h1 : Good t k) (hk : k ≤ 1000) (h2 : t.P.x = s.P.x) (h3 : s.P.x = false → 6 ≤ t.P.s ∨ t.P.s = 5) : (t.P.d == !t.P.x) = true := by
  cases hx : s.P.x
  · have h5 : t.P.s = 5 := by
      have := fmd_step (h1.fmd hk)
      rcases h3 hx with h | h
      · omega
      · exact h
    rw [h2, hx, fmd_done (h1.fmd hk) h5]; rfl
  · have h2 : t.P.x = true := h2.trans hx
    rcases h1.ph with g | g | g
    · rw [h2, g.d]; rfl
    · have := g.x; rw [h2] at this; cases this
    · have := g.x; rw [h2] at this; cases this

theorem ends2 {s : Stt} {k : Nat} (h : Rdy s k) (hk : k ≤ 900) : Good (itS 0 s 6) (k + 6) ∧ ((itS 0 s 6).P.d == !(itS 0 s 6).P.x) = true := by
  obtain ⟨h1, h2, h3⟩ := it0 h hk 6 (by omega)
  exact ⟨h1.g, done_of h1.g (by omega) h2 h3⟩

theorem it_cy {s : Stt} (h : s.cl = false) : ∀ i : Nat, (itS 6 s i).cl = false ∧ (itS 6 s i).cy = s.cy
  | 0 => ⟨h, rfl⟩
  | i + 1 => by
    obtain ⟨h1, h2⟩ := it_cy h i
    obtain ⟨h3, h4⟩ := stepS_cl (itS 6 s i) 6 0 h1
    exact ⟨h3, h4.trans h2⟩

theorem ends1 {s : Stt} {k : Nat} (h : Good s k) (hk : k ≤ 800) (hcl : s.cl = false) (hcy : s.cy ≤ 5) : Rdy (itS 6 s 6) (k + 6) := by
  have hu : Up s k 0 := ⟨h, hcl, fun g => by
    obtain ⟨b, hb, hL⟩ := g.L
    exact ⟨b, hL, hb.2, .inl hb.1⟩⟩
  exact rdy_of (it6 hu (by omega) 6 (by omega)) (Int.le_trans (Int.le_of_eq (it_cy hcl 6).2) hcy)

theorem ends {a b : Int} (ha : byt a) (hb : byt b) {n : Nat} (hn : n ≤ 800) (ε : Val) : Good (itS 0 (itS 6 (runS a b n ε false) 6) 6) (n + 6 + 6) ∧
    ((itS 0 (itS 6 (runS a b n ε false) 6) 6).P.d == !(itS 0 (itS 6 (runS a b n ε false) 6) 6).P.x) = true := by
  have hg := run_good ha hb (show n ≤ 1000 by omega) ε false
  have hf := fold_cl (ini (nC a) (mC a b) false) ε rfl n
  exact ends2 (ends1 hg hn hf.1 (Int.le_trans (Int.le_of_eq hf.2) (nC_ok ha).2.1)) (by omega)

noncomputable def tE (s u t : Stt) : Tree AV :=
  .need (dec (good10 s ∧ (⟨s, 0⟩ : VR) = st10 6 s 0)) (.need (dec (good10 u ∧ (⟨u, 0⟩ : VR) = st10 0 u 0)) (.leaf (bT (t.ri && (t.P.d == !t.P.x)))))
theorem tE_all {s u t : Stt} (h1 : good10 s) (h2 : good10 u) (h3 : t.ri = true) (h4 : (t.P.d == !t.P.x) = true) : (tE s u t).All (fun z => z = .one (.c (.bool true))) := by
  refine ⟨dec_iff.2 ⟨h1, rfl⟩, dec_iff.2 ⟨h2, rfl⟩, ?_⟩
  show bT _ = _
  rw [h3, h4]; rfl

theorem ends_good {a b : Int} (ha : byt a) (hb : byt b) {n : Nat} (hn : n ≤ 800) (ε : Val) : good10 (runS a b n ε false) ∧ good10 (itS 6 (runS a b n ε false) 6) := by
  have hg := run_good ha hb (show n ≤ 1000 by omega) ε false
  exact ⟨⟨n, by omega, hg⟩, ⟨n + 6, by omega, hg.it (by omega) 6 6 (by omega)⟩⟩

theorem law10 (a b : Int) (ha : byt a) (hb : byt b) (n : Nat) (ε : Val) {F : Nat → Prop} {W : World} {vs : List Value} (h : All2 (A1.Rel F W []) [.c (.int .u8 a), .c (.int .u8 b), .c (.sl evSh n ε)] vs) :
    Calls Try.prog 10 vs.toArray W (fun e W' => e = .returned (.bool true) ∧ Below W.heap.size W W') := by
  refine law_of_tree h10' 12 10 (u := .br (lt 40 (toInt64 n)) (.leaf (bT true)) (.need (dec (n ≤ 900 ∧ byt a ∧ byt b)) (tE (runS a b n ε false) (itS 6 (runS a b n ε false) 6) (itS 0 (itS 6 (runS a b n ε false) 6) 6)))) (by kernel_rfl) ⟨fun _ => rfl, fun hn => ?_⟩ h
  have hn : ¬ 40 < n := by rw [← toInt_lt (m := 40)]; show ¬ lt 40 (toInt64 n) = true; rw [hn]; simp
  have he := ends ha hb (show n ≤ 800 by omega) ε
  have hgg := ends_good ha hb (show n ≤ 800 by omega) ε
  exact ⟨dec_iff.2 ⟨by omega, ha, hb⟩, tE_all hgg.1 hgg.2 he.1.ri he.2⟩

end Go.Proofs.Ytbliboojdlkpfaa
