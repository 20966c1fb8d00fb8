/-
  A pair of sites that is split: the loops in which cycles are applied.
-/
import Derived.Test.YtennlgngdjegoaaRoC
import Derived.Test.YtennlgngdjegoaaFoB
import Derived.Test.YtennlgngdjegoaaEnE
import Derived.Test.YtennlgngdjegoaaSwB
import Derived.Test.YtennlgngdjegoaaCaA
namespace Go.Proofs.Ytennlgngdjegoaa
open Go Go.Sx Go.RowKit Classical

set_option maxRecDepth 100000

namespace Ts
open Fo (cs okT okT_0)

noncomputable abbrev HA : Hd := ⟨(4294967291, fun _ => .fail) :: tailK :: H15.pc, (14, nG Gsyn) :: (25, nG Gapp) :: H15.hc, [], H15.mc⟩
theorem hA : HdOk Try.prog HA := by
  have h := (h15.tail).tcCons (f := 4294967291) (G := fun _ => .fail) (fun _ _ h => by simp [Tree.sel] at h)
  exact (h.ucCons u20).ucCons u18

/-- a site that has applied the first cycles -/
def itB (x : Sit) : Nat → Sit
  | 0 => x
  | k + 1 => app (itB x k) 1 ((k + 1 : Nat) : Int)
/-- a site that has applied further cycles -/
def itA (ep : Int) (x : Sit) : Nat → Sit
  | 0 => x
  | k + 1 => app (itA ep x k) ep (IntKind.i64.wrap ((itA ep x k).p + 1))
def okB' (x : Sit) (n : Nat) : Prop := ∀ k, k < n → small (itB x k).n ∧ appE (itB x k) 1 ((k + 1 : Nat) : Int) = 0
def okA (ep : Int) (x : Sit) (n : Nat) : Prop := ∀ k, k < n → small (itA ep x k).n ∧ appE (itA ep x k) ep (IntKind.i64.wrap ((itA ep x k).p + 1)) = 0

/-! ### both apply the first cycles -/

namespace La
structure C where
  n : Int
  m : Int
  a : Sit
  b : Sit
structure V where
  a : Sit
  b : Sit
  e : Int
  i : Int
def S (c : C) (v : V) : St := mkS 50 [(0, .one (.c (I c.n))), (1, .one (.c (I c.m))), (4, .one (.c .nils)), (5, .one (.c (.bool false))), (6, .one (.c (.ptr 0 0))), (7, .one (.c (I v.e))), (8, .one (.c (.ptr 1 0))), (9, .one (.c (I v.i)))] [some (32, cs v.a), some (32, cs v.b)]
noncomputable def TX (c : C) (v : V) : Tree (XE × V) :=
  let k := appE v.a 1 v.i
  let j := appE v.b 1 v.i
  .br (le v.i c.n && v.e == 0) (.need (dec (small v.a.n)) (.br (le v.i c.m && k == 0) (.need (dec (small v.b.n)) (.leaf (.normal, ⟨okT k (app v.a 1 v.i), okT j (app v.b 1 v.i), j, IntKind.i64.wrap (v.i + 1)⟩))) (.leaf (.normal, ⟨okT k (app v.a 1 v.i), v.b, k, IntKind.i64.wrap (v.i + 1)⟩)))) (.leaf (.exit 0, v))
theorem t (c : C) (v : V) : ((evCode Try.prog HA (evFn Try.prog HA 10) 34 0 1 (loopBody Try.prog 34 0) (S c v)).bind fun y => gcT [0, 1, 4, 5, 6, 7, 8, 9] 0 y) = (TX c v).bind fun y => .leaf (y.1, S c y.2) := by kernel_rfl
def st (c : C) (i : Nat) : V := ⟨itB c.a i, itB c.b (min i c.m.toNat), 0, ((i + 1 : Nat) : Int)⟩
def good (c : C) : Prop := (0 ≤ c.n ∧ c.n ≤ 1000) ∧ (0 ≤ c.m ∧ c.m ≤ c.n) ∧ okB' c.a c.n.toNat ∧ okB' c.b c.m.toNat
theorem sq (c : C) (h : good c) : Sq (TX c) (fun v => (c.n + 1 - v.i).toNat) (st c) (st c) c.n.toNat (fun _ => false) .ret (.exit 0) where
  out := by simp
  hit := by simp
  meas i hi := by show (c.n + 1 - ((i + 1 : Nat) : Int)).toNat = _; omega
  round i hi := by
    obtain ⟨⟨hn0, hn⟩, ⟨hm0, hm⟩, ha, hb⟩ := h
    have hw : IntKind.i64.wrap (((i + 1 : Nat) : Int) + 1) = ((i + 1 + 1 : Nat) : Int) := by rw [w64_id (by omega) (by omega)]; omega
    have e1 : le ((i + 1 : Nat) : Int) c.n = true := (le_iff _ _).2 (by omega)
    obtain ⟨a1, a2⟩ := ha i hi
    refine ⟨fun _ => ⟨dec_iff.2 a1, fun hc => ?_, fun hc => ?_⟩, fun hc => ?_⟩
    · have hc : (le ((i + 1 : Nat) : Int) c.m && appE (itB c.a i) 1 ((i + 1 : Nat) : Int) == 0) = true := hc
      rw [Bool.and_eq_true, le_iff] at hc
      have hm1 : min i c.m.toNat = i := by omega
      have hm2 : min (i + 1) c.m.toNat = i + 1 := by omega
      obtain ⟨b1, b2⟩ := hb i (by omega)
      have hB : (st c i).b = itB c.b i := by show itB c.b (min i c.m.toNat) = _; rw [hm1]
      refine ⟨dec_iff.2 (by rw [hB]; exact b1), ?_⟩
      show (XE.normal, (⟨okT (appE (itB c.a i) 1 ((i + 1 : Nat) : Int)) (app (itB c.a i) 1 ((i + 1 : Nat) : Int)), okT (appE (st c i).b 1 ((i + 1 : Nat) : Int)) (app (st c i).b 1 ((i + 1 : Nat) : Int)), appE (st c i).b 1 ((i + 1 : Nat) : Int), IntKind.i64.wrap (((i + 1 : Nat) : Int) + 1)⟩ : V)) = (XE.normal, st c (i + 1))
      rw [hB, a2, b2, hw]
      show _ = (XE.normal, (⟨itB c.a (i + 1), itB c.b (min (i + 1) c.m.toNat), 0, ((i + 1 + 1 : Nat) : Int)⟩ : V))
      rw [hm2]; rfl
    · have hc : (le ((i + 1 : Nat) : Int) c.m && appE (itB c.a i) 1 ((i + 1 : Nat) : Int) == 0) = false := hc
      rw [a2] at hc
      have hc : le ((i + 1 : Nat) : Int) c.m = false := by simpa using hc
      rw [← Bool.not_eq_true, le_iff] at hc
      have hm1 : min i c.m.toNat = c.m.toNat := by omega
      have hm2 : min (i + 1) c.m.toNat = c.m.toNat := by omega
      show (XE.normal, (⟨okT (appE (itB c.a i) 1 ((i + 1 : Nat) : Int)) (app (itB c.a i) 1 ((i + 1 : Nat) : Int)), itB c.b (min i c.m.toNat), appE (itB c.a i) 1 ((i + 1 : Nat) : Int), IntKind.i64.wrap (((i + 1 : Nat) : Int) + 1)⟩ : V)) = (XE.normal, (⟨itB c.a (i + 1), itB c.b (min (i + 1) c.m.toNat), 0, ((i + 1 + 1 : Nat) : Int)⟩ : V))
      rw [a2, hw, hm1, hm2]; rfl
    · have hc : (le ((i + 1 : Nat) : Int) c.n && ((0 : Int) == 0)) = false := hc
      rw [e1] at hc; cases hc
  stop := by
    obtain ⟨⟨hn0, hn⟩, _⟩ := h
    refine ⟨fun hc => ?_, fun _ => rfl⟩
    have hc : (le ((c.n.toNat + 1 : Nat) : Int) c.n && ((0 : Int) == 0)) = true := hc
    rw [Bool.and_eq_true, le_iff] at hc
    omega
def get : List (Nat × AV) → Mem → Option (C × V)
  | [(0, .one (.c (.int .i64 n))), (1, .one (.c (.int .i64 m))), (4, .one (.c .nils)), (5, .one (.c (.bool false))), (6, .one (.c (.ptr 0 0))), (7, .one (.c (.int .i64 e))), (8, .one (.c (.ptr 1 0))), (9, .one (.c (.int .i64 i)))],
    [some (32, [.int .i64 a, .int .i64 r, .int .i64 ee, .int .i64 p, .sl [.int .i64, .int .i64, .int .i64] k ρ, .int .i64 s, .bool l, .bool c]), some (32, [.int .i64 a', .int .i64 r', .int .i64 ee', .int .i64 p', .sl [.int .i64, .int .i64, .int .i64] k' ρ', .int .i64 s', .bool l', .bool c'])] =>
    some (⟨n, m, ⟨a, r, ee, p, k, ρ, s, l, c⟩, ⟨a', r', ee', p', k', ρ', s', l', c'⟩⟩, ⟨⟨a, r, ee, p, k, ρ, s, l, c⟩, ⟨a', r', ee', p', k', ρ', s', l', c'⟩, e, i⟩)
  | _, _ => none
noncomputable def L : Nat → St → Tree (XE × St) := flatMH 0 4 spSh (flatMH 1 4 spSh (lqH [0, 1, 4, 5, 6, 7, 8, 9] 0 50 get fun c v => lq1 (S c) (good c ∧ v = st c 0) (.exit 0) (st c c.n.toNat)))
theorem ok (fn : Func) (c b : Code) (hf : Try.prog.funcs[34]? = some fn) (hc : fn.body = some c) (hb : nthLoop c 0 = some b) : LoopOk Try.prog b L :=
  flatMH_ok 0 4 spSh (flatMH_ok 1 4 spSh (lq1_ok hA 10 34 0 hf hc hb [0, 1, 4, 5, 6, 7, 8, 9] 0 50 S TX t get (fun l m c v h => by unfold get at h; split at h <;> simp at h; obtain ⟨rfl, rfl⟩ := h; rfl)
    good (fun c v => (c.n + 1 - v.i).toNat) st (fun c => c.n.toNat) (.exit 0) sq (fun c => st c c.n.toNat) (fun _ _ => StWk.refl)))
end La

/-! ### the old primary goes on -/

namespace Lo
structure C where
  o : Int
  q : Int
  y : Sit
  x : Sit
structure V where
  x : Sit
  e : Int
  i : Int
def S (c : C) (v : V) : St := mkS 86 [(2, .one (.c (I c.o))), (3, .one (.c (I c.q))), (8, .one (.c .nils)), (9, .one (.c (.bool false))), (12, .one (.c (.ptr 0 0))), (13, .one (.c (I v.e))), (14, .one (.c (.ptr 1 0))), (15, .one (.c (I v.i)))] [some (32, cs c.y), some (32, cs v.x)]
noncomputable def TX (c : C) (v : V) : Tree (XE × V) :=
  let nu := IntKind.i64.wrap (v.x.p + 1)
  let k := appE v.x 1 nu
  .br (lt v.i c.o && v.e == 0) (.need (dec (small v.x.n)) (.leaf (.normal, ⟨okT k (app v.x 1 nu), k, IntKind.i64.wrap (v.i + 1)⟩))) (.leaf (.exit 0, v))
theorem t (c : C) (v : V) : ((evCode Try.prog HA (evFn Try.prog HA 10) 9 0 1 (loopBody Try.prog 9 0) (S c v)).bind fun y => gcT [2, 3, 8, 9, 12, 13, 14, 15] 0 y) = (TX c v).bind fun y => .leaf (y.1, S c y.2) := by kernel_rfl
def st (c : C) (i : Nat) : V := ⟨itA 1 c.x i, 0, i⟩
def good (c : C) : Prop := (0 ≤ c.o ∧ c.o ≤ 1000) ∧ okA 1 c.x c.o.toNat
theorem sq (c : C) (h : good c) : Sq (TX c) (fun v => (c.o - v.i).toNat) (st c) (st c) c.o.toNat (fun _ => false) .ret (.exit 0) where
  out := by simp
  hit := by simp
  meas i hi := by show (c.o - (i : Int)).toNat = _; omega
  round i hi := by
    obtain ⟨⟨hn0, hn⟩, ha⟩ := h
    have hw : IntKind.i64.wrap ((i : Int) + 1) = ((i + 1 : Nat) : Int) := by rw [w64_id (by omega) (by omega)]; omega
    have e1 : lt (i : Int) c.o = true := (lt_iff _ _).2 (by omega)
    obtain ⟨a1, a2⟩ := ha i hi
    refine ⟨fun _ => ⟨dec_iff.2 a1, ?_⟩, fun hc => ?_⟩
    · show (XE.normal, (⟨okT (appE (itA 1 c.x i) 1 (IntKind.i64.wrap ((itA 1 c.x i).p + 1))) (app (itA 1 c.x i) 1 (IntKind.i64.wrap ((itA 1 c.x i).p + 1))), appE (itA 1 c.x i) 1 (IntKind.i64.wrap ((itA 1 c.x i).p + 1)), IntKind.i64.wrap ((i : Int) + 1)⟩ : V)) = (XE.normal, (⟨itA 1 c.x (i + 1), 0, ((i + 1 : Nat) : Int)⟩ : V))
      rw [a2, hw]; rfl
    · have hc : (lt (i : Int) c.o && ((0 : Int) == 0)) = false := hc
      rw [e1] at hc; cases hc
  stop := by
    obtain ⟨⟨hn0, hn⟩, _⟩ := h
    refine ⟨fun hc => ?_, fun _ => rfl⟩
    have hc : (lt ((c.o.toNat : Nat) : Int) c.o && ((0 : Int) == 0)) = true := hc
    rw [Bool.and_eq_true, lt_iff] at hc
    omega
def get : List (Nat × AV) → Mem → Option (C × V)
  | [(2, .one (.c (.int .i64 o))), (3, .one (.c (.int .i64 q))), (8, .one (.c .nils)), (9, .one (.c (.bool false))), (12, .one (.c (.ptr 0 0))), (13, .one (.c (.int .i64 e))), (14, .one (.c (.ptr 1 0))), (15, .one (.c (.int .i64 i)))],
    [some (32, [.int .i64 wa, .int .i64 wr, .int .i64 we, .int .i64 wp, .sl [.int .i64, .int .i64, .int .i64] wn wρ, .int .i64 ws, .bool wl, .bool wc]), some (32, [.int .i64 ua, .int .i64 ur, .int .i64 ue, .int .i64 up, .sl [.int .i64, .int .i64, .int .i64] un uρ, .int .i64 us, .bool ul, .bool uc])] =>
    some (⟨o, q, ⟨wa, wr, we, wp, wn, wρ, ws, wl, wc⟩, ⟨ua, ur, ue, up, un, uρ, us, ul, uc⟩⟩, ⟨⟨ua, ur, ue, up, un, uρ, us, ul, uc⟩, e, i⟩)
  | _, _ => none
noncomputable def L : Nat → St → Tree (XE × St) := lqH [2, 3, 8, 9, 12, 13, 14, 15] 0 86 get fun c v => lq1 (S c) (good c ∧ v = st c 0) (.exit 0) (st c c.o.toNat)
theorem ok (fn : Func) (c b : Code) (hf : Try.prog.funcs[9]? = some fn) (hc : fn.body = some c) (hb : nthLoop c 0 = some b) : LoopOk Try.prog b L :=
  lq1_ok hA 10 9 0 hf hc hb [2, 3, 8, 9, 12, 13, 14, 15] 0 86 S TX t get (fun l m c v h => by unfold get at h; split at h <;> simp at h; obtain ⟨rfl, rfl⟩ := h; rfl)
    good (fun c v => (c.o - v.i).toNat) st (fun c => c.o.toNat) (.exit 0) sq (fun c => st c c.o.toNat) (fun _ _ => StWk.refl)
end Lo

/-! ### the new primary goes on -/

namespace Lw
structure C where
  o : Int
  y : Sit
  x : Sit
structure V where
  x : Sit
  e : Int
  i : Int
def S (c : C) (v : V) : St := mkS 86 [(3, .one (.c (I c.o))), (8, .one (.c .nils)), (9, .one (.c (.bool false))), (12, .one (.c (.ptr 0 0))), (13, .one (.c (I v.e))), (14, .one (.c (.ptr 1 0))), (16, .one (.c (I v.i)))] [some (32, cs v.x), some (32, cs c.y)]
noncomputable def TX (c : C) (v : V) : Tree (XE × V) :=
  let nu := IntKind.i64.wrap (v.x.p + 1)
  let k := appE v.x 2 nu
  .br (lt v.i c.o && v.e == 0) (.need (dec (small v.x.n)) (.leaf (.normal, ⟨okT k (app v.x 2 nu), k, IntKind.i64.wrap (v.i + 1)⟩))) (.leaf (.exit 2, v))
theorem t (c : C) (v : V) : ((evCode Try.prog HA (evFn Try.prog HA 10) 9 0 2 (loopBody Try.prog 9 1) (S c v)).bind fun y => gcT [3, 8, 9, 12, 13, 14, 16] 0 y) = (TX c v).bind fun y => .leaf (y.1, S c y.2) := by kernel_rfl
def st (c : C) (i : Nat) : V := ⟨itA 2 c.x i, 0, i⟩
def good (c : C) : Prop := (0 ≤ c.o ∧ c.o ≤ 1000) ∧ okA 2 c.x c.o.toNat
theorem sq (c : C) (h : good c) : Sq (TX c) (fun v => (c.o - v.i).toNat) (st c) (st c) c.o.toNat (fun _ => false) .ret (.exit 2) where
  out := by simp
  hit := by simp
  meas i hi := by show (c.o - (i : Int)).toNat = _; omega
  round i hi := by
    obtain ⟨⟨hn0, hn⟩, ha⟩ := h
    have hw : IntKind.i64.wrap ((i : Int) + 1) = ((i + 1 : Nat) : Int) := by rw [w64_id (by omega) (by omega)]; omega
    have e1 : lt (i : Int) c.o = true := (lt_iff _ _).2 (by omega)
    obtain ⟨a1, a2⟩ := ha i hi
    refine ⟨fun _ => ⟨dec_iff.2 a1, ?_⟩, fun hc => ?_⟩
    · show (XE.normal, (⟨okT (appE (itA 2 c.x i) 2 (IntKind.i64.wrap ((itA 2 c.x i).p + 1))) (app (itA 2 c.x i) 2 (IntKind.i64.wrap ((itA 2 c.x i).p + 1))), appE (itA 2 c.x i) 2 (IntKind.i64.wrap ((itA 2 c.x i).p + 1)), IntKind.i64.wrap ((i : Int) + 1)⟩ : V)) = (XE.normal, (⟨itA 2 c.x (i + 1), 0, ((i + 1 : Nat) : Int)⟩ : V))
      rw [a2, hw]; rfl
    · have hc : (lt (i : Int) c.o && ((0 : Int) == 0)) = false := hc
      rw [e1] at hc; cases hc
  stop := by
    obtain ⟨⟨hn0, hn⟩, _⟩ := h
    refine ⟨fun hc => ?_, fun _ => rfl⟩
    have hc : (lt ((c.o.toNat : Nat) : Int) c.o && ((0 : Int) == 0)) = true := hc
    rw [Bool.and_eq_true, lt_iff] at hc
    omega
def get : List (Nat × AV) → Mem → Option (C × V)
  | [(3, .one (.c (.int .i64 o))), (8, .one (.c .nils)), (9, .one (.c (.bool false))), (12, .one (.c (.ptr 0 0))), (13, .one (.c (.int .i64 e))), (14, .one (.c (.ptr 1 0))), (16, .one (.c (.int .i64 i)))],
    [some (32, [.int .i64 wa, .int .i64 wr, .int .i64 we, .int .i64 wp, .sl [.int .i64, .int .i64, .int .i64] wn wρ, .int .i64 ws, .bool wl, .bool wc]), some (32, [.int .i64 ua, .int .i64 ur, .int .i64 ue, .int .i64 up, .sl [.int .i64, .int .i64, .int .i64] un uρ, .int .i64 us, .bool ul, .bool uc])] =>
    some (⟨o, ⟨ua, ur, ue, up, un, uρ, us, ul, uc⟩, ⟨wa, wr, we, wp, wn, wρ, ws, wl, wc⟩⟩, ⟨⟨wa, wr, we, wp, wn, wρ, ws, wl, wc⟩, e, i⟩)
  | _, _ => none
noncomputable def L : Nat → St → Tree (XE × St) := lqH [3, 8, 9, 12, 13, 14, 16] 0 86 get fun c v => lq1 (S c) (good c ∧ v = st c 0) (.exit 2) (st c c.o.toNat)
theorem ok (fn : Func) (c b : Code) (hf : Try.prog.funcs[9]? = some fn) (hc : fn.body = some c) (hb : nthLoop c 1 = some b) : LoopOk Try.prog b L :=
  lq1_ok hA 10 9 1 hf hc hb [3, 8, 9, 12, 13, 14, 16] 0 86 S TX t get (fun l m c v h => by unfold get at h; split at h <;> simp at h; obtain ⟨rfl, rfl⟩ := h; rfl)
    good (fun c v => (c.o - v.i).toNat) st (fun c => c.o.toNat) (.exit 2) sq (fun c => st c c.o.toNat) (fun _ _ => StWk.refl)
end Lw

end Ts
end Go.Proofs.Ytennlgngdjegoaa
/-
  A pair of sites that is split: what trySites and trySplit lay.
-/
namespace Go.Proofs.Ytennlgngdjegoaa
open Go Go.Sx Go.RowKit Classical

set_option maxRecDepth 100000

namespace Ts
open Fo (cs okT okT_0)

/-- where nil is told as a slice -/
theorem ucUn {P : Program} {f : Nat} {G : List A1 → Tree AV} (h : UcOne P f G) : UcOne P f (fun args => G (args.map un1)) := fun args r hr hc F w vs ha =>
  h (args.map un1) r hr (by
    rw [List.all_map]
    rw [List.all_eq_true] at hc ⊢
    intro x hx
    have := hc x hx
    cases x with
    | c x => cases x <;> first | exact this | rfl
    | agg l =>
      simp only [Function.comp, un1, closedA, List.all_map, List.all_eq_true] at this ⊢
      intro y hy
      have := this y hy
      cases y <;> first | exact this | rfl) F w vs (ha.map_left fun _ _ h => un1_ok h)

noncomputable abbrev HB0 : Hd := ⟨HA.pc, (36, fun args => nG Gpro (args.map un1)) :: HA.hc, [], HA.mc⟩
theorem hB0 : HdOk Try.prog HB0 := hA.ucCons (ucUn u13)
noncomputable abbrev HB : Hd := ⟨HB0.pc, HB0.hc, [((34, 0), La.L)], HB0.mc⟩
theorem hB : HdOk Try.prog HB := HdOk.lhCons hB0 La.ok

/-- a slice of one's own and a truth value, the slice as the only block -/
theorem WkO.rowK {mem : Mem} {b sz : Nat} {k : Bool} {T : TypeId} {es : List Sh} {n : Nat} {ρ : Val} (hb : nth mem b = some (some (T, [.row false es n ρ]))) :
    WkO (.ret (.tup [.c (.os b sz), .c (.bool k)]), mem) (.ret (.tup [.c (.os 0 sz), .c (.bool k)]), [some (T, [.row false es n ρ])]) := by
  intro P F w bs e hm hr
  obtain ⟨v, rfl, hv⟩ := hr
  obtain ⟨vs, rfl, hv⟩ := hv
  cases hv with
  | cons hv1 hv2 =>
  rename_i v1 vs2
  have hbl : b < mem.length := nth_lt hb
  have hm1 := hm.ren (pm := [b]) rfl (fun x hx => by simp at hx; subst hx; exact hbl)
  have e1 : [b].map (renE [b] mem) = [some (T, [.row false es n ρ])] := by
    simp only [List.map_cons, List.map_nil, renE, hb, renC]
  rw [e1] at hm1
  obtain ⟨y, hy⟩ : ∃ y, nth bs b = some y := by
    have : b < bs.length := by rw [hm.len]; exact hbl
    exact ⟨bs[b], by rw [nth_eq]; exact List.getElem?_eq_getElem this⟩
  have e2 : renB [b] bs = [y] := by simp only [renB, List.map_cons, List.map_nil, hy]
  rw [e2] at hm1
  refine ⟨F, [y], ⟨Nat.le_refl _, fun _ _ h => h, fun p h _ _ => h, fun _ _ _ => rfl, rfl, rfl, rfl, fun k x hk _ => (by omega), fun x hx => ?_⟩, hm1, _, rfl, _, rfl, ?_⟩
  · simp only [List.mem_cons, List.not_mem_nil, or_false] at hx
    subst hx
    exact .inl ⟨_, nth_mem hy, rfl⟩
  · have hv1 : CV.Rel F w bs (.os b sz) v1 := hv1
    have h1 := renC_ok (pm := [b]) hv1
    rw [e2] at h1
    refine .cons (show CV.Rel F w [y] (.os 0 sz) v1 by simpa [renC, idx] using h1) ?_
    cases hv2 with
    | cons hb2 hn =>
      cases hn
      have hb2 : CV.Rel F w bs (.bool k) _ := hb2
      cases hb2
      exact .cons (.bool _) .nil

def twoV (x y : Sit) : Val := Val.ofFlat 8 (cs x ++ cs y)
def a0 : Sit := ⟨0, 1, 1, 0, 0, Val.zero, -1, true, true⟩
def b0 : Sit := ⟨1, 2, 1, 0, 0, Val.zero, 0, true, true⟩
/-- a primary with some cycles, and a secondary with some of them -/
noncomputable def Gsit : List A1 → Tree (AV × Mem)
  | [.c (.int .i64 n), .c (.int .i64 m)] => .need (dec (La.good ⟨n, m, a0, b0⟩)) (.leaf (.tup [.c (.os 0 8), .c (.bool true)], [some (32, [.row false siSh 2 (twoV (itB a0 n.toNat) (itB b0 (min n.toNat m.toNat)))])]))
  | _ => .fail
theorem nSit : NcOne Try.prog 34 Gsit := ncOne_of_tree hB 10 34 fun args r m' h => by
  unfold Gsit at h; split at h
  · rename_i n m
    simp only [Tree.sel] at h
    cases hs : dec (La.good ⟨n, m, a0, b0⟩)
    · rw [hs] at h; simp at h
    rw [hs] at h
    simp only [cond_true, Option.some.injEq, Prod.mk.injEq] at h
    obtain ⟨rfl, rfl⟩ := h
    let A := itB a0 n.toNat
    let B := itB b0 (min n.toNat m.toNat)
    refine ⟨.need (dec (small 0)) (.need (dec (La.good ⟨n, m, a0, b0⟩ ∧ (⟨a0, b0, proE ⟨0, 0, 0, 0, 0, Val.zero, -1, true, true⟩ 1, 1⟩ : La.V) = La.st ⟨n, m, a0, b0⟩ 0)) (.leaf (.tup [.c (.os 2 8), .c (.bool true)], [some (32, cs A), some (32, cs B), some (32, [.row false siSh 2 (twoV A B)])]))), by kernel_rfl, dec_iff.2 (by unfold small; omega), dec_iff.2 ⟨dec_iff.1 hs, ?_⟩, WkO.rowK rfl⟩
    show (⟨a0, b0, proE ⟨0, 0, 0, 0, 0, Val.zero, -1, true, true⟩ 1, 1⟩ : La.V) = ⟨a0, b0.1 |> fun _ => itB b0 (min 0 m.toNat), 0, ((0 + 1 : Nat) : Int)⟩
    rw [Nat.zero_min]
    rfl
  · simp [Tree.sel] at h

def W0 (n m : Int) : Val := twoV (itB a0 n.toNat) (itB b0 (min n.toNat m.toNat))
/-- the row as a variable -/
noncomputable def GsitV (W : Int → Int → Val) : List A1 → Tree (AV × Mem)
  | [.c (.int .i64 n), .c (.int .i64 m)] => .need (dec (La.good ⟨n, m, a0, b0⟩)) (.leaf (.tup [.c (.os 0 8), .c (.bool true)], [some (32, [.row false siSh 2 (W n m)])]))
  | _ => .fail
theorem nSitV : NcOne Try.prog 34 (GsitV W0) := fun args r m hr => nSit args r m (by
  unfold GsitV at hr; split at hr
  · exact hr
  · simp [Tree.sel] at hr)
noncomputable abbrev HC (W : Int → Int → Val) : Hd := ⟨HB0.pc, HB0.hc, [((9, 0), Lo.L), ((9, 1), Lw.L)], (34, ncG (GsitV W)) :: HB0.mc⟩
theorem hC : HdOk Try.prog (HC W0) := HdOk.lhCons (HdOk.lhCons (hB0.mcCons nSitV.mc) Lw.ok) Lo.ok

/-- the secondary takes over -/
def z1 (x : Sit) : Sit := okT (isoE x) (iso x)
def y1 (x : Sit) : Sit := okT (proE (z1 x) 2) (pro (z1 x) 2)
theorem tSpl (W : Int → Int → Val) (n m o q : Int) : (evFn Try.prog (HC W) 10 9 [.c (I n), .c (I m), .c (I o), .c (I q)] []).follow [false, true] =
    let x0 := Ses.at ⟨2, W n m⟩ 0
    let x1 := Ses.at ⟨2, W n m⟩ 1
    let y := y1 x1
    let x' := itA 1 x0 o.toNat
    let y' := itA 2 y q.toNat
    some ([(dec (La.good ⟨n, m, a0, b0⟩), true), (false, false), (true, true), (dec (small x1.n), true), (isoE x1 == 0, true), (dec (small (z1 x1).n), true), (true, true),
      (dec (Lo.good ⟨o, q, y, x0⟩ ∧ (⟨x0, proE (z1 x1) 2, 0⟩ : Lo.V) = Lo.st ⟨o, q, y, x0⟩ 0), true), (dec (Lw.good ⟨q, x', y⟩ ∧ (⟨y, 0, 0⟩ : Lw.V) = Lw.st ⟨q, x', y⟩ 0), true)],
      (.tup [.c (.os 2 8), .c (.bool true)], [some (32, cs y'), some (32, cs x'), some (32, [.row false siSh 2 (twoV x' y')])])) := by kernel_rfl

end Ts
end Go.Proofs.Ytennlgngdjegoaa
/-
  A pair of sites that is split: the example.
-/
namespace Go.Proofs.Ytennlgngdjegoaa
open Go Go.Sx Go.RowKit Classical

set_option maxRecDepth 100000
set_option maxHeartbeats 4000000

namespace Ts
open Fo (cs okT okT_0 pcC hC0 lhsOf lhs_ok)

def loopsT : List (Nat × Nat) := [(34, 0), (9, 0), (9, 1), (37, 0), (10, 0), (11, 0), (40, 0), (40, 1), (86, 0), (86, 1), (26, 0), (47, 0), (72, 0), (85, 0)]
noncomputable def lt0 : Hd := ⟨pcC, [], [], HK.mc⟩
noncomputable def lt1 : Hd := ⟨pcC, [], lhsOf Try.prog lt0 12 loopsT, HK.mc⟩
noncomputable def lt2 : Hd := ⟨pcC, [], lhsOf Try.prog lt1 12 loopsT, HK.mc⟩
noncomputable def lt3 : Hd := ⟨pcC, [], lhsOf Try.prog lt2 12 loopsT, HK.mc⟩
noncomputable def lt4 : Hd := ⟨pcC, [], lhsOf Try.prog lt3 12 loopsT, HK.mc⟩
theorem lt0_ok : HdOk Try.prog lt0 := hC0
theorem lt1_ok : HdOk Try.prog lt1 := lhs_ok hC0 lt0_ok 12 loopsT
theorem lt2_ok : HdOk Try.prog lt2 := lhs_ok hC0 lt1_ok 12 loopsT
theorem lt3_ok : HdOk Try.prog lt3 := lhs_ok hC0 lt2_ok 12 loopsT
theorem lt4_ok : HdOk Try.prog lt4 := lhs_ok hC0 lt3_ok 12 loopsT

def Gtr : List A1 → Option AV
  | [] => some (.one (.c (.bool true)))
  | _ => none
theorem pAwk : PcOne Try.prog 12 Gtr := pcOne_of_sel lt4_ok 30 12 fun args r h => by
  unfold Gtr at h; split at h
  · obtain rfl := Option.some.inj h
    exact ⟨rfl, by kernel_rfl⟩
  · cases h

end Ts
end Go.Proofs.Ytennlgngdjegoaa
