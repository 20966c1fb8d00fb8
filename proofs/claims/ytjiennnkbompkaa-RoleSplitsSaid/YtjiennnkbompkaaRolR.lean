/-
  The roles of sites: Synced of the program: the spans that begin behind a number are left out.
-/
import Derived.Test.YtjiennnkbompkaaRolQ
namespace Go.Proofs.Ytjiennnkbompkaa
open Go Go.Sx Go.RowKit Classical

set_option maxRecDepth 100000

noncomputable abbrev H16 : Hd := ⟨tailK :: H15.pc, H15.hc, [], H15.mc⟩
theorem h16 : HdOk Try.prog H16 := h15.tail

/-- plain fields of a site -/
structure F7 where
  a : Int
  r : Int
  e : Int
  p : Int
  s : Int
  l : Bool
  c : Bool

/-- what stays: the site, the number, the copy, the row's length, the transition, the first error -/
structure C18 where
  x : Sit
  nu : Int
  y : F7
  n : Nat
  z : F7
  k : Int

/-- the memory of Synced -/
def mem18 (c : C18) (σ : Val) : Mem := [some (24, [I c.x.a, I c.x.r, I c.x.e, I c.x.p, .sl spSh c.x.n c.x.ρ, I c.x.s, .bool c.x.l, .bool c.x.c]), some (3, [I c.nu]), some (24, [I 0, I 0, I 0, I 0, .nils, I 0, .bool false, .bool false]),
  some (24, [I c.y.a, I c.y.r, I c.y.e, I c.y.p, .os 5 3, I c.y.s, .bool c.y.l, .bool c.y.c]), none, some (61, [.row false spSh c.n σ]), some (71, [I c.z.a, I c.z.r, I c.z.e, I c.z.p, .os 5 3, I c.z.s, .bool c.z.l, .bool c.z.c, I c.k])]

/-! ### IndexFunc -/

structure V64 where
  r : Int
  i : Int
structure C64 where
  c : C18
  σ : Val
  m : Int

def S64 (c : C64) (v : V64) : St := mkS 19 [(0, .one (.c (.os 5 3))), (1, .one (.c (.fn (.func 49) [] [.ptr 1 0]))), (4, .one (.c (I v.r))), (7, .one (.c (I c.m))), (8, .one (.c (I v.i)))] (mem18 c.c c.σ)
def beh (nu : Int) (σ : Val) (i : Nat) : Bool := lt nu (spn σ i).f
def TX64 (c : C64) (v : V64) : Tree (XE × V64) :=
  .br (lt v.i c.m) (.need (inRange v.i c.c.n) (.br (lt c.c.nu (spn c.σ v.i.toNat).f) (.leaf (.ret, ⟨v.i, v.i⟩)) (.leaf (.normal, ⟨v.r, IntKind.i64.wrap (v.i + 1)⟩)))) (.leaf (.exit 0, v))

theorem t64 (c : C64) (v : V64) : ((evCode Try.prog H16 (evFn Try.prog H16 10) 64 7 1 (loopBody Try.prog 64 0) (S64 c v)).bind fun y => gcT [0, 1, 4, 7, 8] 7 y) = (TX64 c v).bind fun y => .leaf (y.1, S64 c y.2) := by kernel_rfl

def st64 (i : Nat) : V64 := ⟨0, i⟩
def sb64 (i : Nat) : V64 := ⟨i, i⟩
def μ64 (c : C64) (v : V64) : Nat := (c.c.n - v.i).toNat

theorem sq64 (c : C64) (hm : c.m = toInt64 c.c.n) (hn : fewN c.c.n) : Sq (TX64 c) (μ64 c) st64 sb64 c.c.n (beh c.c.nu c.σ) .ret (.exit 0) where
  out := by simp
  hit := by simp
  meas i hi := by unfold μ64 st64; simp only; omega
  round i hi := by
    unfold fewN at hn
    have hw : IntKind.i64.wrap ((i : Int) + 1) = ((i + 1 : Nat) : Int) := by rw [w64_id (by omega) (by omega)]; omega
    refine ⟨fun _ => ⟨inR hi, fun hb => ?_, fun hb => ?_⟩, fun h => ?_⟩
    · have : beh c.c.nu c.σ i = true := hb
      simp only [Tree.All, this, if_true]
      rfl
    · have : beh c.c.nu c.σ i = false := hb
      simp only [Tree.All, this, Bool.false_eq_true, if_false]
      show (XE.normal, (⟨0, IntKind.i64.wrap ((i : Int) + 1)⟩ : V64)) = _
      rw [hw]; rfl
    · have : lt (i : Int) c.m = false := h
      rw [hm, ltF hi] at this; cases this
  stop := by
    refine ⟨fun h => ?_, fun _ => rfl⟩
    have : lt (c.c.n : Int) c.m = true := h
    rw [hm, ltS] at this; cases this

noncomputable def inv64 (c : C64) (v : V64) : Bool := dec ((c.m = toInt64 c.c.n ∧ fewN c.c.n) ∧ ∃ i, i ≤ c.c.n ∧ v = st64 i)
def run64 (c : C64) (v : V64) : XE × V64 := fin (TX64 c) (μ64 c) v
def getM18 : Mem → Option (C18 × Val)
  | [some (24, [.int .i64 a, .int .i64 ro, .int .i64 e, .int .i64 p, .sl [.int .i64, .int .i64, .int .i64] n ρ, .int .i64 s, .bool l, .bool c]), some (3, [.int .i64 nu]), some (24, [.int .i64 0, .int .i64 0, .int .i64 0, .int .i64 0, .nils, .int .i64 0, .bool false, .bool false]),
    some (24, [.int .i64 a1, .int .i64 r1, .int .i64 e1, .int .i64 p1, .os 5 3, .int .i64 s1, .bool l1, .bool c1]), none, some (61, [.row false [.int .i64, .int .i64, .int .i64] m σ]),
    some (71, [.int .i64 a2, .int .i64 r2, .int .i64 e2, .int .i64 p2, .os 5 3, .int .i64 s2, .bool l2, .bool c2, .int .i64 k])] => some (⟨⟨a, ro, e, p, n, ρ, s, l, c⟩, nu, ⟨a1, r1, e1, p1, s1, l1, c1⟩, m, ⟨a2, r2, e2, p2, s2, l2, c2⟩, k⟩, σ)
  | _ => none
theorem getM18_eq {m : Mem} {c : C18} {σ : Val} (h : getM18 m = some (c, σ)) : m = mem18 c σ := by
  unfold getM18 at h
  split at h
  · simp only [Option.some.injEq, Prod.mk.injEq] at h
    obtain ⟨rfl, rfl⟩ := h
    rfl
  · cases h
def get64 : List (Nat × AV) → Mem → Option (C64 × V64)
  | [(0, .one (.c (.os 5 3))), (1, .one (.c (.fn (.func 49) [] [.ptr 1 0]))), (4, .one (.c (.int .i64 r))), (7, .one (.c (.int .i64 m))), (8, .one (.c (.int .i64 i)))], mem => match getM18 mem with
    | some (c, σ) => some (⟨c, σ, m⟩, ⟨r, i⟩)
    | none => none
  | _, _ => none
noncomputable def L64 : Nat → St → Tree (XE × St) := loopH [0, 1, 4, 7, 8] 7 19 get64 inv64 S64 run64 [.ret, .exit 0]

theorem l64 (fn : Func) (c b : Code) (hf : Try.prog.funcs[64]? = some fn) (hc : fn.body = some c) (hb : nthLoop c 0 = some b) : LoopOk Try.prog b L64 :=
  loopOk_of h16 10 64 0 hf hc hb [0, 1, 4, 7, 8] 7 19 S64 TX64 t64 get64 inv64 μ64 [.ret, .exit 0]
    (fun l m c v h => by
      unfold get64 at h
      split at h
      · split at h
        · rename_i hm
          simp only [Option.some.injEq, Prod.mk.injEq] at h
          obtain ⟨rfl, rfl⟩ := h
          rw [getM18_eq hm]
          rfl
        · cases h
      · cases h)
    (rounds_of fun c v hv => by
      have h := (dec_iff.1 hv).1
      exact (sq64 c h.1 h.2).rounds fun x => by unfold inv64; rw [dec_iff]; exact ⟨fun h => h.2, fun k => ⟨h, k⟩⟩)

/-! ### DeleteFunc -/

structure V48 where
  i : Int
  j : Int
  σ : Val

def S48 (c : C18) (v : V48) : St := mkS 42 [(0, .one (.c (.os 5 3))), (1, .one (.c (.fn (.func 49) [] [.ptr 1 0]))), (5, .one (.c (I v.i))), (6, .one (.c (I v.j)))] (mem18 c v.σ)
def TX48 (c : C18) (v : V48) : Tree (XE × V48) :=
  .br (lt v.j (toInt64 c.n)) (.need (inRange v.j c.n) (.br (!(lt c.nu (spn v.σ v.j.toNat).f))
    (.need (inRange v.i c.n) (.leaf (.normal, ⟨IntKind.i64.wrap (v.i + 1), IntKind.i64.wrap (v.j + 1), v.σ.upds v.i.toNat 0 [I (spn v.σ v.j.toNat).e, I (spn v.σ v.j.toNat).f, I (spn v.σ v.j.toNat).t]⟩)))
    (.leaf (.normal, ⟨v.i, IntKind.i64.wrap (v.j + 1), v.σ⟩)))) (.leaf (.exit 0, v))

theorem t48 (c : C18) (v : V48) : ((evCode Try.prog H16 (evFn Try.prog H16 10) 48 7 1 (loopBody Try.prog 48 0) (S48 c v)).bind fun y => gcT [0, 1, 5, 6] 7 y) = (TX48 c v).bind fun y => .leaf (y.1, S48 c y.2) := by kernel_rfl

def st48 (i0 : Nat) (σ : Val) (k : Nat) : V48 := ⟨i0, (i0 + 1 + k : Nat), σ⟩
def μ48 (c : C18) (v : V48) : Nat := (c.n - v.j).toNat
/-- all behind a span begin behind the number -/
def Beh (nu : Int) (σ : Val) (i0 n : Nat) : Prop := i0 < n ∧ ∀ j, i0 < j → j < n → beh nu σ j = true

theorem sq48 (c : C18) (i0 : Nat) (σ : Val) (hn : fewN c.n) (hb : Beh c.nu σ i0 c.n) : Sq (TX48 c) (μ48 c) (st48 i0 σ) (st48 i0 σ) (c.n - (i0 + 1)) (fun _ => false) .ret (.exit 0) where
  out := by simp
  hit := by simp
  meas k hk := by have := hb.1; unfold μ48 st48; simp only; omega
  round k hk := by
    unfold fewN at hn
    have hw : IntKind.i64.wrap (((i0 + 1 + k : Nat) : Int) + 1) = ((i0 + 1 + (k + 1) : Nat) : Int) := by rw [w64_id (by omega) (by omega)]; omega
    refine ⟨fun _ => ⟨inR (by omega), fun hx => ?_, fun hx => ?_⟩, fun h => ?_⟩
    · have : (!(beh c.nu σ (i0 + 1 + k))) = true := hx
      rw [hb.2 (i0 + 1 + k) (by omega) (by omega)] at this; cases this
    · simp only [Tree.All, Bool.false_eq_true, if_false]
      show (XE.normal, (⟨i0, IntKind.i64.wrap (((i0 + 1 + k : Nat) : Int) + 1), σ⟩ : V48)) = _
      rw [hw]; rfl
    · have : lt ((i0 + 1 + k : Nat) : Int) (toInt64 c.n) = false := h
      rw [ltF (by omega)] at this; cases this
  stop := by
    have e : i0 + 1 + (c.n - (i0 + 1)) = c.n := by have := hb.1; omega
    refine ⟨fun h => ?_, fun _ => rfl⟩
    have h : lt ((i0 + 1 + (c.n - (i0 + 1)) : Nat) : Int) (toInt64 c.n) = true := h
    rw [e] at h
    rw [ltS] at h; cases h

noncomputable def inv48 (c : C18) (v : V48) : Bool := dec (fewN c.n ∧ ∃ i0 k σ, Beh c.nu σ i0 c.n ∧ k ≤ c.n - (i0 + 1) ∧ v = st48 i0 σ k)
def run48 (c : C18) (v : V48) : XE × V48 := fin (TX48 c) (μ48 c) v
def get48 : List (Nat × AV) → Mem → Option (C18 × V48)
  | [(0, .one (.c (.os 5 3))), (1, .one (.c (.fn (.func 49) [] [.ptr 1 0]))), (5, .one (.c (.int .i64 i))), (6, .one (.c (.int .i64 j)))], mem => match getM18 mem with
    | some (c, σ) => some (c, ⟨i, j, σ⟩)
    | none => none
  | _, _ => none
noncomputable def L48 : Nat → St → Tree (XE × St) := loopH [0, 1, 5, 6] 7 42 get48 inv48 S48 run48 [.exit 0]

theorem l48 (fn : Func) (c b : Code) (hf : Try.prog.funcs[48]? = some fn) (hc : fn.body = some c) (hb : nthLoop c 0 = some b) : LoopOk Try.prog b L48 :=
  loopOk_of h16 10 48 0 hf hc hb [0, 1, 5, 6] 7 42 S48 TX48 t48 get48 inv48 μ48 [.exit 0] (Q := fun _ _ => True)
    (fun l m c v h => by
      unfold get48 at h
      split at h
      · split at h
        · rename_i hm
          simp only [Option.some.injEq, Prod.mk.injEq] at h
          obtain ⟨rfl, rfl⟩ := h
          rw [getM18_eq hm]
          rfl
        · cases h
      · cases h)
    (fun c v hv => by
      obtain ⟨hn, i0, k, σ, hb, hk, rfl⟩ := dec_iff.1 hv
      have hs := sq48 c i0 σ hn hb
      rcases Nat.lt_or_eq_of_le hk with hlt | rfl
      · refine All.imp (fun y hy => ?_) (hs.round k hlt)
        have hy : y = (.normal, st48 i0 σ (k + 1)) := hy
        subst hy
        refine ⟨dec_iff.2 ⟨hn, i0, k + 1, σ, hb, by omega, rfl⟩, ?_⟩
        rw [hs.meas k (by omega), hs.meas (k + 1) (by omega)]
        omega
      · refine All.imp (fun y hy => ?_) hs.stop
        subst hy
        trivial)

noncomputable abbrev H17 : Hd := ⟨H16.pc, H16.hc, [((48, 0), L48), ((64, 0), L64)], H16.mc⟩
theorem h17 : HdOk Try.prog H17 := (HdOk.lhCons h16 l64).lhCons l48

end Go.Proofs.Ytjiennnkbompkaa
