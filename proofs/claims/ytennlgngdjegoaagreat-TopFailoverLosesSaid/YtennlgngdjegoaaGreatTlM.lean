/-
  Part TlM of the proof: RolA EngU EngMc RolB RolC RolD RolE RolF RolG RolH RolI RolK.
-/
import Derived.Test.YtennlgngdjegoaaGreatRows
import Derived.Test.YtennlgngdjegoaaGreatTlL
namespace Go.Proofs.YtennlgngdjegoaaGreat
open Go Go.Sx Classical
set_option maxRecDepth 100000
abbrev I (n : Int) : CV := .int .i64 n
abbrev spSh : List Sh := [.int .i64, .int .i64, .int .i64]
theorem n63 : NcOne Tryz.prog 55 (cloneG 114 spSh 3 24) := clone_nc Tryz.func55 rfl rfl rfl rfl rfl rfl rfl rfl (by kernel_rfl) rfl (fun n ρ => by kernel_rfl)
  (fun n ρ => stC spSh n ρ true) (fun n ρ => mkS 8 [(0, .one (.c (.sl spSh n ρ))), (2, .one (.c (.os 1 3))), (3, .one (.c (.sl spSh n ρ))), (4, .one (.c (.bool false))), (5, .one (.c (.os 0 3))), (6, .one (.c (.sl spSh n ρ))), (7, .one (.c (.os 1 3)))] [none, some (114, [.row false spSh (0 + n) (Val.cat 0 (Val.ofFlat 3 []) ρ)])])
  (fun n ρ => by kernel_rfl) (fun n ρ => by kernel_rfl) (fun n ρ => rfl) (fun n ρ => by kernel_rfl) (fun n ρ => by kernel_rfl) (fun n ρ => rfl)
end Go.Proofs.YtennlgngdjegoaaGreat
namespace Go.Sx
open Go Go.RowKit
def firstB (bad : Nat → Bool) : Nat → Nat
  | 0 => 0
  | n + 1 => bif anyB bad n then firstB bad n else n
theorem firstB_ok {bad : Nat → Bool} : ∀ {n : Nat}, anyB bad n = true → firstB bad n < n ∧ bad (firstB bad n) = true ∧ ∀ j, j < firstB bad n → bad j = false
  | 0, h => by simp [anyB] at h
  | n + 1, h => by
    unfold firstB
    cases hb : anyB bad n
    · simp only [anyB, hb, Bool.false_or] at h
      refine ⟨by simp, h, fun j hj => ?_⟩
      simp only [cond_false] at hj
      rw [← Bool.not_eq_true]
      intro hh
      have := anyB_iff.2 ⟨j, hj, hh⟩
      rw [hb] at this; cases this
    · obtain ⟨h1, h2, h3⟩ := firstB_ok hb
      exact ⟨by simp only [cond_true]; omega, h2, h3⟩
theorem firstB_eq {bad : Nat → Bool} {n i : Nat} (hi : i < n) (hb : bad i = true) (h : ∀ j, j < i → bad j = false) : anyB bad n = true ∧ firstB bad n = i := by
  have ha : anyB bad n = true := anyB_iff.2 ⟨i, hi, hb⟩
  obtain ⟨h1, h2, h3⟩ := firstB_ok ha
  refine ⟨ha, ?_⟩
  rcases Nat.lt_trichotomy (firstB bad n) i with hlt | heq | hgt
  · rw [h _ hlt] at h2; cases h2
  · exact heq
  · rw [h3 _ hgt] at hb; cases hb
structure Sq {X : Type} (TX : X → Tree (XE × X)) (μ : X → Nat) (st sb : Nat → X) (n : Nat) (bad : Nat → Bool) (e1 e0 : XE) : Prop where
  out : e0 ≠ .normal
  hit : e1 ≠ .normal
  meas : ∀ i, i ≤ n → μ (st i) = n - i
  round : ∀ i, i < n → (TX (st i)).All fun y => if bad i then y = (e1, sb i) else y = (.normal, st (i + 1))
  stop : (TX (st n)).All fun y => y = (e0, st n)
variable {X : Type} {TX : X → Tree (XE × X)} {μ : X → Nat} {st sb : Nat → X} {n : Nat} {bad : Nat → Bool} {e1 e0 : XE}
theorem Sq.rounds (h : Sq TX μ st sb n bad e1 e0) {inv : X → Prop} (hinv : ∀ x, inv x ↔ ∃ i, i ≤ n ∧ x = st i) : Rounds TX inv μ (fun y => (∃ i, i < n ∧ bad i = true ∧ y = (e1, sb i)) ∨ y = (e0, st n)) := by
  intro x hx
  obtain ⟨i, hi, rfl⟩ := (hinv x).1 hx
  rcases Nat.lt_or_eq_of_le hi with hlt | rfl
  · refine All.imp (fun y hy => ?_) (h.round i hlt)
    obtain ⟨e, z⟩ := y
    cases hb : bad i
    · rw [hb] at hy
      simp only [Bool.false_eq_true, if_false, Prod.mk.injEq] at hy
      obtain ⟨rfl, rfl⟩ := hy
      simp only
      rw [h.meas i hi, h.meas (i + 1) (by omega)]
      exact ⟨(hinv _).2 ⟨i + 1, by omega, rfl⟩, by omega⟩
    · rw [hb] at hy
      simp only [if_true, Prod.mk.injEq] at hy
      obtain ⟨rfl, rfl⟩ := hy
      cases hn : e with
      | normal => exact (h.hit hn).elim
      | exit k => subst hn; exact .inl ⟨i, hlt, hb, rfl⟩
      | ret => subst hn; exact .inl ⟨i, hlt, hb, rfl⟩
  · refine All.imp (fun y hy => ?_) h.stop
    obtain ⟨e, z⟩ := y
    simp only [Prod.mk.injEq] at hy
    obtain ⟨rfl, rfl⟩ := hy
    cases hn : e with
    | normal => exact (h.out hn).elim
    | exit k => subst hn; exact .inr rfl
    | ret => subst hn; exact .inr rfl
theorem Sq.fin_from (h : Sq TX μ st sb n bad e1 e0) : ∀ (d i : Nat), i + d = n → (∀ j, j < i → bad j = false) → fin TX μ (st i) = bif anyB bad n then (e1, sb (firstB bad n)) else (e0, st n) := by
  have hr := h.rounds (inv := fun x => ∃ i, i ≤ n ∧ x = st i) (fun _ => Iff.rfl)
  intro d
  induction d with
  | zero =>
    intro i hi hb
    have hi : i = n := by omega
    subst hi
    obtain ⟨y, hs, hy⟩ := all_sel (fin_step hr (x := st i) ⟨i, Nat.le_refl _, rfl⟩)
    obtain ⟨y', hs', hy'⟩ := all_sel h.stop
    rw [hs] at hs'
    simp at hs'; subst hs'
    rw [anyB_none hb]
    rcases hy with ⟨hn, _⟩ | ⟨_, hf⟩
    · rw [hy'] at hn; exact (h.out hn).elim
    · rw [hf, hy']; rfl
  | succ d ih =>
    intro i hi hb
    obtain ⟨y, hs, hy⟩ := all_sel (fin_step hr (x := st i) ⟨i, by omega, rfl⟩)
    obtain ⟨y', hs', hy'⟩ := all_sel (h.round i (by omega))
    rw [hs] at hs'
    simp at hs'; subst hs'
    cases hbi : bad i
    · rw [hbi] at hy'
      simp only [Bool.false_eq_true, if_false] at hy'
      rcases hy with ⟨_, _, _, hf⟩ | ⟨hn, _⟩
      · rw [← hf, hy']
        refine ih (i + 1) (by omega) fun j hj => ?_
        rcases Nat.lt_or_eq_of_le (Nat.le_of_lt_succ hj) with h1 | rfl
        · exact hb j h1
        · exact hbi
      · rw [hy'] at hn; exact (hn rfl).elim
    · rw [hbi] at hy'
      simp only [if_true] at hy'
      obtain ⟨ha, hf1⟩ := firstB_eq (show i < n by omega) hbi hb
      rw [ha, hf1]
      rcases hy with ⟨hn, _⟩ | ⟨_, hf⟩
      · rw [hy'] at hn; exact (h.hit hn).elim
      · rw [hf, hy']; rfl
theorem Sq.fin0 (h : Sq TX μ st sb n bad e1 e0) : fin TX μ (st 0) = bif anyB bad n then (e1, sb (firstB bad n)) else (e0, st n) := h.fin_from n 0 (by omega) fun j hj => by omega
theorem anyB_congr {b1 b2 : Nat → Bool} {n : Nat} (h : ∀ i, i < n → (∀ j, j < i → b1 j = false) → b1 i = b2 i) : anyB b1 n = anyB b2 n := by
  induction n with
  | zero => rfl
  | succ n ih =>
    have ih := ih fun i hi => h i (by omega)
    simp only [anyB]
    cases hb : anyB b1 n
    · rw [hb] at ih
      rw [← ih]
      simp only [Bool.false_or]
      refine h n (by omega) fun j hj => ?_
      rw [← Bool.not_eq_true]
      intro hh
      have := anyB_iff.2 ⟨j, hj, hh⟩
      rw [hb] at this; cases this
    · rw [hb] at ih
      rw [← ih]
      simp
end Go.Sx
namespace Go.Sx
open Go Go.RowKit
variable {P : Program}
variable {D : List Deferred}
theorem mcOne_of_all {P : Program} {H : Hd} (hH : HdOk P H) (n f : Nat) {G : List A1 → Mem → Tree (AV × Mem)}
    (h : ∀ args mem r mem', (G args mem).sel = some (r, mem') → (evFn P H n f args mem).All (fun y => WkR P mem.length y (r, mem'))) (hf : f < 1000000000 := by decide) : McOne P f G := by
  intro args mem r mem' hG F w bs vs hm hargs
  obtain ⟨y, hsel, hw⟩ := all_sel (h args mem r mem' hG)
  refine ((evFn_ok hH n).fn f args mem y.1 y.2 hf hsel F w bs vs hm hargs).mono fun e w2 ⟨u, F', bs', he, hext, hm', hu⟩ => ?_
  obtain ⟨F2, bs2, e2, m2, r2⟩ := hw F' w2 bs' u (by have := hext.le; have := hm.len; omega) hm' hu
  rw [← hm.len] at e2
  exact ⟨u, F2, bs2, he, hext.trans e2 (Nat.le_refl _), m2, r2⟩
theorem mcOne_of_tree {P : Program} {H : Hd} (hH : HdOk P H) (n f : Nat) {G : List A1 → Mem → Tree (AV × Mem)}
    (h : ∀ args mem r mem', (G args mem).sel = some (r, mem') → ∃ u, evFn P H n f args mem = u ∧ u.All (fun y => y = (r, mem'))) (hf : f < 1000000000 := by decide) : McOne P f G :=
  mcOne_of_all hH n f (fun args mem r mem' hG => by
    obtain ⟨u, hu, ha⟩ := h args mem r mem' hG
    rw [hu]
    exact All.imp (fun _ h => h ▸ WkR.refl) ha) hf
def tailK : Nat × (List A1 → Tree AV) := (4294967293, fun _ => .fail)
theorem HdOk.tail {P : Program} {pc hc lh mc} (h : HdOk P ⟨pc, hc, lh, mc⟩) : HdOk P ⟨tailK :: pc, hc, lh, mc⟩ := h.tcCons (fun _ _ h => by simp [Tree.sel] at h)
end Go.Sx
namespace Go.Proofs.YtennlgngdjegoaaGreat
open Go Go.Sx Classical
set_option maxRecDepth 100000
noncomputable abbrev H0 : Hd := ⟨[concK], [], [], [(55, ncG (cloneG 114 spSh 3 24))]⟩
theorem h0 : HdOk Tryz.prog H0 := (HdOk.nil.mcCons n63.mc).tcCons concK_ok
theorem w64_id {x : Int} (h1 : -9223372036854775808 ≤ x) (h2 : x < 9223372036854775808) : IntKind.i64.wrap x = x := by
  unfold IntKind.wrap IntKind.bits IntKind.signed
  simp only [Bool.true_and]
  split <;> rename_i h <;> simp at h <;> omega
theorem inR {i n : Nat} (h : i < n) : inRange (i : Int) n = true := inRange_iff.2 ⟨by omega, by omega⟩
theorem ltF {i n : Nat} (h : i < n) : lt (i : Int) (toInt64 n) = true := (lt_iff _ _).2 (show (i : Int) < (n : Int) by omega)
theorem ltS {n : Nat} : lt (n : Int) (toInt64 n) = false := by
  rw [← Bool.not_eq_true, lt_iff]
  show ¬ (n : Int) < (n : Int)
  omega
def tim (a : Int) : Bool := le 0 a && le a 1073741824
def G67 : List A1 → Option AV
  | [.c (.int .i64 a), .c (.int .i64 b)] => some (.one (.c (.bool (le b a && le a 1073741824))))
  | _ => none
theorem p67 : PcOne Tryz.prog 187 G67 := pcOne_of_ev h0 10 187 fun args r h => by
  unfold G67 at h; split at h
  · obtain rfl := Option.some.inj h
    exact ⟨rfl, by kernel_rfl, by kernel_rfl⟩
  · cases h
noncomputable abbrev H1 : Hd := ⟨(187, oG G67) :: H0.pc, [], [], H0.mc⟩
theorem h1 : HdOk Tryz.prog H1 := h0.pcCons p67
structure Sp where
  e : Int
  f : Int
  t : Int
def spn (ρ : Val) (i : Nat) : Sp := ⟨((ρ.at i).at 0).N [], ((ρ.at i).at 1).N [], ((ρ.at i).at 2).N []⟩
def prv (ρ : Val) : Nat → Sp
  | 0 => ⟨0, 0, 0⟩
  | i + 1 => spn ρ i
structure Ln where
  n : Nat
  ρ : Val
def badS (p x : Sp) : Bool := (((x.f != IntKind.i64.wrap (p.t + 1) || lt x.t x.f) || lt 1073741824 x.t) || !(le 1 x.e && le x.e 1073741824)) || le x.e p.e
def badC (l : Ln) (i : Nat) : Bool := badS (prv l.ρ i) (spn l.ρ i)
structure C66 where
  l : Ln
  m : Int
structure V66 where
  p : Sp
  i : Int
def S66 (c : C66) (v : V66) : St := mkS 46 [(2, .one (.c (.bool false))), (3, .one (.c (.ptr 0 0))), (7, .one (.c (.sl spSh c.l.n c.l.ρ))), (8, .one (.c (I c.m))), (9, .one (.c (I v.i)))] [some (114, [I v.p.e, I v.p.f, I v.p.t])]
def TX66 (c : C66) (v : V66) : Tree (XE × V66) :=
  .br (lt v.i c.m) (.need (inRange v.i c.l.n) (.br (badS v.p (spn c.l.ρ v.i.toNat)) (.leaf (.ret, v)) (.leaf (.normal, ⟨spn c.l.ρ v.i.toNat, IntKind.i64.wrap (v.i + 1)⟩)))) (.leaf (.exit 0, v))
theorem t66 (c : C66) (v : V66) : ((evCode Tryz.prog H1 (evFn Tryz.prog H1 10) 172 0 1 (loopBody Tryz.prog 172 0) (S66 c v)).bind fun y => gcT [2, 3, 7, 8, 9] 0 y) = (TX66 c v).bind fun y => .leaf (y.1, S66 c y.2) := by kernel_rfl
def st66 (c : C66) (i : Nat) : V66 := ⟨prv c.l.ρ i, i⟩
def μ66 (c : C66) (v : V66) : Nat := (c.l.n - v.i).toNat
def fewN (n : Nat) : Prop := n ≤ 4611686018427387904
theorem sq66 (c : C66) (hm : c.m = c.l.n) (hn : fewN c.l.n) : Sq (TX66 c) (μ66 c) (st66 c) (st66 c) c.l.n (badC c.l) .ret (.exit 0) where
  out := by simp
  hit := by simp
  meas i hi := by unfold μ66 st66; simp only; omega
  round i hi := by
    unfold fewN at hn
    have hl : lt (i : Int) c.m = true := by rw [hm]; exact ltF hi
    have hw : IntKind.i64.wrap ((i : Int) + 1) = ((i + 1 : Nat) : Int) := by rw [w64_id (by omega) (by omega)]; omega
    refine ⟨fun _ => ⟨inR hi, fun hb => ?_, fun hb => ?_⟩, fun h => ?_⟩
    · have : badC c.l i = true := hb
      simp only [Tree.All, this, if_true]
    · have : badC c.l i = false := hb
      simp only [Tree.All, this, Bool.false_eq_true, if_false]
      show (XE.normal, (⟨_, IntKind.i64.wrap ((i : Int) + 1)⟩ : V66)) = _
      rw [hw]; rfl
    · have : lt (i : Int) c.m = false := h
      rw [hl] at this; cases this
  stop := by
    have hl : lt (c.l.n : Int) c.m = false := by rw [hm]; exact ltS
    refine ⟨fun h => ?_, fun _ => rfl⟩
    have : lt (c.l.n : Int) c.m = true := h
    rw [hl] at this; cases this
noncomputable def inv66 (c : C66) (v : V66) : Bool := dec ((c.m = c.l.n ∧ fewN c.l.n) ∧ ∃ i, i ≤ c.l.n ∧ v = st66 c i)
def run66 (c : C66) (v : V66) : XE × V66 := fin (TX66 c) (μ66 c) v
def get66 : List (Nat × AV) → Mem → Option (C66 × V66)
  | [(2, .one (.c (.bool false))), (3, .one (.c (.ptr 0 0))), (7, .one (.c (.sl [.int .i64, .int .i64, .int .i64] n ρ))), (8, .one (.c (.int .i64 m))), (9, .one (.c (.int .i64 i)))], [some (114, [.int .i64 a, .int .i64 b, .int .i64 c])] => some (⟨⟨n, ρ⟩, m⟩, ⟨⟨a, b, c⟩, i⟩)
  | _, _ => none
noncomputable def L66 : Nat → St → Tree (XE × St) := loopH [2, 3, 7, 8, 9] 0 46 get66 inv66 S66 run66 [.ret, .exit 0]
theorem rounds_of {C V : Type} {TX : C → V → Tree (XE × V)} {μ : C → V → Nat} {inv : C → V → Bool} {Q : C → XE × V → Prop} (h : ∀ c v, inv c v = true → Rounds (TX c) (fun v => inv c v = true) (μ c) (Q c)) (c : C) : Rounds (TX c) (fun v => inv c v = true) (μ c) (Q c) :=
  fun v hv => h c v hv v hv
theorem l66 (fn : Func) (c b : Code) (hf : Tryz.prog.funcs[172]? = some fn) (hc : fn.body = some c) (hb : nthLoop c 0 = some b) : LoopOk Tryz.prog b L66 :=
  loopOk_of h1 10 172 0 hf hc hb [2, 3, 7, 8, 9] 0 46 S66 TX66 t66 get66 inv66 μ66 [.ret, .exit 0]
    (fun l m c v h => by unfold get66 at h; split at h <;> simp at h; obtain ⟨rfl, rfl⟩ := h; rfl)
    (rounds_of fun c v hv => by
      have h := (dec_iff.1 hv).1
      exact (sq66 c h.1 h.2).rounds fun x => by unfold inv66; rw [dec_iff]; exact ⟨fun h => h.2, fun k => ⟨h, k⟩⟩)
noncomputable abbrev H66 : Hd := ⟨H1.pc, [], [((172, 0), L66)], H1.mc⟩
theorem h66 : HdOk Tryz.prog H66 := HdOk.lhCons h1 l66
def corr (l : Ln) : Bool := !(anyB (badC l) l.n)
noncomputable def G66 : List A1 → Option (Bool × AV)
  | [.c (.sl [.int .i64, .int .i64, .int .i64] n ρ)] => some (dec (fewN n), .one (.c (.bool (corr ⟨n, ρ⟩))))
  | _ => none
theorem all66 (l : Ln) (hn : fewN l.n) : (Tree.need (inv66 ⟨l, toInt64 l.n⟩ ⟨⟨0, 0, 0⟩, 0⟩) (.br (eqXE (run66 ⟨l, toInt64 l.n⟩ ⟨⟨0, 0, 0⟩, 0⟩).1 .ret) (.leaf (AV.one (.c (.bool false))))
    (.need (eqXE (run66 ⟨l, toInt64 l.n⟩ ⟨⟨0, 0, 0⟩, 0⟩).1 (.exit 0)) (.leaf (AV.one (.c (.bool true))))))).All (fun z => z = .one (.c (.bool (corr l)))) := by
  have h := sq66 ⟨l, toInt64 l.n⟩ rfl hn
  have hi : inv66 ⟨l, toInt64 l.n⟩ ⟨⟨0, 0, 0⟩, 0⟩ = true := dec_iff.2 ⟨⟨rfl, hn⟩, 0, Nat.zero_le _, rfl⟩
  have hf : run66 ⟨l, toInt64 l.n⟩ ⟨⟨0, 0, 0⟩, 0⟩ = _ := h.fin0
  refine ⟨hi, ?_⟩
  rw [hf]
  unfold corr
  cases anyB (badC l) l.n
  · exact ⟨fun h => (by cases h), fun _ => ⟨rfl, rfl⟩⟩
  · exact ⟨fun _ => rfl, fun h => (by cases h)⟩
theorem p66 : TcOne Tryz.prog 172 (nG G66) := tcOne_of_tree h66 10 172 fun args r h => by
  unfold G66 at h; split at h
  · rename_i n ρ
    obtain ⟨hp, rfl⟩ := Prod.mk.inj (Option.some.inj h)
    refine ⟨rfl, _, ?_, all66 ⟨n, ρ⟩ (dec_iff.1 hp)⟩
    kernel_rfl
  · cases h
noncomputable abbrev H2 : Hd := ⟨(172, nG G66) :: H1.pc, [], [], H1.mc⟩
theorem h2 : HdOk Tryz.prog H2 := h1.tcCons p66
structure C65 where
  a : Ln
  b : Ln
structure V65 where
  c : Int
  e : Int
  i : Int
def S65 (c : C65) (v : V65) : St := mkS 68 [(0, .one (.c (.sl spSh c.a.n c.a.ρ))), (1, .one (.c (.sl spSh c.b.n c.b.ρ))), (6, .one (.c (I v.c))), (7, .one (.c (I v.e))), (8, .one (.c (I v.i)))] []
def TX65 (c : C65) (v : V65) : Tree (XE × V65) :=
  let g := lt v.i (imin (toInt64 c.a.n) (toInt64 c.b.n))
  .need (!((g == true) && true) || inRange v.i c.a.n) (.need (!((g == true) && true) || inRange v.i c.b.n)
    (.br (g && (spn c.a.ρ v.i.toNat).e == (spn c.b.ρ v.i.toNat).e)
      (.need (inRange v.i c.a.n) (.need (inRange v.i c.b.n) (.need (inRange v.i c.a.n) (.need (inRange v.i c.a.n) (.need (inRange v.i c.b.n)
        (.br ((spn c.a.ρ v.i.toNat).t != (spn c.b.ρ v.i.toNat).t) (.leaf (.exit 0, ⟨imin (spn c.a.ρ v.i.toNat).t (spn c.b.ρ v.i.toNat).t, (spn c.a.ρ v.i.toNat).e, v.i⟩))
          (.leaf (.normal, ⟨imin (spn c.a.ρ v.i.toNat).t (spn c.b.ρ v.i.toNat).t, (spn c.a.ρ v.i.toNat).e, IntKind.i64.wrap (v.i + 1)⟩))))))))
      (.leaf (.exit 0, v))))
theorem t65 (c : C65) (v : V65) : ((evCode Tryz.prog H2 (evFn Tryz.prog H2 10) 150 0 1 (loopBody Tryz.prog 150 0) (S65 c v)).bind fun y => gcT [0, 1, 6, 7, 8] 0 y) = (TX65 c v).bind fun y => .leaf (y.1, S65 c y.2) := by kernel_rfl
def len65 (c : C65) : Nat := min c.a.n c.b.n
def bad65 (c : C65) (i : Nat) : Bool := !((spn c.a.ρ i).e == (spn c.b.ρ i).e) || (spn c.a.ρ i).t != (spn c.b.ρ i).t
def st65 (c : C65) : Nat → V65
  | 0 => ⟨0, 0, 0⟩
  | i + 1 => ⟨imin (spn c.a.ρ i).t (spn c.b.ρ i).t, (spn c.a.ρ i).e, (i + 1 : Nat)⟩
def sb65 (c : C65) (i : Nat) : V65 := bif (spn c.a.ρ i).e == (spn c.b.ρ i).e then ⟨imin (spn c.a.ρ i).t (spn c.b.ρ i).t, (spn c.a.ρ i).e, i⟩ else st65 c i
theorem st65_i (c : C65) (i : Nat) : (st65 c i).i = i := by cases i <;> rfl
def μ65 (c : C65) (v : V65) : Nat := (len65 c - v.i).toNat
theorem imin_nat (a b : Nat) : imin (toInt64 a) (toInt64 b) = ((min a b : Nat) : Int) := by
  unfold imin
  cases h : lt (toInt64 b) (toInt64 a)
  · have : ¬ (b : Int) < (a : Int) := fun hh => by
      have : lt (toInt64 b) (toInt64 a) = true := (lt_iff _ _).2 hh
      rw [h] at this; cases this
    show (a : Int) = _
    omega
  · have : (b : Int) < (a : Int) := (lt_iff _ _).1 h
    show (b : Int) = _
    omega
theorem sq65 (c : C65) (ha : fewN c.a.n) : Sq (TX65 c) (μ65 c) (st65 c) (sb65 c) (len65 c) (bad65 c) (.exit 0) (.exit 0) where
  out := by simp
  hit := by simp
  meas i hi := by unfold μ65; rw [st65_i]; omega
  round i hi := by
    unfold fewN at ha
    unfold len65 at hi
    have hg : lt ((st65 c i).i) (imin (toInt64 c.a.n) (toInt64 c.b.n)) = true := by
      rw [st65_i, imin_nat, lt_iff]; omega
    have ra : inRange (st65 c i).i c.a.n = true := by rw [st65_i]; exact inR (by omega)
    have rb : inRange (st65 c i).i c.b.n = true := by rw [st65_i]; exact inR (by omega)
    have hw : IntKind.i64.wrap ((i : Int) + 1) = ((i + 1 : Nat) : Int) := by rw [w64_id (by omega) (by omega)]; omega
    have hin : ((st65 c i).i).toNat = i := by rw [st65_i]; omega
    unfold TX65
    simp only [hg, ra, rb, Tree.All, Bool.or_true, Bool.true_and, true_and, hin]
    unfold bad65 sb65
    cases he : ((spn c.a.ρ i).e == (spn c.b.ρ i).e)
    · simp
    · cases ht : ((spn c.a.ρ i).t != (spn c.b.ρ i).t)
      · simp only [Bool.not_true, Bool.or_self, Bool.false_eq_true, if_false, false_implies, true_and, and_true, forall_const, reduceCtorEq]
        rw [st65_i, hw]
        rfl
      · simp only [Bool.not_true, Bool.false_or, if_true, false_implies, and_true, forall_const, reduceCtorEq, cond_true]
        rw [st65_i]
  stop := by
    have hg : lt ((st65 c (len65 c)).i) (imin (toInt64 c.a.n) (toInt64 c.b.n)) = false := by
      rw [st65_i, imin_nat, ← Bool.not_eq_true, lt_iff]; unfold len65; omega
    unfold TX65
    simp [hg, Tree.All]
noncomputable def inv65 (c : C65) (v : V65) : Bool := dec (fewN c.a.n ∧ ∃ i, i ≤ len65 c ∧ v = st65 c i)
def run65 (c : C65) (v : V65) : XE × V65 := fin (TX65 c) (μ65 c) v
def get65 : List (Nat × AV) → Mem → Option (C65 × V65)
  | [(0, .one (.c (.sl [.int .i64, .int .i64, .int .i64] n ρ))), (1, .one (.c (.sl [.int .i64, .int .i64, .int .i64] m σ))), (6, .one (.c (.int .i64 c))), (7, .one (.c (.int .i64 e))), (8, .one (.c (.int .i64 i)))], [] => some (⟨⟨n, ρ⟩, ⟨m, σ⟩⟩, ⟨c, e, i⟩)
  | _, _ => none
noncomputable def L65 : Nat → St → Tree (XE × St) := loopH [0, 1, 6, 7, 8] 0 68 get65 inv65 S65 run65 [.exit 0]
theorem l65 (fn : Func) (c b : Code) (hf : Tryz.prog.funcs[150]? = some fn) (hc : fn.body = some c) (hb : nthLoop c 0 = some b) : LoopOk Tryz.prog b L65 :=
  loopOk_of h2 10 150 0 hf hc hb [0, 1, 6, 7, 8] 0 68 S65 TX65 t65 get65 inv65 μ65 [.exit 0]
    (fun l m c v h => by unfold get65 at h; split at h <;> simp at h; obtain ⟨rfl, rfl⟩ := h; rfl)
    (rounds_of fun c v hv => by
      have h := (dec_iff.1 hv).1
      exact (sq65 c h).rounds fun x => by unfold inv65; rw [dec_iff]; exact ⟨fun h => h.2, fun k => ⟨h, k⟩⟩)
noncomputable abbrev H65 : Hd := ⟨H2.pc, [], [((150, 0), L65)], H2.mc⟩
theorem h65 : HdOk Tryz.prog H65 := HdOk.lhCons h2 l65
def anc (a b : Ln) : V65 := bif !(corr a) || !(corr b) then ⟨0, 0, 0⟩ else bif anyB (bad65 ⟨a, b⟩) (len65 ⟨a, b⟩) then sb65 ⟨a, b⟩ (firstB (bad65 ⟨a, b⟩) (len65 ⟨a, b⟩)) else st65 ⟨a, b⟩ (len65 ⟨a, b⟩)
noncomputable def G65 : List A1 → Option (Bool × AV)
  | [.c (.sl [.int .i64, .int .i64, .int .i64] n ρ), .c (.sl [.int .i64, .int .i64, .int .i64] m σ)] => some (dec (fewN n ∧ fewN m), .tup [.c (I (anc ⟨n, ρ⟩ ⟨m, σ⟩).c), .c (I (anc ⟨n, ρ⟩ ⟨m, σ⟩).e)])
  | _ => none
theorem all65 (a b : Ln) (ha : fewN a.n) (hb : fewN b.n) : (Tree.need (dec (fewN a.n)) (.need (!(((!(corr a)) == false) && true) || dec (fewN b.n)) (.br (!(corr a) || !(corr b)) (.leaf (AV.tup [.c (I 0), .c (I 0)]))
    (.need (inv65 ⟨a, b⟩ ⟨0, 0, 0⟩) (.need (eqXE (run65 ⟨a, b⟩ ⟨0, 0, 0⟩).1 (.exit 0)) (.leaf (AV.tup [.c (I (run65 ⟨a, b⟩ ⟨0, 0, 0⟩).2.c), .c (I (run65 ⟨a, b⟩ ⟨0, 0, 0⟩).2.e)]))))))).All
      (fun z => z = .tup [.c (I (anc a b).c), .c (I (anc a b).e)]) := by
  have h := sq65 ⟨a, b⟩ ha
  have hi : inv65 ⟨a, b⟩ ⟨0, 0, 0⟩ = true := dec_iff.2 ⟨ha, 0, Nat.zero_le _, rfl⟩
  have hf : run65 ⟨a, b⟩ ⟨0, 0, 0⟩ = _ := h.fin0
  refine ⟨dec_iff.2 ha, by rw [dec_iff.2 hb, Bool.or_true], fun hc => ?_, fun hc => ⟨hi, ?_⟩⟩
  · unfold anc; rw [hc]; rfl
  · rw [hf]
    unfold anc
    rw [hc]
    cases anyB (bad65 ⟨a, b⟩) (len65 ⟨a, b⟩) <;> exact ⟨rfl, rfl⟩
theorem p65 : TcOne Tryz.prog 150 (nG G65) := tcOne_of_tree h65 10 150 fun args r h => by
  unfold G65 at h; split at h
  · rename_i n ρ m σ
    obtain ⟨hp, rfl⟩ := Prod.mk.inj (Option.some.inj h)
    have hp := dec_iff.1 hp
    refine ⟨rfl, _, ?_, all65 ⟨n, ρ⟩ ⟨m, σ⟩ hp.1 hp.2⟩
    kernel_rfl
  · cases h
noncomputable abbrev H3 : Hd := ⟨(150, nG G65) :: H2.pc, [], [], H2.mc⟩
theorem h3 : HdOk Tryz.prog H3 := h2.tcCons p65
def S58 (c : Ln) (i : Int) : St := mkS 73 [(0, .one (.c (.sl spSh c.n c.ρ))), (2, .one (.c (.bool false))), (3, .one (.c (I i)))] []
def bad1 (f : Int) (x : Sp) : Bool := x.f != f
def bad2 (f : Int) (x : Sp) : Bool := bad1 f x || lt x.t x.f
def bad3 (f : Int) (x : Sp) : Bool := bad2 f x || lt 1073741824 x.t
def bad4 (f e : Int) (x : Sp) : Bool := bad3 f x || lt x.e e
def bad5 (f e : Int) (x : Sp) : Bool := bad4 f e x || lt 1073741824 x.e
def K58 (c : Ln) (i f e : Int) : Tree (XE × Int) :=
  .need (inRange i c.n) (.need (!(((bad1 f (spn c.ρ i.toNat)) == false) && true) || inRange i c.n) (.need (!(((bad1 f (spn c.ρ i.toNat)) == false) && true) || inRange i c.n)
    (.need (!(((bad2 f (spn c.ρ i.toNat)) == false) && true) || inRange i c.n) (.need (!(((bad3 f (spn c.ρ i.toNat)) == false) && true) || inRange i c.n) (.need (!(((bad4 f e (spn c.ρ i.toNat)) == false) && true) || inRange i c.n)
      (.br (bad5 f e (spn c.ρ i.toNat)) (.leaf (.ret, i)) (.leaf (.normal, IntKind.i64.wrap (i + 1)))))))))
def TX58 (c : Ln) (i : Int) : Tree (XE × Int) :=
  .br (lt i (toInt64 c.n))
    (.br (lt 0 i) (.need (inRange (IntKind.i64.wrap (i - 1)) c.n) (.need (inRange (IntKind.i64.wrap (i - 1)) c.n) (K58 c i (IntKind.i64.wrap ((spn c.ρ (IntKind.i64.wrap (i - 1)).toNat).t + 1)) (IntKind.i64.wrap ((spn c.ρ (IntKind.i64.wrap (i - 1)).toNat).e + 1)))))
      (K58 c i 1 1))
    (.leaf (.exit 0, i))
theorem t58 (c : Ln) (i : Int) : ((evCode Tryz.prog H3 (evFn Tryz.prog H3 10) 138 0 1 (loopBody Tryz.prog 138 0) (S58 c i)).bind fun y => gcT [0, 2, 3] 0 y) = (TX58 c i).bind fun y => .leaf (y.1, S58 c y.2) := by kernel_rfl
def badR (l : Ln) (i : Nat) : Bool := bad5 (IntKind.i64.wrap ((prv l.ρ i).t + 1)) (IntKind.i64.wrap ((prv l.ρ i).e + 1)) (spn l.ρ i)
theorem K58_all (c : Ln) (i : Nat) (hi : i < c.n) (hn : fewN c.n) (f e : Int) : (K58 c i f e).All fun y => if bad5 f e (spn c.ρ i) then y = (.ret, (i : Int)) else y = (.normal, ((i + 1 : Nat) : Int)) := by
  unfold fewN at hn
  have hr := inR hi
  have hw : IntKind.i64.wrap ((i : Int) + 1) = ((i + 1 : Nat) : Int) := by rw [w64_id (by omega) (by omega)]; omega
  unfold K58
  simp only [Tree.All, hr, Bool.or_true, true_and, Int.toNat_natCast]
  cases bad5 f e (spn c.ρ i)
  · simp only [Bool.false_eq_true, if_false, false_implies, true_and, hw, implies_true]
  · simp only [if_true, reduceCtorEq, false_implies, and_true, implies_true]
theorem sq58 (c : Ln) (hn : fewN c.n) : Sq (TX58 c) (fun i => (c.n - i).toNat) (fun i => (i : Int)) (fun i => (i : Int)) c.n (badR c) .ret (.exit 0) where
  out := by simp
  hit := by simp
  meas i hi := by
    show ((c.n : Int) - (i : Int)).toNat = c.n - i
    omega
  round i hi := by
    have hn' := hn
    unfold fewN at hn'
    refine ⟨fun _ => ⟨fun h0 => ?_, fun h0 => ?_⟩, fun h => ?_⟩
    · have h0' : (0 : Int) < (i : Int) := (lt_iff _ _).1 h0
      obtain ⟨k, rfl⟩ : ∃ k, i = k + 1 := ⟨i - 1, by omega⟩
      have hk : IntKind.i64.wrap (((k + 1 : Nat) : Int) - 1) = (k : Int) := by rw [w64_id (by omega) (by omega)]; omega
      rw [hk]
      refine ⟨inR (by omega), inR (by omega), ?_⟩
      exact K58_all c (k + 1) hi hn _ _
    · have h0' : ¬ (0 : Int) < (i : Int) := fun h => by rw [(lt_iff _ _).2 h] at h0; cases h0
      obtain rfl : i = 0 := by omega
      exact K58_all c 0 hi hn 1 1
    · rw [ltF hi] at h; cases h
  stop := by
    refine ⟨fun h => ?_, fun _ => rfl⟩
    rw [ltS] at h; cases h
noncomputable def inv58 (c : Ln) (v : Int) : Bool := dec (fewN c.n ∧ ∃ i : Nat, i ≤ c.n ∧ v = (i : Int))
def run58 (c : Ln) (v : Int) : XE × Int := fin (TX58 c) (fun i => (c.n - i).toNat) v
def get58 : List (Nat × AV) → Mem → Option (Ln × Int)
  | [(0, .one (.c (.sl [.int .i64, .int .i64, .int .i64] n ρ))), (2, .one (.c (.bool false))), (3, .one (.c (.int .i64 i)))], [] => some (⟨n, ρ⟩, i)
  | _, _ => none
noncomputable def L58 : Nat → St → Tree (XE × St) := loopH [0, 2, 3] 0 73 get58 inv58 S58 run58 [.ret, .exit 0]
theorem l58 (fn : Func) (c b : Code) (hf : Tryz.prog.funcs[138]? = some fn) (hc : fn.body = some c) (hb : nthLoop c 0 = some b) : LoopOk Tryz.prog b L58 :=
  loopOk_of h3 10 138 0 hf hc hb [0, 2, 3] 0 73 S58 TX58 t58 get58 inv58 (fun c i => (c.n - i).toNat) [.ret, .exit 0]
    (fun l m c v h => by unfold get58 at h; split at h <;> simp at h; obtain ⟨rfl, rfl⟩ := h; rfl)
    (rounds_of fun c v hv => by
      have h := (dec_iff.1 hv).1
      exact (sq58 c h).rounds fun x => by unfold inv58; rw [dec_iff]; exact ⟨fun h => h.2, fun k => ⟨h, k⟩⟩)
noncomputable abbrev H58 : Hd := ⟨H3.pc, [], [((138, 0), L58)], H3.mc⟩
theorem h58 : HdOk Tryz.prog H58 := HdOk.lhCons h3 l58
theorem prv_ok {l : Ln} {i : Nat} (hp : ∀ j, j < i → badC l j = false) : 0 ≤ (prv l.ρ i).e ∧ (prv l.ρ i).e ≤ 1073741824 ∧ (prv l.ρ i).t ≤ 1073741824 ∧ (0 < i → 1 ≤ (prv l.ρ i).t ∧ 1 ≤ (prv l.ρ i).e) := by
  induction i with
  | zero => exact ⟨by simp [prv], by simp [prv], by simp [prv], fun h => by omega⟩
  | succ i ih =>
    obtain ⟨i1, i2, i3, i4⟩ := ih fun j hj => hp j (by omega)
    have h := hp i (by omega)
    unfold badC badS at h
    simp only [Bool.or_eq_false_iff, Bool.not_eq_false', Bool.and_eq_true, le_iff, bne_eq_false_iff_eq] at h
    obtain ⟨⟨⟨⟨h1, h2⟩, h3⟩, h4⟩, h5⟩ := h
    rw [← Bool.not_eq_true, lt_iff] at h2 h3
    have hge : 0 ≤ (prv l.ρ i).t := by
      cases i with
      | zero => simp [prv]
      | succ i => have := (i4 (by omega)).1; omega
    rw [w64_id (by omega) (by omega)] at h1
    show 0 ≤ (spn l.ρ i).e ∧ (spn l.ρ i).e ≤ 1073741824 ∧ (spn l.ρ i).t ≤ 1073741824 ∧ (_ → 1 ≤ (spn l.ρ i).t ∧ 1 ≤ (spn l.ρ i).e)
    exact ⟨by omega, h4.2, by omega, fun _ => ⟨by omega, h4.1⟩⟩
theorem corr_eq (l : Ln) : anyB (badR l) l.n = anyB (badC l) l.n := by
  symm
  refine anyB_congr fun i _ hp => ?_
  obtain ⟨i1, i2, _, _⟩ := prv_ok hp
  unfold badC badS badR bad5 bad4 bad3 bad2 bad1
  rw [w64_id (x := (prv l.ρ i).e + 1) (by omega) (by omega)]
  generalize ((spn l.ρ i).f != IntKind.i64.wrap ((prv l.ρ i).t + 1) || lt (spn l.ρ i).t (spn l.ρ i).f || lt 1073741824 (spn l.ρ i).t) = q
  cases q
  · simp only [Bool.false_or]
    rw [Bool.eq_iff_iff]
    simp only [Bool.or_eq_true, Bool.not_eq_true', ← Bool.not_eq_true, Bool.and_eq_true, le_iff, lt_iff]
    omega
  · simp
noncomputable def G58 : List A1 → Option (Bool × AV)
  | [.c (.sl [.int .i64, .int .i64, .int .i64] n ρ)] => some (dec (fewN n), .one (.c (.bool (corr ⟨n, ρ⟩))))
  | _ => none
theorem all58 (l : Ln) (hn : fewN l.n) : (Tree.need (inv58 l 0) (.br (eqXE (run58 l 0).1 .ret) (.leaf (AV.one (.c (.bool false)))) (.need (eqXE (run58 l 0).1 (.exit 0)) (.leaf (AV.one (.c (.bool true))))))).All (fun z => z = .one (.c (.bool (corr l)))) := by
  have hi : inv58 l 0 = true := dec_iff.2 ⟨hn, 0, Nat.zero_le _, rfl⟩
  have hf : run58 l 0 = _ := (sq58 l hn).fin0
  refine ⟨hi, ?_⟩
  rw [hf, corr_eq]
  unfold corr
  cases anyB (badC l) l.n
  · exact ⟨fun h => (by cases h), fun _ => ⟨rfl, rfl⟩⟩
  · exact ⟨fun _ => rfl, fun h => (by cases h)⟩
theorem p58 : TcOne Tryz.prog 138 (nG G58) := tcOne_of_tree h58 10 138 fun args r h => by
  unfold G58 at h; split at h
  · rename_i n ρ
    obtain ⟨hp, rfl⟩ := Prod.mk.inj (Option.some.inj h)
    refine ⟨rfl, _, ?_, all58 ⟨n, ρ⟩ (dec_iff.1 hp)⟩
    kernel_rfl
  · cases h
def hd (l : Ln) : Sp := prv l.ρ l.n
theorem last_ok {l : Ln} (hn : fewN l.n) (h0 : (toInt64 l.n == 0) = false) : inRange (IntKind.i64.wrap (toInt64 l.n - 1)) l.n = true ∧ spn l.ρ (IntKind.i64.wrap (toInt64 l.n - 1)).toNat = hd l := by
  unfold fewN at hn
  have h0' : ¬ (l.n : Int) = 0 := by simpa [toInt64] using h0
  obtain ⟨k, hk⟩ : ∃ k, l.n = k + 1 := ⟨l.n - 1, by omega⟩
  have e : IntKind.i64.wrap (toInt64 l.n - 1) = (k : Int) := by
    show IntKind.i64.wrap ((l.n : Int) - 1) = _
    rw [w64_id (by omega) (by omega)]; omega
  rw [e]
  refine ⟨inR (by omega), ?_⟩
  unfold hd
  rw [hk]; rfl
theorem hd_zero {l : Ln} (h0 : (toInt64 l.n == 0) = true) : hd l = ⟨0, 0, 0⟩ := by
  have h0' : l.n = 0 := by
    have : (l.n : Int) = 0 := by simpa [toInt64] using h0
    omega
  unfold hd
  rw [h0']; rfl
noncomputable def G29 : List A1 → Option (Bool × AV)
  | [.c (.sl [.int .i64, .int .i64, .int .i64] n ρ)] => some (dec (fewN n), .tup [.c (I (hd ⟨n, ρ⟩).e), .c (I (hd ⟨n, ρ⟩).t)])
  | _ => none
noncomputable def G50 : List A1 → Option (Bool × AV)
  | [.c (.sl [.int .i64, .int .i64, .int .i64] n ρ)] => some (dec (fewN n), .one (.agg [I (hd ⟨n, ρ⟩).e, I (hd ⟨n, ρ⟩).f, I (hd ⟨n, ρ⟩).t]))
  | _ => none
theorem p29 : TcOne Tryz.prog 139 (nG G29) := tcOne_of_tree h3 10 139 fun args r h => by
  unfold G29 at h; split at h
  · rename_i n ρ
    obtain ⟨hp, rfl⟩ := Prod.mk.inj (Option.some.inj h)
    have hp := dec_iff.1 hp
    refine ⟨rfl, .br (toInt64 n == 0) (.leaf (.tup [.c (I 0), .c (I 0)])) (.need (inRange (IntKind.i64.wrap (toInt64 n - 1)) n) (.need (inRange (IntKind.i64.wrap (toInt64 n - 1)) n)
      (.leaf (.tup [.c (I (spn ρ (IntKind.i64.wrap (toInt64 n - 1)).toNat).e), .c (I (spn ρ (IntKind.i64.wrap (toInt64 n - 1)).toNat).t)])))), by kernel_rfl, fun h0 => ?_, fun h0 => ?_⟩
    · have := hd_zero (l := ⟨n, ρ⟩) h0
      rw [this]; rfl
    · obtain ⟨a, b⟩ := last_ok (l := ⟨n, ρ⟩) hp h0
      simp only at a b
      exact ⟨a, a, by rw [b]; rfl⟩
  · cases h
theorem p50 : TcOne Tryz.prog 116 (nG G50) := tcOne_of_tree h3 10 116 fun args r h => by
  unfold G50 at h; split at h
  · rename_i n ρ
    obtain ⟨hp, rfl⟩ := Prod.mk.inj (Option.some.inj h)
    have hp := dec_iff.1 hp
    refine ⟨rfl, .br (toInt64 n == 0) (.leaf (.one (.agg [I 0, I 0, I 0]))) (.need (inRange (IntKind.i64.wrap (toInt64 n - 1)) n)
      (.leaf (.one (.agg [I (spn ρ (IntKind.i64.wrap (toInt64 n - 1)).toNat).e, I (spn ρ (IntKind.i64.wrap (toInt64 n - 1)).toNat).f, I (spn ρ (IntKind.i64.wrap (toInt64 n - 1)).toNat).t])))), by kernel_rfl, fun h0 => ?_, fun h0 => ?_⟩
    · have := hd_zero (l := ⟨n, ρ⟩) h0
      rw [this]; rfl
    · obtain ⟨a, b⟩ := last_ok (l := ⟨n, ρ⟩) hp h0
      simp only at a b
      exact ⟨a, by rw [b]; rfl⟩
  · cases h
theorem anc_self {l : Ln} (h0 : (toInt64 l.n == 0) = false) : (((anc l l).c == (hd l).t && (anc l l).e == (hd l).e) && lt 0 (anc l l).c) = corr l := by
  have h0' : ¬ (l.n : Int) = 0 := by simpa [toInt64] using h0
  obtain ⟨k, hk⟩ : ∃ k, l.n = k + 1 := ⟨l.n - 1, by omega⟩
  have hb : ∀ i, bad65 ⟨l, l⟩ i = false := fun i => by simp [bad65]
  have ha : anyB (bad65 ⟨l, l⟩) (len65 ⟨l, l⟩) = false := anyB_none fun i _ => hb i
  have hl : len65 ⟨l, l⟩ = k + 1 := by unfold len65; simp only; omega
  have him : ∀ x : Int, imin x x = x := fun x => by unfold imin; cases lt x x <;> rfl
  unfold anc
  cases hc : corr l
  · simp [lt]
  · rw [ha, hl]
    simp only [Bool.not_true, Bool.or_self, cond_false]
    have e1 : hd l = spn l.ρ k := by unfold hd; rw [hk]; rfl
    have hp : ∀ j, j < k + 1 → badC l j = false := fun j hj => by
      rw [← Bool.not_eq_true]
      intro hh
      have := anyB_iff.2 ⟨j, show j < l.n by omega, hh⟩
      unfold corr at hc
      rw [this] at hc; cases hc
    have ht := (prv_ok hp).2.2.2 (by omega)
    show (((imin (spn l.ρ k).t (spn l.ρ k).t) == (hd l).t && (spn l.ρ k).e == (hd l).e) && lt 0 (imin (spn l.ρ k).t (spn l.ρ k).t)) = true
    rw [him, e1]
    have : lt 0 (spn l.ρ k).t = true := (lt_iff _ _).2 (by
      have : 1 ≤ (spn l.ρ k).t := ht.1
      omega)
    simp [this]
noncomputable abbrev H4 : Hd := ⟨(138, nG G58) :: (139, nG G29) :: (116, nG G50) :: H3.pc, [], [], H3.mc⟩
theorem h4 : HdOk Tryz.prog H4 := ((h3.tcCons p50).tcCons p29).tcCons p58
theorem p54 : TcOne Tryz.prog 115 (nG G66) := tcOne_of_tree h4 10 115 fun args r h => by
  unfold G66 at h; split at h
  · rename_i n ρ
    obtain ⟨hp, rfl⟩ := Prod.mk.inj (Option.some.inj h)
    have hp := dec_iff.1 hp
    refine ⟨rfl, .br (toInt64 n == 0) (.leaf (.one (.c (.bool true)))) (.need (dec (fewN n ∧ fewN n)) (.need (inRange (IntKind.i64.wrap (toInt64 n - 1)) n)
      (.leaf (.one (.c (.bool (((anc ⟨n, ρ⟩ ⟨n, ρ⟩).c == (spn ρ (IntKind.i64.wrap (toInt64 n - 1)).toNat).t && (anc ⟨n, ρ⟩ ⟨n, ρ⟩).e == (spn ρ (IntKind.i64.wrap (toInt64 n - 1)).toNat).e) && lt 0 (anc ⟨n, ρ⟩ ⟨n, ρ⟩).c))))))), by kernel_rfl, fun h0 => ?_, fun h0 => ?_⟩
    · have h0' : n = 0 := by
        have : (n : Int) = 0 := by simpa [toInt64] using h0
        omega
      subst h0'
      rfl
    · obtain ⟨a, b⟩ := last_ok (l := ⟨n, ρ⟩) hp h0
      simp only at a b
      refine ⟨dec_iff.2 ⟨hp, hp⟩, a, ?_⟩
      rw [b]
      have := anc_self (l := ⟨n, ρ⟩) h0
      show AV.one (.c (.bool _)) = _
      rw [this]
  · cases h
noncomputable abbrev H5 : Hd := ⟨(115, nG G66) :: H4.pc, [], [], H4.mc⟩
theorem h5 : HdOk Tryz.prog H5 := h4.tcCons p54
def sit (a : Int) : Bool := le 0 a && lt a 4
def rcv (r : Int) : Bool := r == 2 || r == 4
def G47 : List A1 → Option AV
  | [.c (.int .i64 a), .c (.int .i64 b), .c (.int .i64 c)] => some (.one (.c (.bool (le b a && le a c))))
  | _ => none
theorem p47 : PcOne Tryz.prog 70 G47 := pcOne_of_ev h5 10 70 fun args r h => by
  unfold G47 at h; split at h
  · obtain rfl := Option.some.inj h
    exact ⟨rfl, by kernel_rfl, by kernel_rfl⟩
  · cases h
def G55 : List A1 → Option AV
  | [.c (.int .i64 a)] => some (.one (.c (.bool (rcv a))))
  | _ => none
theorem p55 : PcOne Tryz.prog 117 G55 := pcOne_of_ev h5 10 117 fun args r h => by
  unfold G55 at h; split at h
  · obtain rfl := Option.some.inj h
    exact ⟨rfl, by kernel_rfl, by kernel_rfl⟩
  · cases h
theorem p59 : PcOne Tryz.prog 140 G55 := pcOne_of_ev h5 10 140 fun args r h => by
  unfold G55 at h; split at h
  · obtain rfl := Option.some.inj h
    exact ⟨rfl, by kernel_rfl, by kernel_rfl⟩
  · cases h
def G45 : List A1 → Option AV
  | [.c (.int .i64 a)] => some (.one (.c (.bool (sit a))))
  | _ => none
theorem p45 : PcOne Tryz.prog 108 G45 := pcOne_of_ev h5 10 108 fun args r h => by
  unfold G45 at h; split at h
  · obtain rfl := Option.some.inj h
    exact ⟨rfl, by kernel_rfl, by kernel_rfl⟩
  · cases h
def G57 : List A1 → Option AV
  | [.c (.int .i64 a)] => some (.one (.c (.bool (tim a))))
  | _ => none
theorem p57 : PcOne Tryz.prog 137 G57 := pcOne_of_ev h5 10 137 fun args r h => by
  unfold G57 at h; split at h
  · obtain rfl := Option.some.inj h
    exact ⟨rfl, by kernel_rfl, by kernel_rfl⟩
  · cases h
noncomputable abbrev H6 : Hd := ⟨(70, oG G47) :: (117, oG G55) :: (140, oG G55) :: (108, oG G45) :: (137, oG G57) :: H5.pc, [], [], H5.mc⟩
theorem h6 : HdOk Tryz.prog H6 := ((((h5.pcCons p57).pcCons p45).pcCons p59).pcCons p55).pcCons p47
def oth (m a : Int) : Bool := (le 0 m && le m 3) && m != a
def G44 : List A1 → Option AV
  | [.agg [.int .i64 a, .int .i64 _, .int .i64 _, .int .i64 _, .sl [.int .i64, .int .i64, .int .i64] _ _, .int .i64 _, .bool _, .bool _], .c (.int .i64 m)] => some (.one (.c (.bool (oth m a))))
  | _ => none
theorem p44 : PcOne Tryz.prog 118 G44 := pcOne_of_ev h6 10 118 fun args r h => by
  unfold G44 at h; split at h
  · obtain rfl := Option.some.inj h
    exact ⟨rfl, by kernel_rfl, by kernel_rfl⟩
  · cases h
noncomputable abbrev H7 : Hd := ⟨(118, oG G44) :: H6.pc, [], [], H6.mc⟩
theorem h7 : HdOk Tryz.prog H7 := h6.pcCons p44
def chk (a r e p : Int) (l : Ln) (s : Int) : Int :=
  bif !sit a then 2 else bif !(le 0 r && le r 5) then 18 else bif (!tim e || !tim p) || (e == 0 && r != 0) then 2 else bif !corr l then 3 else bif lt e (hd l).e then 13 else bif (hd l).t != p then 22 else bif (rcv r && !oth s a) || (!rcv r && s != -1) then 1 else 0
theorem all_of_sel {α : Type} {r : α} : ∀ {t : Tree α}, t.sel = some r → t.All (fun z => z = r)
  | .leaf a, h => by
    simp only [Tree.sel, Option.some.injEq] at h
    exact h
  | .br c t e, h => ⟨fun hc => all_of_sel (by simpa [Tree.sel, hc] using h), fun hc => all_of_sel (by simpa [Tree.sel, hc] using h)⟩
  | .need c t, h => by
    cases c
    · simp [Tree.sel] at h
    · exact ⟨rfl, all_of_sel (by simpa [Tree.sel] using h)⟩
  | .fail, h => by simp [Tree.sel] at h
theorem tree23 (q1 q2 te tp eo co he ht ra rb pre : Bool) (hp : pre = true) : (Tree.br (!q1) (Tree.leaf (AV.one (A1.c (I 2))))
  (Tree.br (!q2) (Tree.leaf (AV.one (A1.c (I 18))))
    (Tree.br (!te)
      (Tree.br (!te) (Tree.leaf (AV.one (A1.c (I 2))))
        (Tree.need (pre)
          (Tree.br (!co) (Tree.leaf (AV.one (A1.c (I 3))))
            (Tree.need (pre)
              (Tree.br (he) (Tree.leaf (AV.one (A1.c (I 13))))
                (Tree.need (pre)
                  (Tree.br (ht) (Tree.leaf (AV.one (A1.c (I 22))))
                    (Tree.br (ra)
                      (Tree.br (ra) (Tree.leaf (AV.one (A1.c (I 1))))
                        (Tree.leaf (AV.one (A1.c (I 0)))))
                      (Tree.br (rb) (Tree.leaf (AV.one (A1.c (I 1))))
                        (Tree.leaf (AV.one (A1.c (I 0)))))))))))))
      (Tree.br (!tp)
        (Tree.br (!tp) (Tree.leaf (AV.one (A1.c (I 2))))
          (Tree.need (pre)
            (Tree.br (!co) (Tree.leaf (AV.one (A1.c (I 3))))
              (Tree.need (pre)
                (Tree.br (he) (Tree.leaf (AV.one (A1.c (I 13))))
                  (Tree.need (pre)
                    (Tree.br (ht) (Tree.leaf (AV.one (A1.c (I 22))))
                      (Tree.br (ra)
                        (Tree.br (ra) (Tree.leaf (AV.one (A1.c (I 1))))
                          (Tree.leaf (AV.one (A1.c (I 0)))))
                        (Tree.br (rb) (Tree.leaf (AV.one (A1.c (I 1))))
                          (Tree.leaf (AV.one (A1.c (I 0)))))))))))))
        (Tree.br eo (Tree.leaf (AV.one (A1.c (I 2))))
          (Tree.need (pre)
            (Tree.br (!co) (Tree.leaf (AV.one (A1.c (I 3))))
              (Tree.need (pre)
                (Tree.br (he) (Tree.leaf (AV.one (A1.c (I 13))))
                  (Tree.need (pre)
                    (Tree.br (ht) (Tree.leaf (AV.one (A1.c (I 22))))
                      (Tree.br (ra)
                        (Tree.br (ra) (Tree.leaf (AV.one (A1.c (I 1))))
                          (Tree.leaf (AV.one (A1.c (I 0)))))
                        (Tree.br (rb) (Tree.leaf (AV.one (A1.c (I 1))))
                          (Tree.leaf (AV.one (A1.c (I 0))))))))))))))))).sel = some (AV.one (.c (I (bif !q1 then 2 else bif !q2 then 18 else bif (!te || !tp) || eo then 2 else bif !co then 3 else bif he then 13 else bif ht then 22 else bif ra || rb then 1 else 0)))) := by
  subst hp
  cases q1
  · rfl
  cases q2
  · rfl
  cases te
  · rfl
  cases tp
  · rfl
  cases eo
  · cases co
    · rfl
    cases he
    · cases ht
      · cases ra <;> cases rb <;> rfl
      · rfl
    · rfl
  · rfl
theorem tree32 (q1 q2 te tp eo co he ht ra rb pre : Bool) (hp : pre = true) : (Tree.br (!q1) (Tree.leaf (AV.one (A1.c (I 2))))
  (Tree.br (!q2) (Tree.leaf (AV.one (A1.c (I 18))))
    (Tree.br (!te || !tp || eo) (Tree.leaf (AV.one (A1.c (I 2))))
      (Tree.need (pre)
        (Tree.br (!co) (Tree.leaf (AV.one (A1.c (I 3))))
          (Tree.need (pre)
            (Tree.br (he) (Tree.leaf (AV.one (A1.c (I 13))))
              (Tree.br (ht) (Tree.leaf (AV.one (A1.c (I 22))))
                (Tree.br (ra || rb)
                  (Tree.leaf (AV.one (A1.c (I 1))))
                  (Tree.leaf (AV.one (A1.c (I 0))))))))))))).sel = some (AV.one (.c (I (bif !q1 then 2 else bif !q2 then 18 else bif (!te || !tp) || eo then 2 else bif !co then 3 else bif he then 13 else bif ht then 22 else bif ra || rb then 1 else 0)))) := by
  subst hp
  cases q1
  · rfl
  cases q2
  · rfl
  cases te
  · rfl
  cases tp
  · rfl
  cases eo
  · cases co
    · rfl
    cases he
    · cases ht
      · cases ra <;> cases rb <;> rfl
      · rfl
    · rfl
  · rfl
noncomputable def Gchk : List A1 → Option (Bool × AV)
  | [.agg [.int .i64 a, .int .i64 r, .int .i64 e, .int .i64 p, .sl [.int .i64, .int .i64, .int .i64] n ρ, .int .i64 s, .bool _, .bool _]] => some (dec (fewN n), .one (.c (I (chk a r e p ⟨n, ρ⟩ s))))
  | _ => none
theorem sit3 (a : Int) : (le 0 a && le a 3) = sit a := by
  unfold sit
  rw [Bool.eq_iff_iff]
  simp only [Bool.and_eq_true, le_iff, lt_iff]
  omega
theorem nle (a b : Int) : lt a b = !le b a := by
  rw [Bool.eq_iff_iff]
  simp only [lt_iff, Bool.not_eq_true', ← Bool.not_eq_true, le_iff]
  omega
theorem p23 : TcOne Tryz.prog 69 (nG Gchk) := tcOne_of_tree h7 10 69 fun args r h => by
  unfold Gchk at h; split at h
  · rename_i a r e p n ρ s l c
    obtain ⟨hp, rfl⟩ := Prod.mk.inj (Option.some.inj h)
    have ht := tree23 (le 0 a && le a 3) (le 0 r && le r 5) (tim e) (tim p) (e == 0 && r != 0) (corr ⟨n, ρ⟩) (lt e (hd ⟨n, ρ⟩).e) ((hd ⟨n, ρ⟩).t != p) (rcv r && !oth s a) (!rcv r && s != -1) (dec (fewN n)) hp
    rw [sit3] at ht
    refine ⟨rfl, _, ?_, all_of_sel ht⟩
    rw [← sit3]
    kernel_rfl
  · cases h
theorem p32 : TcOne Tryz.prog 97 (nG Gchk) := tcOne_of_tree h7 10 97 fun args r h => by
  unfold Gchk at h; split at h
  · rename_i a r e p n ρ s l c
    obtain ⟨hp, rfl⟩ := Prod.mk.inj (Option.some.inj h)
    have ho : oth s a = (sit s && s != a) := by unfold oth; rw [sit3]
    have e1 : (le 0 r && le r 5) = !(lt r 0 || lt 5 r) := by rw [nle r 0, nle 5 r]; cases le 0 r <;> cases le r 5 <;> rfl
    have e2 : (!(sit s && s != a)) = (!sit s || s == a) := by
      rw [Bool.not_and]
      congr 1
      show (!(!(s == a))) = _
      rw [Bool.not_not]
    have ht := tree32 (sit a) (le 0 r && le r 5) (tim e) (tim p) (e == 0 && r != 0) (corr ⟨n, ρ⟩) (lt e (hd ⟨n, ρ⟩).e) ((hd ⟨n, ρ⟩).t != p) (rcv r && !oth s a) (!rcv r && s != -1) (dec (fewN n)) hp
    have hv : chk a r e p ⟨n, ρ⟩ s = _ := rfl
    refine ⟨rfl, _, ?_, all_of_sel ht⟩
    rw [e1, ho, e2, Bool.not_not]
    kernel_rfl
  · cases h
noncomputable abbrev H8 : Hd := ⟨(69, nG Gchk) :: (97, nG Gchk) :: H7.pc, [], [], H7.mc⟩
theorem h8 : HdOk Tryz.prog H8 := (h7.tcCons p32).tcCons p23
structure LL where
  l : Ln
  m : Ln
def dif (ρ σ : Val) (i : Nat) : Bool :=
  !(((ρ.at i).at 0).N [] == ((σ.at i).at 0).N [] && (((ρ.at i).at 1).N [] == ((σ.at i).at 1).N [] && (((ρ.at i).at 2).N [] == ((σ.at i).at 2).N [] && true)))
def difL (c : LL) (i : Nat) : Bool := dif c.l.ρ c.m.ρ i
def eqL (c : LL) : Bool := bif c.l.n == c.m.n then !(anyB (difL c) c.l.n) else false
def TXe (c : LL) (i : Int) : Tree (XE × Int) :=
  .br (lt i (toInt64 c.l.n)) (.need (inRange i c.l.n) (.need (inRange i c.m.n) (.br (dif c.l.ρ c.m.ρ i.toNat) (.leaf (.ret, i)) (.leaf (.normal, IntKind.i64.wrap (i + 1)))))) (.leaf (.exit 0, i))
theorem sqE (c : LL) (he : c.l.n = c.m.n) (hn : fewN c.l.n) : Sq (TXe c) (fun i => (c.l.n - i).toNat) (fun i => (i : Int)) (fun i => (i : Int)) c.l.n (difL c) .ret (.exit 0) where
  out := by simp
  hit := by simp
  meas i hi := by
    show ((c.l.n : Int) - (i : Int)).toNat = c.l.n - i
    omega
  round i hi := by
    unfold fewN at hn
    have hl : lt (i : Int) (toInt64 c.l.n) = true := ltF hi
    have hw : IntKind.i64.wrap ((i : Int) + 1) = ((i + 1 : Nat) : Int) := by rw [w64_id (by omega) (by omega)]; omega
    refine ⟨fun _ => ⟨inR hi, inR (he ▸ hi), fun hb => ?_, fun hb => ?_⟩, fun h => ?_⟩
    · have : difL c i = true := hb
      simp only [Tree.All, this, if_true]
    · have : difL c i = false := hb
      simp only [Tree.All, this, Bool.false_eq_true, if_false]
      rw [hw]
    · rw [hl] at h; cases h
  stop := by
    refine ⟨fun h => ?_, fun _ => rfl⟩
    rw [ltS] at h; cases h
noncomputable def invE (c : LL) (v : Int) : Bool := dec ((c.l.n = c.m.n ∧ fewN c.l.n) ∧ ∃ i : Nat, i ≤ c.l.n ∧ v = (i : Int))
def runE (c : LL) (v : Int) : XE × Int := fin (TXe c) (fun i => (c.l.n - i).toNat) v
noncomputable def GE : List A1 → Option (Bool × AV)
  | [.c (.sl [.int .i64, .int .i64, .int .i64] n ρ), .c (.sl [.int .i64, .int .i64, .int .i64] k σ)] => some (dec (fewN n), .one (.c (.bool (eqL ⟨⟨n, ρ⟩, ⟨k, σ⟩⟩))))
  | _ => none
theorem allE (c : LL) (hn : fewN c.l.n) : (Tree.br (toInt64 c.l.n != toInt64 c.m.n) (.leaf (AV.one (.c (.bool false)))) (.need (invE c 0) (.br (eqXE (runE c 0).1 .ret) (.leaf (AV.one (.c (.bool false))))
    (.need (eqXE (runE c 0).1 (.exit 0)) (.leaf (AV.one (.c (.bool true)))))))).All (fun z => z = .one (.c (.bool (eqL c)))) := by
  refine ⟨fun h => ?_, fun h => ?_⟩
  · have hne : c.l.n ≠ c.m.n := fun e => by rw [e] at h; simp at h
    show _ = _
    simp [eqL, hne]
  · have he : c.l.n = c.m.n := by
      have h' : (c.l.n : Int) = (c.m.n : Int) := by simp at h; exact h
      omega
    have hs := sqE c he hn
    have hi : invE c 0 = true := dec_iff.2 ⟨⟨he, hn⟩, 0, Nat.zero_le _, rfl⟩
    have hf : runE c 0 = _ := hs.fin0
    refine ⟨hi, ?_⟩
    rw [hf]
    have hb : (c.l.n == c.m.n) = true := by simp [he]
    unfold eqL
    rw [hb]
    cases anyB (difL c) c.l.n
    · exact ⟨fun h => (by cases h), fun _ => ⟨rfl, rfl⟩⟩
    · exact ⟨fun _ => rfl, fun h => (by cases h)⟩
def S46 (c : LL) (i : Int) : St := mkS 26 [(0, .one (.c (.sl spSh c.l.n c.l.ρ))), (1, .one (.c (.sl spSh c.m.n c.m.ρ))), (4, .one (.c (.bool false))), (5, .one (.c (I i)))] []
theorem t46 (c : LL) (i : Int) : ((evCode Tryz.prog H8 (evFn Tryz.prog H8 10) 27 0 1 (loopBody Tryz.prog 27 0) (S46 c i)).bind fun y => gcT [0, 1, 4, 5] 0 y) = (TXe c i).bind fun y => .leaf (y.1, S46 c y.2) := by kernel_rfl
def get46 : List (Nat × AV) → Mem → Option (LL × Int)
  | [(0, .one (.c (.sl [.int .i64, .int .i64, .int .i64] n ρ))), (1, .one (.c (.sl [.int .i64, .int .i64, .int .i64] k σ))), (4, .one (.c (.bool false))), (5, .one (.c (.int .i64 i)))], [] => some (⟨⟨n, ρ⟩, ⟨k, σ⟩⟩, i)
  | _, _ => none
noncomputable def L46 : Nat → St → Tree (XE × St) := loopH [0, 1, 4, 5] 0 26 get46 invE S46 runE [.ret, .exit 0]
theorem l46 (fn : Func) (c b : Code) (hf : Tryz.prog.funcs[27]? = some fn) (hc : fn.body = some c) (hb : nthLoop c 0 = some b) : LoopOk Tryz.prog b L46 :=
  loopOk_of h8 10 27 0 hf hc hb [0, 1, 4, 5] 0 26 S46 TXe t46 get46 invE (fun c i => (c.l.n - i).toNat) [.ret, .exit 0]
    (fun l m c v h => by unfold get46 at h; split at h <;> simp at h; obtain ⟨rfl, rfl⟩ := h; rfl)
    (rounds_of fun c v hv => by
      have h := (dec_iff.1 hv).1
      exact (sqE c h.1 h.2).rounds fun x => by unfold invE; rw [dec_iff]; exact ⟨fun h => h.2, fun k => ⟨h, k⟩⟩)
noncomputable abbrev H46 : Hd := ⟨H8.pc, [], [((27, 0), L46)], H8.mc⟩
theorem h46 : HdOk Tryz.prog H46 := HdOk.lhCons h8 l46
theorem p46 : TcOne Tryz.prog 27 (nG GE) := tcOne_of_tree h46 10 27 fun args r h => by
  unfold GE at h; split at h
  · rename_i n ρ k σ
    obtain ⟨hp, rfl⟩ := Prod.mk.inj (Option.some.inj h)
    refine ⟨rfl, _, ?_, allE ⟨⟨n, ρ⟩, ⟨k, σ⟩⟩ (dec_iff.1 hp)⟩
    kernel_rfl
  · cases h
noncomputable def G17 : List A1 → Option (Bool × AV)
  | [.agg [.int .i64 a, .int .i64 r, .int .i64 e, .int .i64 p, .sl [.int .i64, .int .i64, .int .i64] n ρ, .int .i64 s, .bool l, .bool c], .agg [.int .i64 a', .int .i64 r', .int .i64 e', .int .i64 p', .sl [.int .i64, .int .i64, .int .i64] k σ, .int .i64 s', .bool l', .bool c']] => some (dec (fewN n), .one (.c (.bool (((((((a == a' && r == r') && e == e') && p == p') && eqL ⟨⟨n, ρ⟩, ⟨k, σ⟩⟩) && s == s') && l == l') && c == c'))))
  | _ => none
noncomputable abbrev H9 : Hd := ⟨(27, nG GE) :: H8.pc, [], [], H8.mc⟩
theorem h9 : HdOk Tryz.prog H9 := h8.tcCons p46
theorem p17 : TcOne Tryz.prog 29 (nG G17) := tcOne_of_tree h9 10 29 fun args r h => by
  unfold G17 at h; split at h
  · rename_i a r e p n ρ s l c a' r' e' p' k σ s' l' c'
    obtain ⟨hp, rfl⟩ := Prod.mk.inj (Option.some.inj h)
    refine ⟨rfl, .need (!((((((a == a' && r == r') && e == e') && p == p') == true) && true)) || dec (fewN n)) (.leaf (.one (.c (.bool (((((((a == a' && r == r') && e == e') && p == p') && eqL ⟨⟨n, ρ⟩, ⟨k, σ⟩⟩) && s == s') && l == l') && c == c'))))), ?_, by rw [hp, Bool.or_true]; exact ⟨rfl, rfl⟩⟩
    kernel_rfl
  · cases h
noncomputable abbrev H10 : Hd := ⟨(29, nG G17) :: H9.pc, [], [], H9.mc⟩
theorem h10 : HdOk Tryz.prog H10 := h9.tcCons p17
noncomputable abbrev H11 : Hd := H10
theorem h11 : HdOk Tryz.prog H11 := h10
def unC : CV → CV
  | .nils => .sl spSh 0 Val.zero
  | x => x
def un1 : A1 → A1
  | .c x => .c (unC x)
  | .agg l => .agg (l.map unC)
theorem unC_ok {F : Nat → Prop} {w : World} {bs : List BI} {x : CV} {v : Value} (h : CV.Rel F w bs x v) : CV.Rel F w bs (unC x) v := by
  cases x <;> first | exact h | (cases h; exact .slnil)
theorem un1_ok {F : Nat → Prop} {w : World} {bs : List BI} {x : A1} {v : Value} (h : A1.Rel F w bs x v) : A1.Rel F w bs (un1 x) v := by
  cases x with
  | c x => exact unC_ok h
  | agg l =>
    obtain ⟨vs, rfl, h⟩ := h
    exact ⟨vs, rfl, h.map_left fun _ _ h => unC_ok h⟩
theorem tcOne_weak {P : Program} {f : Nat} {G G' : List A1 → Tree AV} (h : TcOne P f G) (hw : ∀ args r, (G' args).sel = some r → (G (args.map un1)).sel = some r ∧ (args.map un1).all closedA = true) : TcOne P f G' :=
  fun args r hr _ F w vs ha => h (args.map un1) r (hw args r hr).1 (hw args r hr).2 F w vs (ha.map_left fun _ _ h => un1_ok h)
theorem few_of {n : Nat} (h : Nat.ble n 1000 = true) : dec (fewN n) = true := by
  have := Nat.le_of_ble_eq_true h
  exact dec_iff.2 (by unfold fewN; omega)
def Gk : List A1 → Tree AV
  | [.agg [.int .i64 a, .int .i64 r, .int .i64 e, .int .i64 p, .sl [.int .i64, .int .i64, .int .i64] n ρ, .int .i64 s, .bool _, .bool _]] => .need (Nat.ble n 1000) (.leaf (.one (.c (I (chk a r e p ⟨n, ρ⟩ s)))))
  | _ => .fail
def Gk' (args : List A1) : Tree AV := Gk (args.map un1)
theorem weakK {f : Nat} (h : TcOne Tryz.prog f (nG Gchk)) : TcOne Tryz.prog f Gk' := tcOne_weak h fun args r hr => by
  unfold Gk' at hr
  generalize args.map un1 = zs at hr
  unfold Gk at hr; split at hr
  · rename_i a r' e p n ρ s l c
    cases hb : Nat.ble n 1000
    · rw [hb] at hr; simp [Tree.sel] at hr
    · rw [hb] at hr
      refine ⟨?_, rfl⟩
      have hd := few_of hb
      rw [← hr]
      unfold nG Gchk
      simp only [hd, Tree.sel]
  · simp [Tree.sel] at hr
theorem k23 : TcOne Tryz.prog 69 Gk' := weakK p23
theorem k32 : TcOne Tryz.prog 97 Gk' := weakK p32
theorem ncOne_weak {P : Program} {f : Nat} {G : List A1 → Tree (AV × Mem)} (h : NcOne P f G) : NcOne P f (fun args => G (args.map un1)) := fun args r m hr hc F w vs ha =>
  h (args.map un1) r m hr (by
    rw [List.all_map]
    rw [List.all_eq_true] at hc ⊢
    intro x hx
    have := hc x hx
    cases x with
    | c x => cases x <;> first | exact this | rfl
    | agg l =>
      simp only [Function.comp, un1, closedA, List.all_map, List.all_eq_true] at this ⊢
      intro y hy
      have := this y hy
      cases y <;> first | exact this | rfl) F w vs (ha.map_left fun _ _ h => un1_ok h)
noncomputable abbrev HK : Hd := ⟨(69, Gk') :: (97, Gk') :: H0.pc, [], [], [(55, ncG (fun args => cloneG 114 spSh 3 24 (args.map un1)))]⟩
theorem hK0 : HdOk Tryz.prog ⟨[concK], [], [], [(55, ncG (fun args => cloneG 114 spSh 3 24 (args.map un1)))]⟩ := (HdOk.nil.mcCons (ncOne_weak n63).mc).tcCons concK_ok
theorem hK : HdOk Tryz.prog HK := (hK0.tcCons k32).tcCons k23
noncomputable abbrev H12 : Hd := H11
theorem h12 : HdOk Tryz.prog H12 := h11
def dmd (ok : Bool) (x e : Int) : Int := bif !ok && e == 0 then x else e
def G40 : List A1 → Mem → Tree (AV × Mem)
  | [.c (.ptr 5 0), .c (.bool ok), .c (.int .i64 x)], m0 :: m1 :: m2 :: m3 :: m4 :: some (208, [.int .i64 c0, c1, c2, c3, c4, c5, c6, c7, .int .i64 e]) :: r => .leaf (.tup [], m0 :: m1 :: m2 :: m3 :: m4 :: some (208, [.int .i64 c0, c1, c2, c3, c4, c5, c6, c7, .int .i64 (dmd ok x e)]) :: r)
  | [.c (.ptr 6 0), .c (.bool ok), .c (.int .i64 x)], m0 :: m1 :: m2 :: m3 :: m4 :: m5 :: some (208, [.int .i64 c0, c1, c2, c3, c4, c5, c6, c7, .int .i64 e]) :: r => .leaf (.tup [], m0 :: m1 :: m2 :: m3 :: m4 :: m5 :: some (208, [.int .i64 c0, c1, c2, c3, c4, c5, c6, c7, .int .i64 (dmd ok x e)]) :: r)
  | _, _ => .fail
theorem q40 : McOne Tryz.prog 142 G40 := mcOne_of_tree h12 10 142 fun args mem r mem' h => by
  unfold G40 at h
  split at h
  · rename_i ok x m0 m1 m2 m3 m4 c0 c1 c2 c3 c4 c5 c6 c7 e rest
    simp only [Tree.sel, Option.some.injEq, Prod.mk.injEq] at h
    obtain ⟨rfl, rfl⟩ := h
    refine ⟨.br (!ok && e == 0) (.leaf (.tup [], m0 :: m1 :: m2 :: m3 :: m4 :: some (208, [.int .i64 c0, c1, c2, c3, c4, c5, c6, c7, .int .i64 x]) :: rest)) (.leaf (.tup [], m0 :: m1 :: m2 :: m3 :: m4 :: some (208, [.int .i64 c0, c1, c2, c3, c4, c5, c6, c7, .int .i64 e]) :: rest)), by kernel_rfl, fun hc => ?_, fun hc => ?_⟩
    · show _ = _
      unfold dmd
      rw [hc]; rfl
    · show _ = _
      unfold dmd
      rw [hc]; rfl
  · rename_i ok x m0 m1 m2 m3 m4 m5 c0 c1 c2 c3 c4 c5 c6 c7 e rest
    simp only [Tree.sel, Option.some.injEq, Prod.mk.injEq] at h
    obtain ⟨rfl, rfl⟩ := h
    refine ⟨.br (!ok && e == 0) (.leaf (.tup [], m0 :: m1 :: m2 :: m3 :: m4 :: m5 :: some (208, [.int .i64 c0, c1, c2, c3, c4, c5, c6, c7, .int .i64 x]) :: rest)) (.leaf (.tup [], m0 :: m1 :: m2 :: m3 :: m4 :: m5 :: some (208, [.int .i64 c0, c1, c2, c3, c4, c5, c6, c7, .int .i64 e]) :: rest)), by kernel_rfl, fun hc => ?_, fun hc => ?_⟩
    · show _ = _
      unfold dmd
      rw [hc]; rfl
    · show _ = _
      unfold dmd
      rw [hc]; rfl
  · simp [Tree.sel] at h
noncomputable abbrev H13 : Hd := ⟨H12.pc, [], [], (142, G40) :: H12.mc⟩
theorem h13 : HdOk Tryz.prog H13 := h12.mcCons q40
end Go.Proofs.YtennlgngdjegoaaGreat
