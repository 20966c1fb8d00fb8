/-
  The roles of sites: Synced of the program: the spans that begin behind a number are left out.
-/
import Derived.Test.YtennlgngdjegoaaRoB
namespace Go.Proofs.Ytennlgngdjegoaa
open Go Go.Sx Go.RowKit Classical

set_option maxRecDepth 100000

noncomputable abbrev H16 : Hd := ⟨tailK :: H15.pc, H15.hc, [], H15.mc⟩
theorem h16 : HdOk Try.prog H16 := h15.tail

/-- plain fields of a site -/
structure F7 where
  a : Int
  r : Int
  e : Int
  p : Int
  s : Int
  l : Bool
  c : Bool

/-- what stays: the site, the number, the copy, the row's length, the transition, the first error -/
structure C18 where
  x : Sit
  nu : Int
  y : F7
  n : Nat
  z : F7
  k : Int

/-- the memory of Synced -/
def mem18 (c : C18) (σ : Val) : Mem := [some (32, [I c.x.a, I c.x.r, I c.x.e, I c.x.p, .sl spSh c.x.n c.x.ρ, I c.x.s, .bool c.x.l, .bool c.x.c]), some (3, [I c.nu]), some (32, [I 0, I 0, I 0, I 0, .nils, I 0, .bool false, .bool false]),
  some (32, [I c.y.a, I c.y.r, I c.y.e, I c.y.p, .os 5 3, I c.y.s, .bool c.y.l, .bool c.y.c]), none, some (67, [.row false spSh c.n σ]), some (95, [I c.z.a, I c.z.r, I c.z.e, I c.z.p, .os 5 3, I c.z.s, .bool c.z.l, .bool c.z.c, I c.k])]

/-! ### IndexFunc -/

structure V64 where
  r : Int
  i : Int
structure C64 where
  c : C18
  σ : Val
  m : Int

def S64 (c : C64) (v : V64) : St := mkS 19 [(0, .one (.c (.os 5 3))), (1, .one (.c (.fn (.func 48) [] [.ptr 1 0]))), (4, .one (.c (I v.r))), (7, .one (.c (I c.m))), (8, .one (.c (I v.i)))] (mem18 c.c c.σ)
def beh (nu : Int) (σ : Val) (i : Nat) : Bool := lt nu (spn σ i).f
def TX64 (c : C64) (v : V64) : Tree (XE × V64) :=
  .br (lt v.i c.m) (.need (inRange v.i c.c.n) (.br (lt c.c.nu (spn c.σ v.i.toNat).f) (.leaf (.ret, ⟨v.i, v.i⟩)) (.leaf (.normal, ⟨v.r, IntKind.i64.wrap (v.i + 1)⟩)))) (.leaf (.exit 0, v))

theorem t64 (c : C64) (v : V64) : ((evCode Try.prog H16 (evFn Try.prog H16 10) 85 7 1 (loopBody Try.prog 85 0) (S64 c v)).bind fun y => gcT [0, 1, 4, 7, 8] 7 y) = (TX64 c v).bind fun y => .leaf (y.1, S64 c y.2) := by kernel_rfl

def st64 (i : Nat) : V64 := ⟨0, i⟩
def sb64 (i : Nat) : V64 := ⟨i, i⟩
def μ64 (c : C64) (v : V64) : Nat := (c.c.n - v.i).toNat

theorem sq64 (c : C64) (hm : c.m = toInt64 c.c.n) (hn : fewN c.c.n) : Sq (TX64 c) (μ64 c) st64 sb64 c.c.n (beh c.c.nu c.σ) .ret (.exit 0) where
  out := by simp
  hit := by simp
  meas i hi := by unfold μ64 st64; simp only; omega
  round i hi := by
    unfold fewN at hn
    have hw : IntKind.i64.wrap ((i : Int) + 1) = ((i + 1 : Nat) : Int) := by rw [w64_id (by omega) (by omega)]; omega
    refine ⟨fun _ => ⟨inR hi, fun hb => ?_, fun hb => ?_⟩, fun h => ?_⟩
    · have : beh c.c.nu c.σ i = true := hb
      simp only [Tree.All, this, if_true]
      rfl
    · have : beh c.c.nu c.σ i = false := hb
      simp only [Tree.All, this, Bool.false_eq_true, if_false]
      show (XE.normal, (⟨0, IntKind.i64.wrap ((i : Int) + 1)⟩ : V64)) = _
      rw [hw]; rfl
    · have : lt (i : Int) c.m = false := h
      rw [hm, ltF hi] at this; cases this
  stop := by
    refine ⟨fun h => ?_, fun _ => rfl⟩
    have : lt (c.c.n : Int) c.m = true := h
    rw [hm, ltS] at this; cases this

noncomputable def inv64 (c : C64) (v : V64) : Bool := dec ((c.m = toInt64 c.c.n ∧ fewN c.c.n) ∧ ∃ i, i ≤ c.c.n ∧ v = st64 i)
def run64 (c : C64) (v : V64) : XE × V64 := fin (TX64 c) (μ64 c) v
def getM18 : Mem → Option (C18 × Val)
  | [some (32, [.int .i64 a, .int .i64 ro, .int .i64 e, .int .i64 p, .sl [.int .i64, .int .i64, .int .i64] n ρ, .int .i64 s, .bool l, .bool c]), some (3, [.int .i64 nu]), some (32, [.int .i64 0, .int .i64 0, .int .i64 0, .int .i64 0, .nils, .int .i64 0, .bool false, .bool false]),
    some (32, [.int .i64 a1, .int .i64 r1, .int .i64 e1, .int .i64 p1, .os 5 3, .int .i64 s1, .bool l1, .bool c1]), none, some (67, [.row false [.int .i64, .int .i64, .int .i64] m σ]),
    some (95, [.int .i64 a2, .int .i64 r2, .int .i64 e2, .int .i64 p2, .os 5 3, .int .i64 s2, .bool l2, .bool c2, .int .i64 k])] => some (⟨⟨a, ro, e, p, n, ρ, s, l, c⟩, nu, ⟨a1, r1, e1, p1, s1, l1, c1⟩, m, ⟨a2, r2, e2, p2, s2, l2, c2⟩, k⟩, σ)
  | _ => none
theorem getM18_eq {m : Mem} {c : C18} {σ : Val} (h : getM18 m = some (c, σ)) : m = mem18 c σ := by
  unfold getM18 at h
  split at h
  · simp only [Option.some.injEq, Prod.mk.injEq] at h
    obtain ⟨rfl, rfl⟩ := h
    rfl
  · cases h
def get64 : List (Nat × AV) → Mem → Option (C64 × V64)
  | [(0, .one (.c (.os 5 3))), (1, .one (.c (.fn (.func 48) [] [.ptr 1 0]))), (4, .one (.c (.int .i64 r))), (7, .one (.c (.int .i64 m))), (8, .one (.c (.int .i64 i)))], mem => match getM18 mem with
    | some (c, σ) => some (⟨c, σ, m⟩, ⟨r, i⟩)
    | none => none
  | _, _ => none
noncomputable def L64 : Nat → St → Tree (XE × St) := loopH [0, 1, 4, 7, 8] 7 19 get64 inv64 S64 run64 [.ret, .exit 0]

theorem l64 (fn : Func) (c b : Code) (hf : Try.prog.funcs[85]? = some fn) (hc : fn.body = some c) (hb : nthLoop c 0 = some b) : LoopOk Try.prog b L64 :=
  loopOk_of h16 10 85 0 hf hc hb [0, 1, 4, 7, 8] 7 19 S64 TX64 t64 get64 inv64 μ64 [.ret, .exit 0]
    (fun l m c v h => by
      unfold get64 at h
      split at h
      · split at h
        · rename_i hm
          simp only [Option.some.injEq, Prod.mk.injEq] at h
          obtain ⟨rfl, rfl⟩ := h
          rw [getM18_eq hm]
          rfl
        · cases h
      · cases h)
    (rounds_of fun c v hv => by
      have h := (dec_iff.1 hv).1
      exact (sq64 c h.1 h.2).rounds fun x => by unfold inv64; rw [dec_iff]; exact ⟨fun h => h.2, fun k => ⟨h, k⟩⟩)

/-! ### DeleteFunc -/

structure V48 where
  i : Int
  j : Int
  σ : Val

def S48 (c : C18) (v : V48) : St := mkS 42 [(0, .one (.c (.os 5 3))), (1, .one (.c (.fn (.func 48) [] [.ptr 1 0]))), (5, .one (.c (I v.i))), (6, .one (.c (I v.j)))] (mem18 c v.σ)
def TX48 (c : C18) (v : V48) : Tree (XE × V48) :=
  .br (lt v.j (toInt64 c.n)) (.need (inRange v.j c.n) (.br (!(lt c.nu (spn v.σ v.j.toNat).f))
    (.need (inRange v.i c.n) (.leaf (.normal, ⟨IntKind.i64.wrap (v.i + 1), IntKind.i64.wrap (v.j + 1), v.σ.upds v.i.toNat 0 [I (spn v.σ v.j.toNat).e, I (spn v.σ v.j.toNat).f, I (spn v.σ v.j.toNat).t]⟩)))
    (.leaf (.normal, ⟨v.i, IntKind.i64.wrap (v.j + 1), v.σ⟩)))) (.leaf (.exit 0, v))

theorem t48 (c : C18) (v : V48) : ((evCode Try.prog H16 (evFn Try.prog H16 10) 47 7 1 (loopBody Try.prog 47 0) (S48 c v)).bind fun y => gcT [0, 1, 5, 6] 7 y) = (TX48 c v).bind fun y => .leaf (y.1, S48 c y.2) := by kernel_rfl

def st48 (i0 : Nat) (σ : Val) (k : Nat) : V48 := ⟨i0, (i0 + 1 + k : Nat), σ⟩
def μ48 (c : C18) (v : V48) : Nat := (c.n - v.j).toNat
/-- all behind a span begin behind the number -/
def Beh (nu : Int) (σ : Val) (i0 n : Nat) : Prop := i0 < n ∧ ∀ j, i0 < j → j < n → beh nu σ j = true

theorem sq48 (c : C18) (i0 : Nat) (σ : Val) (hn : fewN c.n) (hb : Beh c.nu σ i0 c.n) : Sq (TX48 c) (μ48 c) (st48 i0 σ) (st48 i0 σ) (c.n - (i0 + 1)) (fun _ => false) .ret (.exit 0) where
  out := by simp
  hit := by simp
  meas k hk := by have := hb.1; unfold μ48 st48; simp only; omega
  round k hk := by
    unfold fewN at hn
    have hw : IntKind.i64.wrap (((i0 + 1 + k : Nat) : Int) + 1) = ((i0 + 1 + (k + 1) : Nat) : Int) := by rw [w64_id (by omega) (by omega)]; omega
    refine ⟨fun _ => ⟨inR (by omega), fun hx => ?_, fun hx => ?_⟩, fun h => ?_⟩
    · have : (!(beh c.nu σ (i0 + 1 + k))) = true := hx
      rw [hb.2 (i0 + 1 + k) (by omega) (by omega)] at this; cases this
    · simp only [Tree.All, Bool.false_eq_true, if_false]
      show (XE.normal, (⟨i0, IntKind.i64.wrap (((i0 + 1 + k : Nat) : Int) + 1), σ⟩ : V48)) = _
      rw [hw]; rfl
    · have : lt ((i0 + 1 + k : Nat) : Int) (toInt64 c.n) = false := h
      rw [ltF (by omega)] at this; cases this
  stop := by
    have e : i0 + 1 + (c.n - (i0 + 1)) = c.n := by have := hb.1; omega
    refine ⟨fun h => ?_, fun _ => rfl⟩
    have h : lt ((i0 + 1 + (c.n - (i0 + 1)) : Nat) : Int) (toInt64 c.n) = true := h
    rw [e] at h
    rw [ltS] at h; cases h

noncomputable def inv48 (c : C18) (v : V48) : Bool := dec (fewN c.n ∧ ∃ i0 k σ, Beh c.nu σ i0 c.n ∧ k ≤ c.n - (i0 + 1) ∧ v = st48 i0 σ k)
def run48 (c : C18) (v : V48) : XE × V48 := fin (TX48 c) (μ48 c) v
def get48 : List (Nat × AV) → Mem → Option (C18 × V48)
  | [(0, .one (.c (.os 5 3))), (1, .one (.c (.fn (.func 48) [] [.ptr 1 0]))), (5, .one (.c (.int .i64 i))), (6, .one (.c (.int .i64 j)))], mem => match getM18 mem with
    | some (c, σ) => some (c, ⟨i, j, σ⟩)
    | none => none
  | _, _ => none
noncomputable def L48 : Nat → St → Tree (XE × St) := loopH [0, 1, 5, 6] 7 42 get48 inv48 S48 run48 [.exit 0]

theorem l48 (fn : Func) (c b : Code) (hf : Try.prog.funcs[47]? = some fn) (hc : fn.body = some c) (hb : nthLoop c 0 = some b) : LoopOk Try.prog b L48 :=
  loopOk_of h16 10 47 0 hf hc hb [0, 1, 5, 6] 7 42 S48 TX48 t48 get48 inv48 μ48 [.exit 0] (Q := fun _ _ => True)
    (fun l m c v h => by
      unfold get48 at h
      split at h
      · split at h
        · rename_i hm
          simp only [Option.some.injEq, Prod.mk.injEq] at h
          obtain ⟨rfl, rfl⟩ := h
          rw [getM18_eq hm]
          rfl
        · cases h
      · cases h)
    (fun c v hv => by
      obtain ⟨hn, i0, k, σ, hb, hk, rfl⟩ := dec_iff.1 hv
      have hs := sq48 c i0 σ hn hb
      rcases Nat.lt_or_eq_of_le hk with hlt | rfl
      · refine All.imp (fun y hy => ?_) (hs.round k hlt)
        have hy : y = (.normal, st48 i0 σ (k + 1)) := hy
        subst hy
        refine ⟨dec_iff.2 ⟨hn, i0, k + 1, σ, hb, by omega, rfl⟩, ?_⟩
        rw [hs.meas k (by omega), hs.meas (k + 1) (by omega)]
        omega
      · refine All.imp (fun y hy => ?_) hs.stop
        subst hy
        trivial)

noncomputable abbrev H17 : Hd := ⟨H16.pc, H16.hc, [((47, 0), L48), ((85, 0), L64)], H16.mc⟩
theorem h17 : HdOk Try.prog H17 := (HdOk.lhCons h16 l64).lhCons l48

end Go.Proofs.Ytennlgngdjegoaa
/-
  The roles of sites: Synced of the program.
-/
namespace Go.Proofs.Ytennlgngdjegoaa
open Go Go.Sx Go.RowKit Classical

set_option maxRecDepth 100000

def setS (x : Sit) (nu : Int) (l : Ln) : Sit := ⟨x.a, 2, x.e, nu, l.n, l.ρ, x.s, x.l, x.c⟩
def finT (x : Sit) (nu k : Int) (l : Ln) : Tree AV := .br (k != 0) (.leaf (Zr k)) (.leaf (Sok (setS x nu l)))
def extT (x : Sit) (nu k : Int) (l : Ln) : Tree AV :=
  .need (!((lt 0 (toInt64 l.n) == true) && true) || inRange (IntKind.i64.wrap (toInt64 l.n - 1)) l.n) (.br (lt 0 (toInt64 l.n) && (spn l.ρ (lastI l.n)).e == x.e)
    (.need (inRange (IntKind.i64.wrap (toInt64 l.n - 1)) l.n) (finT x nu k ⟨l.n, l.ρ.upds (lastI l.n) 2 [I nu]⟩))
    (.need (Nat.ble (((l.n + 1).mul 23).add l.n) 140737488355327) (finT x nu k ⟨l.n + 1, Val.cat l.n l.ρ (Val.ofFlat 3 [I x.e, I (IntKind.i64.wrap ((hd l).t + 1)), I nu])⟩)))
noncomputable def tailT (x : Sit) (nu k : Int) (l : Ln) : Tree AV := .need (dec (fewN l.n)) (.br (lt (hd l).t nu) (extT x nu k l) (finT x nu k l))
def minL (nu : Int) (l : Ln) : Ln := ⟨l.n, l.ρ.upds (lastI l.n) 2 [I (imin (spn l.ρ (lastI l.n)).t nu)]⟩
noncomputable def minT (x : Sit) (nu k : Int) (l : Ln) : Tree AV := .br (lt 0 (toInt64 l.n)) (.need (inRange (IntKind.i64.wrap (toInt64 l.n - 1)) l.n) (.need (inRange (IntKind.i64.wrap (toInt64 l.n - 1)) l.n) (tailT x nu k (minL nu l)))) (tailT x nu k l)
def c18 (x : Sit) (nu k : Int) : C18 := ⟨x, nu, ⟨x.a, x.r, x.e, x.p, x.s, x.l, x.c⟩, x.n, ⟨x.a, x.r, x.e, x.p, x.s, x.l, x.c⟩, k⟩
def clrL (m : Nat) (σ : Val) : Ln := ⟨m, Val.cat m σ (.byFst fun _ => Val.ofCs [I 0, I 0, I 0])⟩
noncomputable def delT (x : Sit) (nu k r : Int) : Tree AV :=
  let c := c18 x nu k
  let v : V48 := ⟨r, IntKind.i64.wrap (r + 1), x.ρ⟩
  let R := run48 c v
  .need (inv48 c v) (.need (eqXE R.1 (.exit 0)) (.need (le 0 R.2.i && lt R.2.i (toInt64 x.n)) (.need (lt 0 R.2.i && le R.2.i (toInt64 x.n)) (minT x nu k (clrL R.2.i.toNat R.2.σ)))))
noncomputable def idxT (x : Sit) (nu k r : Int) : Tree AV := .br (r == -1) (minT x nu k x.ln) (delT x nu k r)
def synE (x : Sit) (nu : Int) : Int := chain (chkS x) [(x.r == 4, 18), (le 1 nu && le nu 1073741824, 2)]
noncomputable def tree18 (x : Sit) (nu : Int) : Tree AV :=
  let k := synE x nu
  let c : C64 := ⟨c18 x nu k, x.ρ, toInt64 x.n⟩
  let R := run64 c ⟨0, 0⟩
  .need (Nat.ble ((0 + x.n) * 24) 140737488355328) (.need (dec (fewN x.n)) (.br (k != 0) (.br (k != 0) (.leaf (Zr k)) (.leaf (Sok x)))
    (.need (inv64 c ⟨0, 0⟩) (.br (eqXE R.1 .ret) (idxT x nu k R.2.r) (.need (eqXE R.1 (.exit 0)) (idxT x nu k (-1)))))))

theorem t18 (x : Sit) (nu : Int) : hcTree Try.prog H17 12 14 [x.cv, .c (I nu)] = tree18 x nu := by kernel_rfl

/-- the lineage behind Synced, out of the spans that stay -/
def tailL (x : Sit) (nu : Int) (l : Ln) : Ln := bif lt (hd l).t nu then extL l x.e (hd l).t nu else l
def resL (x : Sit) (nu : Int) (l : Ln) : Ln := tailL x nu (bif lt 0 (toInt64 l.n) then minL nu l else l)
/-- how many spans stay -/
def cutN (nu : Int) (l : Ln) : Nat := bif anyB (beh nu l.ρ) l.n then firstB (beh nu l.ρ) l.n else l.n
def syn (x : Sit) (nu : Int) : Sit := setS x nu (resL x nu ⟨cutN nu x.ln, x.ρ⟩)

theorem finT_all (x : Sit) (nu : Int) (l : Ln) : (finT x nu 0 l).All (fun z => z = Sok (setS x nu l)) := ⟨(fun h => by cases h), fun _ => rfl⟩

theorem tailT_all (x : Sit) (nu : Int) {l : Ln} (hs : small l.n) : (tailT x nu 0 l).All (fun z => z = Sok (setS x nu (tailL x nu l))) := by
  have hf := dec_iff.1 (small_few hs)
  refine ⟨small_few hs, fun h1 => ⟨?_, fun h2 => ⟨?_, ?_⟩, fun h2 => ⟨small_app hs, ?_⟩⟩, fun h1 => ?_⟩
  · cases hn : lt 0 (toInt64 l.n)
    · rfl
    · rw [lastR hf (pos_iff.1 hn), Bool.or_true]
  · rw [Bool.and_eq_true] at h2
    exact lastR hf (pos_iff.1 h2.1)
  · have e : tailL x nu l = ⟨l.n, l.ρ.upds (lastI l.n) 2 [I nu]⟩ := by
      unfold tailL extL
      rw [h1, h2]; rfl
    rw [e]
    exact finT_all x nu _
  · have e : tailL x nu l = ⟨l.n + 1, Val.cat l.n l.ρ (Val.ofFlat 3 [I x.e, I (IntKind.i64.wrap ((hd l).t + 1)), I nu])⟩ := by
      unfold tailL extL
      rw [h1, h2]; rfl
    rw [e]
    exact finT_all x nu _
  · have e : tailL x nu l = l := by unfold tailL; rw [h1]; rfl
    rw [e]
    exact finT_all x nu _

theorem minT_all (x : Sit) (nu : Int) {l : Ln} (hs : small l.n) : (minT x nu 0 l).All (fun z => z = Sok (setS x nu (resL x nu l))) := by
  have hf := dec_iff.1 (small_few hs)
  refine ⟨fun h => ⟨lastR hf (pos_iff.1 h), lastR hf (pos_iff.1 h), ?_⟩, fun h => ?_⟩
  · have e : resL x nu l = tailL x nu (minL nu l) := by unfold resL; rw [h]; rfl
    rw [e]
    exact tailT_all x nu hs
  · have e : resL x nu l = tailL x nu l := by unfold resL; rw [h]; rfl
    rw [e]
    exact tailT_all x nu hs

/-- lineages of the same spans -/
def LEq (l m : Ln) : Prop := l.n = m.n ∧ ∀ i, i < l.n → spn l.ρ i = spn m.ρ i

theorem LEq.hd {l m : Ln} (h : LEq l m) : hd l = hd m := by
  obtain ⟨h1, h2⟩ := h
  unfold Proofs.Ytennlgngdjegoaa.hd
  rw [← h1]
  rcases Nat.eq_zero_or_pos l.n with h0 | h0
  · rw [h0]; rfl
  · obtain ⟨k, hk⟩ : ∃ k, l.n = k + 1 := ⟨l.n - 1, by omega⟩
    rw [hk]
    exact h2 k (by omega)

theorem LEq.upds {l m : Ln} (h : LEq l m) (k : Nat) (y : Int) : LEq ⟨l.n, l.ρ.upds k 2 [I y]⟩ ⟨m.n, m.ρ.upds k 2 [I y]⟩ := ⟨h.1, fun i hi => by
  show spn _ i = spn _ i
  rw [spn_upds, spn_upds, h.2 i hi]⟩

theorem LEq.min {l m : Ln} (h : LEq l m) (hf : fewN l.n) (h0 : 0 < l.n) (nu : Int) : LEq (minL nu l) (minL nu m) := by
  obtain ⟨n, ρ⟩ := l
  obtain ⟨n', σ⟩ := m
  obtain ⟨h1, h2⟩ := h
  have h1 : n = n' := h1
  subst h1
  unfold minL
  have e : spn ρ (lastI n) = spn σ (lastI n) := h2 (lastI n) (by rw [lastI_eq hf h0]; show n - 1 < n; have : 0 < n := h0; omega)
  simp only [e]
  exact LEq.upds (l := ⟨n, ρ⟩) (m := ⟨n, σ⟩) ⟨rfl, h2⟩ _ _

theorem LEq.ext {l m : Ln} (h : LEq l m) (hf : fewN l.n) (ep b nu : Int) : LEq (extL l ep b nu) (extL m ep b nu) := by
  have hc : (lt 0 (toInt64 l.n) && (spn l.ρ (lastI l.n)).e == ep) = (lt 0 (toInt64 m.n) && (spn m.ρ (lastI m.n)).e == ep) := by
    rw [← h.1]
    cases h0 : lt 0 (toInt64 l.n)
    · rfl
    · rw [h.2 (lastI l.n) (by have := pos_iff.1 h0; rw [lastI_eq hf this]; omega)]
  unfold extL
  rw [← hc, ← h.1]
  cases (lt 0 (toInt64 l.n) && (spn l.ρ (lastI l.n)).e == ep)
  · simp only [cond_false]
    refine ⟨rfl, fun i hi => ?_⟩
    show spn _ i = spn _ i
    rw [spn_cat, spn_cat]
    split
    · rename_i hlt; exact h.2 i hlt
    · rfl
  · simp only [cond_true]
    have := h.upds (lastI l.n) nu
    rw [← h.1] at this
    exact this

theorem LEq.tail {l m : Ln} (h : LEq l m) (hf : fewN l.n) (x : Sit) (nu : Int) : LEq (tailL x nu l) (tailL x nu m) := by
  unfold tailL
  rw [h.hd]
  cases lt (Proofs.Ytennlgngdjegoaa.hd m).t nu
  · exact h
  · exact h.ext hf _ _ _

theorem LEq.res {l m : Ln} (h : LEq l m) (hf : fewN l.n) (x : Sit) (nu : Int) : LEq (resL x nu l) (resL x nu m) := by
  unfold resL
  rw [← h.1]
  cases h0 : lt 0 (toInt64 l.n)
  · exact h.tail hf x nu
  · exact (h.min hf (pos_iff.1 h0) nu).tail hf x nu

theorem le_LEq {x : Sit} {nu : Int} {l m : Ln} (h : LEq l m) : leA (Sok (setS x nu l)) (okOr 0 (setS x nu m)) := by
  obtain ⟨n, ρ⟩ := l
  obtain ⟨n', σ⟩ := m
  obtain ⟨h1, h2⟩ := h
  have h1 : n = n' := h1
  subst h1
  refine leA_tup (.cons (.agg ?_) (.cons le1.refl .nil))
  exact .cons leC.refl (.cons leC.refl (.cons leC.refl (.cons leC.refl (.cons (leC_spn h2) (.cons leC.refl (.cons leC.refl (.cons leC.refl .nil)))))))

theorem clr_LEq (m : Nat) (σ : Val) : LEq (clrL m σ) ⟨m, σ⟩ := ⟨rfl, fun i hi => by
  have hi : i < m := hi
  show spn (Val.cat m σ _) i = spn σ i
  rw [spn_cat, if_pos hi]⟩

noncomputable def Gsyn : List A1 → Option (Bool × AV)
  | [.agg [.int .i64 a, .int .i64 r, .int .i64 e, .int .i64 p, .sl [.int .i64, .int .i64, .int .i64] n ρ, .int .i64 s, .bool l, .bool c], .c (.int .i64 nu)] => some (dec (small n), okOr (synE ⟨a, r, e, p, n, ρ, s, l, c⟩ nu) (syn ⟨a, r, e, p, n, ρ, s, l, c⟩ nu))
  | _ => none

theorem tree18_all (x : Sit) (nu : Int) (hs : small x.n) : (tree18 x nu).All (fun z => leA z (okOr (synE x nu) (syn x nu))) := by
  have hf := dec_iff.1 (small_few hs)
  refine ⟨small_ble hs, small_few hs, fun h => ⟨fun _ => le_Zr rfl (by simpa [bne] using h), fun h' => by rw [h] at h'; cases h'⟩, fun h => ?_⟩
  have hk : synE x nu = 0 := by simpa [bne] using h
  rw [hk]
  obtain ⟨hc0, hok⟩ := le_chain0 (by simp) hk
  have hz := chk_zero hc0
  have hnu : (le 1 nu && le nu 1073741824) = true := hok (le 1 nu && le nu 1073741824, 2) (by simp)
  rw [Bool.and_eq_true, le_iff, le_iff] at hnu
  have hsq := sq64 ⟨c18 x nu 0, x.ρ, toInt64 x.n⟩ rfl hf
  have hi : inv64 ⟨c18 x nu 0, x.ρ, toInt64 x.n⟩ ⟨0, 0⟩ = true := dec_iff.2 ⟨⟨rfl, hf⟩, 0, Nat.zero_le _, rfl⟩
  have hfin : run64 ⟨c18 x nu 0, x.ρ, toInt64 x.n⟩ ⟨0, 0⟩ = bif anyB (beh nu x.ρ) x.n then (.ret, sb64 (firstB (beh nu x.ρ) x.n)) else (.exit 0, st64 x.n) := hsq.fin0
  refine ⟨hi, ?_⟩
  rw [hfin]
  cases hb : anyB (beh nu x.ρ) x.n
  · have e : cutN nu x.ln = x.n := by unfold cutN; rw [show anyB (beh nu x.ln.ρ) x.ln.n = false from hb]; rfl
    refine ⟨(fun h => by cases h), fun _ => ⟨rfl, fun _ => ?_, (fun h => by cases h)⟩⟩
    refine All.imp (fun z hz => ?_) (minT_all x nu (l := x.ln) hs)
    subst hz
    refine le_Sok rfl ?_
    unfold syn
    rw [e]; rfl
  · obtain ⟨f1, f2, f3⟩ := firstB_ok hb
    have e : cutN nu x.ln = firstB (beh nu x.ρ) x.n := by unfold cutN; rw [show anyB (beh nu x.ln.ρ) x.ln.n = true from hb]; rfl
    generalize hm : firstB (beh nu x.ρ) x.n = m at *
    -- the first span stays
    have hm0 : 0 < m := by
      rcases Nat.eq_zero_or_pos m with h0 | h0
      · exfalso
        subst h0
        unfold beh at f2
        rw [lt_iff] at f2
        have := (corr_sp (l := x.ln) hz.1 (i := 0) f1).f
        have this : (spn x.ρ 0).f = 0 + 1 := this
        omega
      · exact h0
    have hbeh : Beh nu x.ρ m x.n := ⟨f1, fun j h1 h2 => by
      unfold beh at f2 ⊢
      rw [lt_iff] at f2 ⊢
      have h3 := sp_lt (l := x.ln) hz.1 h1 h2
      have h4 := (corr_sp (l := x.ln) hz.1 (i := m) f1).ft
      have h3 : (spn x.ρ m).t < (spn x.ρ j).f := h3
      have h4 : (spn x.ρ m).f ≤ (spn x.ρ m).t := h4
      omega⟩
    have hs48 := sq48 (c18 x nu 0) m x.ρ hf hbeh
    have hw : IntKind.i64.wrap ((m : Int) + 1) = ((m + 1 : Nat) : Int) := by unfold fewN at hf; rw [w64_id (by omega) (by omega)]; omega
    have hv : (⟨(m : Int), IntKind.i64.wrap ((m : Int) + 1), x.ρ⟩ : V48) = st48 m x.ρ 0 := by rw [hw]; rfl
    have hr : run48 (c18 x nu 0) (st48 m x.ρ 0) = (.exit 0, st48 m x.ρ (x.n - (m + 1))) := by
      have := hs48.fin0
      rw [anyB_none fun _ _ => rfl] at this
      exact this
    refine ⟨fun _ => ⟨fun h => ?_, fun _ => ?_⟩, (fun h => by cases h)⟩
    · have h : ((m : Int) == -1) = true := h
      have : (m : Int) = -1 := eq_of_beq h
      omega
    · show (delT x nu 0 (m : Int)).All _
      unfold delT
      simp only [hv, hr]
      refine ⟨dec_iff.2 ⟨hf, m, 0, x.ρ, hbeh, Nat.zero_le _, rfl⟩, rfl, ?_, ?_, ?_⟩
      · rw [Bool.and_eq_true, le_iff, lt_iff]
        exact ⟨Int.natCast_nonneg m, show (m : Int) < (x.n : Int) by omega⟩
      · rw [Bool.and_eq_true, lt_iff, le_iff]
        exact ⟨show (0 : Int) < (m : Int) by omega, show (m : Int) ≤ (x.n : Int) by omega⟩
      · have hsm : small m := by unfold small at hs ⊢; omega
        refine All.imp (fun z hz => ?_) (minT_all x nu (l := clrL m x.ρ) hsm)
        subst hz
        unfold syn
        rw [e]
        exact le_LEq ((clr_LEq m x.ρ).res (dec_iff.1 (small_few hsm)) x nu)

theorem u18 : UcOne Try.prog 14 (nG Gsyn) := ucOne_of_tree h17 12 14 fun args r h => by
  unfold Gsyn at h; split at h
  · rename_i a ro e p n ρ s l c nu
    obtain ⟨hp, rfl⟩ := Prod.mk.inj (Option.some.inj h)
    exact ⟨_, t18 ⟨a, ro, e, p, n, ρ, s, l, c⟩ nu, tree18_all ⟨a, ro, e, p, n, ρ, s, l, c⟩ nu (dec_iff.1 hp)⟩
  · cases h

end Go.Proofs.Ytennlgngdjegoaa
