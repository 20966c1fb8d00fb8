/-
  The unplanned change of the primary: ages of data are compared.
-/
import Derived.Test.YtennlgngdjegoaaRoB
import Derived.Test.YtennlgngdjegoaaEnE
namespace Go.Proofs.Ytennlgngdjegoaa
open Go Go.Sx Go.RowKit Classical

set_option maxRecDepth 100000

namespace Fo

/-- the epoch of the last cycle -/
def age (x : Sit) : Int := (hd x.ln).e

def cmpI (a b : Int) : Int := bif lt a b then -1 else bif lt b a then 1 else 0
def cmp2 (a p b q : Int) : Int := bif cmpI a b != 0 then cmpI a b else cmpI p q

def Gcmp : List A1 → Option AV
  | [.c (.int .i64 a), .c (.int .i64 b)] => some (.one (.c (I (cmpI a b))))
  | _ => none

theorem ne_self (a : Int) : (a != a) = false := by simp

theorem pCmp : PcOne Try.prog 62 Gcmp := pcOne_of_tree h37 10 62 fun args r h => by
  unfold Gcmp at h; split at h
  · rename_i a b
    obtain rfl := Option.some.inj h
    refine ⟨rfl, .br (a != a) (.br (b != b) (.leaf (.one (.c (I 0)))) (.leaf (.one (.c (I (-1)))))) (.br (b != b) (.leaf (.one (.c (I 1)))) (.br (lt a b) (.leaf (.one (.c (I (-1))))) (.br (lt b a) (.leaf (.one (.c (I 1)))) (.leaf (.one (.c (I 0))))))), by kernel_rfl, all_of_sel ?_⟩
    simp only [Tree.sel, ne_self, cond_false]
    unfold cmpI
    cases lt a b
    · cases lt b a <;> rfl
    · rfl
  · cases h

noncomputable abbrev HO0 : Hd := ⟨(62, oG Gcmp) :: H37.pc, H37.hc, [], H37.mc⟩
theorem hO0 : HdOk Try.prog HO0 := h37.pcCons pCmp
noncomputable def lhO : List ((Nat × Nat) × (Nat → St → Tree (XE × St))) := [((102, 0), unrollH Try.prog HO0 10 102 0 3)]
noncomputable abbrev HO : Hd := ⟨HO0.pc, HO0.hc, lhO, HO0.mc⟩
theorem hO : HdOk Try.prog HO := HdOk.lhCons hO0 fun _ _ _ hf hc hb => unroll_ok hO0 10 102 0 hf hc hb 3

def v2 (ρ : Val) (i : Nat) : Int := ((ρ.at i).at 0).N []
def Gor : List A1 → Option AV
  | [.c (.sl [.int .i64] 2 ρ)] => some (.one (.c (I (bif v2 ρ 0 != 0 then v2 ρ 0 else v2 ρ 1))))
  | _ => none

theorem pOr : PcOne Try.prog 102 Gor := pcOne_of_tree hO 10 102 fun args r h => by
  unfold Gor at h; split at h
  · rename_i ρ
    obtain rfl := Option.some.inj h
    let k (i : Nat) : Tree AV := .leaf (.one (.c (I (v2 ρ i))))
    let z : Tree AV := .leaf (.one (.c (I 0)))
    refine ⟨rfl, .br true (.need true (.br (v2 ρ 0 != 0) (k 0) (.br true (.need true (.br (v2 ρ 1 != 0) (k 1) (.br false (.need false (.br (v2 ρ 2 != 0) (k 2) .fail)) z))) z))) z, by kernel_rfl, all_of_sel ?_⟩
    simp only [Tree.sel, cond_true, cond_false, k, z]
    cases h0 : v2 ρ 0 != 0
    · cases h1 : v2 ρ 1 != 0
      · have h1 : v2 ρ 1 = 0 := by simpa [bne] using h1
        rw [h1]; rfl
      · rfl
    · rfl
  · cases h

noncomputable abbrev HFa : Hd := ⟨(102, oG Gor) :: (62, oG Gcmp) :: H37.pc, H37.hc, [], H37.mc⟩
theorem hFa : HdOk Try.prog HFa := (h37.pcCons pCmp).pcCons pOr

def Gcp2 : List A1 → Option AV
  | [.agg [.int .i64 a, .int .i64 p], .agg [.int .i64 b, .int .i64 q]] => some (.one (.c (I (cmp2 a p b q))))
  | _ => none
theorem pCp2 : PcOne Try.prog 65 Gcp2 := pcOne_of_ev hFa 10 65 fun args r h => by
  unfold Gcp2 at h; split at h
  · obtain rfl := Option.some.inj h
    exact ⟨rfl, by kernel_rfl, by kernel_rfl⟩
  · cases h

/-- a site among cells -/
noncomputable def Gof : List A1 → Option (Bool × AV)
  | [.agg [.int .i64 a, .int .i64 r, .int .i64 e, .int .i64 p, .sl [.int .i64, .int .i64, .int .i64] n ρ, .int .i64 s, .bool l, .bool c]] => some (dec (fewN n), .one (.agg [I (age ⟨a, r, e, p, n, ρ, s, l, c⟩), I p]))
  | _ => none

theorem hd_some {l : Ln} (hn : fewN l.n) (h : lt 0 (toInt64 l.n) = true) : inRange (IntKind.i64.wrap (toInt64 l.n - 1)) l.n = true ∧ spn l.ρ (IntKind.i64.wrap (toInt64 l.n - 1)).toNat = hd l := by
  refine last_ok hn ?_
  rw [lt_iff] at h
  have h : (0 : Int) < (l.n : Int) := h
  have : (l.n : Int) ≠ 0 := by omega
  simpa [toInt64] using this
theorem hd_none {l : Ln} (h : lt 0 (toInt64 l.n) = false) : hd l = ⟨0, 0, 0⟩ := by
  refine hd_zero ?_
  rw [← Bool.not_eq_true, lt_iff] at h
  have h : ¬ (0 : Int) < (l.n : Int) := h
  have : (l.n : Int) = 0 := by omega
  simpa [toInt64] using this

theorem pOf : TcOne Try.prog 66 (nG Gof) := tcOne_of_tree hFa 10 66 fun args r h => by
  unfold Gof at h; split at h
  · rename_i a r e p n ρ s l c
    obtain ⟨hp, rfl⟩ := Prod.mk.inj (Option.some.inj h)
    have hp := dec_iff.1 hp
    refine ⟨rfl, .br (lt 0 (toInt64 n)) (.need (inRange (IntKind.i64.wrap (toInt64 n - 1)) n) (.leaf (.one (.agg [I (spn ρ (IntKind.i64.wrap (toInt64 n - 1)).toNat).e, I p])))) (.leaf (.one (.agg [I 0, I p]))), by kernel_rfl, fun h0 => ?_, fun h0 => ?_⟩
    · obtain ⟨a, b⟩ := hd_some (l := ⟨n, ρ⟩) hp h0
      simp only at a b
      exact ⟨a, by rw [b]; rfl⟩
    · have := hd_none (l := ⟨n, ρ⟩) h0
      show _ = AV.one (.agg [I (hd ⟨n, ρ⟩).e, I p])
      rw [this]
  · cases h

/-- does a site follow? -/
def fol (r : Int) : Bool := r == 2 || r == 3
def Gfol : List A1 → Option AV
  | [.agg [.int .i64 _, .int .i64 r, .int .i64 _, .int .i64 _, .sl [.int .i64, .int .i64, .int .i64] _ _, .int .i64 _, .bool _, .bool _]] => some (.one (.c (.bool (fol r))))
  | _ => none
theorem pFol : PcOne Try.prog 64 Gfol := pcOne_of_ev hFa 10 64 fun args r h => by
  unfold Gfol at h; split at h
  · obtain rfl := Option.some.inj h
    exact ⟨rfl, by kernel_rfl, by kernel_rfl⟩
  · cases h
noncomputable abbrev HFb : Hd := ⟨(65, oG Gcp2) :: (66, nG Gof) :: (64, oG Gfol) :: HFa.pc, HFa.hc, [], HFa.mc⟩
theorem hFb : HdOk Try.prog HFb := (((hFa).pcCons pFol).tcCons pOf).pcCons pCp2

end Fo
end Go.Proofs.Ytennlgngdjegoaa
/-
  The unplanned change of the primary: the greatest one of a list.
-/
namespace Go.Proofs.Ytennlgngdjegoaa
open Go Go.Sx Go.RowKit Classical

set_option maxRecDepth 100000

namespace Fo

/-! ### the first of the greatest among those that are allowed, or -1 -/

def bstI (al : Nat → Bool) (gr : Nat → Nat → Bool) : Nat → Int
  | 0 => -1
  | i + 1 => bif al i && (lt (bstI al gr i) 0 || gr i (bstI al gr i).toNat) then (i : Int) else bstI al gr i

theorem bst_rng (al : Nat → Bool) (gr : Nat → Nat → Bool) : ∀ n, -1 ≤ bstI al gr n ∧ bstI al gr n < n
  | 0 => by unfold bstI; omega
  | i + 1 => by
    have := bst_rng al gr i
    unfold bstI
    cases (al i && (lt (bstI al gr i) 0 || gr i (bstI al gr i).toNat))
    · simp only [cond_false]; omega
    · simp only [cond_true]; omega
theorem bst_al (al : Nat → Bool) (gr : Nat → Nat → Bool) : ∀ n, 0 ≤ bstI al gr n → al (bstI al gr n).toNat = true
  | 0, h => by unfold bstI at h; omega
  | i + 1, h => by
    unfold bstI at h ⊢
    cases hb : (al i && (lt (bstI al gr i) 0 || gr i (bstI al gr i).toNat))
    · rw [hb] at h
      simp only [cond_false] at h ⊢
      exact bst_al al gr i h
    · simp only [cond_true, Int.toNat_natCast]
      rw [Bool.and_eq_true] at hb
      exact hb.1
theorem bst_congr {al al' : Nat → Bool} {gr gr' : Nat → Nat → Bool} : ∀ n, (∀ i, i < n → al i = al' i) → (∀ i j, i < n → j < n → gr i j = gr' i j) → bstI al gr n = bstI al' gr' n
  | 0, _, _ => rfl
  | i + 1, h, g => by
    have e := bst_congr i (fun j hj => h j (by omega)) (fun j k hj hk => g j k (by omega) (by omega))
    have hr := bst_rng al' gr' i
    unfold bstI
    rw [e, h i (by omega)]
    by_cases h0 : bstI al' gr' i < 0
    · rw [(lt_iff _ _).2 h0]; rfl
    · rw [g i _ (by omega) (by omega)]
/-- there is none exactly if none is allowed -/
theorem bst_none {al : Nat → Bool} {gr : Nat → Nat → Bool} : ∀ n, bstI al gr n < 0 → ∀ i, i < n → al i = false
  | 0, _, i, hi => by omega
  | k + 1, h, i, hi => by
    unfold bstI at h
    cases hb : (al k && (lt (bstI al gr k) 0 || gr k (bstI al gr k).toNat))
    · rw [hb] at h
      simp only [cond_false] at h
      rw [(lt_iff _ _).2 h, Bool.true_or, Bool.and_true] at hb
      rcases Nat.lt_succ_iff_lt_or_eq.1 hi with hi | rfl
      · exact bst_none k h i hi
      · exact hb
    · rw [hb] at h
      simp only [cond_true] at h
      omega
theorem bst_some {al : Nat → Bool} {gr : Nat → Nat → Bool} {n i : Nat} (hi : i < n) (ha : al i = true) : 0 ≤ bstI al gr n := by
  rcases Int.lt_or_le (bstI al gr n) 0 with h | h
  · rw [bst_none n h i hi] at ha; cases ha
  · exact h

/-! ### lists of sites, and of those that are lost -/

/-- a list of truth values -/
structure Los where
  n : Nat
  ρ : Val
def Los.at (l : Los) (i : Nat) : Bool := ((l.ρ.at i).at 0).B []

def cand (l : Ses) (o : Los) (i : Nat) : Bool := ((l.at i).l && !o.at i) && fol (l.at i).r
def newr (x y : Sit) : Bool := lt 0 (cmp2 (age x) x.p (age y) y.p)
def nwr (l : Ses) (i j : Nat) : Bool := newr (l.at i) (l.at j)
/-- the place of the candidate with the newest data -/
def newI (l : Ses) (o : Los) : Int := bstI (cand l o) (nwr l) l.n

theorem cmpI_pos (a b : Int) : lt 0 (cmpI a b) = lt b a := by
  unfold cmpI
  cases h : lt a b
  · cases h2 : lt b a <;> rfl
  · rw [lt_iff] at h
    have : lt b a = false := by rw [← Bool.not_eq_true, lt_iff]; omega
    rw [this]; rfl
theorem newr_eq (x y : Sit) : newr x y = (lt (age y) (age x) || age x == age y && lt y.p x.p) := by
  unfold newr cmp2
  cases h : cmpI (age x) (age y) != 0
  · have h0 : cmpI (age x) (age y) = 0 := by simpa [bne] using h
    have e : (age x) = (age y) := by
      unfold cmpI at h0
      cases h1 : lt (age x) (age y)
      · rw [h1] at h0
        cases h2 : lt (age y) (age x)
        · rw [← Bool.not_eq_true, lt_iff] at h1 h2
          omega
        · rw [h2] at h0; simp at h0
      · rw [h1] at h0; simp at h0
    rw [e]
    have : lt (age y) (age y) = false := by rw [← Bool.not_eq_true, lt_iff]; omega
    rw [this]
    simp only [cond_false, beq_self_eq_true, Bool.true_and, Bool.false_or]
    exact cmpI_pos _ _
  · have h0 : cmpI (age x) (age y) ≠ 0 := by simpa [bne] using h
    have e : ((age x) == (age y)) = false := by
      rw [beq_eq_false_iff_ne]
      intro e
      rw [e] at h0
      apply h0
      unfold cmpI
      have : lt (age y) (age y) = false := by rw [← Bool.not_eq_true, lt_iff]; omega
      rw [this]; rfl
    rw [e, Bool.false_and, Bool.or_false]
    exact cmpI_pos _ _

/-! ### the loop of the newest one -/

structure VG where
  b : Int
  i : Int
structure CG where
  l : Ses
  j : Ses
  q : Ses
  o : Los
  m : Int

def SG (c : CG) (v : VG) : St := mkS 43 [(0, .one (.c (.sl siSh c.l.n c.l.ρ))), (1, .one (.c (.fn (.func 100) [] [.ptr 0 0, .ptr 1 0]))), (2, .one (.c (.fn (.func 66) [] []))), (3, .one (.c (.fn (.func 65) [] []))), (9, .one (.c (I v.b))), (12, .one (.c (.sl siSh c.j.n c.j.ρ))), (13, .one (.c (I c.m))), (14, .one (.c (I v.i)))] [some (23, [.sl siSh c.q.n c.q.ρ]), some (55, [.sl [.bool] c.o.n c.o.ρ])]
noncomputable def TXG (c : CG) (v : VG) : Tree (XE × VG) :=
  let x := c.j.at v.i.toNat
  let z := c.q.at v.i.toNat
  let y := c.l.at v.b.toNat
  let g := lt v.b 0 == false && ((cand c.q c.o v.i.toNat) == true && true)
  .br (lt v.i c.m) (.need (inRange v.i c.j.n) (.need (inRange v.i c.q.n) (.need (!(z.l == true && true) || inRange v.i c.o.n) (.need (!((z.l && !c.o.at v.i.toNat) == true && true) || inRange v.i c.q.n)
    (.need (!g || dec (fewN x.n)) (.need (!g || inRange v.b c.l.n) (.need (!g || dec (fewN y.n))
      (.br (cand c.q c.o v.i.toNat && (lt v.b 0 || newr x y)) (.leaf (.normal, ⟨v.i, IntKind.i64.wrap (v.i + 1)⟩)) (.leaf (.normal, ⟨v.b, IntKind.i64.wrap (v.i + 1)⟩))))))))))
    (.leaf (.exit 0, v))

theorem tG (c : CG) (v : VG) : ((evCode Try.prog HFb (evFn Try.prog HFb 10) 99 2 1 (loopBody Try.prog 99 0) (SG c v)).bind fun y => gcT [0, 1, 2, 3, 9, 12, 13, 14] 2 y) = (TXG c v).bind fun y => .leaf (y.1, SG c y.2) := by kernel_rfl

def stG (c : CG) (i : Nat) : VG := ⟨bstI (cand c.l c.o) (nwr c.l) i, i⟩
def goodG (c : CG) : Prop := (c.j = c.l ∧ c.q = c.l) ∧ (c.m = toInt64 c.l.n ∧ c.o.n = c.l.n) ∧ fewS c.l

theorem imp_or {g b : Bool} (h : g = true → b = true) : (!g || b) = true := by
  cases g
  · rfl
  · rw [h rfl]; rfl

theorem sqG (c : CG) (h : goodG c) : Sq (TXG c) (fun v => (c.l.n - v.i).toNat) (stG c) (stG c) c.l.n (fun _ => false) .ret (.exit 0) where
  out := by simp
  hit := by simp
  meas i hi := by show ((c.l.n : Int) - (i : Int)).toNat = _; omega
  round i hi := by
    obtain ⟨l, j, q, o, m⟩ := c
    obtain ⟨⟨hj, hq⟩, ⟨hm, ho⟩, hn, hs⟩ := h
    have hj : j = l := hj
    have hq : q = l := hq
    subst hj; subst hq
    have hi : i < q.n := hi
    have hsi := hs i hi
    unfold fewN at hn
    have hw : IntKind.i64.wrap ((i : Int) + 1) = ((i + 1 : Nat) : Int) := by rw [w64_id (by omega) (by omega)]; omega
    let c : CG := ⟨q, q, q, o, m⟩
    have hb := bst_rng (cand c.l c.o) (nwr c.l) i
    have hbr : ∀ {qq : Bool}, (lt (stG c i).b 0 == false && qq) = true → inRange (stG c i).b c.l.n = true ∧ fewN (c.l.at (stG c i).b.toNat).n := fun {qq} hq => by
      rw [Bool.and_eq_true] at hq
      have h0 : lt (stG c i).b 0 = false := by simpa using hq.1
      rw [← Bool.not_eq_true, lt_iff] at h0
      have h1 : (stG c i).b = bstI (cand c.l c.o) (nwr c.l) i := rfl
      rw [h1] at h0 ⊢
      obtain ⟨j, hj⟩ : ∃ j : Nat, bstI (cand c.l c.o) (nwr c.l) i = j := ⟨(bstI (cand c.l c.o) (nwr c.l) i).toNat, by omega⟩
      rw [hj] at hb ⊢
      have hjn : j < q.n := by omega
      exact ⟨inR hjn, hs j hjn⟩
    refine ⟨fun _ => ⟨inR hi, inR hi, imp_or fun _ => inR (ho ▸ hi), imp_or fun _ => inR hi, imp_or fun _ => dec_iff.2 hsi, imp_or fun hq => (hbr hq).1, imp_or fun hq => dec_iff.2 (hbr hq).2, fun h1 => ?_, fun h1 => ?_⟩, fun hlt => ?_⟩
    · show (XE.normal, (⟨(i : Int), IntKind.i64.wrap ((i : Int) + 1)⟩ : VG)) = (.normal, stG c (i + 1))
      have h1 : (cand c.l c.o i && (lt (bstI (cand c.l c.o) (nwr c.l) i) 0 || nwr c.l i (bstI (cand c.l c.o) (nwr c.l) i).toNat)) = true := h1
      unfold stG bstI
      rw [hw, h1]; rfl
    · show (XE.normal, (⟨bstI (cand c.l c.o) (nwr c.l) i, IntKind.i64.wrap ((i : Int) + 1)⟩ : VG)) = (.normal, stG c (i + 1))
      have h1 : (cand c.l c.o i && (lt (bstI (cand c.l c.o) (nwr c.l) i) 0 || nwr c.l i (bstI (cand c.l c.o) (nwr c.l) i).toNat)) = false := h1
      unfold stG
      rw [hw]
      conv => rhs; unfold bstI
      rw [h1]; rfl
    · have : lt (i : Int) c.m = false := hlt
      rw [hm, ltF hi] at this; cases this
  stop := by
    refine ⟨fun hlt => ?_, fun _ => rfl⟩
    have : lt (c.l.n : Int) c.m = true := hlt
    rw [h.2.1.1, ltS] at this; cases this

def getG : List (Nat × AV) → Mem → Option (CG × VG)
  | [(0, .one (.c (.sl [.int .i64, .int .i64, .int .i64, .int .i64, .sl [.int .i64, .int .i64, .int .i64], .int .i64, .bool, .bool] n ρ))), (1, .one (.c (.fn (.func 100) [] [.ptr 0 0, .ptr 1 0]))), (2, .one (.c (.fn (.func 66) [] []))), (3, .one (.c (.fn (.func 65) [] []))), (9, .one (.c (.int .i64 b))), (12, .one (.c (.sl [.int .i64, .int .i64, .int .i64, .int .i64, .sl [.int .i64, .int .i64, .int .i64], .int .i64, .bool, .bool] n2 ρ2))), (13, .one (.c (.int .i64 m))), (14, .one (.c (.int .i64 i)))],
    [some (23, [.sl [.int .i64, .int .i64, .int .i64, .int .i64, .sl [.int .i64, .int .i64, .int .i64], .int .i64, .bool, .bool] n3 ρ3]), some (55, [.sl [.bool] k σ])] => some (⟨⟨n, ρ⟩, ⟨n2, ρ2⟩, ⟨n3, ρ3⟩, ⟨k, σ⟩, m⟩, ⟨b, i⟩)
  | _, _ => none

noncomputable def LG : Nat → St → Tree (XE × St) := lqH [0, 1, 2, 3, 9, 12, 13, 14] 2 43 getG fun c v => lq1 (SG c) (goodG c ∧ v = stG c 0) (.exit 0) (stG c c.l.n)
theorem lG (fn : Func) (c b : Code) (hf : Try.prog.funcs[99]? = some fn) (hc : fn.body = some c) (hb : nthLoop c 0 = some b) : LoopOk Try.prog b LG :=
  lq1_ok hFb 10 99 0 hf hc hb [0, 1, 2, 3, 9, 12, 13, 14] 2 43 SG TXG tG getG (fun l m c v h => by unfold getG at h; split at h <;> simp at h; obtain ⟨rfl, rfl⟩ := h; rfl)
    goodG (fun c v => (c.l.n - v.i).toNat) stG (fun c => c.l.n) (.exit 0) sqG (fun c => stG c c.l.n) (fun _ _ => StWk.refl)

noncomputable abbrev HG0 : Hd := ⟨HFb.pc, HFb.hc, [((99, 0), LG)], HFb.mc⟩
theorem hG0 : HdOk Try.prog HG0 := HdOk.lhCons hFb lG

/-- newest -/
noncomputable def Gnew : List A1 → Option (Bool × AV)
  | [.c (.sl [.int .i64, .int .i64, .int .i64, .int .i64, .sl [.int .i64, .int .i64, .int .i64], .int .i64, .bool, .bool] n ρ), .c (.sl [.bool] k σ)] => some (dec (k = n ∧ fewS ⟨n, ρ⟩), .one (.c (I (newI ⟨n, ρ⟩ ⟨k, σ⟩))))
  | _ => none

theorem pNew : TcOne Try.prog 58 (nG Gnew) := tcOne_of_tree hG0 10 58 fun args r h => by
  unfold Gnew at h; split at h
  · rename_i n ρ k σ
    obtain ⟨hp, rfl⟩ := Prod.mk.inj (Option.some.inj h)
    have hp := dec_iff.1 hp
    refine ⟨rfl, .need (dec (goodG ⟨⟨n, ρ⟩, ⟨n, ρ⟩, ⟨n, ρ⟩, ⟨k, σ⟩, toInt64 n⟩ ∧ (⟨-1, 0⟩ : VG) = stG ⟨⟨n, ρ⟩, ⟨n, ρ⟩, ⟨n, ρ⟩, ⟨k, σ⟩, toInt64 n⟩ 0)) (.leaf (.one (.c (I (newI ⟨n, ρ⟩ ⟨k, σ⟩))))), by kernel_rfl, ?_, rfl⟩
    exact dec_iff.2 ⟨⟨⟨rfl, rfl⟩, ⟨rfl, hp.1⟩, hp.2⟩, rfl⟩
  · cases h

end Fo
end Go.Proofs.Ytennlgngdjegoaa
/-
  The unplanned change of the primary: Choose, in the program and in the reference.
-/
namespace Go.Proofs.Ytennlgngdjegoaa
open Go Go.Sx Go.RowKit Classical

set_option maxRecDepth 100000

namespace Fo

noncomputable def GEnd : List A1 → Option (Bool × AV)
  | [.c (.sl [.int .i64, .int .i64, .int .i64] n ρ)] => some (dec (fewN n), two (hd ⟨n, ρ⟩).e (hd ⟨n, ρ⟩).t)
  | _ => none

noncomputable abbrev HEn : Hd := ⟨HFb.pc, HFb.hc, [], HFb.mc⟩
theorem hEn : HdOk Try.prog HEn := hFb

noncomputable def Gnwr : List A1 → Option (Bool × AV)
  | [.agg [.int .i64 a, .int .i64 r, .int .i64 e, .int .i64 p, .sl [.int .i64, .int .i64, .int .i64] n ρ, .int .i64 s, .bool l, .bool c], .agg [.int .i64 a2, .int .i64 r2, .int .i64 e2, .int .i64 p2, .sl [.int .i64, .int .i64, .int .i64] n2 ρ2, .int .i64 s2, .bool l2, .bool c2]] =>
    some (dec (fewN n ∧ fewN n2), .one (.c (.bool (newr ⟨a, r, e, p, n, ρ, s, l, c⟩ ⟨a2, r2, e2, p2, n2, ρ2, s2, l2, c2⟩))))
  | _ => none

noncomputable abbrev HNw : Hd := ⟨(58, nG Gnew) :: HEn.pc, HEn.hc, [], HEn.mc⟩
theorem hNw : HdOk Try.prog HNw := (hEn.tcCons pNew)

/-! ### the reference's loop -/

structure CH where
  l : Ses
  o : Los
def SH (c : CH) (v : VG) : St := mkS 67 [(0, .one (.c (.sl siSh c.l.n c.l.ρ))), (1, .one (.c (.sl [.bool] c.o.n c.o.ρ))), (8, .one (.c (I v.b))), (9, .one (.c (I v.i)))] []
noncomputable def TXH (c : CH) (v : VG) : Tree (XE × VG) :=
  let x := c.l.at v.i.toNat
  let y := c.l.at v.b.toNat
  let g := lt v.b 0 == false && ((cand c.l c.o v.i.toNat) == true && true)
  .br (lt v.i (toInt64 c.l.n)) (.need (inRange v.i c.l.n) (.need (!(x.l == true && true) || inRange v.i c.o.n) (.need (!((x.l && !c.o.at v.i.toNat) == true && true) || inRange v.i c.l.n)
    (.need (!g || inRange v.i c.l.n) (.need (!g || inRange v.b c.l.n) (.need (!g || dec (fewN x.n ∧ fewN y.n))
      (.br (cand c.l c.o v.i.toNat && (lt v.b 0 || newr x y)) (.leaf (.normal, ⟨v.i, IntKind.i64.wrap (v.i + 1)⟩)) (.leaf (.normal, ⟨v.b, IntKind.i64.wrap (v.i + 1)⟩)))))))))
    (.leaf (.exit 0, v))
def stH (c : CH) (i : Nat) : VG := ⟨bstI (cand c.l c.o) (nwr c.l) i, i⟩
def goodH (c : CH) : Prop := c.o.n = c.l.n ∧ fewS c.l

theorem sqH (c : CH) (h : goodH c) : Sq (TXH c) (fun v => (c.l.n - v.i).toNat) (stH c) (stH c) c.l.n (fun _ => false) .ret (.exit 0) where
  out := by simp
  hit := by simp
  meas i hi := by show ((c.l.n : Int) - (i : Int)).toNat = _; omega
  round i hi := by
    obtain ⟨ho, hn, hs⟩ := h
    have hsi := hs i hi
    unfold fewN at hn
    have hw : IntKind.i64.wrap ((i : Int) + 1) = ((i + 1 : Nat) : Int) := by rw [w64_id (by omega) (by omega)]; omega
    have hb := bst_rng (cand c.l c.o) (nwr c.l) i
    have hbr : ∀ {qq : Bool}, (lt (stH c i).b 0 == false && qq) = true → inRange (stH c i).b c.l.n = true ∧ fewN (c.l.at (stH c i).b.toNat).n := fun {qq} hq => by
      rw [Bool.and_eq_true] at hq
      have h0 : lt (stH c i).b 0 = false := by simpa using hq.1
      rw [← Bool.not_eq_true, lt_iff] at h0
      have h1 : (stH c i).b = bstI (cand c.l c.o) (nwr c.l) i := rfl
      rw [h1] at h0 ⊢
      obtain ⟨j, hj⟩ : ∃ j : Nat, bstI (cand c.l c.o) (nwr c.l) i = j := ⟨(bstI (cand c.l c.o) (nwr c.l) i).toNat, by omega⟩
      rw [hj] at hb ⊢
      have hjn : j < c.l.n := by omega
      exact ⟨inR hjn, hs j hjn⟩
    refine ⟨fun _ => ⟨inR hi, imp_or fun _ => inR (ho ▸ hi), imp_or fun _ => inR hi, imp_or fun _ => inR hi, imp_or fun hq => (hbr hq).1, imp_or fun hq => dec_iff.2 ⟨hsi, (hbr hq).2⟩, fun h1 => ?_, fun h1 => ?_⟩, fun hlt => ?_⟩
    · show (XE.normal, (⟨(i : Int), IntKind.i64.wrap ((i : Int) + 1)⟩ : VG)) = (.normal, stH c (i + 1))
      have h1 : (cand c.l c.o i && (lt (bstI (cand c.l c.o) (nwr c.l) i) 0 || nwr c.l i (bstI (cand c.l c.o) (nwr c.l) i).toNat)) = true := h1
      unfold stH bstI
      rw [hw, h1]; rfl
    · show (XE.normal, (⟨bstI (cand c.l c.o) (nwr c.l) i, IntKind.i64.wrap ((i : Int) + 1)⟩ : VG)) = (.normal, stH c (i + 1))
      have h1 : (cand c.l c.o i && (lt (bstI (cand c.l c.o) (nwr c.l) i) 0 || nwr c.l i (bstI (cand c.l c.o) (nwr c.l) i).toNat)) = false := h1
      unfold stH
      rw [hw]
      conv => rhs; unfold bstI
      rw [h1]; rfl
    · have : lt (i : Int) (toInt64 c.l.n) = false := hlt
      rw [ltF hi] at this; cases this
  stop := by
    refine ⟨fun hlt => ?_, fun _ => rfl⟩
    have : lt (c.l.n : Int) (toInt64 c.l.n) = true := hlt
    rw [ltS] at this; cases this

def getH : List (Nat × AV) → Mem → Option (CH × VG)
  | [(0, .one (.c (.sl [.int .i64, .int .i64, .int .i64, .int .i64, .sl [.int .i64, .int .i64, .int .i64], .int .i64, .bool, .bool] n ρ))), (1, .one (.c (.sl [.bool] k σ))), (8, .one (.c (.int .i64 b))), (9, .one (.c (.int .i64 i)))], [] => some (⟨⟨n, ρ⟩, ⟨k, σ⟩⟩, ⟨b, i⟩)
  | _, _ => none

noncomputable def LH : Nat → St → Tree (XE × St) := lqH [0, 1, 8, 9] 0 67 getH fun c v => lq1 (SH c) (goodH c ∧ v = stH c 0) (.exit 0) (stH c c.l.n)
noncomputable abbrev HH : Hd := ⟨HNw.pc, HNw.hc, [], HNw.mc⟩
theorem hHh : HdOk Try.prog HH := hNw

/-! ### Choose -/

/-- the error of sites, and of those that are lost -/
def rgtE (l : Ses) (o : Los) : Int := bif ckE l != 0 then ckE l else bif toInt64 o.n != toInt64 l.n then 6 else 0
def choE (l : Ses) (o : Los) : Int := bif rgtE l o != 0 then rgtE l o else bif lt (newI l o) 0 then 17 else 0
def choI (l : Ses) (o : Los) : Int := bif choE l o == 0 then newI l o else 0

theorem rgt_n {l : Ses} {o : Los} (h : (rgtE l o != 0) = false) : ckE l = 0 ∧ o.n = l.n := by
  have h : rgtE l o = 0 := by simpa [bne] using h
  unfold rgtE at h
  cases h1 : ckE l != 0
  · rw [h1] at h
    cases h2 : toInt64 o.n != toInt64 l.n
    · have h1 : ckE l = 0 := by simpa [bne] using h1
      have h2 : (o.n : Int) = (l.n : Int) := by simpa [bne, toInt64] using h2
      exact ⟨h1, by omega⟩
    · rw [h2] at h; simp at h
  · rw [h1] at h
    simp only [cond_true] at h
    rw [h] at h1; simp at h1

noncomputable def Grgt : List A1 → Option (Bool × AV)
  | [.c (.sl [.int .i64, .int .i64, .int .i64, .int .i64, .sl [.int .i64, .int .i64, .int .i64], .int .i64, .bool, .bool] n ρ), .c (.sl [.bool] k σ)] => some (dec (fewS ⟨n, ρ⟩), .one (.c (I (rgtE ⟨n, ρ⟩ ⟨k, σ⟩))))
  | _ => none

theorem pRgt : TcOne Try.prog 57 (nG Grgt) := tcOne_of_tree hNw 10 57 fun args r h => by
  unfold Grgt at h; split at h
  · rename_i n ρ k σ
    obtain ⟨hp, rfl⟩ := Prod.mk.inj (Option.some.inj h)
    refine ⟨rfl, .need (dec (fewS ⟨n, ρ⟩)) (.br (ckE ⟨n, ρ⟩ != 0) (.leaf (.one (.c (I (ckE ⟨n, ρ⟩))))) (.br (toInt64 k != toInt64 n) (.leaf (.one (.c (I 6)))) (.leaf (.one (.c (I 0)))))), by kernel_rfl, all_of_sel ?_⟩
    simp only [Tree.sel, hp, cond_true]
    unfold rgtE
    cases ckE ⟨n, ρ⟩ != 0
    · cases toInt64 k != toInt64 n <;> rfl
    · rfl
  · cases h

noncomputable abbrev HRg : Hd := ⟨(57, nG Grgt) :: HNw.pc, HNw.hc, [], HNw.mc⟩
theorem hRg : HdOk Try.prog HRg := hNw.tcCons pRgt

noncomputable def Gcho : List A1 → Option (Bool × AV)
  | [.c (.sl [.int .i64, .int .i64, .int .i64, .int .i64, .sl [.int .i64, .int .i64, .int .i64], .int .i64, .bool, .bool] n ρ), .c (.sl [.bool] k σ)] => some (dec (fewS ⟨n, ρ⟩), two (choI ⟨n, ρ⟩ ⟨k, σ⟩) (choE ⟨n, ρ⟩ ⟨k, σ⟩))
  | _ => none

theorem pCho : TcOne Try.prog 22 (nG Gcho) := tcOne_of_tree hRg 10 22 fun args r h => by
  unfold Gcho at h; split at h
  · rename_i n ρ k σ
    obtain ⟨hp, rfl⟩ := Prod.mk.inj (Option.some.inj h)
    have hf := dec_iff.1 hp
    let l : Ses := ⟨n, ρ⟩
    let o : Los := ⟨k, σ⟩
    refine ⟨rfl, .need (dec (fewS l)) (.br (rgtE l o != 0) (.leaf (two 0 (rgtE l o))) (.need (dec (k = n ∧ fewS l)) (.br (lt (newI l o) 0) (.leaf (two 0 17)) (.leaf (two (newI l o) 0))))), by kernel_rfl, all_of_sel ?_⟩
    have hp : dec (fewS l) = true := hp
    simp only [Tree.sel, hp, cond_true]
    show _ = some (two (choI l o) (choE l o))
    unfold choI choE
    cases h1 : rgtE l o != 0
    · have h2 : dec (k = n ∧ fewS l) = true := dec_iff.2 ⟨(rgt_n h1).2, hf⟩
      simp only [h2, cond_true, cond_false]
      cases lt (newI l o) 0 <;> rfl
    · simp only [cond_true]
      have : (rgtE l o == 0) = false := by simpa [bne] using h1
      rw [this]; rfl
  · cases h

noncomputable abbrev HCh : Hd := ⟨(22, nG Gcho) :: (57, nG Grgt) :: HNw.pc, HNw.hc, [], HNw.mc⟩
theorem hCh : HdOk Try.prog HCh := ((hNw.tcCons pRgt)).tcCons pCho

end Fo
end Go.Proofs.Ytennlgngdjegoaa
/-
  The unplanned change of the primary: the greatest epoch, and the primary that is there.
-/
namespace Go.Proofs.Ytennlgngdjegoaa
open Go Go.Sx Go.RowKit Classical

set_option maxRecDepth 100000

namespace Fo

def Gep : List A1 → Option AV
  | [.agg [.int .i64 _, .int .i64 _, .int .i64 e, .int .i64 _, .sl [.int .i64, .int .i64, .int .i64] _ _, .int .i64 _, .bool _, .bool _]] => some (.one (.c (I e)))
  | _ => none
theorem pEp : PcOne Try.prog 59 Gep := pcOne_of_ev hFa 10 59 fun args r h => by
  unfold Gep at h; split at h
  · obtain rfl := Option.some.inj h
    exact ⟨rfl, by kernel_rfl, by kernel_rfl⟩
  · cases h

noncomputable abbrev HE0 : Hd := ⟨(59, oG Gep) :: HCh.pc, HCh.hc, [], HCh.mc⟩
theorem hE0 : HdOk Try.prog HE0 := hCh.pcCons pEp

/-! ### the greatest epoch: of the primaries, or of all -/

def prm (l : Ses) (i : Nat) : Bool := (l.at i).r == 1
def epo (l : Ses) (i j : Nat) : Bool := lt 0 (cmpI (l.at i).e (l.at j).e)
/-- all are asked -/
def allT (_ : Nat) : Bool := true
/-- where one was found, it is there -/
theorem bst_in {al : Nat → Bool} {gr : Nat → Nat → Bool} {i n : Nat} {q : Bool} (hi : i ≤ n) (h : (lt (bstI al gr i) 0 == false && q) = true) : inRange (bstI al gr i) n = true := by
  rw [Bool.and_eq_true] at h
  have h0 : lt (bstI al gr i) 0 = false := by simpa using h.1
  rw [← Bool.not_eq_true, lt_iff] at h0
  have hb := bst_rng al gr i
  obtain ⟨j, hj⟩ : ∃ j : Nat, bstI al gr i = j := ⟨(bstI al gr i).toNat, by omega⟩
  rw [hj] at hb ⊢
  exact inR (by omega)
theorem epo_eq (l : Ses) (i j : Nat) : epo l i j = lt (l.at j).e (l.at i).e := cmpI_pos _ _

def lvp (l : Ses) (o : Los) (i : Nat) : Bool := prm l i && (l.at i).l && !o.at i
/-- the greatest epoch of the first sites -/
def mxE (l : Ses) : Nat → Int
  | 0 => 0
  | i + 1 => imax (mxE l i) (l.at i).e
def zP : List CV := [I 0, I 0, I 0, I 0, I 0, I 0, .bool false, .bool false]

namespace La
structure C where
  l : Ses
  j : Ses
  q : Ses
  m : Int
def S (c : C) (v : VG) : St := mkS 43 [(0, .one (.c (.sl siSh c.l.n c.l.ρ))), (1, .one (.c (.fn (.func 60) [] [.ptr 0 0]))), (2, .one (.c (.fn (.func 59) [] []))), (3, .one (.c (.fn (.func 62) [] []))), (9, .one (.c (I v.b))), (12, .one (.c (.sl siSh c.j.n c.j.ρ))), (13, .one (.c (I c.m))), (14, .one (.c (I v.i)))] [some (23, [.sl siSh c.q.n c.q.ρ]), some (49, zP)]
def TX (c : C) (v : VG) : Tree (XE × VG) :=
  let x := c.j.at v.i.toNat
  let y := c.l.at v.b.toNat
  let g := lt v.b 0 == false && ((prm c.q v.i.toNat) == true && true)
  .br (lt v.i c.m) (.need (inRange v.i c.j.n) (.need (inRange v.i c.q.n) (.need (!g || inRange v.b c.l.n)
      (.br (prm c.q v.i.toNat && (lt v.b 0 || lt 0 (cmpI x.e y.e))) (.leaf (.normal, ⟨v.i, IntKind.i64.wrap (v.i + 1)⟩)) (.leaf (.normal, ⟨v.b, IntKind.i64.wrap (v.i + 1)⟩))))))
      (.leaf (.exit 0, v))
theorem t (c : C) (v : VG) : ((evCode Try.prog HE0 (evFn Try.prog HE0 10) 61 2 1 (loopBody Try.prog 61 0) (S c v)).bind fun y => gcT [0, 1, 2, 3, 9, 12, 13, 14] 2 y) = (TX c v).bind fun y => .leaf (y.1, S c y.2) := by kernel_rfl

def st (c : C) (i : Nat) : VG := ⟨bstI (prm c.l) (epo c.l) i, i⟩
def good (c : C) : Prop := (c.j = c.l ∧ c.q = c.l) ∧ c.m = toInt64 c.l.n ∧ fewN c.l.n

theorem sq (c : C) (h : good c) : Sq (TX c) (fun v => (c.l.n - v.i).toNat) (st c) (st c) c.l.n (fun _ => false) .ret (.exit 0) where
  out := by simp
  hit := by simp
  meas i hi := by show ((c.l.n : Int) - (i : Int)).toNat = _; omega
  round i hi := by
    obtain ⟨l, j, q, m⟩ := c
    obtain ⟨⟨hj, hq⟩, hm, hn⟩ := h
    have hj : j = l := hj
    have hq : q = l := hq
    subst hj; subst hq
    have hi : i < q.n := hi
    unfold fewN at hn
    have hw : IntKind.i64.wrap ((i : Int) + 1) = ((i + 1 : Nat) : Int) := by rw [w64_id (by omega) (by omega)]; omega
    have step : ∀ b : Bool, (prm q i && (lt (bstI (prm q) (epo q) i) 0 || epo q i (bstI (prm q) (epo q) i).toNat)) = b → st ⟨q, q, q, m⟩ (i + 1) = ⟨bif b then (i : Int) else bstI (prm q) (epo q) i, ((i + 1 : Nat) : Int)⟩ := fun b hb => by
      unfold st
      conv => lhs; unfold bstI
      rw [show (prm (C.mk q q q m).l i && (lt (bstI (prm (C.mk q q q m).l) (epo (C.mk q q q m).l) i) 0 || epo (C.mk q q q m).l i (bstI (prm (C.mk q q q m).l) (epo (C.mk q q q m).l) i).toNat)) = b from hb]
    refine ⟨fun _ => ⟨inR hi, inR hi, imp_or fun hq => bst_in (by omega) hq, fun h1 => ?_, fun h1 => ?_⟩, fun hlt => ?_⟩
    · show (XE.normal, (⟨(i : Int), IntKind.i64.wrap ((i : Int) + 1)⟩ : VG)) = (.normal, st ⟨q, q, q, m⟩ (i + 1))
      rw [hw, step true (by exact h1)]; rfl
    · show (XE.normal, (⟨bstI (prm q) (epo q) i, IntKind.i64.wrap ((i : Int) + 1)⟩ : VG)) = (.normal, st ⟨q, q, q, m⟩ (i + 1))
      rw [hw, step false (by exact h1)]; rfl
    · have hm : m = toInt64 q.n := hm
      have : lt (i : Int) m = false := hlt
      rw [hm, ltF hi] at this; cases this
  stop := by
    obtain ⟨l, j, q, m⟩ := c
    have hm : m = toInt64 l.n := h.2.1
    refine ⟨fun hlt => ?_, fun _ => rfl⟩
    have : lt (l.n : Int) m = true := hlt
    rw [hm, ltS] at this; cases this

def get : List (Nat × AV) → Mem → Option (C × VG)
  | [(0, .one (.c (.sl [.int .i64, .int .i64, .int .i64, .int .i64, .sl [.int .i64, .int .i64, .int .i64], .int .i64, .bool, .bool] n ρ))), (1, .one (.c (.fn (.func 60) [] [.ptr 0 0]))), (2, .one (.c (.fn (.func 59) [] []))), (3, .one (.c (.fn (.func 62) [] []))), (9, .one (.c (.int .i64 b))), (12, .one (.c (.sl [.int .i64, .int .i64, .int .i64, .int .i64, .sl [.int .i64, .int .i64, .int .i64], .int .i64, .bool, .bool] n2 ρ2))), (13, .one (.c (.int .i64 m))), (14, .one (.c (.int .i64 i)))],
    [some (23, [.sl [.int .i64, .int .i64, .int .i64, .int .i64, .sl [.int .i64, .int .i64, .int .i64], .int .i64, .bool, .bool] n3 ρ3]), some (49, [.int .i64 0, .int .i64 0, .int .i64 0, .int .i64 0, .int .i64 0, .int .i64 0, .bool false, .bool false])] => some (⟨⟨n, ρ⟩, ⟨n2, ρ2⟩, ⟨n3, ρ3⟩, m⟩, ⟨b, i⟩)
  | _, _ => none

noncomputable def L : Nat → St → Tree (XE × St) := lqH [0, 1, 2, 3, 9, 12, 13, 14] 2 43 get fun c v => lq1 (S c) (good c ∧ v = st c 0) (.exit 0) (st c c.l.n)
theorem ok (fn : Func) (c b : Code) (hf : Try.prog.funcs[61]? = some fn) (hc : fn.body = some c) (hb : nthLoop c 0 = some b) : LoopOk Try.prog b L :=
  lq1_ok hE0 10 61 0 hf hc hb [0, 1, 2, 3, 9, 12, 13, 14] 2 43 S TX t get (fun l m c v h => by unfold get at h; split at h <;> simp at h; obtain ⟨rfl, rfl⟩ := h; rfl)
    good (fun c v => (c.l.n - v.i).toNat) st (fun c => c.l.n) (.exit 0) sq (fun c => st c c.l.n) (fun _ _ => StWk.refl)
end La

namespace Ld
structure C where
  l : Ses
  j : Ses
  m : Int
def S (c : C) (v : VG) : St := mkS 43 [(0, .one (.c (.sl siSh c.l.n c.l.ρ))), (1, .one (.c (.fn (.func 63) [] []))), (2, .one (.c (.fn (.func 59) [] []))), (3, .one (.c (.fn (.func 62) [] []))), (9, .one (.c (I v.b))), (12, .one (.c (.sl siSh c.j.n c.j.ρ))), (13, .one (.c (I c.m))), (14, .one (.c (I v.i)))] []
def TX (c : C) (v : VG) : Tree (XE × VG) :=
  let x := c.j.at v.i.toNat
  let y := c.l.at v.b.toNat
  .br (lt v.i c.m) (.need (inRange v.i c.j.n) (.need (!(lt v.b 0 == false && (true && true)) || inRange v.b c.l.n)
      (.br (lt v.b 0 || lt 0 (cmpI x.e y.e)) (.leaf (.normal, ⟨v.i, IntKind.i64.wrap (v.i + 1)⟩)) (.leaf (.normal, ⟨v.b, IntKind.i64.wrap (v.i + 1)⟩)))))
      (.leaf (.exit 0, v))
theorem t (c : C) (v : VG) : ((evCode Try.prog HE0 (evFn Try.prog HE0 10) 61 0 1 (loopBody Try.prog 61 0) (S c v)).bind fun y => gcT [0, 1, 2, 3, 9, 12, 13, 14] 0 y) = (TX c v).bind fun y => .leaf (y.1, S c y.2) := by kernel_rfl

def st (c : C) (i : Nat) : VG := ⟨bstI (allT) (epo c.l) i, i⟩
def good (c : C) : Prop := c.j = c.l ∧ c.m = toInt64 c.l.n ∧ fewN c.l.n

theorem sq (c : C) (h : good c) : Sq (TX c) (fun v => (c.l.n - v.i).toNat) (st c) (st c) c.l.n (fun _ => false) .ret (.exit 0) where
  out := by simp
  hit := by simp
  meas i hi := by show ((c.l.n : Int) - (i : Int)).toNat = _; omega
  round i hi := by
    obtain ⟨q, j, m⟩ := c
    obtain ⟨hj, hm, hn⟩ := h
    have hj : j = q := hj
    subst hj
    have hi : i < j.n := hi
    unfold fewN at hn
    have hw : IntKind.i64.wrap ((i : Int) + 1) = ((i + 1 : Nat) : Int) := by rw [w64_id (by omega) (by omega)]; omega
    have step : ∀ b : Bool, (allT i && (lt (bstI (allT) (epo j) i) 0 || epo j i (bstI (allT) (epo j) i).toNat)) = b → st ⟨j, j, m⟩ (i + 1) = ⟨bif b then (i : Int) else bstI (allT) (epo j) i, ((i + 1 : Nat) : Int)⟩ := fun b hb => by
      unfold st
      conv => lhs; unfold bstI
      rw [show (allT i && (lt (bstI (allT) (epo (C.mk j j m).l) i) 0 || epo (C.mk j j m).l i (bstI (allT) (epo (C.mk j j m).l) i).toNat)) = b from hb]
    refine ⟨fun _ => ⟨inR hi, imp_or fun hq => bst_in (by omega) hq, fun h1 => ?_, fun h1 => ?_⟩, fun hlt => ?_⟩
    · show (XE.normal, (⟨(i : Int), IntKind.i64.wrap ((i : Int) + 1)⟩ : VG)) = (.normal, st ⟨j, j, m⟩ (i + 1))
      rw [hw, step true (by exact h1)]; rfl
    · show (XE.normal, (⟨bstI (allT) (epo j) i, IntKind.i64.wrap ((i : Int) + 1)⟩ : VG)) = (.normal, st ⟨j, j, m⟩ (i + 1))
      rw [hw, step false (by exact h1)]; rfl
    · have hm : m = toInt64 j.n := hm
      have : lt (i : Int) m = false := hlt
      rw [hm, ltF hi] at this; cases this
  stop := by
    obtain ⟨q, j, m⟩ := c
    have hm : m = toInt64 q.n := h.2.1
    refine ⟨fun hlt => ?_, fun _ => rfl⟩
    have : lt (q.n : Int) m = true := hlt
    rw [hm, ltS] at this; cases this

def get : List (Nat × AV) → Mem → Option (C × VG)
  | [(0, .one (.c (.sl [.int .i64, .int .i64, .int .i64, .int .i64, .sl [.int .i64, .int .i64, .int .i64], .int .i64, .bool, .bool] n ρ))), (1, .one (.c (.fn (.func 63) [] []))), (2, .one (.c (.fn (.func 59) [] []))), (3, .one (.c (.fn (.func 62) [] []))), (9, .one (.c (.int .i64 b))), (12, .one (.c (.sl [.int .i64, .int .i64, .int .i64, .int .i64, .sl [.int .i64, .int .i64, .int .i64], .int .i64, .bool, .bool] n2 ρ2))), (13, .one (.c (.int .i64 m))), (14, .one (.c (.int .i64 i)))],
    [] => some (⟨⟨n, ρ⟩, ⟨n2, ρ2⟩, m⟩, ⟨b, i⟩)
  | _, _ => none

noncomputable def L : Nat → St → Tree (XE × St) := lqH [0, 1, 2, 3, 9, 12, 13, 14] 0 43 get fun c v => lq1 (S c) (good c ∧ v = st c 0) (.exit 0) (st c c.l.n)
theorem ok (fn : Func) (c b : Code) (hf : Try.prog.funcs[61]? = some fn) (hc : fn.body = some c) (hb : nthLoop c 0 = some b) : LoopOk Try.prog b L :=
  lq1_ok hE0 10 61 0 hf hc hb [0, 1, 2, 3, 9, 12, 13, 14] 0 43 S TX t get (fun l m c v h => by unfold get at h; split at h <;> simp at h; obtain ⟨rfl, rfl⟩ := h; rfl)
    good (fun c v => (c.l.n - v.i).toNat) st (fun c => c.l.n) (.exit 0) sq (fun c => st c c.l.n) (fun _ _ => StWk.refl)
end Ld

namespace Lb
/-! ### is a primary there? -/

structure C where
  l : Ses
  j : Ses
  q : Ses
  o : Los
  to : Int
  fr : Int
  mo : Int
  m : Int
structure V where
  e : Int
  i : Int
def S (c : C) (v : V) : St := mkS 113 [(1, .one (.c (.sl [.bool] c.o.n c.o.ρ))), (2, .one (.c (I c.to))), (3, .one (.c (.ptr 0 0))), (6, .one (.c (.ptr 1 0))), (7, .one (.c (I v.e))), (10, .one (.c (.fn (.func 60) [] [.ptr 0 0]))), (11, .one (.c (I c.fr))), (12, .one (.c (I c.mo))), (45, .one (.c (.sl siSh c.j.n c.j.ρ))), (46, .one (.c (I c.m))), (47, .one (.c (I v.i)))] [some (23, [.sl siSh c.q.n c.q.ρ]), some (49, zP)]
def TX (c : C) (v : V) : Tree (XE × V) :=
  let x := c.j.at v.i.toNat
  .br (lt v.i c.m) (.need (inRange v.i c.j.n) (.need (inRange v.i c.q.n) (.need (!((prm c.q v.i.toNat && x.l) == true && true) || inRange v.i c.o.n)
    (.br (prm c.q v.i.toNat && x.l && !c.o.at v.i.toNat) (.leaf (.ret, ⟨12, v.i⟩)) (.leaf (.normal, ⟨v.e, IntKind.i64.wrap (v.i + 1)⟩)))))) (.leaf (.exit 0, v))
theorem t (c : C) (v : V) : ((evCode Try.prog HE0 (evFn Try.prog HE0 10) 23 2 1 (loopBody Try.prog 23 0) (S c v)).bind fun y => gcT [1, 2, 3, 6, 7, 10, 11, 12, 45, 46, 47] 2 y) = (TX c v).bind fun y => .leaf (y.1, S c y.2) := by kernel_rfl

def good (c : C) : Prop := (c.j = c.l ∧ c.q = c.l) ∧ (c.m = toInt64 c.l.n ∧ c.o.n = c.l.n) ∧ fewN c.l.n
theorem sq (c : C) (h : good c) : Sq (TX c) (fun v => (c.l.n - v.i).toNat) (fun i => ⟨0, i⟩) (fun i => ⟨12, i⟩) c.l.n (lvp c.l c.o) .ret (.exit 0) where
  out := by simp
  hit := by simp
  meas i hi := by show ((c.l.n : Int) - (i : Int)).toNat = _; omega
  round i hi := by
    obtain ⟨l, j, q, o, to, fr, mo, m⟩ := c
    obtain ⟨⟨hj, hq⟩, ⟨hm, ho⟩, hn⟩ := h
    have hj : j = l := hj
    have hq : q = l := hq
    subst hj; subst hq
    have hi : i < q.n := hi
    unfold fewN at hn
    have hw : IntKind.i64.wrap ((i : Int) + 1) = ((i + 1 : Nat) : Int) := by rw [w64_id (by omega) (by omega)]; omega
    refine ⟨fun _ => ⟨inR hi, inR hi, imp_or fun _ => inR (ho ▸ hi), fun h1 => ?_, fun h1 => ?_⟩, fun hlt => ?_⟩
    · have h1 : lvp q o i = true := h1
      simp only [Tree.All, h1, if_true]
    · have h1 : lvp q o i = false := h1
      simp only [Tree.All, h1, Bool.false_eq_true, if_false]
      show (XE.normal, (⟨0, IntKind.i64.wrap ((i : Int) + 1)⟩ : V)) = _
      rw [hw]
    · have hm : m = toInt64 q.n := hm
      have : lt (i : Int) m = false := hlt
      rw [hm, ltF hi] at this; cases this
  stop := by
    refine ⟨fun hlt => ?_, fun _ => rfl⟩
    have : lt (c.l.n : Int) c.m = true := hlt
    rw [h.2.1.1, ltS] at this; cases this

def get : List (Nat × AV) → Mem → Option (C × V)
  | [(1, .one (.c (.sl [.bool] k σ))), (2, .one (.c (.int .i64 to))), (3, .one (.c (.ptr 0 0))), (6, .one (.c (.ptr 1 0))), (7, .one (.c (.int .i64 e))), (10, .one (.c (.fn (.func 60) [] [.ptr 0 0]))), (11, .one (.c (.int .i64 fr))), (12, .one (.c (.int .i64 mo))), (45, .one (.c (.sl [.int .i64, .int .i64, .int .i64, .int .i64, .sl [.int .i64, .int .i64, .int .i64], .int .i64, .bool, .bool] n2 ρ2))), (46, .one (.c (.int .i64 m))), (47, .one (.c (.int .i64 i)))],
    [some (23, [.sl [.int .i64, .int .i64, .int .i64, .int .i64, .sl [.int .i64, .int .i64, .int .i64], .int .i64, .bool, .bool] n3 ρ3]), some (49, [.int .i64 0, .int .i64 0, .int .i64 0, .int .i64 0, .int .i64 0, .int .i64 0, .bool false, .bool false])] => some (⟨⟨n2, ρ2⟩, ⟨n2, ρ2⟩, ⟨n3, ρ3⟩, ⟨k, σ⟩, to, fr, mo, m⟩, ⟨e, i⟩)
  | _, _ => none

noncomputable def L : Nat → St → Tree (XE × St) := lqH [1, 2, 3, 6, 7, 10, 11, 12, 45, 46, 47] 2 113 get fun c v => lqT (S c) (good c ∧ v = ⟨0, ((0 : Nat) : Int)⟩) (anyB (lvp c.l c.o) c.l.n) .ret (.exit 0) ⟨12, (firstB (lvp c.l c.o) c.l.n : Nat)⟩ ⟨0, c.l.n⟩
theorem ok (fn : Func) (c b : Code) (hf : Try.prog.funcs[23]? = some fn) (hc : fn.body = some c) (hb : nthLoop c 0 = some b) : LoopOk Try.prog b L :=
  lq_ok hE0 10 23 0 hf hc hb [1, 2, 3, 6, 7, 10, 11, 12, 45, 46, 47] 2 113 S TX t get (fun l m c v h => by unfold get at h; split at h <;> simp at h; obtain ⟨rfl, rfl⟩ := h; rfl)
    good (fun c v => (c.l.n - v.i).toNat) (fun _ i => ⟨0, i⟩) (fun _ i => ⟨12, i⟩) (fun c => c.l.n) (fun c => lvp c.l c.o) .ret (.exit 0)
    sq (fun c => ⟨12, (firstB (lvp c.l c.o) c.l.n : Nat)⟩) (fun c => ⟨0, c.l.n⟩) (fun _ _ _ => StWk.refl) (fun _ _ _ => StWk.refl)

end Lb

noncomputable abbrev HMx : Hd := ⟨HE0.pc, HE0.hc, [((61, 0), Ld.L)], HE0.mc⟩
theorem hMx : HdOk Try.prog HMx := HdOk.lhCons hE0 Ld.ok

/-- the place of the greatest epoch of all -/
noncomputable def Gmx : List A1 → Option (Bool × AV)
  | [.c (.sl [.int .i64, .int .i64, .int .i64, .int .i64, .sl [.int .i64, .int .i64, .int .i64], .int .i64, .bool, .bool] n ρ), .c (.fn (.func 63) [] []), .c (.fn (.func 59) [] []), .c (.fn (.func 62) [] [])] => some (dec (fewN n), .one (.c (I (bstI allT (epo ⟨n, ρ⟩) n))))
  | _ => none
theorem pMx : TcOne Try.prog 61 (nG Gmx) := tcOne_of_tree hMx 10 61 fun args r h => by
  unfold Gmx at h; split at h
  · rename_i n ρ
    obtain ⟨hp, rfl⟩ := Prod.mk.inj (Option.some.inj h)
    refine ⟨rfl, .need (dec (Ld.good ⟨⟨n, ρ⟩, ⟨n, ρ⟩, toInt64 n⟩ ∧ (⟨-1, 0⟩ : VG) = Ld.st ⟨⟨n, ρ⟩, ⟨n, ρ⟩, toInt64 n⟩ 0)) (.leaf (.one (.c (I (bstI allT (epo ⟨n, ρ⟩) n))))), by kernel_rfl, dec_iff.2 ⟨⟨rfl, rfl, dec_iff.1 hp⟩, rfl⟩, rfl⟩
  · cases h

noncomputable abbrev HBg : Hd := ⟨(61, nG Gmx) :: HE0.pc, HE0.hc, [((61, 0), La.L), ((23, 0), Lb.L)], HE0.mc⟩
theorem hBg : HdOk Try.prog HBg := HdOk.lhCons (HdOk.lhCons (hE0.tcCons pMx) Lb.ok) La.ok

/-! ### the reference's loop -/

namespace Lc

structure V where
  fr : Int
  mo : Int
  e : Int
  i : Int
structure C where
  l : Ses
  o : Los
  to : Int
def S (c : C) (v : V) : St := mkS 136 [(0, .one (.c (.sl siSh c.l.n c.l.ρ))), (1, .one (.c (.sl [.bool] c.o.n c.o.ρ))), (2, .one (.c (I c.to))), (6, .one (.c (.ptr 0 0))), (7, .one (.c (I v.e))), (10, .one (.c (I v.fr))), (11, .one (.c (I v.mo))), (12, .one (.c (I v.i)))] [some (49, zP)]
def TX (c : C) (v : V) : Tree (XE × V) :=
  let x := c.l.at v.i.toNat
  let y := c.l.at v.fr.toNat
  .br (lt v.i (toInt64 c.l.n)) (.need (inRange v.i c.l.n) (.need (inRange v.i c.l.n) (.br (x.r != 1) (.leaf (.normal, ⟨v.fr, imax v.mo x.e, v.e, IntKind.i64.wrap (v.i + 1)⟩))
    (.need (inRange v.i c.l.n) (.need (!(x.l == true && true) || inRange v.i c.o.n) (.br (x.l && !c.o.at v.i.toNat) (.leaf (.ret, ⟨v.fr, imax v.mo x.e, 12, v.i⟩))
      (.need (!(lt v.fr 0 == false && true) || inRange v.i c.l.n) (.need (!(lt v.fr 0 == false && true) || inRange v.fr c.l.n)
        (.br (lt v.fr 0 || lt y.e x.e) (.leaf (.normal, ⟨v.i, imax v.mo x.e, v.e, IntKind.i64.wrap (v.i + 1)⟩)) (.leaf (.normal, ⟨v.fr, imax v.mo x.e, v.e, IntKind.i64.wrap (v.i + 1)⟩)))))))))))
    (.leaf (.exit 0, v))
def st (c : C) (i : Nat) : V := ⟨bstI (prm c.l) (epo c.l) i, mxE c.l i, 0, i⟩
def sb (c : C) (i : Nat) : V := ⟨bstI (prm c.l) (epo c.l) i, mxE c.l (i + 1), 12, i⟩
def good (c : C) : Prop := c.o.n = c.l.n ∧ fewN c.l.n
theorem sq (c : C) (h : good c) : Sq (TX c) (fun v => (c.l.n - v.i).toNat) (st c) (sb c) c.l.n (lvp c.l c.o) .ret (.exit 0) where
  out := by simp
  hit := by simp
  meas i hi := by show ((c.l.n : Int) - (i : Int)).toNat = _; omega
  round i hi := by
    obtain ⟨l, o, to⟩ := c
    obtain ⟨ho, hn⟩ := h
    have hi : i < l.n := hi
    unfold fewN at hn
    have hw : IntKind.i64.wrap ((i : Int) + 1) = ((i + 1 : Nat) : Int) := by rw [w64_id (by omega) (by omega)]; omega
    have step : ∀ b : Bool, (prm l i && (lt (bstI (prm l) (epo l) i) 0 || epo l i (bstI (prm l) (epo l) i).toNat)) = b → st ⟨l, o, to⟩ (i + 1) = ⟨bif b then (i : Int) else bstI (prm l) (epo l) i, imax (mxE l i) (l.at i).e, 0, ((i + 1 : Nat) : Int)⟩ := fun b hb => by
      unfold st
      conv => lhs; unfold bstI
      rw [show (prm (C.mk l o to).l i && (lt (bstI (prm (C.mk l o to).l) (epo (C.mk l o to).l) i) 0 || epo (C.mk l o to).l i (bstI (prm (C.mk l o to).l) (epo (C.mk l o to).l) i).toNat)) = b from hb]; rfl
    refine ⟨fun _ => ⟨inR hi, inR hi, fun h1 => ?_, fun h1 => ⟨inR hi, imp_or fun _ => inR (ho ▸ hi), fun h2 => ?_, fun h2 => ⟨imp_or fun _ => inR hi, imp_or fun hq => bst_in (by omega) hq, fun h3 => ?_, fun h3 => ?_⟩⟩⟩, fun hlt => ?_⟩
    · have h1 : prm l i = false := by
        have h1 : ((l.at i).r != 1) = true := h1
        unfold prm; simpa [bne] using h1
      have hl : lvp l o i = false := by unfold lvp; rw [h1]; rfl
      simp only [Tree.All, hl, Bool.false_eq_true, if_false]
      show (XE.normal, (⟨bstI (prm l) (epo l) i, imax (mxE l i) (l.at i).e, 0, IntKind.i64.wrap ((i : Int) + 1)⟩ : V)) = _
      rw [step false (by rw [h1]; rfl), hw]; rfl
    · have h1 : prm l i = true := by
        have h1 : ((l.at i).r != 1) = false := h1
        unfold prm; simpa [bne] using h1
      have h2 : ((l.at i).l && !o.at i) = true := h2
      have hl : lvp l o i = true := by unfold lvp; rw [h1, Bool.true_and]; exact h2
      simp only [Tree.All, hl, if_true]
      rfl
    · have h1 : prm l i = true := by
        have h1 : ((l.at i).r != 1) = false := h1
        unfold prm; simpa [bne] using h1
      have h2 : ((l.at i).l && !o.at i) = false := h2
      have hl : lvp l o i = false := by unfold lvp; rw [h1, Bool.true_and]; exact h2
      simp only [Tree.All, hl, Bool.false_eq_true, if_false]
      show (XE.normal, (⟨(i : Int), imax (mxE l i) (l.at i).e, 0, IntKind.i64.wrap ((i : Int) + 1)⟩ : V)) = _
      rw [step true (by rw [h1, epo_eq, Bool.true_and]; exact h3), hw]; rfl
    · have h1 : prm l i = true := by
        have h1 : ((l.at i).r != 1) = false := h1
        unfold prm; simpa [bne] using h1
      have h2 : ((l.at i).l && !o.at i) = false := h2
      have hl : lvp l o i = false := by unfold lvp; rw [h1, Bool.true_and]; exact h2
      simp only [Tree.All, hl, Bool.false_eq_true, if_false]
      show (XE.normal, (⟨bstI (prm l) (epo l) i, imax (mxE l i) (l.at i).e, 0, IntKind.i64.wrap ((i : Int) + 1)⟩ : V)) = _
      rw [step false (by rw [h1, epo_eq, Bool.true_and]; exact h3), hw]; rfl
    · have : lt (i : Int) (toInt64 l.n) = false := hlt
      rw [ltF hi] at this; cases this
  stop := by
    refine ⟨fun hlt => ?_, fun _ => rfl⟩
    have : lt (c.l.n : Int) (toInt64 c.l.n) = true := hlt
    rw [ltS] at this; cases this

def get : List (Nat × AV) → Mem → Option (C × V)
  | [(0, .one (.c (.sl [.int .i64, .int .i64, .int .i64, .int .i64, .sl [.int .i64, .int .i64, .int .i64], .int .i64, .bool, .bool] n ρ))), (1, .one (.c (.sl [.bool] k σ))), (2, .one (.c (.int .i64 to))), (6, .one (.c (.ptr 0 0))), (7, .one (.c (.int .i64 e))), (10, .one (.c (.int .i64 fr))), (11, .one (.c (.int .i64 mo))), (12, .one (.c (.int .i64 i)))], [some (49, [.int .i64 0, .int .i64 0, .int .i64 0, .int .i64 0, .int .i64 0, .int .i64 0, .bool false, .bool false])] => some (⟨⟨n, ρ⟩, ⟨k, σ⟩, to⟩, ⟨fr, mo, e, i⟩)
  | _, _ => none

noncomputable def L : Nat → St → Tree (XE × St) := lqH [0, 1, 2, 6, 7, 10, 11, 12] 1 136 get fun c v => lqT (S c) (good c ∧ v = st c 0) (anyB (lvp c.l c.o) c.l.n) .ret (.exit 0) (sb c (firstB (lvp c.l c.o) c.l.n)) (st c c.l.n)
end Lc

noncomputable abbrev HBr : Hd := ⟨HE0.pc, HE0.hc, [], HE0.mc⟩
theorem hBr : HdOk Try.prog HBr := hE0

end Fo
end Go.Proofs.Ytennlgngdjegoaa
/-
  The unplanned change of the primary: Begin, in the program and in the reference.
-/
namespace Go.Proofs.Ytennlgngdjegoaa
open Go Go.Sx Go.RowKit Classical

set_option maxRecDepth 100000

namespace Fo

/-- a procedure -/
structure Prc where
  k : Int
  f : Int
  t : Int
  s : Int
  e : Int
  c : Int
  d : Bool
  x : Bool
def Prc.cv (p : Prc) : A1 := .agg [I p.k, I p.f, I p.t, I p.s, I p.e, I p.c, .bool p.d, .bool p.x]
def p0 : Prc := ⟨0, 0, 0, 0, 0, 0, false, false⟩
def prE (p : Prc) (e : Int) : AV := .tup [p.cv, .c (I e)]

def froI (l : Ses) : Int := bstI (prm l) (epo l) l.n
def mosI (l : Ses) : Int := bstI allT (epo l) l.n
/-- the greatest epoch -/
def mosE (l : Ses) : Int := (l.at (mosI l).toNat).e
def out (l : Ses) (t : Int) : Bool := lt t 0 || le (toInt64 l.n) t

def begE (l : Ses) (o : Los) (t : Int) : Int :=
  bif rgtE l o != 0 then rgtE l o else bif out l t then 7 else bif anyB (lvp l o) l.n then 12 else bif o.at t.toNat || !(l.at t.toNat).l then 17 else bif !fol (l.at t.toNat).r then 18
  else bif newr (l.at (newI l o).toNat) (l.at t.toNat) then 15 else bif le 1073741824 (mosE l) then 11 else 0
def begP (l : Ses) (o : Los) (t : Int) : Prc := bif begE l o t == 0 then ⟨2, froI l, t, 0, IntKind.i64.wrap (mosE l + 1), (l.at t.toNat).p, false, false⟩ else p0

theorem out_no {l : Ses} {t : Int} (h : out l t = false) : inRange t l.n = true ∧ t.toNat < l.n := by
  unfold out at h
  rw [Bool.or_eq_false_iff] at h
  obtain ⟨h1, h2⟩ := h
  rw [← Bool.not_eq_true, lt_iff] at h1
  rw [← Bool.not_eq_true, le_iff] at h2
  have h2 : ¬ (l.n : Int) ≤ t := h2
  obtain ⟨j, rfl⟩ : ∃ j : Nat, t = j := ⟨t.toNat, by omega⟩
  have : j < l.n := by omega
  exact ⟨inR this, by simpa using this⟩

/-- the greatest of all is there, if there are any -/
theorem mos_some {l : Ses} {n : Nat} (h : 0 < n) : 0 ≤ bstI allT (epo l) n := bst_some (i := 0) h rfl
theorem mos_in {l : Ses} (h : 0 < l.n) : inRange (mosI l) l.n = true := by
  have h1 := mos_some (l := l) h
  have h2 := bst_rng allT (epo l) l.n
  unfold mosI
  obtain ⟨j, hj⟩ : ∃ j : Nat, bstI allT (epo l) l.n = j := ⟨(bstI allT (epo l) l.n).toNat, by omega⟩
  rw [hj] at h2 ⊢
  exact inR (by omega)
theorem mos_eq {l : Ses} (h0 : ∀ i, i < l.n → 0 ≤ (l.at i).e) : ∀ n, 0 < n → n ≤ l.n → (l.at (bstI allT (epo l) n).toNat).e = mxE l n
  | 0, h, _ => by omega
  | n + 1, _, hn => by
    unfold bstI mxE
    rcases Nat.eq_zero_or_pos n with h | h
    · subst h
      have h1 : (allT 0 && (lt (bstI allT (epo l) 0) 0 || epo l 0 (bstI allT (epo l) 0).toNat)) = true := rfl
      rw [h1]
      show (l.at 0).e = imax 0 (l.at 0).e
      have := h0 0 (by omega)
      unfold imax
      cases hlt : lt 0 (l.at 0).e
      · rw [← Bool.not_eq_true, lt_iff] at hlt
        simp only [cond_false]; omega
      · rfl
    · have ih := mos_eq h0 n h (by omega)
      have h1 := mos_some (l := l) h
      have h2 : lt (bstI allT (epo l) n) 0 = false := by rw [← Bool.not_eq_true, lt_iff]; omega
      rw [h2, epo_eq, ih]
      show (l.at (bif lt (mxE l n) (l.at n).e then (n : Int) else bstI allT (epo l) n).toNat).e = imax (mxE l n) (l.at n).e
      unfold imax
      cases lt (mxE l n) (l.at n).e
      · exact ih
      · simp

/-- sites that are in order -/
theorem ck_none {l : Ses} (h : ckE l = 0) : l.n ≤ 4 ∧ ∀ i, i < l.n → wrgS l i = false := by
  unfold ckE at h
  cases h4 : lt 4 (toInt64 l.n)
  · rw [h4] at h
    rw [← Bool.not_eq_true, lt_iff] at h4
    have h4 : ¬ (4 : Int) < (l.n : Int) := h4
    refine ⟨by omega, fun i hi => ?_⟩
    cases ha : anyB (wrgS l) l.n
    · rw [← Bool.not_eq_true]
      intro hw
      rw [anyB_iff.2 ⟨i, hi, hw⟩] at ha; cases ha
    · rw [ha] at h
      have h : wrgE l (firstB (wrgS l) l.n) = 0 := h
      obtain ⟨_, hw, _⟩ := firstB_ok ha
      unfold wrgE at h
      cases hc : chkS (l.at (firstB (wrgS l) l.n)) != 0
      · rw [hc] at h
        cases hd : anyB (fndB l (l.at (firstB (wrgS l) l.n))) (firstB (wrgS l) l.n) <;> rw [hd] at h <;> simp at h
      · rw [hc] at h
        have h : chkS (l.at (firstB (wrgS l) l.n)) = 0 := h
        rw [h] at hc; simp at hc
  · rw [h4] at h; simp at h

theorem ck_each {l : Ses} (h : ckE l = 0) : ∀ i, i < l.n → chkS (l.at i) = 0 := fun i hi => by
  have := (ck_none h).2 i hi
  unfold wrgS at this
  rw [Bool.or_eq_false_iff, Bool.or_eq_false_iff] at this
  simpa [bne] using this.1.1

theorem mosE_eq {l : Ses} (h : ckE l = 0) (hn : 0 < l.n) : mosE l = mxE l l.n := mos_eq (fun i hi => (chk_zero (ck_each h i hi)).2.2.2.1) l.n hn (Nat.le_refl _)

noncomputable def Gbeg : List A1 → Option (Bool × AV)
  | [.c (.sl [.int .i64, .int .i64, .int .i64, .int .i64, .sl [.int .i64, .int .i64, .int .i64], .int .i64, .bool, .bool] n ρ), .c (.sl [.bool] k σ), .c (.int .i64 t)] => some (dec (fewS ⟨n, ρ⟩), prE (begP ⟨n, ρ⟩ ⟨k, σ⟩ t) (begE ⟨n, ρ⟩ ⟨k, σ⟩ t))
  | _ => none

/-- where a site can be chosen, one is chosen -/
theorem new_in {l : Ses} {o : Los} {t : Nat} (ht : t < l.n) (h1 : o.at t = false) (h2 : (l.at t).l = true) (h3 : fol (l.at t).r = true) : inRange (newI l o) l.n = true ∧ (newI l o).toNat < l.n ∧ lt (newI l o) 0 = false := by
  have hc : cand l o t = true := by unfold cand; rw [h1, h2, h3]; rfl
  have h4 := bst_some (gr := nwr l) ht hc
  have h5 := bst_rng (cand l o) (nwr l) l.n
  unfold newI
  obtain ⟨j, hj⟩ : ∃ j : Nat, bstI (cand l o) (nwr l) l.n = j := ⟨(bstI (cand l o) (nwr l) l.n).toNat, by omega⟩
  rw [hj] at h4 h5 ⊢
  have hlt : j < l.n := by omega
  refine ⟨inR hlt, by simpa using hlt, ?_⟩
  rw [← Bool.not_eq_true, lt_iff]; omega

theorem pBeg : TcOne Try.prog 23 (nG Gbeg) := tcOne_of_tree hBg 10 23 fun args r h => by
  unfold Gbeg at h; split at h
  · rename_i n ρ k σ t
    obtain ⟨hp, rfl⟩ := Prod.mk.inj (Option.some.inj h)
    let l : Ses := ⟨n, ρ⟩
    let o : Los := ⟨k, σ⟩
    let er (k : Int) : Tree AV := .leaf (prE p0 k)
    let x := l.at (newI l o).toNat
    let rest : Tree AV := .br (!fol (l.at t.toNat).r) (er 18) (.need (dec (k = n ∧ fewS l)) (.need (inRange (newI l o) n) (.need (dec (fewN x.n)) (.need (dec (fewN (l.at t.toNat).n)) (.br (newr x (l.at t.toNat)) (er 15) (.br (le 1073741824 (mosE l)) (er 11) (.need (inRange t n) (.leaf (prE ⟨2, froI l, t, 0, IntKind.i64.wrap (mosE l + 1), (l.at t.toNat).p, false, false⟩ 0)))))))))
    refine ⟨rfl, .need (dec (fewS l)) (.br (rgtE l o != 0) (er (rgtE l o)) (.br (out l t) (er 7) (.need (dec (La.good ⟨l, l, l, toInt64 n⟩ ∧ (⟨-1, 0⟩ : VG) = La.st ⟨l, l, l, toInt64 n⟩ 0)) (.need (dec (fewN n)) (.need (inRange (mosI l) n)
      (.need (dec (Lb.good ⟨l, l, l, o, t, froI l, mosE l, toInt64 n⟩ ∧ (⟨0, 0⟩ : Lb.V) = ⟨0, ((0 : Nat) : Int)⟩)) (.br (anyB (lvp l o) n) (er 12) (.need (inRange t n) (.need (inRange t k) (.br (o.at t.toNat) (.br (o.at t.toNat) (er 17) rest) (.br (!(l.at t.toNat).l) (er 17) rest))))))))))), by kernel_rfl, all_of_sel ?_⟩
    have hp : dec (fewS l) = true := hp
    have hf := dec_iff.1 hp
    show _ = some (prE (begP l o t) (begE l o t))
    unfold begP begE
    cases h1 : rgtE l o != 0
    · obtain ⟨hck, hon⟩ := rgt_n h1
      have hon : k = n := hon
      subst hon
      cases h2 : out l t
      · obtain ⟨htr, htn⟩ := out_no h2
        have htr : inRange t k = true := htr
        have d1 : dec (La.good ⟨l, l, l, toInt64 k⟩ ∧ (⟨-1, 0⟩ : VG) = La.st ⟨l, l, l, toInt64 k⟩ 0) = true := dec_iff.2 ⟨⟨⟨rfl, rfl⟩, rfl, hf.1⟩, rfl⟩
        have d2 : dec (fewN k) = true := dec_iff.2 hf.1
        have d3 : inRange (mosI l) k = true := mos_in (l := l) (Nat.lt_of_le_of_lt (Nat.zero_le _) htn)
        have d4 : dec (Lb.good ⟨l, l, l, o, t, froI l, mosE l, toInt64 k⟩ ∧ (⟨0, 0⟩ : Lb.V) = ⟨0, ((0 : Nat) : Int)⟩) = true := dec_iff.2 ⟨⟨⟨rfl, rfl⟩, ⟨rfl, rfl⟩, hf.1⟩, rfl⟩
        have d5 : dec (True ∧ fewS l) = true := dec_iff.2 ⟨trivial, hf⟩
        have d6 : dec (fewN (l.at t.toNat).n) = true := dec_iff.2 (hf.2 _ htn)
        simp only [Tree.sel, hp, d1, d2, d3, d4, htr, cond_true, cond_false]
        show (bif anyB (lvp l o) k then _ else _) = _
        cases h3 : anyB (lvp l o) k
        · simp only [cond_false]
          have hrest : o.at t.toNat = false → (l.at t.toNat).l = true → rest.sel = some (prE (bif (bif !fol (l.at t.toNat).r then (18 : Int) else bif newr (l.at (newI l o).toNat) (l.at t.toNat) then 15 else bif le 1073741824 (mosE l) then 11 else 0) == 0 then ⟨2, froI l, t, 0, IntKind.i64.wrap (mosE l + 1), (l.at t.toNat).p, false, false⟩ else p0)
              (bif !fol (l.at t.toNat).r then 18 else bif newr (l.at (newI l o).toNat) (l.at t.toNat) then 15 else bif le 1073741824 (mosE l) then 11 else 0)) := fun ho hl => by
            cases h4 : fol (l.at t.toNat).r
            · simp only [rest, Tree.sel, h4, Bool.not_false, cond_true]; rfl
            · obtain ⟨g1, g2, _⟩ := new_in htn ho hl h4
              have g1 : inRange (newI l o) k = true := g1
              have d7 : dec (fewN x.n) = true := dec_iff.2 (hf.2 _ g2)
              simp only [rest, Tree.sel, h4, d5, d6, d7, g1, htr, Bool.not_true, cond_true, cond_false]
              cases h5 : newr x (l.at t.toNat)
              · cases le 1073741824 (mosE l) <;> rfl
              · rfl
          cases h4 : o.at t.toNat
          · cases h5 : (l.at t.toNat).l
            · rfl
            · simp only [Bool.not_true, Bool.or_self, cond_false]
              exact hrest h4 h5
          · rfl
        · rfl
      · simp only [Tree.sel, hp, cond_true, cond_false]; rfl
    · simp only [Tree.sel, hp, cond_true]
      have : (rgtE l o == 0) = false := by simpa [bne] using h1
      rw [this]; rfl
  · cases h

noncomputable abbrev HBe : Hd := ⟨(23, nG Gbeg) :: HCh.pc, HCh.hc, [], HCh.mc⟩
theorem hBe : HdOk Try.prog HBe := (hCh).tcCons pBeg

end Fo
end Go.Proofs.Ytennlgngdjegoaa
