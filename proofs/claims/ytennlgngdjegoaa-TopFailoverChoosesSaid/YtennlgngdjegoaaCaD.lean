/-
  A pair of sites, the primary is lost: the live path, for each number of new sites.
-/
import Derived.Test.YtennlgngdjegoaaCaC
namespace Go.Proofs.Ytennlgngdjegoaa
open Go Go.Sx Go.RowKit Classical

set_option maxRecDepth 100000
set_option maxHeartbeats 4000000

namespace Fo

/-- the old primary -/
def wh (g : Gs) (k : Int) : Sit := Ses.at ⟨2, g.W k⟩ 0
/-- how much a new site has -/
def cyc (g : Gs) (k : Int) (ρ : Val) (i : Nat) : Int := IntKind.i64.wrap ((IntKind.i64.wrap (((ρ.at i).at 0).N [])).tmod (wh g k).p + 1)
/-- a new site -/
def nst (g : Gs) (i : Int) (c : Int) : List CV := [I (IntKind.i64.wrap (i + 1)), I 2, I 1, I c, .sl spSh 1 (g.Y Val.zero 1 c), I 0, .bool true, .bool true]
def losO (n : Nat) : Los := ⟨n, (Val.byFst fun _ => Val.ofCs [CV.bool false]).upds 0 0 [CV.bool true]⟩
/-- what is asked of a new site -/
noncomputable def newC (g : Gs) (k : Int) (i : Int) (c : Int) : List (Bool × Bool) :=
  [(true, true), (true, true), (true, true), (dec (small 0), true), (false, false), (!((wh g k).p == 0), true),
    (dec ((4 : Int) = 4 ∧ (0 : Int) = 0 ∧ (0 : Nat) = 0 ∧ chk (IntKind.i64.wrap (i + 1)) 4 1 0 ⟨0, Val.zero⟩ 0 = 0 ∧ 1 ≤ c ∧ c ≤ 1073741824), true), (false, false)]
/-- what is asked behind -/
noncomputable def restC (f : Fs) (R : Ses → Los → Int → Prc × Ses) (w : Sit) (m : Int) (n : Nat) (l : Ses) : List (Bool × Bool) :=
  let o := losO n
  let t := f.cI l o
  let r := R l o t
  let x := r.2.at t.toNat
  let a := f.aE x 2 (IntKind.i64.wrap (m + 1))
  let C : Sl.C := ⟨w, o, l, m, t⟩
  [(true, true), (true, true), (dec (fewS l), true), (!((f.cE l o != 0 || lt t 1 || le (toInt64 n) t) == false && true) || inRange t n, true), (f.cE l o != 0 || lt t 1 || le (toInt64 n) t || (l.at t.toNat).p != m, false),
    (dec (fewS l), true), (dec (Sl.good C ∧ (⟨f.bP l o t, l, f.bE l o t, 0⟩ : Sl.V) = Sl.st C 0), true),
    (!((!r.1.d || toInt64 r.2.n != toInt64 n) == false && true) || inRange t r.2.n, true),
    (!((!r.1.d || toInt64 r.2.n != toInt64 n || x.r != 1) == false && true) || inRange t r.2.n, true),
    (!((!r.1.d || toInt64 r.2.n != toInt64 n || x.r != 1 || x.e != 2) == false && true) || inRange 0 r.2.n, true),
    (!r.1.d || toInt64 r.2.n != toInt64 n || x.r != 1 || x.e != 2 || (r.2.at 0).r != 5, false),
    (dec (Fl.good ⟨r.2, r.2, w, m, t, toInt64 r.2.n⟩ ∧ (0 : Int) = ((0 : Nat) : Int)), true), (inRange t r.2.n, true), (dec (small x.n), true),
    (dec (fewN (bif a == 0 then (f.aX x 2 (IntKind.i64.wrap (m + 1))).n else 0) ∧ fewN w.n), true)]

/-- what comes out -/
noncomputable def leafA (f : Fs) (R : Ses → Los → Int → Prc × Ses) (w : Sit) (m : Int) (n : Nat) (l : Ses) : AV :=
  let o := losO n
  let t := f.cI l o
  let r := R l o t
  let x := r.2.at t.toNat
  let a := f.aE x 2 (IntKind.i64.wrap (m + 1))
  let y := f.aX x 2 (IntKind.i64.wrap (m + 1))
  .one (.c (.bool (a == 0 && (f.an ⟨bif a == 0 then y.n else 0, y.ρ⟩ ⟨w.n, w.ρ⟩).c == m && (bif a == 0 then y.p else 0) == IntKind.i64.wrap (m + 1) || false)))
theorem path1 (f : Fs) (g : Gs) (R : Ses → Los → Int → Prc × Ses) (a : Int) (ρ : Val) : (evFn Try.prog (HV f g R) 10 5 [.c (.int .u8 a), .c (.sl [.int .u8] 1 ρ)] []).vals.follow [false, false, true, false, false, false, false, false] =
    let k := IntKind.i64.wrap (a.tmod 9)
    let c0 := cyc g k ρ 0
    let l : Ses := ⟨2, (Val.cat 1 (g.W k) (Val.ofFlat 8 (nst g 0 c0)))⟩
    some ([(true, true), (dec (0 ≤ k ∧ k ≤ 8), true), (false, false), (true, true), (lt (wh g k).p 1, false)] ++ newC g k 0 c0 ++ [(true, true), (false, false)] ++ restC f R (wh g k) (imax 0 c0) 2 l, leafA f R (wh g k) (imax 0 c0) 2 l) := by kernel_rfl
theorem path2 (f : Fs) (g : Gs) (R : Ses → Los → Int → Prc × Ses) (a : Int) (ρ : Val) : (evFn Try.prog (HV f g R) 10 5 [.c (.int .u8 a), .c (.sl [.int .u8] 2 ρ)] []).vals.follow [false, false, true, false, false, true, false, false, false, false, false] =
    let k := IntKind.i64.wrap (a.tmod 9)
    let c0 := cyc g k ρ 0
    let c1 := cyc g k ρ 1
    let l : Ses := ⟨3, (Val.cat 2 (Val.cat 1 (g.W k) (Val.ofFlat 8 (nst g 0 c0))) (Val.ofFlat 8 (nst g 1 c1)))⟩
    some ([(true, true), (dec (0 ≤ k ∧ k ≤ 8), true), (false, false), (true, true), (lt (wh g k).p 1, false)] ++ newC g k 0 c0 ++ newC g k 1 c1 ++ [(true, true), (false, false)] ++ restC f R (wh g k) (imax (imax 0 c0) c1) 3 l, leafA f R (wh g k) (imax (imax 0 c0) c1) 3 l) := by kernel_rfl

theorem path3 (f : Fs) (g : Gs) (R : Ses → Los → Int → Prc × Ses) (a : Int) (ρ : Val) : (evFn Try.prog (HV f g R) 10 5 [.c (.int .u8 a), .c (.sl [.int .u8] 3 ρ)] []).vals.follow [false, false, true, false, false, true, false, false, true, false, false, false, false, false] =
    let k := IntKind.i64.wrap (a.tmod 9)
    let c0 := cyc g k ρ 0
    let c1 := cyc g k ρ 1
    let c2 := cyc g k ρ 2
    let l : Ses := ⟨4, (Val.cat 3 (Val.cat 2 (Val.cat 1 (g.W k) (Val.ofFlat 8 (nst g 0 c0))) (Val.ofFlat 8 (nst g 1 c1))) (Val.ofFlat 8 (nst g 2 c2)))⟩
    some ([(true, true), (dec (0 ≤ k ∧ k ≤ 8), true), (false, false), (true, true), (lt (wh g k).p 1, false)] ++ newC g k 0 c0 ++ newC g k 1 c1 ++ newC g k 2 c2 ++ [(true, true), (false, false)] ++ restC f R (wh g k) (imax (imax (imax 0 c0) c1) c2) 4 l, leafA f R (wh g k) (imax (imax (imax 0 c0) c1) c2) 4 l) := by kernel_rfl

end Fo
end Go.Proofs.Ytennlgngdjegoaa
/-
  A pair of sites, the primary is lost: what failover does to sites of which the first is lost.
-/
namespace Go.Proofs.Ytennlgngdjegoaa
open Go Go.Sx Go.RowKit Classical

set_option maxRecDepth 100000

namespace Fo

/-- an old primary and those that follow it -/
structure Nw (l : Ses) (P m : Int) : Prop where
  n2 : 2 ≤ l.n
  n4 : l.n ≤ 4
  P1 : 1 ≤ P
  P9 : P ≤ 9
  old : SitOk (l.at 0) 0 1 1 P (-1)
  new : ∀ i : Nat, 1 ≤ i → i < l.n → ∃ c, 1 ≤ c ∧ c ≤ P ∧ c ≤ m ∧ SitOk (l.at i) i 2 1 c 0
  ex : ∃ i : Nat, 1 ≤ i ∧ i < l.n ∧ (l.at i).p = m

theorem lin_one {n : Nat} {ρ : Val} {c : Int} (h : LinOk n ρ c) (hc : 0 < c) : n = 1 ∧ spn ρ 0 = ⟨1, 1, c⟩ := ⟨by rw [h.n, spN_pos hc], h.sp hc⟩
theorem hd_of {x : Sit} {c : Int} (h : LinOk x.n x.ρ c) (hc : 0 < c) : hd x.ln = ⟨1, 1, c⟩ := by
  obtain ⟨h1, h2⟩ := lin_one h hc
  unfold hd Sit.ln
  simp only [h1]
  exact h2
theorem age_of {x : Sit} {c : Int} (h : LinOk x.n x.ρ c) (hc : 0 < c) : age x = 1 := by
  unfold age; rw [hd_of h hc]

theorem siteOk_of {x : Sit} {a : Nat} {r c s : Int} (h : SitOk x a r 1 c s) (ha : a < 4) (hc : 1 ≤ c ∧ c ≤ 9) (hr : r = 1 ∧ s = -1 ∨ r = 2 ∧ s = 0 ∧ 1 ≤ a) : SiteOk x := by
  obtain ⟨h1, h2, h3, h4, h5, h6, h7, h8⟩ := h
  have hco := h5.corr (by omega)
  obtain ⟨ht, hhe⟩ := h5.hd (by omega)
  have ht : (hd x.ln).t = c := ht
  have hhe : (hd x.ln).e ≤ 1 := hhe
  refine ⟨hco, by rw [h4]; exact ht, by rw [h3]; exact hhe, by omega, by omega, by omega, by omega, ?_, by omega, by omega, by omega, fun hh => ?_, fun hh => ?_⟩
  · rw [h1]; unfold sit; rw [Bool.and_eq_true, le_iff, lt_iff]; omega
  · rw [h2] at hh
    rcases hr with ⟨rfl, rfl⟩ | ⟨rfl, rfl, h⟩
    · cases hh
    · rw [h6, h1]
      have : ((0 : Int) != (a : Int)) = true := by
        have : (0 : Int) ≠ (a : Int) := by omega
        simpa [bne] using this
      unfold oth
      rw [this]; rfl
  · rw [h2] at hh
    rcases hr with ⟨rfl, rfl⟩ | ⟨rfl, rfl, h⟩
    · exact h6
    · cases hh

theorem losO_at (n i : Nat) : (losO n).at i = (i == 0) := by
  show ((((Val.byFst fun _ => Val.ofCs [CV.bool false]).upds 0 0 [CV.bool true]).at i).at 0).B [] = _
  rw [at_upds]
  by_cases hi : i = 0
  · subst hi; rfl
  · rw [if_neg fun h => hi h.1]
    have : (i == 0) = false := by rw [beq_eq_false_iff_ne]; exact hi
    rw [this]; rfl

section
variable {l : Ses} {P m : Int}

theorem Nw.sit (h : Nw l P m) {i : Nat} (hi : i < l.n) : ∃ c, 1 ≤ c ∧ c ≤ P ∧ SitOk (l.at i) i (if i = 0 then 1 else 2) 1 c (if i = 0 then -1 else 0) := by
  by_cases h0 : i = 0
  · subst h0
    exact ⟨P, h.P1, Int.le_refl _, h.old⟩
  · obtain ⟨c, h1, h2, _, h3⟩ := h.new i (by omega) hi
    rw [if_neg h0, if_neg h0]
    exact ⟨c, h1, h2, h3⟩
theorem Nw.ok (h : Nw l P m) {i : Nat} (hi : i < l.n) : SiteOk (l.at i) := by
  obtain ⟨c, h1, h2, h3⟩ := h.sit hi
  have := h.P9
  refine siteOk_of h3 (by have := h.n4; omega) (by omega) ?_
  by_cases h0 : i = 0
  · rw [if_pos h0, if_pos h0]; exact .inl ⟨rfl, rfl⟩
  · rw [if_neg h0, if_neg h0]; exact .inr ⟨rfl, rfl, by omega⟩
theorem Nw.a (h : Nw l P m) {i : Nat} (hi : i < l.n) : (l.at i).a = i := (h.sit hi).choose_spec.2.2.a
theorem Nw.r0 (h : Nw l P m) : (l.at 0).r = 1 := h.old.r
theorem Nw.r1 (h : Nw l P m) {i : Nat} (h0 : i ≠ 0) (hi : i < l.n) : (l.at i).r = 2 := by
  obtain ⟨c, _, _, _, h3⟩ := h.new i (by omega) hi
  exact h3.r
theorem Nw.e (h : Nw l P m) {i : Nat} (hi : i < l.n) : (l.at i).e = 1 := (h.sit hi).choose_spec.2.2.e
theorem Nw.al (h : Nw l P m) {i : Nat} (hi : i < l.n) : (l.at i).l = true := (h.sit hi).choose_spec.2.2.l
theorem Nw.age (h : Nw l P m) {i : Nat} (hi : i < l.n) : age (l.at i) = 1 := by
  obtain ⟨c, h1, h2, h3⟩ := h.sit hi
  exact age_of h3.lin (by omega)
theorem Nw.nn (h : Nw l P m) {i : Nat} (hi : i < l.n) : (l.at i).n = 1 := by
  obtain ⟨c, h1, h2, h3⟩ := h.sit hi
  exact (lin_one h3.lin (by omega)).1
theorem Nw.ck (h : Nw l P m) : Ck l := ⟨h.n4, fun i hi => h.ok hi, fun i j hi hj hne => by rw [h.a hi, h.a hj]; omega, fun i j hi hj hne r1 r2 => by
  by_cases h1 : i = 0
  · by_cases h2 : j = 0
    · omega
    · rw [h.r1 h2 hj] at r2; omega
  · rw [h.r1 h1 hi] at r1; omega⟩
theorem Nw.small (h : Nw l P m) : smallS l := ⟨by have := h.n4; omega, fun i hi => by rw [h.nn hi]; unfold Go.Proofs.Ytennlgngdjegoaa.small; omega⟩
theorem Nw.few (h : Nw l P m) : fewS l := small_fewS h.small
theorem Nw.cand (h : Nw l P m) {i : Nat} (hi : i < l.n) : cand l (losO l.n) i = !(i == 0) := by
  unfold Fo.cand
  rw [h.al hi, losO_at]
  by_cases h0 : i = 0
  · subst h0; rfl
  · rw [h.r1 h0 hi]
    have : (i == 0) = false := by rw [beq_eq_false_iff_ne]; exact h0
    rw [this]; rfl
theorem Nw.rgt (h : Nw l P m) : rgtE l (losO l.n) = 0 := by
  unfold rgtE
  rw [ck_of h.ck]
  show (bif toInt64 l.n != toInt64 l.n then (6 : Int) else 0) = 0
  simp
theorem Nw.new0 (h : Nw l P m) : 0 ≤ newI l (losO l.n) := bst_some (i := 1) (by have := h.n2; omega) (by rw [h.cand (by have := h.n2; omega)]; rfl)
theorem Nw.choE (h : Nw l P m) : choE l (losO l.n) = 0 := by
  unfold Fo.choE
  rw [h.rgt, ltF' (by have := h.new0; omega)]; rfl
theorem Nw.choI (h : Nw l P m) : choI l (losO l.n) = newI l (losO l.n) := (cho_ok h.choE).2.2.1
/-- the place that is chosen -/
theorem Nw.at (h : Nw l P m) : 1 ≤ newI l (losO l.n) ∧ newI l (losO l.n) < l.n ∧ (l.at (newI l (losO l.n)).toNat).p = m := by
  obtain ⟨_, _, _, _, ⟨h5, h6⟩, h7, _⟩ := cho_ok h.choE
  have hlt : (newI l (losO l.n)).toNat < l.n := by omega
  rw [h.cand hlt] at h7
  have h8 : (newI l (losO l.n)).toNat ≠ 0 := by simpa using h7
  refine ⟨by omega, h6, ?_⟩
  obtain ⟨i, i1, i2, i3⟩ := h.ex
  have hci : Fo.cand l (losO l.n) i = true := by
    rw [h.cand i2]
    have : (i == 0) = false := by rw [beq_eq_false_iff_ne]; omega
    rw [this]; rfl
  have hb := bst_max (al := Fo.cand l (losO l.n)) (gr := nwr l) (fun i => newr_irr _) (fun i j k => newr_tr) l.n h5 i i2 hci
  have hb : ¬ newr (l.at i) (l.at (newI l (losO l.n)).toNat) = true := by rw [Bool.not_eq_true]; exact hb
  rw [newr_iff, h.age i2, h.age hlt, i3] at hb
  obtain ⟨c, _, _, c1, c2⟩ := h.new _ (by omega : 1 ≤ (newI l (losO l.n)).toNat) hlt
  have := c2.p
  omega
theorem Nw.mos (h : Nw l P m) : mosE l = 1 := by
  have h1 := mos_in (l := l) (by have := h.n2; omega)
  unfold inRange at h1
  rw [Bool.and_eq_true, le_iff, lt_iff] at h1
  have h1 : 0 ≤ mosI l ∧ mosI l < (l.n : Int) := h1
  exact h.e (by omega)
theorem Nw.fro (h : Nw l P m) : froI l = 0 := by
  have h0 : 0 ≤ froI l := bst_some (i := 0) (by have := h.n2; omega) (by unfold prm; rw [h.r0]; rfl)
  have h1 := bst_rng (prm l) (epo l) l.n
  have h1 : -1 ≤ froI l ∧ froI l < l.n := h1
  have h2 := bst_al (prm l) (epo l) l.n h0
  have h2 : ((l.at (froI l).toNat).r == 1) = true := h2
  by_cases h3 : (froI l).toNat = 0
  · omega
  · rw [h.r1 h3 (by omega)] at h2; cases h2
theorem Nw.beg (h : Nw l P m) : begE l (losO l.n) (newI l (losO l.n)) = 0 := by
  obtain ⟨h1, h2, h3⟩ := h.at
  have hlt : (newI l (losO l.n)).toNat < l.n := by omega
  unfold begE
  have e1 : out l (newI l (losO l.n)) = false := by
    unfold out
    rw [ltF' (by omega), leF' (by show ¬ (l.n : Int) ≤ _; omega)]; rfl
  have e2 : anyB (lvp l (losO l.n)) l.n = false := anyB_none fun i hi => by
    unfold lvp prm
    rw [losO_at]
    by_cases h0 : i = 0
    · subst h0; simp
    · rw [h.r1 h0 hi]; rfl
  have e3 : (losO l.n).at (newI l (losO l.n)).toNat = false := by
    rw [losO_at, beq_eq_false_iff_ne]; omega
  have e4 : (l.at (newI l (losO l.n)).toNat).r = 2 := h.r1 (by omega) hlt
  rw [h.rgt, e1, e2, e3, h.al hlt, e4, newr_irr, h.mos]
  rfl

/-- where the lineage of the new primary and that of the old one part -/
theorem anc_one {A B : Ln} {P m : Int} (hA : corr A = true) (hB : corr B = true) (nA : A.n = 2) (nB : B.n = 1) (sA : spn A.ρ 0 = ⟨1, 1, m⟩) (sB : spn B.ρ 0 = ⟨1, 1, P⟩) (hm : m ≤ P) : (anc A B).c = m := by
  have hl : len65 ⟨A, B⟩ = 1 := by unfold len65; rw [nA, nB]; rfl
  have hb : bad65 ⟨A, B⟩ 0 = (m != P) := by unfold bad65; simp only [sA, sB]; rfl
  have ha : anyB (bad65 ⟨A, B⟩) 1 = (m != P) := by unfold anyB; rw [hb]; rfl
  unfold anc
  rw [hA, hB, hl, ha]
  have hmin : imin m P = m := by
    unfold imin
    rw [ltF' (by omega)]; rfl
  by_cases he : m = P
  · have : (m != P) = false := by simp [he]
    rw [this]
    show (st65 ⟨A, B⟩ 1).c = m
    unfold st65
    simp only [sA, sB]
    exact hmin
  · have : (m != P) = true := by simpa [bne] using he
    rw [this]
    have hf : firstB (bad65 ⟨A, B⟩) 1 = 0 := by
      refine (firstB_eq (by omega) (by rw [hb]; exact this) fun j hj => absurd hj (Nat.not_lt_zero j)).2
    show (sb65 ⟨A, B⟩ (firstB (bad65 ⟨A, B⟩) 1)).c = m
    rw [hf]
    unfold sb65
    simp only [sA, sB]
    exact hmin

theorem Nw.rest (h : Nw l P m) {w : Sit} (hw : SitOk w 0 1 1 P (-1)) : okB (restC F0 Sl.R0 w m l.n l) = true ∧ leafA F0 Sl.R0 w m l.n l = .one (.c (.bool true)) := by
  obtain ⟨t1, t2, t3⟩ := h.at
  have hb := h.beg
  have hcI : F0.cI l (losO l.n) = newI l (losO l.n) := h.choI
  have hcE : F0.cE l (losO l.n) = 0 := h.choE
  obtain ⟨t, ht⟩ : ∃ t, newI l (losO l.n) = t := ⟨_, rfl⟩
  rw [ht] at t1 t2 t3 hb hcI
  have hB := beg_ok hb
  have hbE : F0.bE l (losO l.n) t = 0 := hb
  have hlt := hB.lt
  have hR : Sl.R0 l (losO l.n) t = ({ prc l t 4 with d := true }, ses3 l t.toNat) := hB.step3.2
  have hX : (ses3 l t.toNat).at t.toNat = pro (l.at t.toNat) 2 := by rw [hB.at3 hlt, if_pos rfl, h.mos]; rfl
  have h0 : ((ses3 l t.toNat).at 0).r = 5 := by
    rw [hB.at3 (by omega), if_neg (by omega), if_pos (by rw [h.fro]; rfl)]; rfl
  have hoth : ∀ i : Nat, i < l.n → (i : Int) ≠ t → i ≠ 0 → ((ses3 l t.toNat).at i).r = 4 ∧ ((ses3 l t.toNat).at i).s = ((ses3 l t.toNat).at t.toNat).a := fun i hi hit hi0 => by
    have hr := h.r1 hi0 hi
    have hs : skp t.toNat (ses2 l t.toNat) i = false := by
      unfold skp
      rw [hB.at2, if_neg (by omega), if_neg (by rw [h.fro]; omega), hr]
      have : ((i : Int) == ((t.toNat : Nat) : Int)) = false := by rw [beq_eq_false_iff_ne]; omega
      rw [this]; rfl
    rw [hB.at3 hi, if_neg (by omega), if_neg (by rw [h.fro]; omega), hr, if_pos (by rfl : fol 2 = true), (hB.jn hi hs).2, hX, h.mos]
    exact ⟨rfl, rfl⟩
  -- the site that is chosen
  obtain ⟨c, c1, c2, c3, c4⟩ := h.new t.toNat (by omega) hlt
  have hc : c = m := by rw [← t3, c4.p]
  subst hc
  have hP9 := h.P9
  have hwr : IntKind.i64.wrap (c + 1) = c + 1 := w64_id (by omega) (by omega)
  obtain ⟨l1, l2⟩ := lin_one c4.lin (by omega)
  have hhd := hd_of c4.lin (by omega)
  have hXo : SiteOk (pro (l.at t.toNat) 2) := by rw [← hX]; exact hB.ck3.ok _ hlt
  have hXe : appE (pro (l.at t.toNat) 2) 2 (c + 1) = 0 := by
    unfold appE
    rw [chk_of_ok hXo]
    refine chain_all fun q hq => ?_
    simp only [List.mem_cons, List.not_mem_nil, or_false] at hq
    rcases hq with rfl | rfl | rfl | rfl
    · rfl
    · rfl
    · rw [imax_le, Bool.and_eq_true, le_iff, le_iff]; omega
    · rw [lt_iff]
      show (l.at t.toNat).p < _
      rw [t3]; omega
  have hsm : fewN (l.at t.toNat).n := by rw [l1]; unfold fewN; omega
  have hcr : corr (l.at t.toNat).ln = true := (h.ok hlt).corr
  have hbeh : (l.at t.toNat).p = (hd (l.at t.toNat).ln).t := by rw [hhd]; exact t3
  have hext := extL_corr (l := (l.at t.toNat).ln) (ep := 2) (behind := (l.at t.toNat).p) (nu := c + 1) hsm hcr hbeh (by omega) (by omega) (by omega) (by omega) (by rw [hhd]; show (1 : Int) ≤ 2; omega)
  have hL : extL (l.at t.toNat).ln 2 (l.at t.toNat).p (c + 1) = ⟨(l.at t.toNat).n + 1, Val.cat (l.at t.toNat).n (l.at t.toNat).ρ (Val.ofFlat 3 [I 2, I (IntKind.i64.wrap ((l.at t.toNat).p + 1)), I (c + 1)])⟩ := by
    unfold extL Sit.ln
    have : (spn (l.at t.toNat).ρ (lastI (l.at t.toNat).n)).e = 1 := by
      rw [l1]
      show (spn (l.at t.toNat).ρ 0).e = 1
      rw [l2]
    simp only [this]
    have : ((1 : Int) == 2) = false := rfl
    rw [this, Bool.and_false]; rfl
  rw [hL] at hext
  obtain ⟨w1, w2⟩ := lin_one hw.lin (by omega)
  have hanc : (anc ⟨(app (pro (l.at t.toNat) 2) 2 (c + 1)).n, (app (pro (l.at t.toNat) 2) 2 (c + 1)).ρ⟩ ⟨w.n, w.ρ⟩).c = c := by
    have e : (⟨(app (pro (l.at t.toNat) 2) 2 (c + 1)).n, (app (pro (l.at t.toNat) 2) 2 (c + 1)).ρ⟩ : Ln) = extL (l.at t.toNat).ln 2 (l.at t.toNat).p (c + 1) := rfl
    rw [e, hL]
    refine anc_one (P := P) hext.1 (hw.lin.corr (by omega)) (by show (l.at t.toNat).n + 1 = 2; rw [l1]) w1 ?_ w2 c2
    show spn (Val.cat (l.at t.toNat).n (l.at t.toNat).ρ _) 0 = _
    rw [spn_cat, if_pos (by omega), l2]
  have hyn : (app (pro (l.at t.toNat) 2) 2 (c + 1)).n = 2 := by
    have e : (app (pro (l.at t.toNat) 2) 2 (c + 1)).n = (extL (l.at t.toNat).ln 2 (l.at t.toNat).p (c + 1)).n := rfl
    rw [e, hL]
    show (l.at t.toNat).n + 1 = 2
    rw [l1]
  have g1 : dec (fewS l) = true := dec_iff.2 h.few
  have g2 : inRange t l.n = true := (inI (by omega) t2).1
  have g3 : lt t 1 = false := ltF' (by omega)
  have g4 : le (toInt64 l.n) t = false := leF' (by show ¬ (l.n : Int) ≤ t; omega)
  have g5 : inRange 0 l.n = true := (inI (a := 0) (by omega) (by have := h.n2; show (0 : Int) < (l.n : Int); omega)).1
  have aE : F0.aE (pro (l.at t.toNat) 2) 2 (c + 1) = 0 := hXe
  have aX : F0.aX (pro (l.at t.toNat) 2) 2 (c + 1) = app (pro (l.at t.toNat) 2) 2 (c + 1) := rfl
  have aN : ∀ x y, F0.an x y = anc x y := fun _ _ => rfl
  have hn3 : (ses3 l t.toNat).n = l.n := rfl
  have pr : (pro (l.at t.toNat) 2).r = 1 := rfl
  have pe : (pro (l.at t.toNat) 2).e = 2 := rfl
  have pn : (pro (l.at t.toNat) 2).n = 1 := l1
  have hS : dec (Sl.good ⟨w, losO l.n, l, c, t⟩ ∧ (⟨F0.bP l (losO l.n) t, l, 0, 0⟩ : Sl.V) = Sl.st ⟨w, losO l.n, l, c, t⟩ 0) = true := dec_iff.2 ⟨⟨h.small, h.mos, _, hB⟩, rfl⟩
  have hF : dec (Fl.good ⟨ses3 l t.toNat, ses3 l t.toNat, w, c, t, toInt64 l.n⟩ ∧ (0 : Int) = ((0 : Nat) : Int)) = true := dec_iff.2 ⟨⟨⟨rfl, rfl, by have := h.n4; show l.n ≤ 1000; omega⟩, g2, fun i hi => hoth i hi⟩, rfl⟩
  have hF2 : dec (Fl.good ⟨ses3 l t.toNat, ses3 l t.toNat, w, c, t, toInt64 l.n⟩) = true := dec_iff.2 (dec_iff.1 hF).1
  have hs1 : dec (Go.Proofs.Ytennlgngdjegoaa.small 1) = true := dec_iff.2 (by unfold Go.Proofs.Ytennlgngdjegoaa.small; omega)
  have hfN : dec (fewN 2 ∧ fewN w.n) = true := dec_iff.2 ⟨by unfold fewN; omega, by rw [w1]; unfold fewN; omega⟩
  have yp : (app (pro (l.at t.toNat) 2) 2 (c + 1)).p = c + 1 := rfl
  have b0 : ((0 : Int) == 0) = true := rfl
  constructor
  · unfold restC
    simp only [hcI, hcE, hbE, hR, hX, hwr, aE, aX, hn3, b0, cond_true, hyn]
    simp [okB, g1, g2, g3, g4, g5, t3, hS, hF2, pr, pe, pn, hs1, hfN, h0]
  · unfold leafA
    simp only [hcI, hR, hX, hwr, aE, aX, aN, b0, cond_true, hanc, yp]
    simp

end
end Fo
end Go.Proofs.Ytennlgngdjegoaa
/-
  A pair of sites, the primary is lost: the law.
-/
namespace Go.Proofs.Ytennlgngdjegoaa
open Go Go.Sx Go.RowKit Classical

set_option maxRecDepth 100000
set_option maxHeartbeats 4000000

namespace Fo

theorem path0 (f : Fs) (g : Gs) (R : Ses → Los → Int → Prc × Ses) (a : Int) (n : Nat) (ρ : Val) : (evFn Try.prog (HV f g R) 10 5 [.c (.int .u8 a), .c (.sl [.int .u8] n ρ)] []).vals.follow [true] =
    some ([(true, true), (dec (0 ≤ IntKind.i64.wrap (a.tmod 9) ∧ IntKind.i64.wrap (a.tmod 9) ≤ 8), true), (lt 3 (toInt64 n) || toInt64 n == 0, true)], .one (.c (.bool true))) := by kernel_rfl

/-- the greatest number of cycles -/
def mx (c : Nat → Int) : Nat → Int
  | 0 => 0
  | n + 1 => imax (mx c n) (c n)
theorem mx_ge (c : Nat → Int) : ∀ n i, i < n → c i ≤ mx c n
  | 0, _, h => by omega
  | n + 1, i, h => by
    unfold mx
    obtain ⟨h1, h2⟩ := imax_le2 (mx c n) (c n)
    by_cases hi : i = n
    · subst hi; exact h2
    · exact Int.le_trans (mx_ge c n i (by omega)) h1
theorem mx_ex (c : Nat → Int) : ∀ n, 1 ≤ n → (∀ i, i < n → 1 ≤ c i) → ∃ i, i < n ∧ c i = mx c n
  | 0, h, _ => by omega
  | n + 1, _, hc => by
    unfold mx imax
    cases h : Sx.lt (mx c n) (c n)
    · have h := of_ltF h
      rcases Nat.eq_zero_or_pos n with h0 | h0
      · subst h0
        have := hc 0 (by omega)
        have h : ¬ 0 < c 0 := h
        omega
      · obtain ⟨i, h1, h2⟩ := mx_ex c n h0 fun i hi => hc i (by omega)
        exact ⟨i, by omega, h2⟩
    · exact ⟨n, by omega, rfl⟩

/-- the sites -/
def lN (g : Gs) (k : Int) (c : Nat → Int) : Nat → Val
  | 0 => g.W k
  | n + 1 => Val.cat (n + 1) (lN g k c n) (Val.ofFlat 8 (nst g n (c n)))
theorem lN_0 (g : Gs) (k : Int) (c : Nat → Int) : ∀ n, (lN g k c n).at 0 = (g.W k).at 0
  | 0 => rfl
  | n + 1 => by
    unfold lN
    rw [cat_at, if_pos (by omega), lN_0 g k c n]
theorem lN_s (g : Gs) (k : Int) (c : Nat → Int) : ∀ n i, i < n → (lN g k c n).at (i + 1) = (Val.ofFlat 8 (nst g i (c i))).at 0
  | 0, i, h => by omega
  | n + 1, i, h => by
    unfold lN
    rw [cat_at]
    by_cases hi : i = n
    · subst hi
      rw [if_neg (by omega), Nat.sub_self]
    · rw [if_pos (by omega), lN_s g k c n i (by omega)]

theorem new_ok (i : Nat) (hi : i < 3) {c : Int} (hc : 1 ≤ c) : SitOk (siAt ((Val.ofFlat 8 (nst G0 i c)).at 0)) ((i + 1 : Nat) : Int) 2 1 c 0 := by
  have hw : IntKind.i64.wrap ((i : Int) + 1) = ((i + 1 : Nat) : Int) := by rw [w64_id (by omega) (by omega)]; omega
  refine ⟨hw, rfl, rfl, rfl, ⟨?_, fun _ => rfl⟩, rfl, rfl, rfl⟩
  show (1 : Nat) = spN c
  rw [spN_pos (by omega)]

section
variable {k : Int} {ρ : Val}
theorem wh_ok (k : Int) : SitOk (wh G0 k) 0 1 1 (k + 1) (-1) := (pair_two (k + 1) 1).A

theorem cyc_ok (hk : 0 ≤ k ∧ k ≤ 8) {i : Nat} (hb : 0 ≤ ((ρ.at i).at 0).N [] ∧ ((ρ.at i).at 0).N [] ≤ 255) : 1 ≤ cyc G0 k ρ i ∧ cyc G0 k ρ i ≤ k + 1 := by
  unfold cyc
  rw [(wh_ok k).p, w64_id (x := ((ρ.at i).at 0).N []) (by omega) (by omega), Int.tmod_eq_emod_of_nonneg hb.1]
  have h1 := Int.emod_nonneg (((ρ.at i).at 0).N []) (by omega : k + 1 ≠ 0)
  have h2 := Int.emod_lt_of_pos (((ρ.at i).at 0).N []) (by omega : 0 < k + 1)
  rw [w64_id (by omega) (by omega)]
  omega

theorem nw_of (hk : 0 ≤ k ∧ k ≤ 8) {n : Nat} (h1 : 1 ≤ n) (h3 : n ≤ 3) {c : Nat → Int} (hc : ∀ i, i < n → 1 ≤ c i ∧ c i ≤ k + 1) : Nw ⟨n + 1, lN G0 k c n⟩ (k + 1) (mx c n) where
  n2 := by show 2 ≤ n + 1; omega
  n4 := by show n + 1 ≤ 4; omega
  P1 := by omega
  P9 := by omega
  old := by
    have e : (⟨n + 1, lN G0 k c n⟩ : Ses).at 0 = wh G0 k := by
      show siAt ((lN G0 k c n).at 0) = siAt ((G0.W k).at 0)
      rw [lN_0]
    rw [e]
    exact wh_ok k
  new i hi hn := by
    have hn : i < n + 1 := hn
    obtain ⟨j, rfl⟩ : ∃ j, i = j + 1 := ⟨i - 1, by omega⟩
    have hj := hc j (by omega)
    refine ⟨c j, hj.1, hj.2, mx_ge c n j (by omega), ?_⟩
    show SitOk (siAt ((lN G0 k c n).at (j + 1))) _ _ _ _ _
    rw [lN_s _ _ _ _ _ (by omega)]
    exact new_ok j (by omega) hj.1
  ex := by
    obtain ⟨j, j1, j2⟩ := mx_ex c n h1 fun i hi => (hc i hi).1
    refine ⟨j + 1, by omega, by show j + 1 < n + 1; omega, ?_⟩
    show (siAt ((lN G0 k c n).at (j + 1))).p = _
    rw [lN_s _ _ _ _ _ j1, (new_ok j (by omega) (hc j j1).1).p, j2]

theorem newC_ok (hk : 0 ≤ k ∧ k ≤ 8) {i : Nat} (hi : i < 3) {c : Int} (hc : 1 ≤ c ∧ c ≤ k + 1) : okB (newC G0 k i c) = true := by
  have h1 : ((wh G0 k).p == 0) = false := by rw [(wh_ok k).p, beq_eq_false_iff_ne]; omega
  have h2 : chk (IntKind.i64.wrap ((i : Int) + 1)) 4 1 0 ⟨0, Val.zero⟩ 0 = 0 := by
    have : i = 0 ∨ i = 1 ∨ i = 2 := by omega
    rcases this with rfl | rfl | rfl <;> rfl
  have h3 : dec ((4 : Int) = 4 ∧ (0 : Int) = 0 ∧ (0 : Nat) = 0 ∧ chk (IntKind.i64.wrap ((i : Int) + 1)) 4 1 0 ⟨0, Val.zero⟩ 0 = 0 ∧ 1 ≤ c ∧ c ≤ 1073741824) = true := dec_iff.2 ⟨rfl, rfl, rfl, h2, hc.1, by omega⟩
  have h4 : dec (small 0) = true := dec_iff.2 (by unfold small; omega)
  show ((true == true) && ((true == true) && ((true == true) && ((dec (small 0) == true) && ((false == false) && (((!((wh G0 k).p == 0)) == true) && ((dec _ == true) && ((false == false) && true)))))))) = true
  rw [h1, h3, h4]; rfl

theorem okB_app (a b : List (Bool × Bool)) : okB (a ++ b) = (okB a && okB b) := List.all_append ..

theorem head_ok (hk : 0 ≤ k ∧ k ≤ 8) : okB [(true, true), (dec (0 ≤ k ∧ k ≤ 8), true), (false, false), (true, true), (lt (wh G0 k).p 1, false)] = true := by
  have h1 : dec (0 ≤ k ∧ k ≤ 8) = true := dec_iff.2 hk
  have h2 : lt (wh G0 k).p 1 = false := by rw [(wh_ok k).p]; exact ltF' (by omega)
  show ((true == true) && ((dec (0 ≤ k ∧ k ≤ 8) == true) && ((false == false) && ((true == true) && ((lt (wh G0 k).p 1 == false) && true))))) = true
  rw [h1, h2]; rfl
end

theorem lawFail (a : Int) (ha : 0 ≤ a ∧ a ≤ 255) (n : Nat) (ρ : Val) (hρ : ∀ i, i < n → 0 ≤ ((ρ.at i).at 0).N [] ∧ ((ρ.at i).at 0).N [] ≤ 255) {F : Nat → Prop} {W : World} {vs : List Value} (h : All2 (A1.Rel F W []) [.c (.int .u8 a), .c (.sl [.int .u8] n ρ)] vs) :
    Calls Try.prog 5 vs.toArray W (fun e W' => e = .returned (.bool true) ∧ Below W.heap.size W W') := by
  have hk0 : IntKind.i64.wrap (a.tmod 9) = a % 9 := by
    rw [Int.tmod_eq_emod_of_nonneg ha.1, w64_id (by omega) (by omega)]
  have hk : 0 ≤ IntKind.i64.wrap (a.tmod 9) ∧ IntKind.i64.wrap (a.tmod 9) ≤ 8 := by rw [hk0]; omega
  by_cases hn : n = 0 ∨ 3 < n
  · refine law_of_follow hV 10 5 (path0 F0 G0 Sl.R0 a n ρ) ?_ rfl h
    have h1 := dec_iff.2 hk
    have h2 : (lt 3 (toInt64 n) || toInt64 n == 0) = true := by
      rw [Bool.or_eq_true, lt_iff, beq_iff_eq]
      show (3 : Int) < (n : Int) ∨ (n : Int) = 0
      omega
    show ((true == true) && ((dec _ == true) && ((_ == true) && true))) = true
    rw [h1, h2]; rfl
  · have hn1 : 1 ≤ n := by omega
    have hn3 : n ≤ 3 := by omega
    have hc : ∀ i, i < n → 1 ≤ cyc G0 (IntKind.i64.wrap (a.tmod 9)) ρ i ∧ cyc G0 (IntKind.i64.wrap (a.tmod 9)) ρ i ≤ IntKind.i64.wrap (a.tmod 9) + 1 := fun i hi => cyc_ok hk (hρ i hi)
    have hnw := nw_of hk hn1 hn3 hc
    obtain ⟨r1, r2⟩ := hnw.rest (wh_ok (IntKind.i64.wrap (a.tmod 9)))
    have hh := head_ok hk
    have : n = 1 ∨ n = 2 ∨ n = 3 := by omega
    rcases this with rfl | rfl | rfl
    · have n0 := newC_ok hk (i := 0) (by omega) (hc 0 (by omega))
      refine law_of_follow hV 10 5 (b := true) ((path1 F0 G0 Sl.R0 a ρ).trans (congrArg (fun x => some (_, x)) r2)) ?_ rfl h
      simp only [okB_app, Bool.and_eq_true]
      exact ⟨⟨⟨hh, n0⟩, rfl⟩, r1⟩
    · have n0 := newC_ok hk (i := 0) (by omega) (hc 0 (by omega))
      have n1 := newC_ok hk (i := 1) (by omega) (hc 1 (by omega))
      refine law_of_follow hV 10 5 (b := true) ((path2 F0 G0 Sl.R0 a ρ).trans (congrArg (fun x => some (_, x)) r2)) ?_ rfl h
      simp only [okB_app, Bool.and_eq_true]
      exact ⟨⟨⟨⟨hh, n0⟩, n1⟩, rfl⟩, r1⟩
    · have n0 := newC_ok hk (i := 0) (by omega) (hc 0 (by omega))
      have n1 := newC_ok hk (i := 1) (by omega) (hc 1 (by omega))
      have n2 := newC_ok hk (i := 2) (by omega) (hc 2 (by omega))
      refine law_of_follow hV 10 5 (b := true) ((path3 F0 G0 Sl.R0 a ρ).trans (congrArg (fun x => some (_, x)) r2)) ?_ rfl h
      simp only [okB_app, Bool.and_eq_true]
      exact ⟨⟨⟨⟨⟨hh, n0⟩, n1⟩, n2⟩, rfl⟩, r1⟩

theorem byts_of {ρ : Val} (h : wfL [.sl [.int .u8]] 0 ρ) : ∀ i, i < (ρ.at 0).L [] → 0 ≤ (((ρ.at 0).at i).at 0).N [] ∧ (((ρ.at 0).at i).at 0).N [] ≤ 255 := fun i hi => by
  have h := h.1
  simp only [wfC] at h
  have := h.2 i hi 0
  simp only [wfAt, wfC] at this
  simpa [Lit.wf, IntKind.min, IntKind.max, IntKind.signed, IntKind.bits] using this
theorem argV_eq (ρ : Val) : argOf Try.prog 54 [.sl [.int .u8]] ρ = .c (.sl [.int .u8] ((ρ.at 0).L []) (ρ.at 0)) := by kernel_rfl

end Fo
end Go.Proofs.Ytennlgngdjegoaa
