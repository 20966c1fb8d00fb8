/-
  The unplanned change of the primary: a failover that begins goes on to its end.
-/
import Derived.Test.YtennlgngdjegoaaGreatFoC
import Derived.Test.YtennlgngdjegoaaGreatEnE
namespace Go.Proofs.YtennlgngdjegoaaGreat
open Go Go.Sx Go.RowKit Classical

set_option maxRecDepth 100000

namespace Fo

theorem cond_zero {b : Bool} {k x : Int} (hk : k ≠ 0) (h : (bif b then k else x) = 0) : b = false ∧ x = 0 := by
  cases b
  · exact ⟨rfl, h⟩
  · exact (hk h).elim
theorem cond_ne {k x : Int} (h : (bif k != 0 then k else x) = 0) : k = 0 ∧ x = 0 := by
  cases hb : k != 0
  · rw [hb] at h
    exact ⟨by simpa [bne] using hb, h⟩
  · rw [hb] at h
    have h : k = 0 := h
    rw [h] at hb; cases hb
theorem ltF' {a b : Int} (h : ¬ a < b) : lt a b = false := by rw [← Bool.not_eq_true, lt_iff]; exact h
theorem leF' {a b : Int} (h : ¬ a ≤ b) : le a b = false := by rw [← Bool.not_eq_true, le_iff]; exact h
theorem of_ltF {a b : Int} (h : lt a b = false) : ¬ a < b := by rw [← Bool.not_eq_true, lt_iff] at h; exact h
theorem of_leF {a b : Int} (h : le a b = false) : ¬ a ≤ b := by rw [← Bool.not_eq_true, le_iff] at h; exact h

/-- what a failover that begins finds -/
structure BegOk (l : Ses) (o : Los) (t : Int) (tn : Nat) : Prop where
  p : begP l o t = ⟨2, froI l, t, 0, mosE l + 1, (l.at tn).p, false, false⟩
  ck : Ck l
  n : o.n = l.n
  t : t = tn
  lt : tn < l.n
  live : ∀ i, i < l.n → (l.at i).r = 1 → (l.at i).l = true → o.at i = true
  lost : o.at tn = false
  al : (l.at tn).l = true
  fo : fol (l.at tn).r = true
  m0 : 0 ≤ mosE l
  m1 : mosE l < 1073741824
  me : ∀ i, i < l.n → (l.at i).e ≤ mosE l
  f0 : -1 ≤ froI l
  f1 : froI l < l.n
  fr : 0 ≤ froI l → (l.at (froI l).toNat).r = 1

theorem imax_le2 (a b : Int) : a ≤ imax a b ∧ b ≤ imax a b := by
  unfold imax
  cases h : lt a b
  · have := of_ltF h
    exact ⟨Int.le_refl _, by show b ≤ a; omega⟩
  · rw [lt_iff] at h
    exact ⟨by show a ≤ b; omega, Int.le_refl _⟩
theorem mxE_ge (l : Ses) : ∀ n i, i < n → (l.at i).e ≤ mxE l n
  | 0, _, h => by omega
  | n + 1, i, h => by
    unfold mxE
    obtain ⟨h1, h2⟩ := imax_le2 (mxE l n) (l.at n).e
    by_cases hi : i = n
    · subst hi; exact h2
    · exact Int.le_trans (mxE_ge l n i (by omega)) h1
theorem mxE_zero (l : Ses) : ∀ n, 0 ≤ mxE l n
  | 0 => Int.le_refl _
  | n + 1 => by
    unfold mxE
    exact Int.le_trans (mxE_zero l n) (imax_le2 _ _).1

theorem beg_ok {l : Ses} {o : Los} {t : Int} (h : begE l o t = 0) : BegOk l o t t.toNat := by
  have hp : begP l o t = ⟨2, froI l, t, 0, IntKind.i64.wrap (mosE l + 1), (l.at t.toNat).p, false, false⟩ := by unfold begP; rw [h]; rfl
  unfold begE at h
  obtain ⟨h1, h⟩ := cond_ne h
  obtain ⟨h2, h⟩ := cond_zero (by omega) h
  obtain ⟨h3, h⟩ := cond_zero (by omega) h
  obtain ⟨h4, h⟩ := cond_zero (by omega) h
  obtain ⟨h5, h⟩ := cond_zero (by omega) h
  obtain ⟨h6, h⟩ := cond_zero (by omega) h
  obtain ⟨h7, _⟩ := cond_zero (by omega) h
  obtain ⟨hck, hon⟩ := rgt_n (by rw [h1]; rfl : (rgtE l o != 0) = false)
  obtain ⟨_, htn⟩ := out_no h2
  unfold out at h2
  rw [Bool.or_eq_false_iff] at h2
  have ht0 := of_ltF h2.1
  rw [Bool.or_eq_false_iff] at h4
  have h7 := of_leF h7
  have hm := mosE_eq hck (Nat.lt_of_le_of_lt (Nat.zero_le _) htn)
  have hm0 : 0 ≤ mosE l := by rw [hm]; exact mxE_zero l _
  refine ⟨?_, ck_to hck, hon, by omega, htn, fun i hi hr hl => ?_, h4.1, by simpa using h4.2, by simpa using h5, hm0, by omega, fun i hi => by rw [hm]; exact mxE_ge l _ i hi, (bst_rng _ _ _).1, (bst_rng _ _ _).2, fun h0 => ?_⟩
  · rw [hp, w64_id (by omega) (by omega)]
  · cases ho : o.at i
    · rw [anyB_iff.2 ⟨i, hi, by unfold lvp prm; rw [hr, hl, ho]; rfl⟩] at h3; cases h3
    · rfl
  · have := bst_al (prm l) (epo l) l.n h0
    have : ((l.at (froI l).toNat).r == 1) = true := this
    simpa using this

/-! ### each step -/

theorem stp_ok {p : Prc} {l : Ses} {ok : Bool} {v : Int} (h1 : chkF p = 0) (h2 : ckE l = 0) (hd : p.d = false) (hx : p.x = false) (hf : p.f < l.n) (ht : p.t < l.n) (ha : actE p l ok v = 0) : stpE p l ok v = 0 ∧ stpP p l ok v = actP p ok v ∧ stpL p l ok v = actL p l := by
  have h7 : le (toInt64 l.n) (imax p.f p.t) = false := by
    refine leF' ?_
    show ¬ (l.n : Int) ≤ _
    unfold imax
    cases lt p.f p.t
    · show ¬ (l.n : Int) ≤ p.f; omega
    · show ¬ (l.n : Int) ≤ p.t; omega
  have hpre : preE p l = 0 := by
    unfold preE
    rw [h1, h2, hd, hx, h7]; rfl
  have he : stpE p l ok v = 0 := by
    unfold stpE
    rw [hpre, ha]; rfl
  unfold stpP stpL
  rw [he]
  exact ⟨rfl, rfl, rfl⟩

theorem chkF_of {f t s e c : Int} (hf : -1 ≤ f ∧ f < 4) (ht : 0 ≤ t ∧ t < 4) (hn : f ≠ t) (hs : 0 ≤ s ∧ s < 4) (he : 1 ≤ e ∧ e ≤ 1073741824) (hc : 0 ≤ c ∧ c ≤ 1073741824) : chkF ⟨2, f, t, s, e, c, false, false⟩ = 0 := by
  have a1 : rngA ⟨2, f, t, s, e, c, false, false⟩ = false := by
    show (Sx.lt f (-1) || le 4 f || Sx.lt t 0 || le 4 t || f == t) = false
    rw [ltF' (by omega), leF' (by omega), ltF' (by omega), leF' (by omega)]
    simpa using hn
  have a2 : rngB ⟨2, f, t, s, e, c, false, false⟩ = false := by
    show (Sx.lt s 0 || Sx.lt 4 s || Sx.lt e 1 || Sx.lt 1073741824 e || Sx.lt c 0 || Sx.lt 1073741824 c) = false
    rw [ltF' (by omega), ltF' (by omega), ltF' (by omega), ltF' (by omega), ltF' (by omega), ltF' (by omega)]; rfl
  have a3 : badS ⟨2, f, t, s, e, c, false, false⟩ = false := by
    show (!(false == (s == 4)) || (false && s != 0)) = false
    have : (s == 4) = false := by rw [beq_eq_false_iff_ne]; omega
    rw [this]; rfl
  unfold chkF
  rw [a1, a2, a3]; rfl

theorem okS_demo {x : Sit} (y s : Int) (h : okS x) : okS (demo x y s) := h
theorem okS_pro {x : Sit} (y : Int) (h : okS x) : okS (pro x y) := h

/-- one site of sites that are in order is replaced -/
theorem Ck.set {l : Ses} (h : Ck l) {i : Nat} (hi : i < l.n) {x : Sit} (hx : okS x) (ho : SiteOk x) (ha : x.a = (l.at i).a) (hp : x.r = 1 → ∀ j, j < l.n → j ≠ i → (l.at j).r = 1 → (l.at j).e ≠ x.e) : Ck (setS l i x) := by
  have hat := at_setS (l := l) (i := i) hx
  refine ⟨h.n, fun k hk => ?_, fun k j hk hj hne => ?_, fun k j hk hj hne r1 r2 => ?_⟩
  · have hk : k < l.n := hk
    rw [hat]
    split
    · exact ho
    · exact h.ok k hk
  · have hk : k < l.n := hk
    have hj : j < l.n := hj
    have e : ∀ k, k < l.n → ((setS l i x).at k).a = (l.at k).a := fun k _ => by
      rw [hat]
      by_cases hki : k = i
      · subst hki; rw [if_pos rfl, ha]
      · rw [if_neg hki]
    rw [e k hk, e j hj]
    exact h.num k j hk hj hne
  · have hk : k < l.n := hk
    have hj : j < l.n := hj
    rw [hat] at r1 r2 ⊢
    rw [hat]
    by_cases hki : k = i
    · by_cases hji : j = i
      · omega
      · rw [if_pos hki] at r1 ⊢
        rw [if_neg hji] at r2 ⊢
        exact fun e => hp r1 j hj hji r2 e.symm
    · rw [if_neg hki] at r1 ⊢
      by_cases hji : j = i
      · rw [if_pos hji] at r2 ⊢
        exact hp r2 k hk hki r1
      · rw [if_neg hji] at r2 ⊢
        exact h.pri k j hk hj hne r1 r2

/-! ### all of them -/

/-- the procedure and the sites behind some steps -/
def rn (p : Prc) (l : Ses) : Nat → Prc × Ses
  | 0 => (p, l)
  | i + 1 => (stpP (rn p l i).1 (rn p l i).2 true (rn p l i).1.e, stpL (rn p l i).1 (rn p l i).2 true (rn p l i).1.e)
def rnP (l : Ses) (o : Los) (t : Int) (i : Nat) : Prc × Ses := rn (begP l o t) l i
def rnE (l : Ses) (o : Los) (t : Int) (i : Nat) : Int := stpE (rnP l o t i).1 (rnP l o t i).2 true (rnP l o t i).1.e

/-- the procedure before a step -/
def prc (l : Ses) (t s : Int) : Prc := ⟨2, froI l, t, s, mosE l + 1, (l.at t.toNat).p, false, false⟩
/-- the sites, with the old primary fenced off -/
def ses1 (l : Ses) : Ses := bif lt (froI l) 0 then l else setS l (froI l).toNat (demo (l.at (froI l).toNat) (mosE l + 1) (-1))
/-- and the new one promoted -/
def ses2 (l : Ses) (tn : Nat) : Ses := setS (ses1 l) tn (pro (l.at tn) (mosE l + 1))
/-- and the others behind it -/
def ses3 (l : Ses) (tn : Nat) : Ses := ⟨l.n, jnV tn (mosE l + 1) (l.at tn).a (ses2 l tn) l.n⟩

section
variable {l : Ses} {o : Los} {t : Int} {tn : Nat}

theorem BegOk.fne (h : BegOk l o t tn) : froI l ≠ tn := fun he => by
  have h1 := h.fr (by omega)
  have : (froI l).toNat = tn := by omega
  rw [this] at h1
  have h2 := h.fo
  rw [h1] at h2; cases h2
theorem BegOk.chk (h : BegOk l o t tn) {s : Int} (hs : 0 ≤ s ∧ s < 4) : chkF (prc l t s) = 0 := by
  have o := h.ck.ok tn h.lt
  have e : t.toNat = tn := by have := h.t; omega
  have hn := h.ck.n
  have := h.lt
  unfold prc
  rw [e]
  refine chkF_of ⟨h.f0, by have := h.f1; omega⟩ ⟨by have := h.t; omega, by have := h.t; omega⟩ ?_ hs ⟨by have := h.m0; omega, by have := h.m1; omega⟩ ⟨o.p0, o.p1⟩
  have := h.fne
  have := h.t
  omega

theorem BegOk.at1 (_ : BegOk l o t tn) (i : Nat) : (ses1 l).at i = if (i : Int) = froI l then demo (l.at i) (mosE l + 1) (-1) else l.at i := by
  unfold ses1
  cases hf : Sx.lt (froI l) 0
  · have hf := of_ltF hf
    show (setS l (froI l).toNat _).at i = _
    rw [at_setS (okS_demo _ _ (okS_at l _))]
    by_cases hi : i = (froI l).toNat
    · subst hi
      rw [if_pos rfl, if_pos (by omega)]
    · rw [if_neg hi, if_neg (by omega)]
  · rw [lt_iff] at hf
    rw [if_neg (by omega)]; rfl
theorem BegOk.n1 (_ : BegOk l o t tn) : (ses1 l).n = l.n := by
  unfold ses1
  cases Sx.lt (froI l) 0 <;> rfl
theorem BegOk.dem (h : BegOk l o t tn) (h0 : 0 ≤ froI l) : demoE (l.at (froI l).toNat) (mosE l + 1) (-1) = 0 := by
  have h1 := h.fr h0
  have hlt : (froI l).toNat < l.n := by have := h.f1; omega
  have h2 := h.me _ hlt
  have h3 := h.m1
  unfold demoE
  rw [h1, chk_of_ok (h.ck.ok _ hlt), (le_iff _ _).2 (by omega : (l.at (froI l).toNat).e ≤ mosE l + 1), (le_iff _ _).2 (by omega : mosE l + 1 ≤ 1073741824)]
  rfl
theorem BegOk.ck1 (h : BegOk l o t tn) : Ck (ses1 l) := by
  unfold ses1
  cases hf : Sx.lt (froI l) 0
  · have hf := of_ltF hf
    have hlt : (froI l).toNat < l.n := by have := h.f1; omega
    obtain ⟨h1, _⟩ := demo_ok (h.dem (by omega))
    refine h.ck.set hlt (okS_at l _) h1 rfl fun hr => ?_
    have : (demo (l.at (froI l).toNat) (mosE l + 1) (-1)).r = 5 := rfl
    rw [this] at hr; omega
  · exact h.ck
theorem BegOk.at1t (h : BegOk l o t tn) : (ses1 l).at tn = l.at tn := by
  rw [h.at1, if_neg fun e => h.fne e.symm]
theorem fol_or {r : Int} (h : fol r = true) : r = 2 ∨ r = 3 := by
  unfold fol at h
  simpa using h
theorem BegOk.pro (h : BegOk l o t tn) : proE ((ses1 l).at tn) (mosE l + 1) = 0 := by
  have h2 := h.me _ h.lt
  have h3 := h.m1
  rw [h.at1t]
  unfold proE
  rw [chk_of_ok (h.ck.ok _ h.lt), h.al, (lt_iff _ _).2 (by omega : (l.at tn).e < mosE l + 1), (le_iff _ _).2 (by omega : mosE l + 1 ≤ 1073741824)]
  rcases fol_or h.fo with e | e
  · rw [e]; rfl
  · rw [e]; rfl
theorem BegOk.at2 (h : BegOk l o t tn) (i : Nat) : (ses2 l tn).at i = if i = tn then Go.Proofs.YtennlgngdjegoaaGreat.pro (l.at tn) (mosE l + 1) else if (i : Int) = froI l then demo (l.at i) (mosE l + 1) (-1) else l.at i := by
  unfold ses2
  rw [at_setS (okS_pro _ (okS_at l _))]
  split
  · rfl
  · exact h.at1 i
theorem BegOk.ck2 (h : BegOk l o t tn) : Ck (ses2 l tn) := by
  have hp := h.pro
  rw [h.at1t] at hp
  obtain ⟨h1, _⟩ := pro_ok hp
  refine h.ck1.set (by rw [h.n1]; exact h.lt) (okS_at l _) h1 (by rw [h.at1t]; rfl) fun _ j hj hne hr => ?_
  rw [h.n1] at hj
  have e : (Go.Proofs.YtennlgngdjegoaaGreat.pro (l.at tn) (mosE l + 1)).e = mosE l + 1 := rfl
  have hje := h.me j hj
  rw [h.at1] at hr ⊢
  rw [e]
  by_cases hjf : (j : Int) = froI l
  · rw [if_pos hjf] at hr
    have : (demo (l.at j) (mosE l + 1) (-1)).r = 5 := rfl
    rw [this] at hr; omega
  · rw [if_neg hjf]; omega

/-- who follows can -/
theorem BegOk.join (h : BegOk l o t tn) {i : Nat} (hi : i < l.n) (hs : skp tn (ses2 l tn) i = false) : jnE ((ses2 l tn).at i) (mosE l + 1) (l.at tn).a = 0 ∧ (ses2 l tn).at i = l.at i ∧ i ≠ tn ∧ (i : Int) ≠ froI l := by
  unfold skp at hs
  rw [Bool.or_eq_false_iff] at hs
  have hit : i ≠ tn := fun e => by rw [e] at hs; simp at hs
  have hfo : fol ((ses2 l tn).at i).r = true := by simpa using hs.2
  have hat := h.at2 i
  rw [if_neg hit] at hat
  have hif : (i : Int) ≠ froI l := fun e => by
    rw [if_pos e] at hat
    rw [hat] at hfo; cases hfo
  rw [if_neg hif] at hat
  rw [hat] at hfo ⊢
  have hi2 := h.me i hi
  have hm := h.m1
  have hm0 := h.m0
  have ok := h.ck.ok i hi
  have okt := h.ck.ok tn h.lt
  have hnum : oth (l.at tn).a (l.at i).a = true := by
    have := h.ck.num tn i h.lt hi (Ne.symm hit)
    have hn := okt.num
    unfold sit at hn
    rw [Bool.and_eq_true, le_iff, lt_iff] at hn
    unfold oth
    rw [(le_iff _ _).2 (by omega), (le_iff _ _).2 (by omega : (l.at tn).a ≤ 3)]
    simpa [bne] using this
  have g1 : le (l.at i).e (mosE l + 1) = true := (le_iff _ _).2 (by omega)
  have g2 : (mosE l + 1 != 0) = true := by
    have : mosE l + 1 ≠ 0 := by omega
    simpa [bne] using this
  have g3 : le (mosE l + 1) 1073741824 = true := (le_iff _ _).2 (by omega)
  refine ⟨?_, rfl, hit, hif⟩
  rcases fol_or hfo with e | e
  · have hiso := iso_no (chk_of_ok ok) e
    obtain ⟨h1, _⟩ := iso_ok hiso
    unfold jnE
    rw [e, hiso]
    show rejE (iso (l.at i)) (mosE l + 1) (l.at tn).a = 0
    unfold rejE
    rw [chk_of_ok h1]
    have e1 : (iso (l.at i)).e = (l.at i).e := rfl
    have e2 : (iso (l.at i)).a = (l.at i).a := rfl
    have e3 : (iso (l.at i)).r = 3 := rfl
    rw [e1, e2, e3, g1, g2, g3, hnum]; rfl
  · unfold jnE
    rw [e]
    show rejE (l.at i) (mosE l + 1) (l.at tn).a = 0
    unfold rejE
    rw [chk_of_ok ok, e, g1, g2, g3, hnum]; rfl

theorem BegOk.at3 (h : BegOk l o t tn) {i : Nat} (hi : i < l.n) : (ses3 l tn).at i = if i = tn then Go.Proofs.YtennlgngdjegoaaGreat.pro (l.at tn) (mosE l + 1) else if (i : Int) = froI l then demo (l.at i) (mosE l + 1) (-1) else if fol (l.at i).r = true then jnS (l.at i) (mosE l + 1) (l.at tn).a else l.at i := by
  have e : (ses3 l tn).at i = if i < l.n ∧ skp tn (ses2 l tn) i = false then jnS ((ses2 l tn).at i) (mosE l + 1) (l.at tn).a else (ses2 l tn).at i := by
    have hn : (ses2 l tn).n = l.n := h.n1
    have := at_jn tn (mosE l + 1) (l.at tn).a (ses2 l tn) l.n i
    rw [hn] at this
    exact this
  rw [e]
  cases hs : skp tn (ses2 l tn) i
  · obtain ⟨_, h1, h2, h3⟩ := h.join hi hs
    rw [if_pos ⟨hi, rfl⟩, if_neg h2, if_neg h3, h1]
    have : fol (l.at i).r = true := by
      unfold skp at hs
      rw [Bool.or_eq_false_iff, h1] at hs
      simpa using hs.2
    rw [if_pos this]
  · rw [if_neg (fun g => by cases g.2), h.at2]
    by_cases h1 : i = tn
    · rw [if_pos h1, if_pos h1]
    · rw [if_neg h1, if_neg h1]
      by_cases h2 : (i : Int) = froI l
      · rw [if_pos h2, if_pos h2]
      · rw [if_neg h2, if_neg h2]
        have hat := h.at2 i
        rw [if_neg h1, if_neg h2] at hat
        unfold skp at hs
        rw [hat, Bool.or_eq_true] at hs
        rcases hs with hs | hs
        · exact (h1 (by have : (i : Int) = tn := by simpa using hs
                        omega)).elim
        · rw [if_neg (by simpa using hs)]

/-- who followed is being resynchronized from the new primary -/
theorem BegOk.jn (h : BegOk l o t tn) {i : Nat} (hi : i < l.n) (hs : skp tn (ses2 l tn) i = false) : SiteOk (jnS (l.at i) (mosE l + 1) (l.at tn).a) ∧ jnS (l.at i) (mosE l + 1) (l.at tn).a = { l.at i with r := 4, e := mosE l + 1, s := (l.at tn).a } := by
  obtain ⟨h1, h2, h3, h4⟩ := h.join hi hs
  rw [h2] at h1
  have hme := h.me i hi
  unfold jnE at h1
  unfold jnS
  cases hr : (l.at i).r == 2
  · rw [hr] at h1
    have h1 : rejE (l.at i) (mosE l + 1) (l.at tn).a = 0 := h1
    obtain ⟨a, _⟩ := rej_ok h1
    refine ⟨a, ?_⟩
    show rej (l.at i) (mosE l + 1) (l.at tn).a = _
    unfold rej
    have : (mosE l + 1 == (l.at i).e) = false := by rw [beq_eq_false_iff_ne]; omega
    rw [this, Bool.and_false]; rfl
  · rw [hr] at h1
    obtain ⟨_, h1⟩ := cond_ne h1
    obtain ⟨a, _⟩ := rej_ok h1
    refine ⟨a, ?_⟩
    show rej (iso (l.at i)) (mosE l + 1) (l.at tn).a = _
    unfold rej
    have : (mosE l + 1 == (iso (l.at i)).e) = false := by rw [beq_eq_false_iff_ne]; show mosE l + 1 ≠ (l.at i).e; omega
    rw [this, Bool.and_false]; rfl

theorem BegOk.ck3 (h : BegOk l o t tn) : Ck (ses3 l tn) := by
  have hn : (ses2 l tn).n = l.n := h.n1
  have e : ∀ i, i < l.n → (ses3 l tn).at i = if skp tn (ses2 l tn) i = false then jnS ((ses2 l tn).at i) (mosE l + 1) (l.at tn).a else (ses2 l tn).at i := fun i hi => by
    have := at_jn tn (mosE l + 1) (l.at tn).a (ses2 l tn) l.n i
    rw [hn] at this
    refine Eq.trans this ?_
    by_cases hs : skp tn (ses2 l tn) i = false
    · rw [if_pos hs, if_pos ⟨hi, hs⟩]
    · rw [if_neg hs, if_neg fun g => hs g.2]
  have c := h.ck2
  have key : ∀ i, i < l.n → SiteOk ((ses3 l tn).at i) ∧ ((ses3 l tn).at i).a = ((ses2 l tn).at i).a ∧ (((ses3 l tn).at i).r = 1 → (ses3 l tn).at i = (ses2 l tn).at i) := fun i hi => by
    rw [e i hi]
    by_cases hs : skp tn (ses2 l tn) i = false
    · rw [if_pos hs]
      obtain ⟨_, h2, _, _⟩ := h.join hi hs
      obtain ⟨a, b⟩ := h.jn hi hs
      rw [h2, b]
      rw [b] at a
      exact ⟨a, rfl, fun g => by have g : (4 : Int) = 1 := g
                                 omega⟩
    · rw [if_neg hs]
      exact ⟨c.ok i (by rw [hn]; exact hi), rfl, fun _ => rfl⟩
  refine ⟨by show l.n ≤ 4; exact h.ck.n, fun i hi => (key i hi).1, fun i j hi hj hne => ?_, fun i j hi hj hne r1 r2 => ?_⟩
  · rw [(key i hi).2.1, (key j hj).2.1]
    exact c.num i j (by rw [hn]; exact hi) (by rw [hn]; exact hj) hne
  · have e1 := (key i hi).2.2 r1
    have e2 := (key j hj).2.2 r2
    rw [e1] at r1 ⊢
    rw [e2] at r2 ⊢
    exact c.pri i j (by rw [hn]; exact hi) (by rw [hn]; exact hj) hne r1 r2

theorem BegOk.rn0 (h : BegOk l o t tn) : rnP l o t 0 = (prc l t 0, l) := by
  show (begP l o t, l) = _
  rw [h.p]
  have e : t.toNat = tn := by have := h.t; omega
  unfold prc
  rw [e]

theorem BegOk.step0 (h : BegOk l o t tn) : rnE l o t 0 = 0 ∧ rnP l o t 1 = (prc l t 1, l) := by
  have ha : actE (prc l t 0) l true (mosE l + 1) = 0 := by
    show askE l true (mosE l + 1) = 0
    unfold askE
    have h0 := h.m0
    have h1 := h.m1
    rw [ltF' (by omega), ltF' (by omega)]
    rw [anyB_none fun i hi => by unfold olde; exact leF' (by have := h.me i hi; omega)]; rfl
  obtain ⟨a, b, c⟩ := stp_ok (ok := true) (v := mosE l + 1) (h.chk (s := 0) (by omega)) (ck_of h.ck) rfl rfl h.f1 (by have := h.t; have := h.lt; show t < _; omega) ha
  unfold rnE
  refine ⟨by rw [h.rn0]; exact a, ?_⟩
  show (stpP (rnP l o t 0).1 (rnP l o t 0).2 true (rnP l o t 0).1.e, stpL (rnP l o t 0).1 (rnP l o t 0).2 true (rnP l o t 0).1.e) = _
  rw [h.rn0]
  show (stpP (prc l t 0) l true (mosE l + 1), stpL (prc l t 0) l true (mosE l + 1)) = _
  rw [b, c]; rfl

theorem BegOk.step1 (h : BegOk l o t tn) : rnE l o t 1 = 0 ∧ rnP l o t 2 = (prc l t 2, ses1 l) := by
  have hnof : nofP (prc l t 1) l = Sx.lt (froI l) 0 := by
    show (Sx.lt (froI l) 0 || (l.at (froI l).toNat).r != 1) = _
    cases hf : Sx.lt (froI l) 0
    · rw [h.fr (by have := of_ltF hf; omega)]; rfl
    · rfl
  have ha : actE (prc l t 1) l true (mosE l + 1) = 0 := by
    show fenE (prc l t 1) l = 0
    unfold fenE
    rw [hnof]
    cases hf : Sx.lt (froI l) 0
    · exact h.dem (by have := of_ltF hf; omega)
    · rfl
  have hL : actL (prc l t 1) l = ses1 l := by
    show (bif nofP (prc l t 1) l then l else setS l (froI l).toNat (demo (l.at (froI l).toNat) (mosE l + 1) (-1))) = _
    rw [hnof]; rfl
  obtain ⟨a, b, c⟩ := stp_ok (ok := true) (v := mosE l + 1) (h.chk (s := 1) (by omega)) (ck_of h.ck) rfl rfl h.f1 (by have := h.t; have := h.lt; show t < _; omega) ha
  unfold rnE
  have e1 := h.step0.2
  refine ⟨by rw [e1]; exact a, ?_⟩
  show (stpP (rnP l o t 1).1 (rnP l o t 1).2 true (rnP l o t 1).1.e, stpL (rnP l o t 1).1 (rnP l o t 1).2 true (rnP l o t 1).1.e) = _
  rw [e1]
  show (stpP (prc l t 1) l true (mosE l + 1), stpL (prc l t 1) l true (mosE l + 1)) = _
  rw [b, c, hL]; rfl

theorem BegOk.step2 (h : BegOk l o t tn) : rnE l o t 2 = 0 ∧ rnP l o t 3 = (prc l t 3, ses2 l tn) := by
  have e : t.toNat = tn := by have := h.t; omega
  have ha : actE (prc l t 2) (ses1 l) true (mosE l + 1) = 0 := by
    show proE ((ses1 l).at t.toNat) (mosE l + 1) = 0
    rw [e]
    exact h.pro
  have hL : actL (prc l t 2) (ses1 l) = ses2 l tn := by
    show setS (ses1 l) t.toNat (Go.Proofs.YtennlgngdjegoaaGreat.pro ((ses1 l).at t.toNat) (mosE l + 1)) = _
    rw [e, h.at1t]; rfl
  obtain ⟨a, b, c⟩ := stp_ok (ok := true) (v := mosE l + 1) (h.chk (s := 2) (by omega)) (ck_of h.ck1) rfl rfl (by rw [h.n1]; exact h.f1) (by rw [h.n1]; have := h.t; have := h.lt; show t < _; omega) ha
  unfold rnE
  have e1 := h.step1.2
  refine ⟨by rw [e1]; exact a, ?_⟩
  show (stpP (rnP l o t 2).1 (rnP l o t 2).2 true (rnP l o t 2).1.e, stpL (rnP l o t 2).1 (rnP l o t 2).2 true (rnP l o t 2).1.e) = _
  rw [e1]
  show (stpP (prc l t 2) (ses1 l) true (mosE l + 1), stpL (prc l t 2) (ses1 l) true (mosE l + 1)) = _
  rw [b, c, hL]; rfl

theorem BegOk.step3 (h : BegOk l o t tn) : rnE l o t 3 = 0 ∧ rnP l o t 4 = ({ prc l t 4 with d := true }, ses3 l tn) := by
  have e : t.toNat = tn := by have := h.t; omega
  have hn : (ses2 l tn).n = l.n := h.n1
  have hnum : numT (prc l t 3) (ses2 l tn) = (l.at tn).a := by
    show ((ses2 l tn).at t.toNat).a = _
    rw [e, h.at2, if_pos rfl]; rfl
  have hj : anyB (jb (prc l t 3) (ses2 l tn)) (ses2 l tn).n = false := anyB_none fun i hi => by
    rw [hn] at hi
    unfold jb jbad
    rw [hnum]
    have et : (prc l t 3).t = tn := h.t
    rw [et]
    cases hs : skp tn (ses2 l tn) i
    · have := (h.join hi hs).1
      show (!false && jnE ((ses2 l tn).at i) (mosE l + 1) (l.at tn).a != 0) = false
      rw [this]; rfl
    · rfl
  have ha : actE (prc l t 3) (ses2 l tn) true (mosE l + 1) = 0 := by
    show joiE (prc l t 3) (ses2 l tn) = 0
    unfold joiE
    rw [hj]; rfl
  have hL : actL (prc l t 3) (ses2 l tn) = ses3 l tn := by
    show (⟨(ses2 l tn).n, jnV t (mosE l + 1) (numT (prc l t 3) (ses2 l tn)) (ses2 l tn) (ses2 l tn).n⟩ : Ses) = _
    rw [hnum, hn, h.t]; rfl
  obtain ⟨a, b, c⟩ := stp_ok (ok := true) (v := mosE l + 1) (h.chk (s := 3) (by omega)) (ck_of h.ck2) rfl rfl (by rw [hn]; exact h.f1) (by rw [hn]; have := h.t; have := h.lt; show t < _; omega) ha
  unfold rnE
  have e1 := h.step2.2
  refine ⟨by rw [e1]; exact a, ?_⟩
  show (stpP (rnP l o t 3).1 (rnP l o t 3).2 true (rnP l o t 3).1.e, stpL (rnP l o t 3).1 (rnP l o t 3).2 true (rnP l o t 3).1.e) = _
  rw [e1]
  show (stpP (prc l t 3) (ses2 l tn) true (mosE l + 1), stpL (prc l t 3) (ses2 l tn) true (mosE l + 1)) = _
  rw [b, c, hL]; rfl

theorem BegOk.all (h : BegOk l o t tn) : ∀ i, i < 4 → rnE l o t i = 0 ∧ (rnP l o t (i + 1)).1.s = ((i + 1 : Nat) : Int) ∧ (rnP l o t (i + 1)).2.n = l.n
  | 0, _ => by
    obtain ⟨a, b⟩ := h.step0
    rw [b]; exact ⟨a, rfl, rfl⟩
  | 1, _ => by
    obtain ⟨a, b⟩ := h.step1
    rw [b]; exact ⟨a, rfl, h.n1⟩
  | 2, _ => by
    obtain ⟨a, b⟩ := h.step2
    rw [b]; exact ⟨a, rfl, h.n1⟩
  | 3, _ => by
    obtain ⟨a, b⟩ := h.step3
    rw [b]; exact ⟨a, rfl, rfl⟩
theorem rn_small (p : Prc) {l : Ses} (h : smallS l) : ∀ i, smallS (rn p l i).2
  | 0 => h
  | i + 1 => stpL_small _ _ (rn_small p h i)
end

end Fo
end Go.Proofs.YtennlgngdjegoaaGreat
/-
  The unplanned change of the primary: what is allowed; all steps of a failover; the law of the new primary.
-/
namespace Go.Proofs.YtennlgngdjegoaaGreat
open Go Go.Sx Go.RowKit Classical

set_option maxRecDepth 100000
set_option maxHeartbeats 4000000

namespace Fo

/-! ### may hosts write? -/

/-- may a site be written? -/
def alw0 (x : Sit) : Bool := bif (bif (bif chkS x == 0 then x.l else false) then true else false) then x.r == 1 else false
noncomputable def Galw : List A1 → Option (Bool × AV)
  | [.agg [.int .i64 a, .int .i64 r, .int .i64 e, .int .i64 p, .sl [.int .i64, .int .i64, .int .i64] n ρ, .int .i64 s, .bool l, .bool c], .c (.int .i64 0)] => some (dec (fewN n ∧ chkS ⟨a, r, e, p, n, ρ, s, l, c⟩ = 0), .one (.c (.bool (alw0 ⟨a, r, e, p, n, ρ, s, l, c⟩))))
  | _ => none

def at28 (a e p : Int) (n : Nat) (ρ : Val) (s : Int) (l c : Bool) (r : Int) : Prop := (evFn Tryz.prog HL 12 28 [.agg [I a, I r, I e, I p, .sl spSh n ρ, I s, .bool l, .bool c], .c (I 0)] []).vals =
    .need (dec (fewN n)) (.leaf (.one (.c (.bool (alw0 ⟨a, r, e, p, n, ρ, s, l, c⟩)))))
theorem at28_ok (a e p : Int) (n : Nat) (ρ : Val) (s : Int) (l c : Bool) (r : Int) (hr0 : 0 ≤ r) (hr1 : r ≤ 5) : at28 a e p n ρ s l c r := by
  have hr : r = 0 ∨ r = 1 ∨ r = 2 ∨ r = 3 ∨ r = 4 ∨ r = 5 := by omega
  rcases hr with rfl | rfl | rfl | rfl | rfl | rfl <;> (unfold at28; show _ = _; kernel_rfl)

theorem pAlw : TcOne Tryz.prog 28 (nG Galw) := fun args r hr hcl => by
  have hG := nG_sel hr
  unfold Galw at hG
  split at hG
  · rename_i a ro e p n ρ s l c
    obtain ⟨hp, rfl⟩ := Prod.mk.inj (Option.some.inj hG)
    obtain ⟨hf, hc⟩ := dec_iff.1 hp
    have hok := ok_of_chk hc
    refine tcOne_of_tree hL 12 28 (G := fun args' => if args' = [.agg [I a, I ro, I e, I p, .sl spSh n ρ, I s, .bool l, .bool c], .c (I 0)] then some (dec (fewN n), .one (.c (.bool (alw0 ⟨a, ro, e, p, n, ρ, s, l, c⟩)))) else none) (fun args' r' h' => ?_) _ _ ?_ hcl
    · split at h'
      · rename_i he
        subst he
        obtain ⟨hp', rfl⟩ := Prod.mk.inj (Option.some.inj h')
        exact ⟨rfl, _, at28_ok a e p n ρ s l c ro hok.r0 hok.r1, hp', rfl⟩
      · cases h'
    · simp [nG, dec_iff.2 hf, Tree.sel]
  · cases hG

/-! ### all steps -/

def rT (p : Prc) (l : Ses) (d k : Bool) : AV := .tup [p.cv, .c (.sl siSh l.n l.ρ), .c (.bool d), .c (.bool k)]

namespace Lr
structure C where
  l : Ses
  p : Prc
structure V where
  z : Prc
  y : Ses
  p : Prc
  m : Ses
  i : Int
def S (c : C) (v : V) : St := mkS 64 [(0, .one (.c (.sl siSh c.l.n c.l.ρ))), (6, .one (.c (.ptr 0 0))), (7, .one (.c (.sl siSh v.y.n v.y.ρ))), (8, .one (.c (.bool false))), (9, .one (.c (.bool false))), (10, .one (.c (.ptr 1 0))), (12, .one (.c (.sl siSh v.m.n v.m.ρ))), (13, .one (.c (I v.i)))] [some (33, v.z.cs), some (33, v.p.cs)]
noncomputable def TX (c : C) (v : V) : Tree (XE × V) :=
  let q := stpP v.p v.m true v.p.e
  let j := stpL v.p v.m true v.p.e
  .br (lt v.i 4) (.need (dec (smallS v.m)) (.br ((stpE v.p v.m true v.p.e != 0 || q.s != IntKind.i64.wrap (v.i + 1)) || toInt64 j.n != toInt64 c.l.n) (.leaf (.ret, ⟨v.p, v.m, v.p, v.m, v.i⟩)) (.leaf (.normal, ⟨v.z, v.y, q, j, IntKind.i64.wrap (v.i + 1)⟩)))) (.leaf (.exit 0, v))
theorem t (c : C) (v : V) : ((evCode Tryz.prog HL (evFn Tryz.prog HL 10) 26 2 1 (loopBody Tryz.prog 26 0) (S c v)).bind fun y => gcT [0, 6, 7, 8, 9, 10, 12, 13] 2 y) = (TX c v).bind fun y => .leaf (y.1, S c y.2) := by kernel_rfl
def st (c : C) (i : Nat) : V := ⟨p0, ⟨0, Val.zero⟩, (rn c.p c.l i).1, (rn c.p c.l i).2, i⟩
def good (c : C) : Prop := smallS c.l ∧ ∃ o t tn, BegOk c.l o t tn ∧ c.p = begP c.l o t
theorem sq (c : C) (h : good c) : Sq (TX c) (fun v => (4 - v.i).toNat) (st c) (st c) 4 (fun _ => false) .ret (.exit 0) where
  out := by simp
  hit := by simp
  meas i hi := by show ((4 : Int) - (i : Int)).toNat = _; omega
  round i hi := by
    obtain ⟨l, p⟩ := c
    obtain ⟨hs, o, t, tn, hb, hp⟩ := h
    have hp : p = begP l o t := hp
    subst hp
    have hw : IntKind.i64.wrap ((i : Int) + 1) = ((i + 1 : Nat) : Int) := by rw [w64_id (by omega) (by omega)]; omega
    obtain ⟨h1, h2, h3⟩ := hb.all i hi
    have hbad : ((stpE (rn (begP l o t) l i).1 (rn (begP l o t) l i).2 true (rn (begP l o t) l i).1.e != 0 || (rn (begP l o t) l (i + 1)).1.s != IntKind.i64.wrap ((i : Int) + 1)) || toInt64 (rn (begP l o t) l (i + 1)).2.n != toInt64 l.n) = false := by
      have h1 : stpE (rn (begP l o t) l i).1 (rn (begP l o t) l i).2 true (rn (begP l o t) l i).1.e = 0 := h1
      have h2 : (rn (begP l o t) l (i + 1)).1.s = ((i + 1 : Nat) : Int) := h2
      have h3 : (rn (begP l o t) l (i + 1)).2.n = l.n := h3
      rw [h1, h2, h3, hw]; simp
    refine ⟨fun _ => ⟨dec_iff.2 (rn_small _ hs i), fun hx => ?_, fun _ => ?_⟩, fun hlt => ?_⟩
    · have hx := hbad.symm.trans hx
      cases hx
    · show (XE.normal, (⟨p0, ⟨0, Val.zero⟩, _, _, IntKind.i64.wrap ((i : Int) + 1)⟩ : V)) = _
      rw [hw]; rfl
    · have : lt (i : Int) 4 = false := hlt
      have := of_ltF this
      omega
  stop := ⟨fun hlt => (by cases hlt), fun _ => rfl⟩
def get : List (Nat × AV) → Mem → Option (C × V)
  | [(0, .one (.c (.sl [.int .i64, .int .i64, .int .i64, .int .i64, .sl [.int .i64, .int .i64, .int .i64], .int .i64, .bool, .bool] n ρ))), (6, .one (.c (.ptr 0 0))), (7, .one (.c (.sl [.int .i64, .int .i64, .int .i64, .int .i64, .sl [.int .i64, .int .i64, .int .i64], .int .i64, .bool, .bool] ny ρy))), (8, .one (.c (.bool false))), (9, .one (.c (.bool false))), (10, .one (.c (.ptr 1 0))),
      (12, .one (.c (.sl [.int .i64, .int .i64, .int .i64, .int .i64, .sl [.int .i64, .int .i64, .int .i64], .int .i64, .bool, .bool] m σ))), (13, .one (.c (.int .i64 i)))],
    [some (33, [.int .i64 k1, .int .i64 f1, .int .i64 t1, .int .i64 s1, .int .i64 e1, .int .i64 c1, .bool d1, .bool x1]), some (33, [.int .i64 k, .int .i64 f, .int .i64 t, .int .i64 s, .int .i64 e, .int .i64 c, .bool d, .bool x])] => some (⟨⟨n, ρ⟩, ⟨k, f, t, s, e, c, d, x⟩⟩, ⟨⟨k1, f1, t1, s1, e1, c1, d1, x1⟩, ⟨ny, ρy⟩, ⟨k, f, t, s, e, c, d, x⟩, ⟨m, σ⟩, i⟩)
  | _, _ => none
noncomputable def L : Nat → St → Tree (XE × St) := ownH [.flat 7 siSh] (lqH [0, 6, 7, 8, 9, 10, 12, 13] 2 64 get fun c v => lq1 (S c) (good c ∧ v = st c 0) (.exit 0) (st c 4))
theorem ok (fn : Func) (c b : Code) (hf : Tryz.prog.funcs[26]? = some fn) (hc : fn.body = some c) (hb : nthLoop c 0 = some b) : LoopOk Tryz.prog b L :=
  ownH_ok _ (lq1_ok hL 10 26 0 hf hc hb [0, 6, 7, 8, 9, 10, 12, 13] 2 64 S TX t get (fun l m c v h => by unfold get at h; split at h <;> simp at h; obtain ⟨rfl, rfl⟩ := h; rfl)
    good (fun c v => (4 - v.i).toNat) st (fun _ => 4) (.exit 0) sq (fun c => st c 4) (fun _ _ => StWk.refl))
end Lr

noncomputable abbrev HR1 : Hd := ⟨HL.pc, HL.hc, [((26, 0), Lr.L)], HL.mc⟩
theorem hR1 : HdOk Tryz.prog HR1 := HdOk.lhCons hL Lr.ok

/-- the procedure and the sites behind all steps -/
def rP (l : Ses) (o : Los) (t : Int) : Prc := bif begE l o t == 0 then { prc l t 4 with d := true } else p0
def rL (l : Ses) (o : Los) (t : Int) : Ses := bif begE l o t == 0 then ses3 l t.toNat else l

noncomputable def Grun : List A1 → Option (Bool × AV)
  | [.c (.sl [.int .i64, .int .i64, .int .i64, .int .i64, .sl [.int .i64, .int .i64, .int .i64], .int .i64, .bool, .bool] n ρ), .c (.sl [.bool] k σ), .c (.int .i64 t)] => some (dec (smallS ⟨n, ρ⟩), rT (rP ⟨n, ρ⟩ ⟨k, σ⟩ t) (rL ⟨n, ρ⟩ ⟨k, σ⟩ t) (begE ⟨n, ρ⟩ ⟨k, σ⟩ t == 0) true)
  | _ => none

theorem uRun : UcOne Tryz.prog 26 (nG Grun) := ucOne_of_tree hR1 12 26 fun args r h => by
  unfold Grun at h; split at h
  · rename_i n ρ k σ t
    obtain ⟨hp, rfl⟩ := Prod.mk.inj (Option.some.inj h)
    let l : Ses := ⟨n, ρ⟩
    let o : Los := ⟨k, σ⟩
    let p := begP l o t
    refine ⟨.need (dec (fewS l)) (.br (begE l o t != 0) (.leaf (rT p l false true)) (.need (dec (Lr.good ⟨l, p⟩ ∧ (⟨p0, ⟨0, Val.zero⟩, p, l, ((0 : Nat) : Int)⟩ : Lr.V) = Lr.st ⟨l, p⟩ 0)) (.leaf (rT (rn p l 4).1 (rn p l 4).2 true true)))), by kernel_rfl, ?_⟩
    have hs : smallS l := dec_iff.1 hp
    refine ⟨dec_iff.2 (small_fewS hs), fun h1 => ?_, fun h1 => ?_⟩
    · have e : (begE l o t == 0) = false := by simpa [bne] using h1
      have e1 : p = p0 := by show begP l o t = p0; unfold begP; rw [e]; rfl
      have e2 : rP l o t = p0 := by unfold rP; rw [e]; rfl
      have e3 : rL l o t = l := by unfold rL; rw [e]; rfl
      show leA (rT p l false true) (rT (rP l o t) (rL l o t) (begE l o t == 0) true)
      rw [e1, e2, e3, e]
      exact leA.refl
    · have e : begE l o t = 0 := by simpa [bne] using h1
      have hb := beg_ok e
      refine ⟨dec_iff.2 ⟨⟨hs, o, t, _, hb, rfl⟩, rfl⟩, ?_⟩
      have h4 : rn p l 4 = ({ prc l t 4 with d := true }, ses3 l t.toNat) := hb.step3.2
      have e2 : rP l o t = { prc l t 4 with d := true } := by unfold rP; rw [e]; rfl
      have e3 : rL l o t = ses3 l t.toNat := by unfold rL; rw [e]; rfl
      show leA (rT (rn p l 4).1 (rn p l 4).2 true true) (rT (rP l o t) (rL l o t) (begE l o t == 0) true)
      rw [h4, e2, e3, e]
      exact leA.refl
  · cases h

noncomputable abbrev HR : Hd := ⟨(28, nG Galw) :: HL.pc, (26, nG Grun) :: HL.hc, [], HL.mc⟩
theorem hR : HdOk Tryz.prog HR := (hL.ucCons uRun).tcCons pAlw

end Fo
end Go.Proofs.YtennlgngdjegoaaGreat
/-
  The unplanned change of the primary: the law of the new primary.
-/
namespace Go.Proofs.YtennlgngdjegoaaGreat
open Go Go.Sx Go.RowKit Classical

set_option maxRecDepth 100000
set_option maxHeartbeats 4000000

namespace Fo

/-- several needs -/
def needs {α : Type} : List Bool → Tree α → Tree α
  | [], t => t
  | b :: l, t => .need b (needs l t)
theorem needs_all {α : Type} {p : α → Prop} : ∀ {l : List Bool} {t : Tree α}, l.all id = true → t.All p → (needs l t).All p
  | [], _, _, h => h
  | b :: l, t, hl, h => by
    rw [List.all_cons, Bool.and_eq_true] at hl
    exact ⟨hl.1, needs_all hl.2 h⟩

/-- the procedure at its end -/
def prcD (l : Ses) (t : Int) : Prc := { prc l t 4 with d := true }

namespace Lp
structure C where
  l : Ses
  t : Int
  m : Ses
  p : Prc
def S (c : C) (v : Int) : St := mkS 169 [(0, .one (.c (.sl siSh c.l.n c.l.ρ))), (2, .one (.c (I c.t))), (6, .one (.c (.bool false))), (7, .one (.c (.ptr 0 0))), (8, .one (.c (.sl siSh c.m.n c.m.ρ))), (11, .one (.c (I v)))] [some (33, c.p.cs)]
/-- what is wrong with a site in any case -/
def badA (x y : Sit) : Bool := ((x.a != y.a || x.p != y.p) || !eqL ⟨⟨x.n, x.ρ⟩, ⟨y.n, y.ρ⟩⟩) || lt y.e x.e
noncomputable def TX (c : C) (v : Int) : Tree (XE × Int) :=
  let x := c.l.at v.toNat
  let y := c.m.at v.toNat
  let n := c.l.n
  let g1 := x.a != y.a || x.p != y.p
  let g2 := y.r != 1 || y.e != c.p.e
  let R : Tree (XE × Int) := .leaf (.ret, v)
  let N : Tree (XE × Int) := .leaf (.normal, IntKind.i64.wrap (v + 1))
  let aw := dec (fewN y.n ∧ chkS y = 0)
  .br (lt v (toInt64 n)) (needs [inRange v n, inRange v c.m.n, !(g1 == false && true) || dec (fewN x.n)] (.br (badA x y) R
    (.br (v == c.t) (.need (!(g2 == false && true) || aw) (.br (g2 || !alw0 y) R N))
    (.br (v == c.p.f) (.need (!((y.r != 5) == false && true) || aw) (.br (y.r != 5 || alw0 y) R N))
    (.br (x.r == 2 || x.r == 3) (.need (!((y.r != 4) == false && true) || inRange c.t n) (.br ((y.r != 4 || y.s != (c.l.at c.t.toNat).a) || y.e != c.p.e) R N))
      (.need (dec (fewN x.n)) (.br (!sameS x y) R N))))))) (.leaf (.exit 0, v))
theorem t (c : C) (v : Int) : ((evCodeL Tryz.prog HR ⟨[], [], []⟩ (evFn Tryz.prog HR 10) 7 1 1 (loopBody Tryz.prog 7 0) (S c v)).bind fun y => gcT [0, 2, 6, 7, 8, 11] 1 y) = (TX c v).bind fun y => .leaf (y.1, S c y.2) := by kernel_rfl

/-- the sites behind all steps of a failover that has begun -/
def good (c : C) : Prop := smallS c.l ∧ ∃ o tn, BegOk c.l o c.t tn ∧ c.m = ses3 c.l tn ∧ c.p = prcD c.l c.t

theorem chk0 {y : Sit} (h : SiteOk y) : chkS y = 0 := chk_of_ok h
theorem alw_pro {y : Sit} (h : SiteOk y) (hl : y.l = true) (hr : y.r = 1) : alw0 y = true := by
  unfold alw0
  rw [chk_of_ok h, hl, hr]; rfl
theorem alw_no {y : Sit} (hr : (y.r == 1) = false) : alw0 y = false := by
  unfold alw0
  rw [hr]
  cases (bif (bif chkS y == 0 then y.l else false) then true else false) <;> rfl
theorem badA_no {x y : Sit} (ha : y.a = x.a) (hp : y.p = x.p) (hn : y.n = x.n) (hρ : y.ρ = x.ρ) (he : x.e ≤ y.e) : badA x y = false := by
  unfold badA
  rw [ha, hp, hn, hρ, eqL_refl ⟨x.n, x.ρ⟩, ltF' (by omega)]
  simp

theorem sq (c : C) (h : good c) : Sq (TX c) (fun v => (c.l.n - v).toNat) (fun i => (i : Int)) (fun i => (i : Int)) c.l.n (fun _ => false) .ret (.exit 0) where
  out := by simp
  hit := by simp
  meas i hi := by show ((c.l.n : Int) - (i : Int)).toNat = _; omega
  round i hi := by
    obtain ⟨l, t, m, p⟩ := c
    obtain ⟨hs, o, tn, hb, hm, hp⟩ := h
    change m = ses3 l tn at hm
    change p = prcD l t at hp
    change i < l.n at hi
    change BegOk l o t tn at hb
    change smallS l at hs
    subst hm
    subst hp
    have hw : IntKind.i64.wrap ((i : Int) + 1) = ((i + 1 : Nat) : Int) := by have := hs.1; rw [w64_id (by omega) (by omega)]; omega
    have hfew : dec (fewN (l.at i).n) = true := Go.Proofs.YtennlgngdjegoaaGreat.small_few (hs.2 i hi)
    have hy := hb.at3 hi
    have hE := hb.me i hi
    have hm1 := hb.m1
    have hm0 := hb.m0
    have hok := hb.ck.ok i hi
    have ht := hb.t
    have hf := hb.fne
    -- what is the same in all cases
    suffices hh : (badA (l.at i) ((ses3 l tn).at i) = false) ∧ (if i = tn then ((ses3 l tn).at i).r = 1 ∧ ((ses3 l tn).at i).e = mosE l + 1 ∧ alw0 ((ses3 l tn).at i) = true ∧ dec (fewN ((ses3 l tn).at i).n ∧ chkS ((ses3 l tn).at i) = 0) = true
        else if (i : Int) = froI l then ((ses3 l tn).at i).r = 5 ∧ alw0 ((ses3 l tn).at i) = false ∧ dec (fewN ((ses3 l tn).at i).n ∧ chkS ((ses3 l tn).at i) = 0) = true
        else if fol (l.at i).r = true then ((ses3 l tn).at i).r = 4 ∧ ((ses3 l tn).at i).s = (l.at tn).a ∧ ((ses3 l tn).at i).e = mosE l + 1 else (ses3 l tn).at i = l.at i) by
      obtain ⟨h1, h2⟩ := hh
      have htn : t.toNat = tn := by omega
      have N : (XE.normal, IntKind.i64.wrap ((i : Int) + 1)) = (XE.normal, ((i + 1 : Nat) : Int)) := by rw [hw]
      have g1 : inRange (i : Int) l.n = true := inR hi
      have g2 : inRange t l.n = true := by rw [ht]; exact inR hb.lt
      unfold TX
      simp only [Int.toNat_natCast]
      refine ⟨fun _ => needs_all ?_ ⟨fun hx => ?_, fun _ => ⟨fun c1 => ?_, fun c1 => ⟨fun c2 => ?_, fun c2 => ⟨fun c3 => ?_, fun c3 => ?_⟩⟩⟩⟩, fun hlt => ?_⟩
      · show ([inRange (i : Int) l.n, inRange (i : Int) l.n, _].all id) = true
        simp [g1, hfew]
      · have hx := h1.symm.trans hx
        cases hx
      · have c1 : (i : Int) = t := by simpa using c1
        rw [if_pos (by omega)] at h2
        obtain ⟨a, b, d, e⟩ := h2
        refine ⟨by show (_ || dec (fewN ((ses3 l tn).at i).n ∧ chkS ((ses3 l tn).at i) = 0)) = true; rw [e, Bool.or_true], fun hx => ?_, fun _ => N⟩
        have hx : ((((ses3 l tn).at i).r != 1 || ((ses3 l tn).at i).e != mosE l + 1) || !alw0 ((ses3 l tn).at i)) = true := hx
        rw [a, b, d] at hx
        simp at hx
      · have c1 : (i : Int) ≠ t := by simpa using c1
        have c2 : ((i : Int) == froI l) = true := c2
        have c2 : (i : Int) = froI l := by simpa using c2
        rw [if_neg (by omega), if_pos c2] at h2
        obtain ⟨a, d, e⟩ := h2
        refine ⟨by show (_ || dec (fewN ((ses3 l tn).at i).n ∧ chkS ((ses3 l tn).at i) = 0)) = true; rw [e, Bool.or_true], fun hx => ?_, fun _ => N⟩
        have hx : (((ses3 l tn).at i).r != 5 || alw0 ((ses3 l tn).at i)) = true := hx
        rw [a, d] at hx
        cases hx
      · have c1 : (i : Int) ≠ t := by simpa using c1
        have c2 : ((i : Int) == froI l) = false := c2
        have c2 : (i : Int) ≠ froI l := by simpa using c2
        have c3 : fol (l.at i).r = true := c3
        rw [if_neg (by omega), if_neg c2, if_pos c3] at h2
        obtain ⟨a, b, d⟩ := h2
        refine ⟨by show (_ || inRange t l.n) = true; rw [g2, Bool.or_true], fun hx => ?_, fun _ => N⟩
        have hx : ((((ses3 l tn).at i).r != 4 || ((ses3 l tn).at i).s != (l.at t.toNat).a) || ((ses3 l tn).at i).e != mosE l + 1) = true := hx
        rw [a, b, d, htn] at hx
        simp at hx
      · have c1 : (i : Int) ≠ t := by simpa using c1
        have c2 : ((i : Int) == froI l) = false := c2
        have c2 : (i : Int) ≠ froI l := by simpa using c2
        have c3 : fol (l.at i).r = false := c3
        rw [if_neg (by omega), if_neg c2, if_neg (by rw [c3]; simp)] at h2
        refine ⟨hfew, fun hx => ?_, fun _ => N⟩
        have hx : (!sameS (l.at i) ((ses3 l tn).at i)) = true := hx
        rw [h2, sameS_refl] at hx
        cases hx
      · have : lt (i : Int) (toInt64 l.n) = false := hlt
        rw [ltF hi] at this; cases this
    by_cases c1 : i = tn
    · rw [if_pos c1]
      rw [if_pos c1] at hy
      subst c1
      have hp := hb.pro
      rw [hb.at1t] at hp
      obtain ⟨so, _⟩ := pro_ok hp
      rw [hy]
      exact ⟨badA_no rfl rfl rfl rfl (by show (l.at i).e ≤ mosE l + 1; omega), rfl, rfl, alw_pro so hb.al rfl, dec_iff.2 ⟨dec_iff.1 hfew, chk0 so⟩⟩
    · rw [if_neg c1]
      rw [if_neg c1] at hy
      by_cases c2 : (i : Int) = froI l
      · rw [if_pos c2]
        rw [if_pos c2] at hy
        have hd := hb.dem (by omega)
        have : (froI l).toNat = i := by omega
        rw [this] at hd
        obtain ⟨so, _⟩ := demo_ok hd
        rw [hy]
        exact ⟨badA_no rfl rfl rfl rfl (by show (l.at i).e ≤ mosE l + 1; omega), rfl, alw_no rfl, dec_iff.2 ⟨dec_iff.1 hfew, chk0 so⟩⟩
      · rw [if_neg c2]
        rw [if_neg c2] at hy
        by_cases c3 : fol (l.at i).r = true
        · rw [if_pos c3]
          rw [if_pos c3] at hy
          have h2 := hb.at2 i
          rw [if_neg c1, if_neg c2] at h2
          have hsk : skp tn (ses2 l tn) i = false := by
            unfold skp
            rw [h2, c3, Bool.or_eq_false_iff]
            exact ⟨by rw [beq_eq_false_iff_ne]; omega, rfl⟩
          obtain ⟨_, hj⟩ := hb.jn hi hsk
          rw [hy, hj]
          exact ⟨badA_no rfl rfl rfl rfl (by show (l.at i).e ≤ mosE l + 1; omega), rfl, rfl, rfl⟩
        · rw [if_neg c3]
          rw [if_neg c3] at hy
          rw [hy]
          exact ⟨badA_no rfl rfl rfl rfl (Int.le_refl _), rfl⟩
  stop := by
    refine ⟨fun hlt => ?_, fun _ => rfl⟩
    have : lt (c.l.n : Int) (toInt64 c.l.n) = true := hlt
    rw [ltS] at this; cases this
def get : List (Nat × AV) → Mem → Option (C × Int)
  | [(0, .one (.c (.sl [.int .i64, .int .i64, .int .i64, .int .i64, .sl [.int .i64, .int .i64, .int .i64], .int .i64, .bool, .bool] n ρ))), (2, .one (.c (.int .i64 t))), (6, .one (.c (.bool false))), (7, .one (.c (.ptr 0 0))), (8, .one (.c (.sl [.int .i64, .int .i64, .int .i64, .int .i64, .sl [.int .i64, .int .i64, .int .i64], .int .i64, .bool, .bool] m σ))), (11, .one (.c (.int .i64 i)))],
    [some (33, [.int .i64 k, .int .i64 f, .int .i64 t1, .int .i64 s, .int .i64 e, .int .i64 c, .bool d, .bool x])] => some (⟨⟨n, ρ⟩, t, ⟨m, σ⟩, ⟨k, f, t1, s, e, c, d, x⟩⟩, i)
  | _, _ => none
noncomputable def L : Nat → St → Tree (XE × St) := lqH [0, 2, 6, 7, 8, 11] 1 169 get fun c v => lq1 (S c) (good c ∧ v = ((0 : Nat) : Int)) (.exit 0) (c.l.n : Int)
theorem ok (fn : Func) (c b : Code) (hf : Tryz.prog.funcs[7]? = some fn) (hc : fn.body = some c) (hb : nthLoop c 0 = some b) : LoopOk Tryz.prog b L :=
  lqL1_ok hR XOk.nil 10 7 0 hf hc hb [0, 2, 6, 7, 8, 11] 1 169 S TX t get (fun l m c v h => by unfold get at h; split at h <;> simp at h; obtain ⟨rfl, rfl⟩ := h; rfl)
    good (fun c v => (c.l.n - v).toNat) (fun _ i => (i : Int)) (fun c => c.l.n) (.exit 0) sq (fun c => (c.l.n : Int)) (fun _ _ => StWk.refl)
end Lp

noncomputable abbrev HP7 : Hd := ⟨HR.pc, HR.hc, [((7, 0), Lp.L)], HR.mc⟩
theorem hP7 : HdOk Tryz.prog HP7 := HdOk.lhCons hR Lp.ok

theorem law7 (l : Ses) (o : Los) (t : Int) {F : Nat → Prop} {W : World} {vs : List Value} (h : All2 (A1.Rel F W []) [.c (.sl siSh l.n l.ρ), .c (.sl [.bool] o.n o.ρ), .c (I t)] vs) :
    Calls Tryz.prog 7 vs.toArray W (fun e W' => e = .returned (.bool true) ∧ Below W.heap.size W W') := by
  let p := rP l o t
  let m := rL l o t
  refine law_of_tree hP7 12 7 (u := .br (!fewL l || Sx.lt 20 (toInt64 o.n)) (.leaf (bT true)) (.need (dec (smallS l)) (.br (!(begE l o t == 0)) (.leaf (bT true)) (.br ((!p.d || p.x) || p.t != t) (.leaf (bT false)) (.need (dec (Lp.good ⟨l, t, m, p⟩ ∧ (0 : Int) = ((0 : Nat) : Int))) (.need (dec (fewS m)) (.leaf (bT (ckE m == 0))))))))) (by kernel_rfl) ⟨fun _ => rfl, fun hf => ?_⟩ h
  rw [Bool.or_eq_false_iff] at hf
  have hf : fewL l = true := by simpa using hf.1
  have hsm := fewL_small hf
  refine ⟨dec_iff.2 hsm, fun _ => rfl, fun hc => ?_⟩
  have hc : begE l o t = 0 := by simpa using hc
  have hb := beg_ok hc
  have hp : p = prcD l t := by show rP l o t = _; unfold rP; rw [hc]; rfl
  have hm : m = ses3 l t.toNat := by show rL l o t = _; unfold rL; rw [hc]; rfl
  have hsm3 : smallS m := by
    have h4 : rn (begP l o t) l 4 = ({ prc l t 4 with d := true }, ses3 l t.toNat) := hb.step3.2
    have := rn_small (begP l o t) hsm 4
    rw [h4] at this
    rw [hm]; exact this
  refine ⟨fun hx => ?_, fun _ => ⟨dec_iff.2 ⟨⟨hsm, o, t.toNat, hb, hm, hp⟩, rfl⟩, dec_iff.2 (small_fewS hsm3), ?_⟩⟩
  · rw [hp] at hx
    have hx : ((!true || false) || t != t) = true := hx
    simp at hx
  · show bT (ckE m == 0) = _
    rw [hm, ck_of hb.ck3]; rfl

end Fo
end Go.Proofs.YtennlgngdjegoaaGreat
