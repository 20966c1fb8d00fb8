/-
  The session: how two closed ends become open.
-/
import Derived.Test.YtgkgepgkeljclaaSesN
namespace Go.Proofs.Ytgkgepgkeljclaa
open Go Go.Sx Classical

/-! ### bounds of the numbers -/

def MsB (x : Ms) (N : Int) : Prop := x.d ≤ N ∧ x.c ≤ 3
def SentB (t : Sent) (N : Int) : Prop := ∀ j, j < t.n → MsB (elt t.ρ j) N
def SesB (s : Ses) (N : Int) : Prop := s.d ≤ N ∧ s.c ≤ 3
def OutB (o : Out) (N : Int) : Prop := match o with
  | none => True
  | some (c, m) => c = 0 ∨ MsB (elt m 0) N

theorem elt_cat_lt {n j : Nat} {a b : Val} (h : j < n) : elt (Val.cat n a b) j = elt a j := by
  have hb : Nat.blt j n = true := by simp [Nat.blt_eq, h]
  unfold elt Val.cat
  simp only [Val.at, Val.byFst, pickV, hb, cond_true]

theorem elt_cat_ge {n j : Nat} {a b : Val} (h : n ≤ j) : elt (Val.cat n a b) j = elt b (j - n) := by
  have hb : Nat.blt j n = false := by
    rw [← Bool.not_eq_true, Nat.blt_eq]; omega
  unfold elt Val.cat
  simp only [Val.at, Val.byFst, pickV, hb, cond_false]

theorem elt_msg (k a b c d : Int) : (elt (msgV k a b c d) 0).k = k ∧ (elt (msgV k a b c d) 0).a = a ∧ (elt (msgV k a b c d) 0).b = b ∧ (elt (msgV k a b c d) 0).d = d ∧ (elt (msgV k a b c d) 0).c = c :=
  ⟨rfl, rfl, rfl, rfl, rfl⟩

theorem add_B {t : Sent} {o : Out} {N : Int} (ht : SentB t N) (ho : OutB o N) (hn : Out.n o ≤ 1) : SentB (t.add o) N := by
  cases o with
  | none => exact ht
  | some p =>
    obtain ⟨c, m⟩ := p
    intro j hj
    simp only [Sent.add, Out.n] at hj hn ⊢
    rcases Nat.lt_or_ge j t.n with h | h
    · rw [elt_cat_lt h]; exact ht j h
    · rw [elt_cat_ge h]
      have : j - t.n = 0 := by omega
      rw [this]
      rcases ho with h0 | h0
      · omega
      · exact h0

theorem recv_bd (rj h5 h w : Bool) {c d e f nu ep C D : Int} (hc : c ≤ C) (hd : d ≤ D) (hnu : nu ≤ D) (hep : ep ≤ C) (h0 : 0 ≤ C) (h1 : 0 ≤ D) :
    (recv rj h5 h w c d e f nu ep).c ≤ C ∧ (recv rj h5 h w c d e f nu ep).d ≤ D ∧ (recv rj h5 h w c d e f nu ep).mc ≤ C ∧ (recv rj h5 h w c d e f nu ep).md ≤ D := by
  have hb : ∀ (p : Bool) (x y : R), (x.c ≤ C ∧ x.d ≤ D ∧ x.mc ≤ C ∧ x.md ≤ D) → (y.c ≤ C ∧ y.d ≤ D ∧ y.mc ≤ C ∧ y.md ≤ D) → ((bif p then x else y).c ≤ C ∧ (bif p then x else y).d ≤ D ∧ (bif p then x else y).mc ≤ C ∧ (bif p then x else y).md ≤ D) :=
    fun p x y h1 h2 => by cases p <;> assumption
  have hc' : (bif lt c ep then ep else c) ≤ C := by cases lt c ep <;> assumption
  unfold recv
  refine hb _ _ _ ⟨hc, hd, h0, h1⟩ (hb _ _ _ ⟨hc, hd, hc, hd⟩ (hb _ _ _ (hb _ _ _ ⟨hc', hnu, hc', hnu⟩ (hb _ _ _ ⟨hc', hd, hc', hd⟩ ⟨hc', hd, h0, h1⟩)) (hb _ _ _ (hb _ _ _ ⟨hc', hd, h0, h1⟩ (hb _ _ _ ⟨hc', hd, hc', hd⟩ ⟨hc', hd, h0, h1⟩)) (hb _ _ _ ⟨hc', hnu, h0, h1⟩ ⟨hc', hd, h0, h1⟩))))

theorem act_B {s : Ses} (hs : s.Ok) {t : Sent} (ht : t.n ≤ 4611686018427387904) (kt now : Int) {w : Int} (hw : 0 ≤ w ∧ w ≤ 255) {N : Int} (h0 : 0 ≤ N) (hsB : SesB s N) (htB : SentB t N) :
    (actT s kt w now t).All fun y => Goes s y.1 ∧ Out.n y.2 ≤ 1 ∧ SesB y.1 (N + 1) ∧ OutB y.2 (N + 1) := by
  obtain ⟨hd, hc⟩ := hsB
  refine act_all ht _ _ hw (fun h => ?_) ?_ ?_ ?_ fun i hi => ?_
  · refine ⟨dial_goes h, b01 _, ?_, .inr ?_⟩
    · have ho := dlO_dlE h
      obtain ⟨hk, h2, h3, h4⟩ := dlO_iff.1 ho
      have e1 : IntKind.i64.wrap (s.d + 1) = s.d + 1 := w64_id (by have := hk.d; omega) (by have := hk.d; omega)
      unfold dialS SesB
      rw [ho, e1]
      simp only [cond_true]; omega
    · have hk := hs.d
      have e1 : IntKind.i64.wrap (s.d + 1) = s.d + 1 := w64_id (by omega) (by omega)
      show IntKind.i64.wrap (s.d + 1) ≤ N + 1 ∧ s.c ≤ 3
      rw [e1]; omega
  · exact ⟨Goes.refl hs, Nat.zero_le _, ⟨show s.d ≤ N + 1 by omega, hc⟩, trivial⟩
  · refine ⟨exp_goes hs _ _, ?_, ⟨show s.d ≤ N + 1 by omega, hc⟩, .inr ⟨show s.d ≤ N + 1 by omega, hc⟩⟩
    simp only [Out.n, outExp]
    cases xpN s.a s.b s.c s.d s.e s.f now <;> cases dln now 3 <;> simp
  · exact ⟨close_goes hs, b10 _, ⟨show s.d ≤ N + 1 by omega, hc⟩, .inr ⟨show s.d ≤ N + 1 by omega, hc⟩⟩
  · obtain ⟨m1, m2⟩ := htB i hi
    obtain ⟨r1, r2, r3, r4⟩ := recv_bd (rjP s.a s.b s.c s.d s.e s.f (elt t.ρ i).k (elt t.ρ i).a (elt t.ρ i).b (elt t.ρ i).d (elt t.ρ i).c) ((elt t.ρ i).k == 5) (IntKind.i64.wrap ((elt t.ρ i).k - 5) == 0) (IntKind.i64.wrap ((elt t.ρ i).k - 5) == 0 + 1)
      (c := s.c) (d := s.d) (e := s.e) (f := s.f) (nu := (elt t.ρ i).d) (ep := (elt t.ρ i).c) (C := 3) (D := N + 1) hc (by omega) (by omega) m2 (by omega) (by omega)
    exact ⟨recv_goes hs _ _ _ _ _, recv_n _ _ _ _ _ _ _ _ _ _, ⟨r2, r1⟩, .inr ⟨r4, r3⟩⟩

theorem step_B {s0 s1 : Ses} (h0 : s0.Ok) (h1 : s1.Ok) {t : Sent} (ht : t.n ≤ 1000000) (x : Stp) (hw : 0 ≤ x.which ∧ x.which ≤ 255) (now : Int) {N : Int} (hN : 0 ≤ N) (b0 : SesB s0 N) (b1 : SesB s1 N) (bt : SentB t N) :
    (stepT x now s0 s1 t).All fun y => (Goes s0 y.1 ∧ Goes s1 y.2.1 ∧ y.2.2.n ≤ t.n + 1) ∧ SesB y.1 (N + 1) ∧ SesB y.2.1 (N + 1) ∧ SentB y.2.2 (N + 1) := by
  have up : ∀ s, SesB s N → SesB s (N + 1) := fun s h => ⟨by have := h.1; omega, h.2⟩
  have upt : SentB t (N + 1) := fun j hj => ⟨by have := (bt j hj).1; omega, (bt j hj).2⟩
  refine ⟨fun _ => ⟨rfl, all_bind.2 (All.imp (fun y hy => all_bind.2 (keep_all ht hy.2.1 ?_)) (act_B h1 (by omega) _ _ hw hN b1 bt))⟩, fun _ => ⟨rfl, all_bind.2 (All.imp (fun y hy => all_bind.2 (keep_all ht hy.2.1 ?_)) (act_B h0 (by omega) _ _ hw hN b0 bt))⟩⟩
  · exact ⟨⟨Goes.refl h0, hy.1, add_n hy.2.1⟩, up _ b0, hy.2.2.1, add_B upt hy.2.2.2 hy.2.1⟩
  · exact ⟨⟨hy.1, Goes.refl h1, add_n hy.2.1⟩, hy.2.2.1, up _ b1, add_B upt hy.2.2.2 hy.2.1⟩

/-! ### the rounds -/

theorem rcE_val {s : Ses} {x : Ms} (hs : s.Ok) (ha : x.a = s.b) (hb : x.b = s.a) (hd : 0 ≤ x.d ∧ x.d ≤ 1073741824) (hc : 0 ≤ x.c ∧ x.c ≤ 1073741824) (hk : x.k = 5 ∨ x.k = 6 ∨ x.k = 7) :
    rcE s x = recv false (x.k == 5) (x.k == 5) (x.k == 6) s.c s.d s.e s.f x.d x.c := by
  have e1 : IntKind.i64.wrap (x.k - 5) = x.k - 5 := w64_id (by omega) (by omega)
  have hj : rjP s.a s.b s.c s.d s.e s.f x.k x.a x.b x.d x.c = false := by
    unfold rjP
    rw [chk_iff.2 hs, ha, hb, tim_iff.2 hd, tim_iff.2 hc, e1]
    have l1 : lt (x.k - 5) 0 = false := by rw [← Bool.not_eq_true, lt_iff]; omega
    have l2 : lt 2 (x.k - 5) = false := by rw [← Bool.not_eq_true, lt_iff]; omega
    rw [l1, l2]
    simp
  unfold rcE rcS rcP
  rw [hj, e1]
  have q1 : (x.k - 5 == 0) = (x.k == 5) := by
    rw [Bool.eq_iff_iff]; simp only [beq_iff_eq]; omega
  have q2 : (x.k - 5 == 0 + 1) = (x.k == 6) := by
    rw [Bool.eq_iff_iff]; simp only [beq_iff_eq]; omega
  rw [q1, q2]

/-- a dial, its message, the answer -/
def rdB (A B : Ses) : V28 := dlv B ⟨(outDial A 100 5).1, (outDial A 100 5).2⟩
def rdA (A B : Ses) : V28 := dlv (dialS A 100 5) ⟨(rdB A B).t.n, (rdB A B).t.ρ⟩

theorem round_eq {l r ca da cb db : Int} (hl : 0 ≤ l ∧ l < 4) (hr : 0 ≤ r ∧ r < 4) (hlr : l ≠ r) (hca : 0 ≤ ca ∧ ca ≤ 3) (hda : 0 ≤ da ∧ da ≤ 1000) (hcb : 0 ≤ cb ∧ cb ≤ 3) (hdb : 0 ≤ db ∧ db ≤ 1000) :
    dlE l r ca da 0 0 100 5 = 0 ∧ (outDial ⟨l, r, ca, da, 0, 0⟩ 100 5).1 ≤ 1000 ∧ (rdB ⟨l, r, ca, da, 0, 0⟩ ⟨r, l, cb, db, 0, 0⟩).t.n ≤ 1000 ∧
    (((rdA ⟨l, r, ca, da, 0, 0⟩ ⟨r, l, cb, db, 0, 0⟩).s = ⟨l, r, ca, da + 1, 2, 0⟩ ∧ (rdB ⟨l, r, ca, da, 0, 0⟩ ⟨r, l, cb, db, 0, 0⟩).s = ⟨r, l, ca, da + 1, 2, 0⟩) ∨
      (¬ (ca = cb ∧ db ≤ da) ∧ ∃ c' d' d'', (0 ≤ c' ∧ c' ≤ 3) ∧ (0 ≤ d' ∧ d' ≤ da + db + 1) ∧ 0 ≤ d'' ∧ d'' ≤ d' ∧ (rdA ⟨l, r, ca, da, 0, 0⟩ ⟨r, l, cb, db, 0, 0⟩).s = ⟨l, r, c', d', 0, 0⟩ ∧ (rdB ⟨l, r, ca, da, 0, 0⟩ ⟨r, l, cb, db, 0, 0⟩).s = ⟨r, l, c', d'', 0, 0⟩)) := by
  have okA : Ses.Ok ⟨l, r, ca, da, 0, 0⟩ := ⟨hl, hr, hlr, by simp only; omega, by simp only; omega, by simp, by simp, .inr rfl⟩
  have okB : Ses.Ok ⟨r, l, cb, db, 0, 0⟩ := ⟨hr, hl, fun e => hlr e.symm, by simp only; omega, by simp only; omega, by simp, by simp, .inr rfl⟩
  have okA1 : Ses.Ok ⟨l, r, ca, da + 1, 1, 105⟩ := ⟨hl, hr, hlr, by simp only; omega, by simp only; omega, by simp, by simp, .inl rfl⟩
  have hdl : dln 100 5 = true := dln_iff.2 ⟨by omega, by omega, by omega⟩
  have ho : dlO l r ca da 0 0 100 5 = true := dlO_iff (s := ⟨l, r, ca, da, 0, 0⟩).2 ⟨okA, rfl, hdl, by simp only; omega⟩
  have hE : dlE l r ca da 0 0 100 5 = 0 := by
    unfold dlE
    rw [chk_iff.2 okA, hdl]
    have : (da == 1073741824) = false := by simp; omega
    rw [this]; rfl
  have w1 : IntKind.i64.wrap (da + 1) = da + 1 := w64_id (by omega) (by omega)
  have w2 : IntKind.i64.wrap (100 + 5) = 105 := rfl
  have eD : dialS ⟨l, r, ca, da, 0, 0⟩ 100 5 = ⟨l, r, ca, da + 1, 1, 105⟩ := by
    unfold dialS
    simp only [ho, w1, w2, cond_true]
  have eO : outDial ⟨l, r, ca, da, 0, 0⟩ 100 5 = (1, msgV 5 l r ca (da + 1)) := by
    unfold outDial
    simp only [ho, w1, cond_true]
  obtain ⟨k1, k2, k3, k4, k5⟩ := elt_msg 5 l r ca (da + 1)
  have eR := rcE_val (s := ⟨r, l, cb, db, 0, 0⟩) (x := elt (msgV 5 l r ca (da + 1)) 0) okB k2 k3 (by rw [k4]; omega) (by rw [k5]; omega) (.inl k1)
  rw [k1, k4, k5] at eR
  have eB : rdB ⟨l, r, ca, da, 0, 0⟩ ⟨r, l, cb, db, 0, 0⟩ = ⟨recvE ⟨r, l, cb, db, 0, 0⟩ (elt (msgV 5 l r ca (da + 1)) 0), Sent.add ⟨0, Val.zero⟩ (some (outRecv ⟨r, l, cb, db, 0, 0⟩ (elt (msgV 5 l r ca (da + 1)) 0))), 1⟩ := by
    unfold rdB
    rw [eO]
    exact dlv_one _ _
  -- the answer
  have ans : ∀ (c' d' e' f' k mc md : Int), rcE ⟨r, l, cb, db, 0, 0⟩ (elt (msgV 5 l r ca (da + 1)) 0) = ⟨c', d', e', f', 1, k, mc, md⟩ → (k = 5 ∨ k = 6 ∨ k = 7) → (0 ≤ md ∧ md ≤ 1073741824) → (0 ≤ mc ∧ mc ≤ 1073741824) →
      (rdB ⟨l, r, ca, da, 0, 0⟩ ⟨r, l, cb, db, 0, 0⟩).s = ⟨r, l, c', d', e', f'⟩ ∧ (rdB ⟨l, r, ca, da, 0, 0⟩ ⟨r, l, cb, db, 0, 0⟩).t.n ≤ 1000 ∧
      (rdA ⟨l, r, ca, da, 0, 0⟩ ⟨r, l, cb, db, 0, 0⟩).s = ⟨l, r, (recv false (k == 5) (k == 5) (k == 6) ca (da + 1) 1 105 md mc).c, (recv false (k == 5) (k == 5) (k == 6) ca (da + 1) 1 105 md mc).d, (recv false (k == 5) (k == 5) (k == 6) ca (da + 1) 1 105 md mc).e, (recv false (k == 5) (k == 5) (k == 6) ca (da + 1) 1 105 md mc).f⟩ := by
    intro c' d' e' f' k mc md he hk hmd hmc
    have hs : (rdB ⟨l, r, ca, da, 0, 0⟩ ⟨r, l, cb, db, 0, 0⟩).s = ⟨r, l, c', d', e', f'⟩ := by
      rw [eB]
      show recvE _ _ = _
      unfold recvE recvS
      change rcS _ _ _ _ _ _ = _ at he
      rw [he]
    have ht : (rdB ⟨l, r, ca, da, 0, 0⟩ ⟨r, l, cb, db, 0, 0⟩).t = ⟨1, Val.cat 0 Val.zero (msgV k r l mc md)⟩ := by
      have h1 : outRecv ⟨r, l, cb, db, 0, 0⟩ (elt (msgV 5 l r ca (da + 1)) 0) = (1, msgV k r l mc md) := by
        unfold outRecv
        rw [he]
      rw [eB, h1]
      rfl
    refine ⟨hs, by rw [ht]; simp, ?_⟩
    unfold rdA
    rw [ht, eD]
    show (dlv _ ⟨1, _⟩).s = _
    rw [dlv_one]
    have hx : elt (Val.cat 0 Val.zero (msgV k r l mc md)) 0 = elt (msgV k r l mc md) 0 := elt_cat_ge (Nat.le_refl 0)
    rw [hx]
    obtain ⟨j1, j2, j3, j4, j5⟩ := elt_msg k r l mc md
    have eR2 := rcE_val (s := ⟨l, r, ca, da + 1, 1, 105⟩) (x := elt (msgV k r l mc md) 0) okA1 j2 j3 (by rw [j4]; exact hmd) (by rw [j5]; exact hmc) (by rw [j1]; exact hk)
    rw [j1, j4, j5] at eR2
    show recvE _ _ = _
    unfold recvE recvS
    change rcS _ _ _ _ _ _ = _ at eR2
    rw [eR2]
  refine ⟨hE, by rw [eO]; simp, ?_⟩
  have e55 : ((5 : Int) == 5) = true := rfl
  have e56 : ((5 : Int) == 6) = false := rfl
  have e75 : ((7 : Int) == 5) = false := rfl
  have e76 : ((7 : Int) == 6) = false := rfl
  have e65 : ((6 : Int) == 5) = false := rfl
  have e66 : ((6 : Int) == 6) = true := rfl
  rw [e55, e56] at eR
  rcases Int.lt_trichotomy ca cb with hlt | heq | hgt
  · -- an older epoch
    have a1 : lt ca cb = true := (lt_iff _ _).2 hlt
    have eR' : rcE ⟨r, l, cb, db, 0, 0⟩ (elt (msgV 5 l r ca (da + 1)) 0) = ⟨cb, db, 0, 0, 1, 7, cb, db⟩ := by
      rw [eR]; unfold recv; simp only [a1, cond_true, cond_false]
    obtain ⟨s1, s2, s3⟩ := ans _ _ _ _ _ _ _ eR' (.inr (.inr rfl)) (by omega) (by omega)
    refine ⟨s2, .inr ⟨by omega, ?_⟩⟩
    rw [e75, e76] at s3
    have a2 : lt cb ca = false := by rw [← Bool.not_eq_true, lt_iff]; omega
    unfold recv at s3
    simp only [a1, a2, cond_true, cond_false] at s3
    cases hle : le (da + 1) db
    · have hle' : ¬ da + 1 ≤ db := fun h => by rw [(le_iff _ _).2 h] at hle; cases hle
      rw [hle] at s3
      simp only [cond_false] at s3
      exact ⟨cb, da + 1, db, hcb, by omega, by omega, by omega, s3, s1⟩
    · rw [hle] at s3
      simp only [cond_true] at s3
      exact ⟨cb, db, db, hcb, by omega, by omega, by omega, s3, s1⟩
  all_goals
    have a1 : lt ca cb = false := by rw [← Bool.not_eq_true, lt_iff]; omega
    have hc' : (bif lt cb ca then ca else cb) = ca := by
      cases h : lt cb ca
      · have : ¬ cb < ca := fun hh => by rw [(lt_iff _ _).2 hh] at h; cases h
        simp only [cond_false]; omega
      · rfl
    have he' : (bif lt cb ca then 0 else 0) = (0 : Int) := by cases lt cb ca <;> rfl
    have a3 : lt ca ca = false := by rw [← Bool.not_eq_true, lt_iff]; omega
    cases hd1 : lt db (da + 1)
    · -- a number that is too small
      have hd1' : ¬ db < da + 1 := fun hh => by rw [(lt_iff _ _).2 hh] at hd1; cases hd1
      have eR' : rcE ⟨r, l, cb, db, 0, 0⟩ (elt (msgV 5 l r ca (da + 1)) 0) = ⟨ca, db, 0, 0, 1, 7, ca, db⟩ := by
        rw [eR]; unfold recv; simp only [a1, hc', he', hd1, cond_true, cond_false, beq_self_eq_true, Bool.not_true, Bool.and_false, Bool.or_false]
      obtain ⟨s1, s2, s3⟩ := ans _ _ _ _ _ _ _ eR' (.inr (.inr rfl)) (by omega) (by omega)
      refine ⟨s2, .inr ⟨by omega, ?_⟩⟩
      rw [e75, e76] at s3
      have a4 : le (da + 1) db = true := (le_iff _ _).2 (by omega)
      unfold recv at s3
      simp only [a3, a4, cond_true, cond_false] at s3
      exact ⟨ca, db, db, hca, by omega, by omega, by omega, s3, s1⟩
    · have eR' : rcE ⟨r, l, cb, db, 0, 0⟩ (elt (msgV 5 l r ca (da + 1)) 0) = ⟨ca, da + 1, 2, 0, 1, 6, ca, da + 1⟩ := by
        rw [eR]; unfold recv; simp only [a1, hc', hd1, cond_true, cond_false, Bool.true_or]
      obtain ⟨s1, s2, s3⟩ := ans _ _ _ _ _ _ _ eR' (.inr (.inl rfl)) (by omega) (by omega)
      refine ⟨s2, .inl ⟨?_, s1⟩⟩
      rw [e65, e66] at s3
      unfold recv at s3
      have a5 : ((da + 1 : Int) != da + 1) = false := by simp
      have a6 : ((1 : Int) == 0) = false := rfl
      simp only [a3, a5, a6, cond_true, cond_false] at s3
      exact s3

end Go.Proofs.Ytgkgepgkeljclaa
