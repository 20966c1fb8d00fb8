/-
  The session: what the four steps do to an end.
-/
import Derived.Test.YtgkgepgkeljclaaSesE
namespace Go.Proofs.Ytgkgepgkeljclaa
open Go Go.Sx

structure Ses where
  a : Int
  b : Int
  c : Int
  d : Int
  e : Int
  f : Int

def Ses.chk (s : Ses) : Int := Ytgkgepgkeljclaa.chk s.a s.b s.c s.d s.e s.f

/-- is the session in order? -/
structure Ses.Ok (s : Ses) : Prop where
  a : 0 ≤ s.a ∧ s.a < 4
  b : 0 ≤ s.b ∧ s.b < 4
  ab : s.a ≠ s.b
  c : 0 ≤ s.c ∧ s.c ≤ 1073741824
  d : 0 ≤ s.d ∧ s.d ≤ 1073741824
  e : 0 ≤ s.e ∧ s.e ≤ 2
  f : 0 ≤ s.f ∧ s.f ≤ 1073741824
  ef : s.e = 1 ∨ s.f = 0

theorem chk_iff {a b c d e f : Int} : chk a b c d e f = 0 ↔ Ses.Ok ⟨a, b, c, d, e, f⟩ := by
  unfold chk
  have h1 : (!sit a || !sit b) = false ↔ (0 ≤ a ∧ a < 4) ∧ (0 ≤ b ∧ b < 4) := by
    rw [Bool.or_eq_false_iff]; simp only [Bool.not_eq_false', sit_iff]
  have h2 : (!tim c || !tim d) = false ↔ (0 ≤ c ∧ c ≤ 1073741824) ∧ (0 ≤ d ∧ d ≤ 1073741824) := by
    rw [Bool.or_eq_false_iff]; simp only [Bool.not_eq_false', tim_iff]
  have h3 : (lt e 0 || lt 2 e) = false ↔ 0 ≤ e ∧ e ≤ 2 := by
    rw [Bool.or_eq_false_iff, ← Bool.not_eq_true, ← Bool.not_eq_true, lt_iff, lt_iff]; omega
  have h4 : (!tim f || (e != 1 && f != 0)) = false ↔ (0 ≤ f ∧ f ≤ 1073741824) ∧ (e = 1 ∨ f = 0) := by
    rw [Bool.or_eq_false_iff]; simp only [Bool.not_eq_false', tim_iff, Bool.and_eq_false_iff, bne_eq_false_iff_eq]
  have h5 : (a == b) = false ↔ a ≠ b := by simp
  cases b1 : (!sit a || !sit b)
  · have k1 := h1.1 b1
    cases b2 : (a == b)
    · have k2 := h5.1 b2
      cases b3 : (!tim c || !tim d)
      · have k3 := h2.1 b3
        cases b4 : (lt e 0 || lt 2 e)
        · have k4 := h3.1 b4
          cases b5 : (!tim f || (e != 1 && f != 0))
          · have k5 := h4.1 b5
            simp only [cond_false, true_iff]
            exact ⟨k1.1, k1.2, k2, k3.1, k3.2, k4, k5.1, k5.2⟩
          · simp only [cond_true, cond_false]
            refine ⟨fun h => (by cases h), fun h => ?_⟩
            have := h4.2 ⟨h.f, h.ef⟩
            rw [b5] at this; cases this
        · simp only [cond_true, cond_false]
          refine ⟨fun h => (by cases h), fun h => ?_⟩
          have := h3.2 h.e
          rw [b4] at this; cases this
      · simp only [cond_true, cond_false]
        refine ⟨fun h => (by cases h), fun h => ?_⟩
        have := h2.2 ⟨h.c, h.d⟩
        rw [b3] at this; cases this
    · simp only [cond_true, cond_false]
      refine ⟨fun h => (by cases h), fun h => ?_⟩
      have := h5.2 h.ab
      rw [b2] at this; cases this
  · simp only [cond_true]
    refine ⟨fun h => (by cases h), fun h => ?_⟩
    have := h1.2 ⟨h.a, h.b⟩
    rw [b1] at this; cases this

theorem Ses.ok_chk {s : Ses} : s.chk = 0 ↔ s.Ok := chk_iff

/-- the end behind Dial -/
def dialS (s : Ses) (n m : Int) : Ses :=
  ⟨bif dlO s.a s.b s.c s.d s.e s.f n m then s.a else 0, bif dlO s.a s.b s.c s.d s.e s.f n m then s.b else 0, bif dlO s.a s.b s.c s.d s.e s.f n m then s.c else 0, bif dlO s.a s.b s.c s.d s.e s.f n m then IntKind.i64.wrap (s.d + 1) else 0, bif dlO s.a s.b s.c s.d s.e s.f n m then 1 else 0, bif dlO s.a s.b s.c s.d s.e s.f n m then IntKind.i64.wrap (n + m) else 0⟩
/-- the end behind Expire -/
def expS (s : Ses) (n m : Int) : Ses :=
  ⟨s.a, s.b, s.c, s.d, bif xpN s.a s.b s.c s.d s.e s.f n then s.e else bif dln n m then s.e else 0, bif xpN s.a s.b s.c s.d s.e s.f n then s.f else bif dln n m then IntKind.i64.wrap (n + m) else 0⟩
/-- the end behind Close -/
def closeS (s : Ses) : Ses := ⟨s.a, s.b, s.c, s.d, bif clN s.a s.b s.c s.d s.e s.f then s.e else 0, bif clN s.a s.b s.c s.d s.e s.f then s.f else 0⟩
/-- the result of Receive -/
def rcS (s : Ses) (k fr to nu ep : Int) : R := rcP s.a s.b s.c s.d s.e s.f k fr to nu ep
def recvS (s : Ses) (k fr to nu ep : Int) : Ses := ⟨s.a, s.b, (rcS s k fr to nu ep).c, (rcS s k fr to nu ep).d, (rcS s k fr to nu ep).e, (rcS s k fr to nu ep).f⟩

/-- what a step may do to an end -/
structure Goes (s t : Ses) : Prop where
  ok : t.Ok
  a : t.a = s.a
  b : t.b = s.b
  c : s.c ≤ t.c
  d : s.d ≤ t.d
  opn : t.e = 2 → (s.e = 2 ∧ t.d = s.d) ∨ s.d < t.d ∨ s.e = 1
  dial : t.e = 1 → s.d < t.d ∨ s.e = 1

theorem Goes.refl {s : Ses} (h : s.Ok) : Goes s s := ⟨h, rfl, rfl, Int.le_refl _, Int.le_refl _, fun h => .inl ⟨h, rfl⟩, fun h => .inr h⟩

theorem dlO_iff {s : Ses} {n m : Int} : dlO s.a s.b s.c s.d s.e s.f n m = true ↔ s.Ok ∧ s.e = 0 ∧ dln n m = true ∧ s.d ≠ 1073741824 := by
  unfold dlO
  rw [← Ses.ok_chk]
  unfold Ses.chk
  cases h1 : (chk s.a s.b s.c s.d s.e s.f != 0)
  · have e1 : chk s.a s.b s.c s.d s.e s.f = 0 := by simpa using h1
    cases h2 : (s.e != 0)
    · have e2 : s.e = 0 := by simpa using h2
      cases h3 : dln n m
      · simp
      · cases h4 : (s.d == 1073741824)
        · have e4 : s.d ≠ 1073741824 := by simpa using h4
          simp only [cond_false, Bool.not_true, true_iff]
          exact ⟨e1, e2, trivial, e4⟩
        · have e4 : s.d = 1073741824 := by simpa using h4
          simp [e4]
    · have e2 : s.e ≠ 0 := by simpa using h2
      simp [e2]
  · have e1 : chk s.a s.b s.c s.d s.e s.f ≠ 0 := by simpa using h1
    simp [e1]

theorem dlO_dlE {s : Ses} {n m : Int} (h : dlE s.a s.b s.c s.d s.e s.f n m = 0) : dlO s.a s.b s.c s.d s.e s.f n m = true := by
  unfold dlE at h
  unfold dlO
  cases h1 : (chk s.a s.b s.c s.d s.e s.f != 0)
  · rw [h1] at h
    cases h2 : (s.e != 0)
    · rw [h2] at h
      cases h3 : (!dln n m)
      · rw [h3] at h
        cases h4 : (s.d == 1073741824)
        · rfl
        · rw [h4] at h; simp at h
      · rw [h3] at h; simp at h
    · rw [h2] at h; simp at h
  · rw [h1] at h
    simp only [cond_true] at h
    rw [h] at h1; simp at h1

theorem dln_iff {n m : Int} : dln n m = true ↔ (0 ≤ n ∧ n ≤ 1073741824) ∧ (0 ≤ m ∧ m ≤ 1073741824) ∧ n + m ≤ 1073741824 := by
  unfold dln
  simp only [Bool.and_eq_true, tim_iff]
  constructor
  · rintro ⟨⟨h1, h2⟩, h3⟩
    rw [w64_id (by omega) (by omega)] at h3
    omega
  · rintro ⟨h1, h2, h3⟩
    rw [w64_id (by omega) (by omega)]
    omega

theorem dial_goes {s : Ses} {n m : Int} (h : dlE s.a s.b s.c s.d s.e s.f n m = 0) : Goes s (dialS s n m) := by
  have ho := dlO_dlE h
  obtain ⟨hk, h2, h3, h4⟩ := dlO_iff.1 ho
  have h3 := dln_iff.1 h3
  have e1 : IntKind.i64.wrap (s.d + 1) = s.d + 1 := w64_id (by have := hk.d; omega) (by have := hk.d; omega)
  have e2 : IntKind.i64.wrap (n + m) = n + m := w64_id (by omega) (by omega)
  unfold dialS
  rw [ho, e1, e2]
  simp only [cond_true]
  have := hk.d
  refine ⟨⟨hk.a, hk.b, hk.ab, hk.c, ?_, ?_, ?_, .inl rfl⟩, rfl, rfl, Int.le_refl _, ?_, fun h => ?_, fun _ => .inl ?_⟩ <;> simp only at * <;> omega

theorem exp_goes {s : Ses} (hk : s.Ok) (n m : Int) : Goes s (expS s n m) := by
  unfold expS
  cases h1 : xpN s.a s.b s.c s.d s.e s.f n
  · have he : s.e = 1 := by
      unfold xpN at h1
      simp only [Bool.or_eq_false_iff, bne_eq_false_iff_eq] at h1
      exact h1.1.2
    cases h2 : dln n m
    · simp only [cond_false]
      refine ⟨⟨hk.a, hk.b, hk.ab, hk.c, hk.d, ?_, ?_, .inr rfl⟩, rfl, rfl, Int.le_refl _, Int.le_refl _, fun h => ?_, fun h => ?_⟩ <;> simp only at * <;> omega
    · have h3 := dln_iff.1 h2
      have e2 : IntKind.i64.wrap (n + m) = n + m := w64_id (by omega) (by omega)
      rw [e2]
      simp only [cond_false, cond_true]
      refine ⟨⟨hk.a, hk.b, hk.ab, hk.c, hk.d, hk.e, ?_, .inl he⟩, rfl, rfl, Int.le_refl _, Int.le_refl _, fun h => .inr (.inr he), fun h => .inr he⟩
      simp only; omega
  · simp only [cond_true]
    exact Goes.refl hk

theorem close_goes {s : Ses} (hk : s.Ok) : Goes s (closeS s) := by
  unfold closeS
  cases h1 : clN s.a s.b s.c s.d s.e s.f
  · simp only [cond_false]
    refine ⟨⟨hk.a, hk.b, hk.ab, hk.c, hk.d, ?_, ?_, .inr rfl⟩, rfl, rfl, Int.le_refl _, Int.le_refl _, fun h => ?_, fun h => ?_⟩ <;> simp only at * <;> omega
  · simp only [cond_true]
    exact Goes.refl hk

theorem rj_false {a b c d e f k fr to nu ep : Int} (h : rjP a b c d e f k fr to nu ep = false) : Ses.Ok ⟨a, b, c, d, e, f⟩ ∧ fr = b ∧ to = a ∧ (0 ≤ ep ∧ ep ≤ 1073741824) ∧ (0 ≤ nu ∧ nu ≤ 1073741824) := by
  unfold rjP at h
  simp only [Bool.or_eq_false_iff, bne_eq_false_iff_eq, Bool.not_eq_false'] at h
  exact ⟨chk_iff.1 h.1.1.1.1.1.1, h.1.1.1.1.1.2, h.1.1.1.1.2, tim_iff.1 h.1.1.1.2, tim_iff.1 h.1.1.2⟩

theorem recv_goes {s : Ses} (hk : s.Ok) (k fr to nu ep : Int) : Goes s (recvS s k fr to nu ep) := by
  have hc := hk.c
  have hd := hk.d
  have he := hk.e
  have hf := hk.f
  have hef := hk.ef
  have mk : ∀ c' d' e' f' : Int, (0 ≤ c' ∧ c' ≤ 1073741824) → (0 ≤ d' ∧ d' ≤ 1073741824) → (0 ≤ e' ∧ e' ≤ 2) → (0 ≤ f' ∧ f' ≤ 1073741824) → (e' = 1 ∨ f' = 0) → s.c ≤ c' → s.d ≤ d' →
      (e' = 2 → (s.e = 2 ∧ d' = s.d) ∨ s.d < d' ∨ s.e = 1) → (e' = 1 → s.d < d' ∨ s.e = 1) → Goes s ⟨s.a, s.b, c', d', e', f'⟩ :=
    fun c' d' e' f' h1 h2 h3 h4 h5 h6 h7 h8 h9 => ⟨⟨hk.a, hk.b, hk.ab, h1, h2, h3, h4, h5⟩, rfl, rfl, h6, h7, h8, h9⟩
  unfold recvS rcS rcP recv
  cases hj : rjP s.a s.b s.c s.d s.e s.f k fr to nu ep
  · obtain ⟨_, _, _, hep, hnu⟩ := rj_false hj
    simp only [cond_false]
    cases h1 : lt ep s.c
    · have h1' : s.c ≤ ep := by
        have : ¬ ep < s.c := fun h => by rw [(lt_iff _ _).2 h] at h1; cases h1
        omega
      have hc' : 0 ≤ (bif lt s.c ep then ep else s.c) ∧ (bif lt s.c ep then ep else s.c) ≤ 1073741824 ∧ s.c ≤ (bif lt s.c ep then ep else s.c) := by
        cases lt s.c ep <;> simp only [cond_true, cond_false] <;> omega
      have he' : ((bif lt s.c ep then 0 else s.e) = 0 ∨ (bif lt s.c ep then 0 else s.e) = s.e) ∧ (0 ≤ (bif lt s.c ep then 0 else s.f) ∧ (bif lt s.c ep then 0 else s.f) ≤ 1073741824) ∧ ((bif lt s.c ep then 0 else s.e) = 1 ∨ (bif lt s.c ep then 0 else s.f) = 0) := by
        cases lt s.c ep
        · exact ⟨.inr rfl, hf, hef⟩
        · exact ⟨.inl rfl, ⟨by simp, by simp⟩, .inr rfl⟩
      generalize (bif lt s.c ep then ep else s.c) = c' at *
      generalize (bif lt s.c ep then 0 else s.e) = e' at *
      generalize (bif lt s.c ep then 0 else s.f) = f' at *
      obtain ⟨he1, hf1, hef1⟩ := he'
      cases hh : (IntKind.i64.wrap (k - 5) == 0)
      · cases hw : (IntKind.i64.wrap (k - 5) == 0 + 1)
        · simp only [cond_false]
          cases hl : le s.d nu
          · simp only [cond_false]
            exact mk _ _ _ _ (by omega) hd (by omega) hf1 hef1 (by omega) (by omega) (by omega) (by omega)
          · have := (le_iff _ _).1 hl
            simp only [cond_true]
            exact mk _ _ _ _ (by omega) hnu (by omega) (by omega) (.inr rfl) (by omega) (by omega) (by omega) (by omega)
        · simp only [cond_false, cond_true]
          cases hn : (nu != s.d)
          · simp only [cond_false]
            cases hz : (e' == 0)
            · have : e' ≠ 0 := by simpa using hz
              simp only [cond_false]
              exact mk _ _ _ _ (by omega) hd (by omega) (by omega) (.inr rfl) (by omega) (by omega) (by omega) (by omega)
            · simp only [cond_true]
              exact mk _ _ _ _ (by omega) hd (by omega) hf1 hef1 (by omega) (by omega) (by omega) (by omega)
          · simp only [cond_true]
            exact mk _ _ _ _ (by omega) hd (by omega) hf1 hef1 (by omega) (by omega) (by omega) (by omega)
      · simp only [cond_true, cond_false]
        cases hn : (lt s.d nu || (nu == s.d && !(e' == 0)))
        · simp only [cond_false]
          cases hz : (e' == 0)
          · simp only [cond_false]
            exact mk _ _ _ _ (by omega) hd (by omega) hf1 hef1 (by omega) (by omega) (by omega) (by omega)
          · simp only [cond_true]
            exact mk _ _ _ _ (by omega) hd (by omega) hf1 hef1 (by omega) (by omega) (by omega) (by omega)
        · simp only [cond_true]
          simp only [Bool.or_eq_true, lt_iff, Bool.and_eq_true, beq_iff_eq, Bool.not_eq_true', beq_eq_false_iff_ne, ne_eq] at hn
          exact mk _ _ _ _ (by omega) hnu (by omega) (by omega) (.inr rfl) (by omega) (by omega) (by omega) (by omega)
    · simp only [cond_true]
      exact Goes.refl hk
  · simp only [cond_true]
    exact Goes.refl hk

end Go.Proofs.Ytgkgepgkeljclaa
