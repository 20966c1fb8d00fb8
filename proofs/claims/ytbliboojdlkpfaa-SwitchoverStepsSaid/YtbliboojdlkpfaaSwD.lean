/-
  The planned change of the primary: the reference's Step.
-/
import Derived.Test.YtbliboojdlkpfaaSwB
namespace Go.Proofs.Ytbliboojdlkpfaa
open Go Go.Sx Go.RowKit Classical

set_option maxRecDepth 100000

/-- a site is replaced, in a copy -/
def Ses.cop (l : Ses) (i : Nat) (cs : List CV) : Ses := ⟨0 + l.n, (Val.cat 0 (Val.ofFlat 8 []) l.ρ).upds i 0 cs⟩

noncomputable def sucR (p : Prc) (l : Ses) (i j v : Int) : Tree AV :=
  let A := l.at i.toNat
  let B := l.at j.toNat
  .need (inRange i l.n) (.need (inRange j l.n)
    (.br (p.s == 0) (.br (A.r != 1) (.leaf (thr p l 18)) (.br (v != A.p) (.leaf (thr p l 22)) (.leaf (thr { p with c := v, s := 1 } l 0))))
    (.br (p.s == 1) (.br (v != B.p || lt p.c v) (.leaf (thr p l 22)) (.br (lt v p.c) (.leaf (thr p l 0)) (.need (dec (fewN A.n)) (.br (!eqL ⟨A.ln, B.ln⟩) (.leaf (thr p l 19)) (.leaf (thr { p with s := 2 } l 0))))))
    (.br (p.s == 2) (.br (lt 1073741824 v) (.leaf (thr p l 2)) (.br (le v A.e || le v B.e) (.leaf (thr p l 13)) (.leaf (thr { p with e := v, s := 3 } l 0))))
    (.br (p.s == 3) (.br (A.p != p.c || B.p != p.c) (.leaf (thr p l 22)) (.need (dec (small A.n)) (.br (demoE A p.e p.t != 0) (.leaf (thr p l (demoE A p.e p.t))) (.need (Nat.ble ((0 + l.n) * 72) 140737488355328) (.need (inRange i (0 + l.n)) (.leaf (thr { p with s := 4 } (l.cop i.toNat (okC (demoE A p.e p.t) (demo A p.e p.t))) 0)))))))
    (.br (p.s == 4) (.br (B.p != p.c) (.leaf (thr p l 22)) (.need (dec (small B.n)) (.br (proE B p.e != 0) (.leaf (thr p l (proE B p.e))) (.need (Nat.ble ((0 + l.n) * 72) 140737488355328) (.need (inRange j (0 + l.n)) (.leaf (thr { p with s := 5, d := true } (l.cop j.toNat (okC (proE B p.e) (pro B p.e))) 0)))))))
      (.leaf (thr p l 0))))))))

theorem sucRT (n : Nat) (ρ : Val) (k f t s e c v i j : Int) (d x : Bool) : hcTreeP Try.prog HS XS 10 42 [.agg [I k, I f, I t, I s, I e, I c, .bool d, .bool x], .c (.sl siSh n ρ), .c (I i), .c (I j), .c (I v)] = sucR ⟨k, f, t, s, e, c, d, x⟩ ⟨n, ρ⟩ i j v := by kernel_rfl

theorem cop_le {q : Prc} {l : Ses} {a : Nat} {x : Sit} {k : Int} : leA (thr q (l.cop a (okC 0 x)) k) (thr q (l.set a x) k) := by
  have e : ∀ i f, (((Val.cat 0 (Val.ofFlat 8 []) l.ρ).upds a 0 x.cs).at i).at f = ((l.ρ.upds a 0 x.cs).at i).at f := by
    intro i f
    rw [at_upds, at_upds]
    split
    · rfl
    · rw [cat_at, if_neg (Nat.not_lt_zero i), Nat.sub_zero]
  unfold thr Ses.cop Ses.set
  rw [okC_0]
  simp only [Nat.zero_add]
  exact leA_tup (.cons le1.refl (.cons (.c (leC_ext fun i f s _ _ => by rw [e])) (.cons le1.refl .nil)))

def sucLi (p : Prc) (l : Ses) (a b : Nat) : Ses := bif p.s == 3 then l.set a (demo (l.at a) p.e p.t) else bif p.s == 4 then l.set b (pro (l.at b) p.e) else l
def sE (p : Prc) (l : Ses) (i j v : Int) : Int := sucE p (l.at i.toNat) (l.at j.toNat) v
def sP (p : Prc) (l : Ses) (i j v : Int) : Prc := bif sE p l i j v == 0 then sucP p v else p
def sL (p : Prc) (l : Ses) (i j v : Int) : Ses := bif sE p l i j v == 0 then sucLi p l i.toNat j.toNat else l

def sucOk (p : Prc) (l : Ses) (i j : Int) : Prop := smallS l ∧ l.n ≤ 1000 ∧ inRange i l.n = true ∧ inRange j l.n = true ∧ (p.s = 0 ∨ p.s = 1 ∨ p.s = 2 ∨ p.s = 3 ∨ p.s = 4)

theorem inRange_lt {i : Int} {n : Nat} (hn : n ≤ 1000) (h : inRange i n = true) : i.toNat < n := by
  unfold inRange at h
  rw [Bool.and_eq_true, le_iff, lt_iff] at h
  have e : toInt64 n = (n : Int) := rfl
  rw [e] at h
  omega

theorem sucR_sel {p : Prc} {l : Ses} {i j v : Int} (h : sucOk p l i j) : ∃ r, (sucR p l i j v).sel = some r ∧ leA r (thr (sP p l i j v) (sL p l i j v) (sE p l i j v)) := by
  obtain ⟨hsm, hn, hi, hj, hs⟩ := h
  have hA : small (l.at i.toNat).n := hsm.2 _ (inRange_lt hn hi)
  have hB : small (l.at j.toNat).n := hsm.2 _ (inRange_lt hn hj)
  have dA := dec_iff.2 hA
  have dB := dec_iff.2 hB
  have fA := small_few hA
  have hble : Nat.ble ((0 + l.n) * 72) 140737488355328 = true := Nat.ble_eq_true_of_le (by omega)
  have hi' : inRange i (0 + l.n) = true := by rw [Nat.zero_add]; exact hi
  have hj' : inRange j (0 + l.n) = true := by rw [Nat.zero_add]; exact hj
  unfold sucR sP sL sE sucE sucP sucLi
  rcases hs with h | h | h | h | h
  · have h0 : (p.s == 0) = true := by rw [h]; rfl
    have h3 : (p.s == 3) = false := by rw [h]; rfl
    have h4 : (p.s == 4) = false := by rw [h]; rfl
    simp only [Tree.sel, hi, hj, h0, h3, h4, cond_true, cond_false, bne, s0E]
    cases (l.at i.toNat).r == 1
    · exact ⟨_, rfl, leA.refl⟩
    · cases v == (l.at i.toNat).p
      · exact ⟨_, rfl, leA.refl⟩
      · exact ⟨_, rfl, leA.refl⟩
  · have h0 : (p.s == 0) = false := by rw [h]; rfl
    have h1 : (p.s == 1) = true := by rw [h]; rfl
    have h3 : (p.s == 3) = false := by rw [h]; rfl
    have h4 : (p.s == 4) = false := by rw [h]; rfl
    simp only [Tree.sel, hi, hj, h0, h1, h3, h4, cond_true, cond_false, bne, s1E, le_not v p.c, fA]
    cases v == (l.at j.toNat).p
    · exact ⟨_, rfl, leA.refl⟩
    · cases lt p.c v
      · cases lt v p.c
        · cases eqL ⟨(l.at i.toNat).ln, (l.at j.toNat).ln⟩
          · exact ⟨_, rfl, leA.refl⟩
          · exact ⟨_, rfl, leA.refl⟩
        · exact ⟨_, rfl, leA.refl⟩
      · exact ⟨_, rfl, leA.refl⟩
  · have h0 : (p.s == 0) = false := by rw [h]; rfl
    have h1 : (p.s == 1) = false := by rw [h]; rfl
    have h2 : (p.s == 2) = true := by rw [h]; rfl
    have h3 : (p.s == 3) = false := by rw [h]; rfl
    have h4 : (p.s == 4) = false := by rw [h]; rfl
    simp only [Tree.sel, hi, hj, h0, h1, h2, h3, h4, cond_true, cond_false, bne, s2E, le_not v 1073741824, lt_not (l.at i.toNat).e v, lt_not (l.at j.toNat).e v]
    cases lt 1073741824 v
    · cases le v (l.at i.toNat).e
      · cases le v (l.at j.toNat).e
        · exact ⟨_, rfl, leA.refl⟩
        · exact ⟨_, rfl, leA.refl⟩
      · exact ⟨_, rfl, leA.refl⟩
    · exact ⟨_, rfl, leA.refl⟩
  · have h0 : (p.s == 0) = false := by rw [h]; rfl
    have h1 : (p.s == 1) = false := by rw [h]; rfl
    have h2 : (p.s == 2) = false := by rw [h]; rfl
    have h3 : (p.s == 3) = true := by rw [h]; rfl
    simp only [Tree.sel, hi, hj, h0, h1, h2, h3, cond_true, cond_false, bne, s3E, dA, hble, hi']
    cases (l.at i.toNat).p == p.c
    · exact ⟨_, rfl, leA.refl⟩
    · cases (l.at j.toNat).p == p.c
      · exact ⟨_, rfl, leA.refl⟩
      · simp only [Bool.not_true, Bool.or_self, Bool.and_self, cond_false]
        cases hz : demoE (l.at i.toNat) p.e p.t == 0
        · simp only [Bool.not_false, cond_false, cond_true]
          exact ⟨_, rfl, leA.refl⟩
        · have hz0 : demoE (l.at i.toNat) p.e p.t = 0 := by simpa using hz
          simp only [Bool.not_true, cond_false, cond_true, hz0]
          exact ⟨_, rfl, cop_le⟩
  · have h0 : (p.s == 0) = false := by rw [h]; rfl
    have h1 : (p.s == 1) = false := by rw [h]; rfl
    have h2 : (p.s == 2) = false := by rw [h]; rfl
    have h3 : (p.s == 3) = false := by rw [h]; rfl
    have h4 : (p.s == 4) = true := by rw [h]; rfl
    simp only [Tree.sel, hi, hj, h0, h1, h2, h3, h4, cond_true, cond_false, bne, s4E, dB, hble, hj']
    cases (l.at j.toNat).p == p.c
    · exact ⟨_, rfl, leA.refl⟩
    · simp only [Bool.not_true, cond_false]
      cases hz : proE (l.at j.toNat) p.e == 0
      · simp only [Bool.not_false, cond_false, cond_true]
        exact ⟨_, rfl, leA.refl⟩
      · have hz0 : proE (l.at j.toNat) p.e = 0 := by simpa using hz
        simp only [Bool.not_true, cond_false, cond_true, hz0]
        exact ⟨_, rfl, cop_le⟩

noncomputable def Gsuc : List A1 → Option (Bool × AV)
  | [.agg [.int .i64 k, .int .i64 f, .int .i64 t, .int .i64 s, .int .i64 e, .int .i64 c, .bool d, .bool x], .c (.sl [.int .i64, .int .i64, .int .i64, .int .i64, .sl [.int .i64, .int .i64, .int .i64], .int .i64, .bool, .bool] n ρ), .c (.int .i64 i), .c (.int .i64 j), .c (.int .i64 v)] =>
    some (dec (sucOk ⟨k, f, t, s, e, c, d, x⟩ ⟨n, ρ⟩ i j), thr (sP ⟨k, f, t, s, e, c, d, x⟩ ⟨n, ρ⟩ i j v) (sL ⟨k, f, t, s, e, c, d, x⟩ ⟨n, ρ⟩ i j v) (sE ⟨k, f, t, s, e, c, d, x⟩ ⟨n, ρ⟩ i j v))
  | _ => none

theorem uSuc : UcOne Try.prog 42 (nG Gsuc) := ucOneP_of_tree hS xS 10 42 fun args r h => by
  unfold Gsuc at h; split at h
  · rename_i k f t s e c d x n ρ i j v
    obtain ⟨hp, rfl⟩ := Prod.mk.inj (Option.some.inj h)
    obtain ⟨r, hr, hle⟩ := sucR_sel (v := v) (dec_iff.1 hp)
    exact ⟨_, sucRT n ρ k f t s e c v i j d x, all_sel_to hr hle⟩
  · cases h

noncomputable abbrev HU2 : Hd := ⟨HS.pc, (42, nG Gsuc) :: HS.hc, [], HS.mc⟩
theorem hU2 : HdOk Try.prog HU2 := hS.ucCons uSuc

/-! ### Step -/

noncomputable def stpR (p : Prc) (l : Ses) (ok : Bool) (v : Int) : Tree AV :=
  let i := findI l p.f
  let j := findI l p.t
  .br (chkP p != 0) (.leaf (thr0 3)) (.need (dec (fewS l)) (.br (ckE l != 0) (.leaf (thr0 (ckE l))) (.need (dec (fewN l.n)) (.need (dec (fewN l.n)) (.br (lt i 0 || lt j 0) (.leaf (thr0 7)) (.br (p.d || p.x) (.leaf (thr0 12))
    (.br (!ok) (.leaf (thr { p with x := le p.s 3 } l 0)) (.need (dec (sucOk p l i j)) (.br (sE p l i j v != 0) (.leaf (thr0 (sE p l i j v))) (.leaf (thr (sP p l i j v) (sL p l i j v) 0)))))))))))

theorem stpRT (n : Nat) (ρ : Val) (k f t s e c v : Int) (d x ok : Bool) : hcTree Try.prog HU2 10 20 [.agg [I k, I f, I t, I s, I e, I c, .bool d, .bool x], .c (.sl siSh n ρ), .c (.bool ok), .c (I v)] = stpR ⟨k, f, t, s, e, c, d, x⟩ ⟨n, ρ⟩ ok v := by kernel_rfl

theorem stpR_sel {p : Prc} {l : Ses} (hsm : smallS l) (hn : l.n ≤ 1000) (ok : Bool) (v : Int) : (stpR p l ok v).sel = some (bif stpE p l ok v == 0 then thr (bif ok then sucP p v else { p with x := le p.s 3 }) (bif ok then sucL p l else l) 0 else thr0 (stpE p l ok v)) := by
  have hp : dec (fewS l) = true := dec_iff.2 (small_fewS hsm)
  have hf : dec (fewN l.n) = true := fewN_dec hsm
  unfold stpR stpE preE
  cases h1 : chkP p == 0
  · have h3 : chkP p = 3 := by
      unfold chkP at h1 ⊢
      cases hf : fmd p
      · rfl
      · rw [hf] at h1; cases h1
    rw [h3]; rfl
  · simp only [Tree.sel, bne, hp, hf, h1, Bool.not_true, cond_false, cond_true]
    cases h2 : ckE l == 0
    · simp only [Bool.not_false, cond_true, h2]; rfl
    · simp only [Bool.not_true, cond_false]
      cases h3 : hasN l p.f
      · rw [findI_no h3]; rfl
      · cases h4 : hasN l p.t
        · rw [findI_no h4, (findI_yes h3).2.1]; rfl
        · obtain ⟨ef, hf0, hfr, _⟩ := findI_yes h3
          obtain ⟨et, ht0, htr, _⟩ := findI_yes h4
          have tf : (findI l p.f).toNat = idxN l p.f := by rw [ef]; rfl
          have tt : (findI l p.t).toNat = idxN l p.t := by rw [et]; rfl
          have e1 : sE p l (findI l p.f) (findI l p.t) v = sucE p (l.by p.f) (l.by p.t) v := by unfold sE; rw [tf, tt]; rfl
          have e2 : sL p l (findI l p.f) (findI l p.t) v = bif sucE p (l.by p.f) (l.by p.t) v == 0 then sucL p l else l := by
            unfold sL
            rw [e1, tf, tt]; rfl
          have e3 : sP p l (findI l p.f) (findI l p.t) v = bif sucE p (l.by p.f) (l.by p.t) v == 0 then sucP p v else p := by
            unfold sP
            rw [e1]
          rw [hf0, ht0, e1, e2, e3]
          simp only [Bool.or_self, Bool.and_self, Bool.not_true, cond_false]
          cases hd : p.d
          · cases hx : p.x
            · simp only [Bool.or_self, Bool.and_self, Bool.not_true, Bool.not_false, cond_false]
              cases ok
              · rfl
              · have hfm : fmd p = true := fmd_of (by simp [bne, h1])
                have hs : p.s = 0 ∨ p.s = 1 ∨ p.s = 2 ∨ p.s = 3 ∨ p.s = 4 := by
                  rcases fmd_step hfm with h | h | h | h | h | h
                  · exact .inl h
                  · exact .inr (.inl h)
                  · exact .inr (.inr (.inl h))
                  · exact .inr (.inr (.inr (.inl h)))
                  · exact .inr (.inr (.inr (.inr h)))
                  · rw [fmd_done hfm h] at hd; cases hd
                have hok : dec (sucOk p l (findI l p.f) (findI l p.t)) = true := dec_iff.2 ⟨hsm, hn, hfr, htr, hs⟩
                rw [hok]
                show _ = some (bif sucE p (l.by p.f) (l.by p.t) v == 0 then thr (sucP p v) (sucL p l) 0 else thr0 (sucE p (l.by p.f) (l.by p.t) v))
                cases sucE p (l.by p.f) (l.by p.t) v == 0
                · rfl
                · rfl
            · rfl
          · cases hx : p.x <;> rfl

noncomputable def Gstp2 : List A1 → Option (Bool × AV)
  | [.agg [.int .i64 k, .int .i64 f, .int .i64 t, .int .i64 s, .int .i64 e, .int .i64 c, .bool d, .bool x], .c (.sl [.int .i64, .int .i64, .int .i64, .int .i64, .sl [.int .i64, .int .i64, .int .i64], .int .i64, .bool, .bool] n ρ), .c (.bool ok), .c (.int .i64 v)] =>
    some (dec (smallS ⟨n, ρ⟩ ∧ n ≤ 1000), thr (stpP ⟨k, f, t, s, e, c, d, x⟩ ⟨n, ρ⟩ ok v) (stpL ⟨k, f, t, s, e, c, d, x⟩ ⟨n, ρ⟩ ok v) (stpE ⟨k, f, t, s, e, c, d, x⟩ ⟨n, ρ⟩ ok v))
  | _ => none

theorem uStepR : UcOne Try.prog 20 (nG Gstp2) := ucOne_of_tree hU2 10 20 fun args r h => by
  unfold Gstp2 at h; split at h
  · rename_i k f t s e c d x n ρ ok v
    obtain ⟨hp, rfl⟩ := Prod.mk.inj (Option.some.inj h)
    have hp := dec_iff.1 hp
    exact ⟨_, stpRT n ρ k f t s e c v d x ok, all_sel_to (stpR_sel hp.1 hp.2 ok v) (thr_of _ _ _ _)⟩
  · cases h

noncomputable abbrev HL5 : Hd := ⟨HL.pc, (20, nG Gstp2) :: HL.hc, [], HL.mc⟩
theorem hL5 : HdOk Try.prog HL5 := hL.ucCons uStepR

theorem fewL_n {l : Ses} (h : fewL l = true) : l.n ≤ 1000 := by
  unfold fewL at h
  cases ha : anyB (lng l) (min10 l.n)
  · rw [ha] at h
    have h : le (toInt64 l.n) 10 = true := h
    rw [le_iff] at h
    have h : (l.n : Int) ≤ 10 := h
    omega
  · rw [ha] at h; cases h

end Go.Proofs.Ytbliboojdlkpfaa
/-
  The planned change of the primary: Step is the reference's.
-/
namespace Go.Proofs.Ytbliboojdlkpfaa
open Go Go.Sx Go.RowKit Classical

set_option maxRecDepth 100000

theorem fewS_nil (ρ : Val) : fewS ⟨0, ρ⟩ := ⟨by show fewN 0; unfold fewN; omega, fun i hi => by exact absurd hi (Nat.not_lt_zero i)⟩

theorem set_few {l : Ses} (h : smallS l) {a : Nat} {x : Sit} (hx : a < l.n → small x.n) : fewS (l.set a x) := by
  refine ⟨h.1, fun i hi => dec_iff.1 (small_few ?_)⟩
  have hi : i < l.n := hi
  by_cases e : i = a
  · subst e
    rw [(set_same l i x).n]
    exact hx hi
  · rw [set_other l a i x e]
    exact h.2 i hi

theorem sucL_few {p : Prc} {l : Ses} (h : smallS l) : fewS (sucL p l) := by
  unfold sucL
  cases p.s == 3
  · cases p.s == 4
    · exact small_fewS h
    · exact set_few h fun ha => h.2 _ ha
  · exact set_few h fun ha => h.2 _ ha

theorem stpL_few {p : Prc} {l : Ses} (h : smallS l) (ok : Bool) (v : Int) : fewS (stpL p l ok v) := by
  unfold stpL
  cases !(stpE p l ok v == 0)
  · cases ok
    · exact small_fewS h
    · exact sucL_few h
  · exact fewS_nil l.ρ

theorem argR_eq (ρ : Val) : argOf Try.prog 39 [.bool, .int .i64] ρ = .agg [.bool ((ρ.at 0).B []), I ((ρ.at 1).N [])] := by kernel_rfl

theorem law5 (p : Prc) (l : Ses) (ok : Bool) (v : Int) {F : Nat → Prop} {W : World} {vs : List Value} (h : All2 (A1.Rel F W []) [p.cv, .c (.sl siSh l.n l.ρ), .agg [.bool ok, I v]] vs) :
    Calls Try.prog 5 vs.toArray W (fun e W' => e = .returned (.bool true) ∧ Below W.heap.size W W') := by
  refine law_of_tree hL5 12 5 (u := .br (!fewL l) (.leaf (bT true)) (.need (dec (smallS l)) (.need (dec (smallS l ∧ l.n ≤ 1000)) (sameT (stpP p l ok v) (stpL p l ok v) (stpE p l ok v))))) (by kernel_rfl) ⟨fun _ => rfl, fun hf => ?_⟩ h
  have hf : fewL l = true := by simpa using hf
  have hs := fewL_small hf
  exact ⟨dec_iff.2 hs, dec_iff.2 ⟨hs, fewL_n hf⟩, sameT_all (stpL_few hs ok v)⟩

end Go.Proofs.Ytbliboojdlkpfaa
