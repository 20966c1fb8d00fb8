/-
  The evaluator's soundness (part E): indexes, addresses, loads; every operation without an effect.
-/
import Derived.Test.YtjiennnkbompkaaEngD
import Derived.Laws.BytesString
namespace Go.Sx
open Go

section
variable {P : Program} {F : Nat → Prop} {w : World} {bs : List BI}

theorem sel_bind {α β : Type} {t : Tree α} {f : α → Tree β} {b : β} (h : (t.bind f).sel = some b) : ∃ a, t.sel = some a ∧ (f a).sel = some b := by
  induction t with
  | leaf a => exact ⟨a, rfl, h⟩
  | br c t e iht ihe =>
    simp only [Tree.bind, Tree.sel] at h ⊢
    cases c
    · exact ihe h
    · exact iht h
  | need c t ih =>
    simp only [Tree.bind, Tree.sel] at h ⊢
    cases c
    · simp at h
    · exact ih h
  | fail => simp [Tree.bind, Tree.sel] at h

theorem sel_ofOpt {α : Type} {o : Option α} {a : α} (h : (Tree.ofOpt o).sel = some a) : o = some a := by
  cases o with
  | none => simp [Tree.ofOpt, Tree.sel] at h
  | some x => simpa [Tree.ofOpt, Tree.sel] using h

theorem pickAt_sel {α : Type} (i : Int) : ∀ (l : List α) (j : Int) (a : α), (pickAt i j l).sel = some a → j ≤ i → i < j + l.length → nth l (i - j).toNat = some a
  | [], _, _, h, _, _ => by simp [pickAt, Tree.sel] at h
  | [x], j, a, h, h1, h2 => by
    simp only [pickAt, Tree.sel, Option.some.injEq] at h
    subst h
    have : (i - j).toNat = 0 := by simp at h2; omega
    rw [this]; rfl
  | x :: y :: r, j, a, h, h1, h2 => by
    simp only [pickAt, Tree.sel] at h
    cases hij : (i == j)
    · simp only [hij, cond_false] at h
      have hne : i ≠ j := by simpa using hij
      have := pickAt_sel i (y :: r) (j + 1) a h (by omega) (by simp at h2 ⊢; omega)
      have e : (i - j).toNat = (i - (j + 1)).toNat + 1 := by omega
      rw [e]
      exact this
    · simp only [hij, cond_true, Option.some.injEq] at h
      subst h
      have hne : i = j := by simpa using hij
      have : (i - j).toNat = 0 := by omega
      rw [this]; rfl

theorem mergeAt_ok (i : Int) {v : Value} : ∀ (l : List A1) (j : Int), (∀ a, nth l (i - j).toNat = some a → a.Rel F w bs v) → j ≤ i → i < j + l.length → (mergeAt i j l).Rel F w bs v
  | [], _, _, _, _ => trivial
  | [x], j, h, h1, h2 => by
    have e : (i - j).toNat = 0 := by simp at h2; omega
    exact h x (by rw [e]; rfl)
  | x :: y :: r, j, h, h1, h2 => by
    simp only [mergeAt]
    refine mergeA_ok (fun e => ?_) (fun e => ?_)
    · have hne : i = j := by simpa using e
      exact h x (by have : (i - j).toNat = 0 := by omega
                    rw [this]; rfl)
    · have hne : i ≠ j := by simpa using e
      refine mergeAt_ok i (y :: r) (j + 1) (fun a ha => h a ?_) (by omega) (by simp at h2 ⊢; omega)
      have e2 : (i - j).toNat = (i - (j + 1)).toNat + 1 := by omega
      rw [e2]
      exact ha

theorem partsOf_ok {e : TypeId} {cs : List CV} {step : Nat} : ∀ {n off : Nat} {l : List A1}, partsOf P e cs n off step = some l → l.length = n ∧ ∀ k a, nth l k = some a → partOf P e cs (off + k * step) = some a
  | 0, off, l, h => by simp [partsOf] at h; subst h; exact ⟨rfl, fun k a h => by simp [nth] at h⟩
  | n + 1, off, l, h => by
    simp only [partsOf] at h
    split at h
    · rename_i a l' ha hl
      simp at h; subst h
      obtain ⟨h1, h2⟩ := partsOf_ok hl
      refine ⟨by simp [h1], fun k b hb => ?_⟩
      cases k with
      | zero => simp [nth] at hb; subst hb; simpa using ha
      | succ k =>
        have := h2 k b (by simpa [nth] using hb)
        rw [← this]; congr 1
        rw [Nat.succ_mul]; omega
    · simp at h

theorem inRange_iff {i : Int} {n : Nat} : inRange i n = true ↔ 0 ≤ i ∧ i < n := by
  simp only [inRange, Bool.and_eq_true, le_iff, lt_iff, toInt64]
  exact Iff.rfl

theorem evIndex_ok {t : TypeId} {x y r : AV} (h : (evIndex P t x y).sel = some r) {u v : Value} (hx : x.Rel F w bs u) (hy : y.Rel F w bs v) :
    ∃ z, r.Rel F w bs z ∧ ∀ w', (Instr.index t u v).run P w' = .ok z w' := by
  unfold evIndex at h
  split at h
  · rename_i cs k i
    split at h
    · rename_i len e hu
      split at h
      · rename_i j hj
        split at h
        · simp [Tree.sel] at h
        · rename_i p ps hps
          obtain ⟨hl, hp⟩ := partsOf_ok hps
          obtain ⟨vs, rfl, hcs⟩ := hx
          cases hy
          simp only [Tree.sel] at h
          cases hr : inRange i len <;> simp [hr] at h
          obtain ⟨hr1, hr2⟩ := inRange_iff.1 hr
          have run : ∀ z, (∀ w', (part e vs.toArray (i.toNat * j.size)).run P w' = .ok z w') → ∀ w', (Instr.index t (.agg vs.toArray) (.int k i)).run P w' = .ok z w' := by
            intro z hz w'
            unfold Instr.index
            simp only [asIntOf, Sem.run_bind, Sem.run_pure, Result.andThen_ok, run_underlying hu]
            rw [if_pos ⟨hr1, hr2⟩]
            simp only [Sem.run_bind, run_sizeOf' hj, Result.andThen_ok, hz]
          split at h
          · obtain ⟨a, ha, hb⟩ := sel_bind h
            simp only [Tree.sel, Option.some.injEq] at hb
            subst hb
            have := pickAt_sel i _ 0 a ha hr1 (by rw [hl]; omega)
            have hpart := hp _ _ this
            obtain ⟨z, hz, hrun⟩ := partOf_ok hpart hcs
            refine ⟨z, hz, run z fun w' => ?_⟩
            have e2 : 0 + (i - 0).toNat * j.size = i.toNat * j.size := by simp
            rw [← e2]; exact hrun w'
          · simp only [Tree.sel, Option.some.injEq] at h
            subst h
            obtain ⟨a, ha⟩ : ∃ a, nth (p :: ps) (i - 0).toNat = some a := by
              rw [nth_eq]
              refine ⟨_, List.getElem?_eq_getElem (by rw [hl]; omega)⟩
            have hpart := hp _ _ ha
            obtain ⟨z, hz, hrun⟩ := partOf_ok hpart hcs
            refine ⟨z, mergeAt_ok i _ 0 (fun b hb => ?_) hr1 (by rw [hl]; omega), run z fun w' => ?_⟩
            · rw [ha] at hb; simp at hb; subst hb; exact hz
            · have e2 : 0 + (i - 0).toNat * j.size = i.toNat * j.size := by simp
              rw [← e2]; exact hrun w'
        · simp [Tree.sel] at h
      · simp [Tree.sel] at h
    · simp [Tree.sel] at h
  · simp [Tree.sel] at h

theorem addr_add (p o n : Nat) : (⟨p, o, none⟩ : Addr).add n = ⟨p, o + n, none⟩ := by
  unfold Addr.add
  split
  · rename_i h; subst h; rfl
  · rfl

theorem run_indexAt_slice {t e : TypeId} {j : TypeInfo} {k : IntKind} {i : Int} {p o n cap : Nat} (hu : P.underlying t = some (.slice e)) (hj : P.info? e = some j) (h1 : 0 ≤ i) (h2 : i < n) (w' : World) :
    (Instr.indexAt t (.slice (some ⟨p, o, none⟩) n cap) (.int k i)).run P w' = .ok (.pointer (some ⟨p, o + i.toNat * j.size, none⟩)) w' := by
  unfold Instr.indexAt
  simp [asIntOf, run_underlying hu, h1, h2, run_sizeOf' hj, addr_add]

theorem run_indexAt_array {t e : TypeId} {j : TypeInfo} {k : IntKind} {i : Int} {p o n : Nat} (hu : P.underlying t = some (.array n e)) (hj : P.info? e = some j) (h1 : 0 ≤ i) (h2 : i < n) (w' : World) :
    (Instr.indexAt t (.pointer (some ⟨p, o, none⟩)) (.int k i)).run P w' = .ok (.pointer (some ⟨p, o + i.toNat * j.size, none⟩)) w' := by
  unfold Instr.indexAt
  simp [asIntOf, run_underlying hu, h1, h2, run_sizeOf' hj, addr_add, Instr.sureAddr]

def KH (a : Act) (K : List (Nat × Bool)) : Prop := ∀ p ∈ K, a.tmps[p.1]? = some (.bool p.2)

theorem eval_tmp_bool {a : Act} {t : Nat} {c : Bool} (h : a.eval (.tmp t) = .bool c) : a.tmps[t]? = some (.bool c) := by
  simp only [Act.eval, Array.getD_eq_getD_getElem?] at h
  cases hh : a.tmps[t]? with
  | none => simp [hh, undef] at h
  | some v => simp [hh] at h; rw [h]

theorem cellsOnly_ok : ∀ {l : List A1} {cs : List CV} {vs : List Value}, evPure0.cellsOnly l = some cs → All2 (A1.Rel F w bs) l vs → All2 (CV.Rel F w bs) cs vs
  | [], cs, vs, h, hr => by cases hr; simp [evPure0.cellsOnly] at h; subst h; exact .nil
  | .c x :: r, cs, vs, h, hr => by
    simp only [evPure0.cellsOnly] at h
    split at h
    · rename_i l hl
      simp at h; subst h
      cases hr with
      | cons h1 h2 => exact .cons h1 (cellsOnly_ok hl h2)
    · simp at h
  | .agg _ :: _, _, _, h, _ => by simp [evPure0.cellsOnly] at h

theorem map_toArray {α β : Type} (f : α → β) (l : Array α) : l.map f = (l.toList.map f).toArray := by
  apply Array.ext'
  simp

theorem rels_nth {l : List CV} {vs : List Value} (h : All2 (CV.Rel F w bs) l vs) : ∀ i x v, nth l i = some x → nth vs i = some v → CV.Rel F w bs x v := by
  intro i x v hx hv
  obtain ⟨v', hv', hr⟩ := h.nth hx
  rw [nth_eq] at hv
  rw [hv'] at hv
  simp at hv; subst hv
  exact hr

theorem evPure0_ok {ρ : List (Nat × Bool) → Operand → Option AV} {a : Act} (hρ : ∀ K x av, KH a K → ρ K x = some av → av.Rel F w bs (a.eval x)) {o : Oper} {r : AV}
    (h : (evPure0 P ρ o.op).sel = some r) : ∃ v, r.Rel F w bs v ∧ ∀ w', (execOp a.eval o).run P w' = .ok (.value v) w' := by
  have h0 : ∀ x av, ρ [] x = some av → av.Rel F w bs (a.eval x) := fun x av => hρ [] x av (fun _ h => by cases h)
  have lift : ∀ {s : Sem Value} {r : AV}, (∃ v, r.Rel F w bs v ∧ ∀ w', s.run P w' = .ok v w') → ∃ v, r.Rel F w bs v ∧ ∀ w', ((do pure (Next.value (← s)) : Sem Next)).run P w' = .ok (.value v) w' := by
    rintro s r ⟨v, h1, h2⟩
    exact ⟨v, h1, fun w' => by simp [h2]⟩
  unfold evPure0 at h
  unfold execOp
  split at h
  · rename_i x ho
    rw [ho]
    exact ⟨_, h0 _ _ (sel_ofOpt h), fun w' => by simp⟩
  · rename_i x ho
    rw [ho]
    exact ⟨_, h0 _ _ (sel_ofOpt h), fun w' => by simp⟩
  · rename_i t x y ho
    rw [ho]
    split at h
    · rename_i c va vb hc ha hb
      simp only [Tree.sel, Option.some.injEq] at h
      subst h
      have hcr := h0 _ _ hc
      have hce : a.eval (.tmp t) = .bool c := by
        generalize a.eval (.tmp t) = z at hcr ⊢
        cases hcr; rfl
      have ht := eval_tmp_bool hce
      simp only [hce, asBool]
      refine ⟨if c then a.eval x else a.eval y, mergeA_ok (fun e => ?_) (fun e => ?_), fun w' => by simp⟩
      · subst e
        exact hρ [(t, true)] x va (fun p hp => by simp at hp; subst hp; exact ht) ha
      · subst e
        exact hρ [(t, false)] y vb (fun p hp => by simp at hp; subst hp; exact ht) hb
    · simp [Tree.sel] at h
  · rename_i t parts ho
    rw [ho]
    split at h
    · rename_i l hl
      exact lift (evBuild_ok (sel_ofOpt h) (by simpa using evParts_ok h0 hl))
    · simp [Tree.sel] at h
  · rename_i op t x y ty ho
    rw [ho]
    split at h
    · rename_i u v hu hv
      exact lift (evBin_ok h (h0 _ _ hu) (h0 _ _ hv) x y)
    · simp [Tree.sel] at h
  · rename_i op t x ho
    rw [ho]
    split at h
    · rename_i u hu
      exact lift (evUn_ok h (h0 _ _ hu))
    · simp [Tree.sel] at h
  · rename_i s d x ho
    rw [ho]
    split at h
    · rename_i ds k k' n hs hd hx
      simp only [Tree.sel, Option.some.injEq] at h; subst h
      have hz : a.eval x = .int k' n := by
        have hxr := h0 _ _ hx
        generalize a.eval x = z at hxr ⊢
        cases hxr; rfl
      refine lift ⟨_, CV.Rel.int k _, fun w' => ?_⟩
      simp [convert, run_underlying hs, run_underlying hd, Conv.intToInt, hz]
    · simp [Tree.sel] at h
  · rename_i x i ho
    rw [ho]
    split at h
    · rename_i l hl
      split at h
      · rename_i y hy
        simp only [Tree.sel, Option.some.injEq] at h; subst h
        obtain ⟨vs, he, hr⟩ := h0 _ _ hl
        obtain ⟨v, hv, hrel⟩ := hr.nth hy
        exact lift ⟨v, hrel, fun w' => by simp [Instr.extract, he, hv]⟩
      · simp [Tree.sel] at h
    · simp [Tree.sel] at h
  · rename_i t x i ho
    rw [ho]
    split at h
    · rename_i fs cs hu hx
      split at h
      · rename_i f hf
        split at h
        · rename_i y hy
          simp only [Tree.sel, Option.some.injEq] at h; subst h
          obtain ⟨vs, he, hr⟩ := h0 _ _ hx
          obtain ⟨v, hv, hrun⟩ := partOf_ok hy hr
          rw [nth_eq] at hf
          simp only [Array.getElem?_toList] at hf
          exact lift ⟨v, hv, fun w' => by simp [Instr.field, run_underlying hu, hf, he, asAgg, hrun]⟩
        · simp [Tree.sel] at h
      · simp [Tree.sel] at h
    · simp [Tree.sel] at h
  · rename_i t x i ho
    rw [ho]
    split at h
    · rename_i fs b off hu hx
      split at h
      · rename_i f hf
        split at h
        · rename_i j hj
          split at h
          · simp [Tree.sel] at h
          · rename_i hz
            simp only [Tree.sel, Option.some.injEq] at h; subst h
            obtain ⟨p, hb, he⟩ : ∃ p, nth bs b = some p ∧ a.eval x = .pointer (some ⟨p.p, off, none⟩) := by
              have hxr := h0 _ _ hx
              generalize a.eval x = z at hxr ⊢
              cases hxr with
              | ptr hb => exact ⟨_, hb, rfl⟩
            rw [nth_eq] at hf
            simp only [Array.getElem?_toList] at hf
            have hz' : j.size ≠ 0 := by simpa using hz
            exact lift ⟨_, CV.Rel.ptr hb, fun w' => by simp [Instr.fieldAt, run_underlying hu, hf, Instr.sureAddr, fieldPlace, run_sizeOf' hj, hz', addr_add, he]⟩
        · simp [Tree.sel] at h
      · simp [Tree.sel] at h
    · rename_i fs es off ρ0 hu hx
      split at h
      · rename_i f hf
        split at h
        · rename_i j hj
          split at h
          · simp [Tree.sel] at h
          · rename_i hz
            simp only [Tree.sel, Option.some.injEq] at h; subst h
            have hxr := h0 _ _ hx
            generalize he : a.eval x = z at hxr
            cases hxr with
            | rop val hb hF hc hr =>
              rename_i p o'
              rw [nth_eq] at hf
              simp only [Array.getElem?_toList] at hf
              have hz' : j.size ≠ 0 := by simpa using hz
              refine lift ⟨.pointer (some ⟨p, o' + (off + f.offset), none⟩), CV.Rel.rop val hb hF hc hr, fun w' => by simp [Instr.fieldAt, run_underlying hu, hf, Instr.sureAddr, fieldPlace, run_sizeOf' hj, hz', addr_add, he, Nat.add_assoc]⟩
        · simp [Tree.sel] at h
      · simp [Tree.sel] at h
    · rename_i fs b sz i' off hu hx
      split at h
      · rename_i f hf
        split at h
        · rename_i j hj
          split at h
          · simp [Tree.sel] at h
          · rename_i hz
            simp only [Tree.sel, Option.some.injEq] at h; subst h
            have hxr := h0 _ _ hx
            generalize he : a.eval x = z at hxr
            cases hxr with
            | rowp hb hi =>
              rename_i xx
              rw [nth_eq] at hf
              simp only [Array.getElem?_toList] at hf
              have hz' : j.size ≠ 0 := by simpa using hz
              refine lift ⟨.pointer (some ⟨xx.p, i' * sz + (off + f.offset), none⟩), CV.Rel.rowp hb hi, fun w' => by simp [Instr.fieldAt, run_underlying hu, hf, Instr.sureAddr, fieldPlace, run_sizeOf' hj, hz', addr_add, he, Nat.add_assoc]⟩
        · simp [Tree.sel] at h
      · simp [Tree.sel] at h
    · simp [Tree.sel] at h
  · rename_i t x y ho
    rw [ho]
    split at h
    · rename_i e es n ρ0 k i hu hx hy
      split at h
      · rename_i j hj
        split at h
        · rename_i hsz
          simp only [Tree.sel] at h
          cases hr : inRange i n <;> simp [hr] at h
          subst h
          obtain ⟨hr1, hr2⟩ := inRange_iff.1 hr
          have hsz : j.size = es.length := by simpa using hsz
          have hxr := h0 _ _ hx
          have hyr := h0 _ _ hy
          generalize he : a.eval x = z at hxr
          generalize he2 : a.eval y = z' at hyr
          cases hyr
          cases hxr with
          | slnil => omega
          | sl val hn h0' hc hrr =>
            rename_i cap ad
            obtain ⟨hsp, hb, hF⟩ := h0' (by omega)
            obtain ⟨p, off, sp⟩ := ad
            simp only at hsp hb hF hc
            subst hsp
            refine lift ⟨.pointer (some ⟨p, off + i.toNat * j.size + 0, none⟩), CV.Rel.rop (fun f => val i.toNat f) hb hF (fun f hf => ?_) (fun f s hf => hrr _ _ s (by omega) hf), fun w' => ?_⟩
            · rw [Nat.add_assoc, hsz]; exact hc i.toNat f (by omega) hf
            · show (Instr.indexAt t (a.eval x) (a.eval y)).run P w' = _
              rw [he, he2]
              exact run_indexAt_slice hu hj hr1 hr2 w'
        · simp [Tree.sel] at h
      · simp [Tree.sel] at h
    · rename_i len e b off k i hu hx hy
      split at h
      · rename_i j hj
        simp only [Tree.sel] at h
        cases hr : inRange i len <;> simp [hr] at h
        obtain ⟨hr1, hr2⟩ := inRange_iff.1 hr
        obtain ⟨q, hq, hb⟩ := sel_bind h
        simp only [Tree.sel, Option.some.injEq] at hb
        subst hb
        have hq := pickAt_sel i _ 0 q hq hr1 (by simp; omega)
        rw [nth_eq, List.getElem?_range (by omega)] at hq
        simp at hq
        have hxr := h0 _ _ hx
        have hyr := h0 _ _ hy
        generalize he : a.eval x = z at hxr
        generalize he2 : a.eval y = z' at hyr
        cases hyr
        cases hxr with
        | ptr hb =>
          refine lift ⟨_, CV.Rel.ptr hb, fun w' => ?_⟩
          show (Instr.indexAt t (a.eval x) (a.eval y)).run P w' = _
          rw [he, he2, ← hq]
          exact run_indexAt_array hu hj hr1 hr2 w'
      · simp [Tree.sel] at h
    · simp [Tree.sel] at h
  · rename_i t x y ho
    rw [ho]
    split at h
    · rename_i u v hu hv
      exact lift (evIndex_ok h (h0 _ _ hu) (h0 _ _ hv))
    · simp [Tree.sel] at h
  · rename_i f first cap ho
    rw [ho]
    split at h
    · rename_i la lb hla hlb
      split at h
      · rename_i x y hx hy
        simp only [Tree.sel, Option.some.injEq] at h; subst h
        have h1 := cellsOnly_ok hx (evArgs_ok h0 hla)
        have h2 := cellsOnly_ok hy (evArgs_ok h0 hlb)
        refine lift ⟨.func f (first.toList.map a.eval).toArray (cap.toList.map a.eval).toArray, CV.Rel.fn h1.length h2.length (rels_nth h1) (rels_nth h2), fun w' => ?_⟩
        simp only [Instr.makeFunc, Sem.run_pure, map_toArray]
      · simp [Tree.sel] at h
    · simp [Tree.sel] at h
  · rename_i x ho
    rw [ho]
    split at h
    · rename_i b off hx
      simp only [Tree.sel, Option.some.injEq] at h; subst h
      have hxr := h0 _ _ hx
      generalize he : a.eval x = z at hxr
      refine ⟨z, hxr, fun w' => ?_⟩
      simp only [he]
      cases hxr; rfl
    · rename_i es off ρ0 hx
      simp only [Tree.sel, Option.some.injEq] at h; subst h
      have hxr := h0 _ _ hx
      generalize he : a.eval x = z at hxr
      refine ⟨z, hxr, fun w' => ?_⟩
      simp only [he]
      cases hxr; rfl
    · rename_i b sz i off hx
      simp only [Tree.sel, Option.some.injEq] at h; subst h
      have hxr := h0 _ _ hx
      generalize he : a.eval x = z at hxr
      refine ⟨z, hxr, fun w' => ?_⟩
      simp only [he]
      cases hxr; rfl
    · rename_i f u v hx
      simp only [Tree.sel, Option.some.injEq] at h; subst h
      have hxr := h0 _ _ hx
      generalize he : a.eval x = z at hxr
      refine ⟨z, hxr, fun w' => ?_⟩
      simp only [he]
      cases hxr; rfl
    · simp [Tree.sel] at h
  · rename_i args argTypes ho
    rw [ho]
    split at h
    · rename_i x t hx ht
      have hargs := evArgs_ok h0 hx
      have ht' : argTypes = #[t] := by rw [← Array.toArray_toList (xs := argTypes), ht]
      obtain ⟨v, hv⟩ : ∃ v, args.map a.eval = #[v] := by
        have hl := hargs.length
        simp at hl
        have : (args.map a.eval).size = 1 := by simp [← hl]
        exact Array.size_eq_one_iff.1 this
      have hx1 : A1.Rel F w bs x v := by
        have : args.toList.map a.eval = [v] := by rw [← Array.toList_map, hv]
        rw [this] at hargs
        cases hargs; assumption
      subst ht'
      obtain ⟨z, hz, hrun⟩ := evLen_ok (x := .one x) h hx1 o.type
      refine ⟨z, hz, fun w' => ?_⟩
      simp [resolve, invoke, builtin, hv, hrun]
    · simp [Tree.sel] at h
  · rename_i args argTypes ho
    rw [ho]
    split at h
    · rename_i l hl
      have hargs := evArgs_ok h0 hl
      obtain ⟨z, hz, hrun⟩ := evMM_ok (P := P) h hargs argTypes o.type
      refine ⟨z, hz, fun w' => ?_⟩
      have := hrun w'
      simp only [if_true, ← map_toArray] at this
      simp [resolve, invoke, builtin, this]
    · simp [Tree.sel] at h
  · rename_i args argTypes ho
    rw [ho]
    split at h
    · rename_i l hl
      have hargs := evArgs_ok h0 hl
      obtain ⟨z, hz, hrun⟩ := evMM_ok (P := P) h hargs argTypes o.type
      refine ⟨z, hz, fun w' => ?_⟩
      have := hrun w'
      simp only [Bool.false_eq_true, if_false, ← map_toArray] at this
      simp [resolve, invoke, builtin, this]
    · simp [Tree.sel] at h
  · simp [Tree.sel] at h

theorem evStr_ok {s d : TypeId} {x r : AV} (h : evStr P s d (some x) = some r) {u : Value} (hx : x.Rel F w bs u) : ∃ z, r.Rel F w bs z ∧ ∀ w', RowKit.Below w.heap.size w w' → (convert s d u).run P w' = .ok z w' := by
  unfold evStr at h
  split at h
  · rename_i n ρ heq
    simp at heq; subst heq
    split at h
    · rename_i e hs hd
      split at h
      · rename_i he
        simp at h; subst h
        cases hx with
        | slnil => exact ⟨_, CV.Rel.str _, fun w' _ => by rw [run_convert_bytes_string w' s d e none 0 0 hs he hd]; simp [Conv.bytesToString, bytesV]⟩
        | sl val hn h0 hc hr =>
          rename_i cap a
          refine ⟨_, CV.Rel.str _, fun w' hw' => ?_⟩
          rw [run_convert_bytes_string w' s d e (some a) n cap hs he hd]
          refine run_bytesToString w' a n cap ((List.range n).map fun i => ((ρ.at i).at 0).N []) ?_
          have := run_loadCells (P := P) w' a n (fun i => Value.int .u8 (((ρ.at i).at 0).N [])) fun j hj => by
            obtain ⟨h1, h2, _⟩ := h0 (by omega)
            have hcell := hc j 0 hj (by simp)
            have hrel := hr j 0 (.int .u8) hj rfl
            simp only [cellOf] at hrel
            generalize val j 0 = z at hcell hrel
            cases hrel
            obtain ⟨p, o, sp⟩ := a
            simp only at h1 h2 hcell
            subst h1
            rw [addr_add]
            simp only [List.length_cons, List.length_nil, Nat.zero_add, Nat.mul_one, Nat.add_zero] at hcell
            rw [World.cell?_of_block (hw'.block p h2)]
            exact hcell
          rw [List.map_map]
          exact this
      · simp at h
    · simp at h
  · rename_i heq
    simp at heq; subst heq
    split at h
    · rename_i e hs hd
      split at h
      · rename_i he
        simp at h; subst h
        cases hx
        exact ⟨_, CV.Rel.str _, fun w' _ => by rw [run_convert_bytes_string w' s d e none 0 0 hs he hd]; simp [Conv.bytesToString]⟩
      · simp at h
    · simp at h
  · simp at h

theorem evPure_ok {ρ : List (Nat × Bool) → Operand → Option AV} {a : Act} (hρ : ∀ K x av, KH a K → ρ K x = some av → av.Rel F w bs (a.eval x)) {o : Oper} {r : AV}
    {cc : Bool} (h : (evPure P cc ρ o.op).sel = some r) : ∃ v, r.Rel F w bs v ∧ ∀ w', RowKit.Below w.heap.size w w' → (execOp a.eval o).run P w' = .ok (.value v) w' := by
  have old : (evPure0 P ρ o.op).sel = some r → ∃ v, r.Rel F w bs v ∧ ∀ w', RowKit.Below w.heap.size w w' → (execOp a.eval o).run P w' = .ok (.value v) w' := fun h => by
    obtain ⟨v, hv, hrun⟩ := evPure0_ok hρ h
    exact ⟨v, hv, fun w' _ => hrun w'⟩
  unfold evPure at h
  split at h
  · rename_i t x y ho
    split at h
    · rename_i u hu
      have ha : arrAt P t (ρ [] x) (ρ [] y) = some u := by
        cases cc
        · simp at hu
        · simpa using hu
      unfold arrAt at ha
      split at ha
      · rename_i b off k i hx hy
        split at ha
        · rename_i len e hu'
          split at ha
          · rename_i j hj
            simp only [Option.some.injEq] at ha
            subst ha
            cases hr : inRange i len <;> simp [hr, Tree.sel] at h
            subst h
            obtain ⟨hr1, hr2⟩ := inRange_iff.1 hr
            have hxr := hρ [] x _ (fun _ h => by cases h) hx
            have hyr := hρ [] y _ (fun _ h => by cases h) hy
            generalize he : a.eval x = z at hxr
            generalize he2 : a.eval y = z' at hyr
            cases hyr
            cases hxr with
            | ptr hb =>
              rename_i q
              refine ⟨_, CV.Rel.ptr hb, fun w' _ => ?_⟩
              have hrun : (Instr.indexAt t (a.eval x) (a.eval y)).run P w' = .ok (.pointer (some ⟨q.p, off + i.toNat * j.size, none⟩)) w' := by
                rw [he, he2]
                exact run_indexAt_array hu' hj hr1 hr2 w'
              unfold execOp
              rw [ho]
              simp [hrun]
          · cases ha
        · cases ha
      · cases ha
    · rw [← ho] at h
      exact old h
  · rename_i s d x ho
    split at h
    · rename_i v hv
      simp only [Tree.sel, Option.some.injEq] at h
      subst h
      cases hx : ρ [] x with
      | none => rw [hx] at hv; simp [evStr] at hv
      | some y =>
        rw [hx] at hv
        obtain ⟨z, hz, hrun⟩ := evStr_ok hv (hρ [] x y (fun _ h => by cases h) hx)
        refine ⟨z, hz, fun w' hw' => ?_⟩
        unfold execOp
        rw [ho]
        simp [hrun w' hw']
    · rw [← ho] at h
      exact old h
  · exact old h

end
end Go.Sx
