/-
  The evaluator's soundness (part S): elements of slices of one's own; parts of slices.
-/
import Derived.Test.YtjiennnkbompkaaEngR
namespace Go.Sx
open Go Go.RowKit

section
variable {P : Program}

theorem CV.Rel.open {F w x v} (h : CV.Rel F w [] x v) (bs : List BI) : CV.Rel F w bs x v :=
  h.mono (Nat.le_refl _) (fun _ _ h => h) (fun _ _ _ => rfl) (fun k p h => by simp [nth] at h)

theorem cells_rel {F w} {es : List Sh} {ρ : Val} {val : Nat → Value} (hr : ∀ f s, nth es f = some s → CV.Rel F w [] (cellOf s (ρ.at f)) (val f)) (bs : List BI) : All2 (CV.Rel F w bs) (cellsOfL es 0 ρ) ((List.range es.length).map val) := by
  refine All2.of_nth (by simp [cellsOfL_length]) fun i x v hx hv => ?_
  rw [cellsOfL_nth] at hx
  split at hx
  · rename_i s hs
    simp at hx; subst hx
    have him := shape_lt hs
    rw [nth_eq] at hv
    simp only [List.getElem?_map, List.getElem?_range him, Option.map_some, Option.some.injEq] at hv
    subst hv
    simpa using (hr i s hs).open bs
  · simp at hx

theorem loadRow_ok {F w bs mem} (hm : MemRel F w bs mem) {t : TypeId} {b sz i off : Nat} {r : AV} (h : evLoadRow P mem t b sz i off = some r) {v : Value} (hx : CV.Rel F w bs (.rowp b sz i off) v) :
    ∃ a p o z, r = .one a ∧ v = .pointer (some ⟨p, o, none⟩) ∧ a.Rel F w bs z ∧ (loadVar t ⟨p, o, none⟩).run P w = .ok z w := by
  unfold evLoadRow at h
  split at h
  · rename_i T fz es n ρ hrow
    split at h
    · rename_i hsz
      have hsz : es.length = sz := by simpa using hsz
      split at h
      · rename_i a ha
        simp at h; subst h
        cases hx with
        | rowp hb hi =>
          rename_i x
          have hr := hm.row b T fz es n ρ x (rowAt_some hrow) hb
          have hin : i < n := by rw [← hr.len]; exact hi
          obtain ⟨arr, harr, hs, val, h3, h4⟩ := hr.block (by omega)
          obtain ⟨z, hz, hrun⟩ := loadVar_ok ha (cells_rel (fun f s hf => h4 i f s hin hf) bs) x.p (i * sz)
          refine ⟨a, x.p, i * sz + off, z, rfl, rfl, hz, hrun w fun j v hv => ?_⟩
          have hj : j < es.length := by
            rcases Nat.lt_or_ge j es.length with h' | h'
            · exact h'
            · rw [List.getElem?_eq_none (by simpa using h')] at hv; cases hv
          simp only [List.getElem?_map, List.getElem?_range hj, Option.map_some, Option.some.injEq] at hv
          subst hv
          rw [cell_of_row w x.p _ arr T _ harr, ← hsz]
          exact h3 i j hin hj
      · simp at h
    · simp at h
  · simp at h

theorem beq_nat {a b : Nat} : Nat.beq a b = decide (a = b) := by
  by_cases h : a = b
  · subst h; simp
  · have : Nat.beq a b = false := by
      cases hb : Nat.beq a b
      · rfl
      · exact absurd (Nat.eq_of_beq_eq_true hb) h
    simp [this, h]

theorem upd_at (a : Val) (i f : Nat) (x : CV) (k g : Nat) : ((a.upd i f x).at k).at g = if k = i ∧ g = f then Val.ofC x else (a.at k).at g := by
  show pickV (Nat.beq k i) (pickV (Nat.beq g f) (Val.ofC x) ((a.at k).at g)) ((a.at k).at g) = _
  rw [beq_nat, beq_nat]
  by_cases h1 : k = i <;> by_cases h2 : g = f <;> simp [h1, h2, pickV_true, pickV_false]

theorem upds_at : ∀ (l : List CV) (a : Val) (i f k g : Nat), (((a.upds i f l).at k).at g) = if k = i ∧ f ≤ g then (match nth l (g - f) with | some x => Val.ofC x | none => (a.at k).at g) else (a.at k).at g
  | [], a, i, f, k, g => by simp [Val.upds, nth]
  | x :: r, a, i, f, k, g => by
    simp only [Val.upds]
    rw [upds_at r, upd_at]
    by_cases h1 : k = i
    · rcases Nat.lt_trichotomy g f with h2 | h2 | h2
      · rw [if_neg (by omega), if_neg (by omega), if_neg (by omega)]
      · subst h2
        rw [if_neg (by omega), if_pos ⟨h1, rfl⟩, if_pos ⟨h1, Nat.le_refl _⟩, Nat.sub_self]
        rfl
      · rw [if_pos ⟨h1, by omega⟩, if_neg (by omega), if_pos ⟨h1, by omega⟩]
        rw [show g - f = (g - (f + 1)) + 1 by omega]
        rfl
    · rw [if_neg (by omega), if_neg (by omega), if_neg (by omega)]

theorem storeRow_ok {F w bs mem} (hm : MemRel F w bs mem) {t : TypeId} {b sz i off : Nat} {v : A1} {mem' : Mem} (h : evStoreRow P mem t b sz i off v = some mem') {px y : Value} (hx : CV.Rel F w bs (.rowp b sz i off) px) (hy : A1.Rel F w bs v y) :
    ∃ F' w' p o j, Ext bs.length F w bs F' w' bs ∧ MemRel F' w' bs mem' ∧ px = .pointer (some ⟨p, o, none⟩) ∧ P.info? t = some j ∧ y.cells.size = j.size ∧ (storeCells ⟨p, o, none⟩ y.cells.toList 0).run P w = .ok () w' := by
  unfold evStoreRow at h
  split at h
  · rename_i j hj
    simp only at h
    have hyc := A1.Rel.cells hy
    obtain ⟨F1, e1, m1, r1⟩ := frzCs_ok hm hyc
    split at h
    · rename_i T es n ρ hrow
      split at h
      · rename_i hcond
        simp only [Bool.and_eq_true, beq_iff_eq, Nat.blt_eq] at hcond
        obtain ⟨⟨hsz, hlen⟩, hpos⟩ := hcond
        split at h
        · rename_i es' hes'
          split at h
          · rename_i hfit
            simp at h; subst h
            rw [dropN_eq] at hes'
            obtain ⟨rfl, hle⟩ := takeN_some hes'
            simp only [List.length_drop] at hle
            obtain ⟨hfl, hfn⟩ := fitsL_nth hfit
            have hrow := rowAt_some hrow
            have hys : y.cells.toList.length = j.size := by rw [← r1.length]; exact hlen
            cases hx with
            | rowp hb hi =>
              rename_i x
              have hr := m1.row b T false es n ρ x hrow hb
              have hin : i < n := by rw [← hr.len]; exact hi
              have hn0 : 0 < n := by omega
              obtain ⟨arr, harr, hs, val, h3, h4⟩ := hr.block hn0
              have hlive : liveL [CV.row false es n ρ] := ⟨rfl, hn0⟩
              have hcap := (hr.cap hn0).1
              have hal : arr.toList.length = arr.size := by simp
              have hfitA : i * sz + off + 0 + y.cells.toList.length ≤ arr.size := by
                have h5 : (i + 1) * sz ≤ x.cap * sz := Nat.mul_le_mul_right _ (by omega)
                rw [Nat.add_mul, Nat.one_mul] at h5
                rw [hs, hys, hsz]
                omega
              have hone : ∀ u ∈ y.cells.toList, u.oneCell' = true := by
                intro u hu
                obtain ⟨k, hk⟩ := mem_nth hu
                rw [nth_eq] at hk
                obtain ⟨c, _, hc⟩ := r1.nth' hk
                exact hc.one
              have hst := run_storeCells_at (P := P) x.p (i * sz + off) T y.cells.toList 0 arr w harr hfitA hone
              simp only [Nat.add_zero] at hst
              obtain ⟨e2, m2⟩ := m1.rewrite hb hrow hlive (arr.toList.take (i * sz + off) ++ y.cells.toList ++ arr.toList.drop (i * sz + off + y.cells.toList.length)).toArray
              have hF := m1.loc b x T _ hb hrow hlive
              have hinj := m1.rewrite_inj hb hrow hlive
              refine ⟨F1, _, x.p, i * sz + off, j, e1.trans e2 (Nat.le_refl _), ?_, rfl, hj, by simpa using hys, hst⟩
              have := m2.put hb (T := T) (cs := [.row false es n (ρ.upds i off (frzCs mem v.cells).2)]) killed_no (fun _ => ⟨hF.1, by simpa [World.setRow] using hF.2⟩) (fun _ => hinj) (fun h => by simp [isRowL] at h) (fun fz' es'' n' ρ' h => ?_)
              · rwa [setN_setN] at this
              · simp at h
                obtain ⟨rfl, rfl, rfl, rfl⟩ := h
                refine ⟨hr.len, hr.cap0, hr.cap, fun _ => ⟨_, setRow_heap w x.p _ _ _ _ harr, ?_, fun i' f' => if i' = i ∧ off ≤ f' then (match nth y.cells.toList (f' - off) with | some u => u | none => val i' f') else val i' f', fun i' f' hi' hf' => ?_, fun i' f' s hi' hf' => ?_⟩, fun _ h => by cases h⟩
                · simp only [List.size_toArray, List.length_append, List.length_take, List.length_drop]
                  omega
                · dsimp only
                  have h6 := h3 i' f' hi' hf'
                  rw [hsz] at h6 ⊢
                  rw [List.getElem?_toArray]
                  have hne : i' ≠ i → ¬ (i * sz + off ≤ i' * sz + f' ∧ i' * sz + f' < i * sz + off + y.cells.toList.length) := by
                    intro hne
                    rcases Nat.lt_or_gt_of_ne hne with hlt | hgt
                    · have : (i' + 1) * sz ≤ i * sz := Nat.mul_le_mul_right _ hlt
                      rw [Nat.add_mul, Nat.one_mul] at this
                      omega
                    · have : (i + 1) * sz ≤ i' * sz := Nat.mul_le_mul_right _ hgt
                      rw [Nat.add_mul, Nat.one_mul] at this
                      omega
                  by_cases hin' : i * sz + off ≤ i' * sz + f' ∧ i' * sz + f' < i * sz + off + y.cells.toList.length
                  · have hii : i' = i := Classical.byContradiction fun h => hne h hin'
                    subst hii
                    rw [if_pos ⟨rfl, by omega⟩]
                    rw [List.append_assoc, List.getElem?_append_right (by simp only [List.length_take]; omega), List.getElem?_append_left (by simp only [List.length_take]; omega)]
                    have e5 : i' * sz + f' - (arr.toList.take (i' * sz + off)).length = f' - off := by simp only [List.length_take]; omega
                    rw [e5, nth_eq]
                    have : f' - off < y.cells.toList.length := by omega
                    rw [List.getElem?_eq_getElem this]
                  · have hval : (if i' = i ∧ off ≤ f' then (match nth y.cells.toList (f' - off) with | some u => u | none => val i' f') else val i' f') = val i' f' := by
                      by_cases hc : i' = i ∧ off ≤ f'
                      · obtain ⟨rfl, hof⟩ := hc
                        rw [if_pos ⟨rfl, hof⟩]
                        have : nth y.cells.toList (f' - off) = none := by rw [nth_eq, List.getElem?_eq_none]; omega
                        rw [this]
                      · rw [if_neg hc]
                    rw [hval]
                    rcases Nat.lt_or_ge (i' * sz + f') (i * sz + off) with hlt | hge
                    · rw [List.append_assoc, List.getElem?_append_left (by simp only [List.length_take]; omega), List.getElem?_take, if_pos hlt]
                      simpa using h6
                    · rw [List.getElem?_append_right (by simp only [List.length_append, List.length_take]; omega)]
                      rw [List.getElem?_drop]
                      have e5 : i * sz + off + y.cells.toList.length + (i' * sz + f' - (arr.toList.take (i * sz + off) ++ y.cells.toList).length) = i' * sz + f' := by
                        simp only [List.length_append, List.length_take]; omega
                      rw [e5]
                      simpa using h6
                · dsimp only
                  rw [upds_at]
                  by_cases hc : i' = i ∧ off ≤ f'
                  · obtain ⟨rfl, hof⟩ := hc
                    rw [if_pos ⟨rfl, hof⟩, if_pos ⟨rfl, hof⟩]
                    cases hu : nth (frzCs mem v.cells).2 (f' - off) with
                    | none =>
                      have : nth y.cells.toList (f' - off) = none := by
                        rw [nth_eq, List.getElem?_eq_none_iff] at hu ⊢
                        rw [← r1.length]; exact hu
                      rw [this]
                      exact (h4 i' f' s hi' hf').grow e2.grow0
                    | some c =>
                      obtain ⟨u, hu', hrel⟩ := r1.nth hu
                      have hu2 : nth y.cells.toList (f' - off) = some u := by rw [nth_eq]; exact hu'
                      rw [hu2]
                      have hes : nth ((es.drop off).take j.size) (f' - off) = some s := by
                        have hlt := nth_lt hu
                        rw [hlen] at hlt
                        rw [nth_eq, List.getElem?_take, if_pos hlt, List.getElem?_drop, show off + (f' - off) = f' by omega, ← nth_eq]
                        exact hf'
                      obtain ⟨c', hc', hfit'⟩ := hfn _ s hes
                      rw [hu] at hc'
                      simp at hc'; subst hc'
                      exact (fits_rel hrel hfit').grow e2.grow0
                  · rw [if_neg hc, if_neg hc]
                    exact (h4 i' f' s hi' hf').grow e2.grow0
          · simp at h
        · simp at h
      · simp at h
    · simp at h
  · simp at h

end
end Go.Sx
