/-
  The evaluator's soundness (part P): slices of one's own: literals, appending, elements.
-/
import Derived.Test.YtjiennnkbompkaaEngO
import Derived.Great.BuildSlice
import Derived.Laws.Slices
namespace Go.Sx
open Go Go.RowKit

section
variable {P : Program}

theorem All2.nth2 {α β : Type} {R : α → β → Prop} {l : List α} {r : List β} (h : All2 R l r) {i : Nat} {b : β} (hb : r[i]? = some b) : ∃ a, Sx.nth l i = some a ∧ R a b := h.nth' hb

theorem shape_lt {es : List Sh} {f : Nat} {s : Sh} (h : nth es f = some s) : f < es.length := nth_lt h

theorem shape_at {es : List Sh} {f : Nat} (h : f < es.length) : ∃ s, nth es f = some s := ⟨es[f], by rw [nth_eq]; exact List.getElem?_eq_getElem h⟩

theorem fitsL_nth : ∀ {es : List Sh} {l : List CV}, fitsL es l = true → es.length = l.length ∧ ∀ f s, nth es f = some s → ∃ c, nth l f = some c ∧ fits s c = true
  | [], [], _ => ⟨rfl, fun f s h => by simp [nth] at h⟩
  | s :: r, x :: l, h => by
    simp only [fitsL, Bool.and_eq_true] at h
    obtain ⟨h1, h2⟩ := fitsL_nth h.2
    refine ⟨by simp [h1], fun f s' hf => ?_⟩
    cases f with
    | zero => simp [nth] at hf; subst hf; exact ⟨x, rfl, h.1⟩
    | succ f => exact h2 f s' hf
  | [], _ :: _, h => by simp [fitsL] at h
  | _ :: _, [], h => by simp [fitsL] at h

theorem fitsFlat_nth {es : List Sh} : ∀ {n : Nat} {l : List CV}, fitsFlat es n l = true → l.length = n * es.length ∧ ∀ i f s, i < n → nth es f = some s → ∃ c, nth l (i * es.length + f) = some c ∧ fits s c = true
  | 0, [], _ => ⟨by simp, fun i f s h => by omega⟩
  | 0, _ :: _, h => by simp [fitsFlat] at h
  | n + 1, l, h => by
    simp only [fitsFlat] at h
    split at h
    · rename_i l' hl
      obtain ⟨rfl, hlen⟩ := takeN_some hl
      rw [dropN_eq, Bool.and_eq_true] at h
      obtain ⟨h1, h2⟩ := fitsL_nth h.1
      obtain ⟨h3, h4⟩ := fitsFlat_nth h.2
      simp only [List.length_drop] at h3
      have hmul : (n + 1) * es.length = n * es.length + es.length := by rw [Nat.add_mul, Nat.one_mul]
      refine ⟨by omega, fun i f s hi hf => ?_⟩
      have hfl := shape_lt hf
      cases i with
      | zero =>
        obtain ⟨c, hc, hfit⟩ := h2 f s hf
        refine ⟨c, ?_, hfit⟩
        rw [nth_eq, List.getElem?_take] at hc
        rw [if_pos hfl] at hc
        rw [Nat.zero_mul, Nat.zero_add, nth_eq]; exact hc
      | succ i =>
        obtain ⟨c, hc, hfit⟩ := h4 i f s (by omega) hf
        refine ⟨c, ?_, hfit⟩
        rw [nth_eq, List.getElem?_drop] at hc
        rw [nth_eq, Nat.add_mul, Nat.one_mul, ← hc]
        congr 1; omega
    · simp at h

/-- a row that is laid -/
theorem MemRel.lay {F w bs mem} (hm : MemRel F w bs mem) {e : TypeId} {es : List Sh} {n cap : Nat} {ρ : Val} {arr : Array Value} (hc0 : n = 0 → cap = 0) (hcap : n ≤ cap) (hmax : cap ≤ maxLen) (hsize : arr.size = cap * es.length) (val : Nat → Nat → Value)
    (h3 : ∀ i f, i < n → f < es.length → arr[i * es.length + f]? = some (val i f)) (h4 : ∀ i f s, i < n → nth es f = some s → CV.Rel F w [] (cellOf s ((ρ.at i).at f)) (val i f)) :
    ∃ F', Ext bs.length F w bs F' (w.alloc (.cells arr e)) (bs ++ [⟨w.heap.size, n, cap⟩]) ∧ MemRel F' (w.alloc (.cells arr e)) (bs ++ [⟨w.heap.size, n, cap⟩]) (mem ++ [some (e, [.row false es n ρ])]) := by
  have he := Ext.alloc (F := F) (bs := bs) bs.length (.cells arr e : Obj) (w := w)
  refine ⟨_, he.push (.inr (Nat.le_refl _)), ?_⟩
  refine (hm.alloc _).push ⟨w.heap.size, n, cap⟩ (fun _ => ⟨.inr rfl, by simp⟩) (fun _ k y T' cs' hk hc hv => ?_) (fun h => by simp [isRowL] at h) (fun fz es' n' ρ' h => ?_)
  · have := (hm.loc k y T' cs' hk hc hv).2
    simp only; omega
  · simp at h
    obtain ⟨rfl, rfl, rfl, rfl⟩ := h
    exact ⟨rfl, hc0, fun _ => ⟨hcap, hmax⟩, fun _ => ⟨arr, by show (w.heap.push _)[_]? = _; simp, hsize, val, h3, fun i f s hi hf => (h4 i f s hi hf).grow he.grow0⟩, fun _ h => by cases h⟩

/-- a row without elements -/
theorem MemRel.lay0 {F w bs mem} (hm : MemRel F w bs mem) (e : TypeId) (es : List Sh) {n : Nat} (h0 : n = 0) (ρ : Val) :
    Ext bs.length F w bs F w (bs ++ [⟨w.heap.size, n, 0⟩]) ∧ MemRel F w (bs ++ [⟨w.heap.size, n, 0⟩]) (mem ++ [some (e, [.row false es n ρ])]) := by
  refine ⟨Ext.refl.push (.inr (Nat.le_refl _)), hm.push _ (fun h => by have := h.2; omega) (fun h => by have := h.2; omega) (fun h => by simp [isRowL] at h) (fun fz es' n' ρ' h => ?_)⟩
  simp at h
  obtain ⟨rfl, rfl, rfl, rfl⟩ := h
  exact ⟨rfl, fun _ => rfl, fun h => by omega, fun h => by omega, fun h => by omega⟩

theorem repC_length (z : List CV) : ∀ n, (repC z n).length = n * z.length
  | 0 => by simp [repC]
  | n + 1 => by simp [repC, repC_length z n, Nat.add_mul, Nat.add_comm]

theorem repC_nth (z : List CV) : ∀ (n i : Nat), i < n * z.length → nth (repC z n) i = nth z (i % z.length)
  | 0, i, h => by omega
  | n + 1, i, h => by
    rw [Nat.add_mul, Nat.one_mul] at h
    simp only [repC]
    rw [nth_eq, nth_eq]
    rcases Nat.lt_or_ge i z.length with hi | hi
    · rw [List.getElem?_append_left hi, Nat.mod_eq_of_lt hi]
    · rw [List.getElem?_append_right hi]
      have := repC_nth z n (i - z.length) (by omega)
      rw [nth_eq, nth_eq] at this
      rw [this, ← Nat.mod_eq_sub_mod hi]

theorem evFill_nil {sz : Nat} (h0 : 0 < sz) : ∀ {parts : List (Nat × A1)} {cs : List CV}, evFill (fun i => some (i * sz, sz)) [] parts = some cs → parts = []
  | [], _, _ => rfl
  | (i, v) :: r, cs, h => by
    simp only [evFill] at h
    have hc : ¬ (v.cells.length == sz && Nat.ble (i * sz + v.cells.length) ([] : List CV).length) = true := by
      intro hc
      simp only [Bool.and_eq_true, beq_iff_eq, Nat.ble_eq, List.length_nil] at hc
      omega
    rw [if_neg hc] at h
    cases h

theorem buildSlice_ok {F w bs mem} (hm : MemRel F w bs mem) {t : TypeId} {n : Nat} {parts : List (Nat × A1)} {pv : Array (Nat × Value)} {r : AV} {mem' : Mem} (h : evBuildSlice P mem t n parts = some (r, mem'))
    (hp : All2 (fun x y => x.1 = y.1 ∧ A1.Rel F w bs x.2 y.2) parts pv.toList) :
    ∃ F' w' bs' v, Ext bs.length F w bs F' w' bs' ∧ MemRel F' w' bs' mem' ∧ r.Rel F' w' bs' v ∧ (Instr.buildSlice t n pv).run P w = .ok v w' := by
  unfold evBuildSlice at h
  split at h
  · rename_i e hu
    split at h
    · rename_i j es z hj hes hz
      split at h
      · rename_i hcond
        simp only [Bool.and_eq_true, beq_iff_eq, Nat.ble_eq, Nat.blt_eq] at hcond
        obtain ⟨⟨⟨h1, h2⟩, h3⟩, h4⟩ := hcond
        split at h
        · rename_i cs hfill
          simp only at h
          split at h
          · rename_i hfit
            simp only [Option.some.injEq, Prod.mk.injEq] at h
            obtain ⟨rfl, rfl⟩ := h
            unfold zeroCellsOf at hz
            simp only [hj] at hz
            split at hz
            · rename_i zv hzv
              have hzc : All2 (CV.Rel F w bs) z zv.cells.toList := liftCells_ok hz
              have hzs : zv.cells.size = j.size := by have := hzc.length; simp at this; omega
              let base : List Value := (List.range (n * j.size)).map fun i => zv.cells[i % zv.cells.size]!
              have hbase : All2 (CV.Rel F w bs) (repC z n) base := by
                refine All2.of_nth (by simp [base, repC_length, h3]) fun i x v hx hv => ?_
                have hi := nth_lt hv
                simp only [base, List.length_map, List.length_range] at hi
                rw [repC_nth z n i (by rw [h3]; exact hi)] at hx
                rw [nth_eq] at hv
                simp only [base, List.getElem?_map, List.getElem?_range hi, Option.map_some, Option.some.injEq] at hv
                subst hv
                obtain ⟨u, hu, hr⟩ := hzc.nth hx
                rw [hzs, ← h3]
                simp only [Array.getElem?_toList] at hu
                rw [getElem!_def, hu]
                exact hr
              obtain ⟨rv, hrv, hf⟩ := fill_ok (places' := fun i => some (i * j.size, j.size)) (fun i p h => h) hfill hbase hp
              obtain ⟨F1, e1, m1, r1⟩ := frzCs_ok hm hrv
              obtain ⟨hl, hnth⟩ := fitsFlat_nth hfit
              have hlen : rv.length = n * j.size := by rw [← r1.length, hl, h1]
              have harr : ((Array.range (n * j.size)).map (zv.cells[· % zv.cells.size]!)) = base.toArray := by
                apply Array.ext'
                simp [base, Array.toList_map]
              have content : ∀ i f, i < n → f < es.length → rv.toArray[i * es.length + f]? = some (rv.toArray[i * es.length + f]?.getD undef) := by
                intro i f hi hf
                have : i * es.length + f < rv.length := by
                  rw [hlen, ← h1]
                  have : (i + 1) * es.length ≤ n * es.length := Nat.mul_le_mul_right _ hi
                  rw [Nat.add_mul, Nat.one_mul] at this
                  omega
                simp [this]
              have rel : ∀ i f s, i < n → nth es f = some s → CV.Rel F1 w [] (cellOf s (((Val.ofFlat j.size (frzCs mem cs).2).at i).at f)) (rv.toArray[i * es.length + f]?.getD undef) := by
                intro i f s hi hf
                obtain ⟨c, hc, hfit⟩ := hnth i f s hi hf
                obtain ⟨u, hu, hrel⟩ := r1.nth hc
                have := fits_rel hrel hfit
                have e1 : ((Val.ofFlat j.size (frzCs mem cs).2).at i).at f = Val.ofC c := by
                  show (match nth (frzCs mem cs).2 (i * j.size + f) with | some x => Val.ofC x | none => Val.zero) = _
                  rw [← h1, hc]
                rw [e1]
                simpa [hu] using this
              by_cases hn : n = 0
              · subst hn
                have hrv0 : rv = [] := List.eq_nil_of_length_eq_zero (by simpa using hlen)
                subst hrv0
                obtain ⟨F2, e2, m2⟩ := m1.lay (e := e) (es := es) (n := 0) (cap := 0) (ρ := Val.ofFlat j.size (frzCs mem cs).2) (arr := #[]) (fun _ => rfl) (Nat.le_refl _) (Nat.zero_le _) (by simp) (fun _ _ => undef) (fun i f h => by omega) (fun i f s h => by omega)
                refine ⟨F2, _, _, .slice (some ⟨w.heap.size, 0, none⟩) 0 0, e1.trans e2 (Nat.le_refl _), m2, CV.Rel.os (x := ⟨w.heap.size, 0, 0⟩) (by rw [← m1.len]; exact nth_append_last _ _) (fun _ => rfl), ?_⟩
                have hpv : pv = #[] := by
                  have := evFill_nil (cs := cs) (sz := j.size) h2 hfill
                  subst this
                  cases hp' : pv.toList with
                  | nil => rw [← Array.toArray_toList (xs := pv), hp']
                  | cons _ _ => rw [hp'] at hp; cases hp
                subst hpv
                have hr0 : Array.range 0 = #[] := Array.eq_empty_of_size_eq_zero (by simp)
                simp [Instr.buildSlice, run_underlying hu, sizeOf, typeInfo, hj, Instr.fill, newRow, hr0]
              · have hpos : n * j.size ≠ 0 := by
                  intro e
                  rcases Nat.mul_eq_zero.1 e with e | e <;> omega
                obtain ⟨F2, e2, m2⟩ := m1.lay (e := e) (es := es) (n := n) (cap := n) (ρ := Val.ofFlat j.size (frzCs mem cs).2) (arr := rv.toArray) (fun h => h) (Nat.le_refl _) (by
                  have : n ≤ n * j.size := Nat.le_mul_of_pos_right _ h2
                  simp only [maxLen]; omega) (by simp [hlen, h1]) _ content rel
                refine ⟨F2, _, _, .slice (some ⟨w.heap.size, 0, none⟩) n n, e1.trans e2 (Nat.le_refl _), m2, CV.Rel.os (x := ⟨w.heap.size, n, n⟩) (by rw [← m1.len]; exact nth_append_last _ _) (fun _ => rfl), ?_⟩
                exact run_buildSlice w t e n pv rv.toArray j zv hu hj hzv (by omega) hpos (by rw [harr]; exact hf)
            · simp at hz
          · simp at h
        · simp at h
      · simp at h
    · simp at h
  · simp at h

end
end Go.Sx
