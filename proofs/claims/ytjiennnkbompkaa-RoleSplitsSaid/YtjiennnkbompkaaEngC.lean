/-
  The evaluator's soundness (part C): the operations that touch no memory.
-/
import Derived.Test.YtjiennnkbompkaaEngB
import Derived.ChangeKeysEq
namespace Go.Sx
open Go

section
variable {P : Program} {F : Nat → Prop} {w : World} {bs : List BI}

theorem liftCell_ok {v : Value} {c : CV} (h : liftCell v = some c) : c.Rel F w bs v := by
  unfold liftCell at h
  split at h <;> simp at h <;> subst h <;> constructor

theorem liftCells_ok : ∀ {l : List Value} {cs : List CV}, liftCells l = some cs → All2 (CV.Rel F w bs) cs l
  | [], cs, h => by simp [liftCells] at h; subst h; exact .nil
  | v :: l, cs, h => by
    simp only [liftCells] at h
    split at h
    · rename_i c r hc hr
      simp at h; subst h
      exact .cons (liftCell_ok hc) (liftCells_ok hr)
    · simp at h

theorem liftV_ok {v : Value} {x : AV} (h : liftV v = some x) : x.Rel F w bs v := by
  unfold liftV at h
  split at h <;> simp at h <;> subst h <;> simp only [AV.Rel, A1.Rel] <;> constructor

mutual
theorem shEq_eq : ∀ {a b : Sh}, shEq a b = true → a = b
  | .bool, .bool, _ => rfl
  | .int k, .int k', h => by simp [shEq] at h; rw [h]
  | .str, .str, _ => rfl
  | .sl a, .sl b, h => by simp only [shEq] at h; rw [shsEq_eq h]
  | .bool, .int _, h => by simp [shEq] at h
  | .bool, .str, h => by simp [shEq] at h
  | .bool, .sl _, h => by simp [shEq] at h
  | .int _, .bool, h => by simp [shEq] at h
  | .int _, .str, h => by simp [shEq] at h
  | .int _, .sl _, h => by simp [shEq] at h
  | .str, .bool, h => by simp [shEq] at h
  | .str, .int _, h => by simp [shEq] at h
  | .str, .sl _, h => by simp [shEq] at h
  | .sl _, .bool, h => by simp [shEq] at h
  | .sl _, .int _, h => by simp [shEq] at h
  | .sl _, .str, h => by simp [shEq] at h
theorem shsEq_eq : ∀ {a b : List Sh}, shEq.shsEq a b = true → a = b
  | [], [], _ => rfl
  | a :: l, b :: r, h => by
    simp only [shEq.shsEq, Bool.and_eq_true] at h
    rw [shEq_eq h.1, shsEq_eq h.2]
  | [], _ :: _, h => by simp [shEq.shsEq] at h
  | _ :: _, [], h => by simp [shEq.shsEq] at h
end

theorem mergeC_ok {c : Bool} {a b : CV} {v : Value} (ha : c = true → a.Rel F w bs v) (hb : c = false → b.Rel F w bs v) : (mergeC c a b).Rel F w bs v := by
  cases c
  · have h := hb rfl
    unfold mergeC
    split
    · exact h
    · split
      · rename_i he; subst he; exact h
      · exact .any h.one
    · exact h
    · exact h
    · exact h
    · exact h
    · exact h
    · split
      · rename_i he
        simp only [Bool.and_eq_true, beq_iff_eq] at he
        rw [he.1, he.2]; exact h
      · exact .any h.one
    · split
      · rename_i he
        simp only [Bool.and_eq_true, beq_iff_eq] at he
        rw [he.1, he.2]; exact h
      · exact .any h.one
    · split
      · rename_i he
        rw [shsEq_eq he]; exact h
      · exact .any h.one
    · cases h; exact .slnil
    · exact h
    · exact .any h.one
  · have h := ha rfl
    unfold mergeC
    split
    · exact h
    · split
      · exact h
      · exact .any h.one
    · exact h
    · exact h
    · exact h
    · exact h
    · exact h
    · split
      · exact h
      · exact .any h.one
    · split
      · exact h
      · exact .any h.one
    · split
      · exact h
      · exact .any h.one
    · exact h
    · cases h; exact .slnil
    · exact .any h.one

theorem mergeCs_ok {c : Bool} : ∀ {a b m : List CV} {vs : List Value}, mergeCs c a b = some m → (c = true → All2 (CV.Rel F w bs) a vs) → (c = false → All2 (CV.Rel F w bs) b vs) → All2 (CV.Rel F w bs) m vs
  | [], [], m, vs, h, ha, hb => by
    simp [mergeCs] at h; subst h
    cases c
    · exact hb rfl
    · exact ha rfl
  | x :: a, y :: b, m, vs, h, ha, hb => by
    simp only [mergeCs] at h
    split at h
    · rename_i m' hm
      simp at h; subst h
      cases vs with
      | nil =>
        cases c
        · have := hb rfl; cases this
        · have := ha rfl; cases this
      | cons v vs =>
        refine .cons (mergeC_ok (fun h => by have := ha h; cases this; assumption) (fun h => by have := hb h; cases this; assumption)) ?_
        exact mergeCs_ok hm (fun h => by have := ha h; cases this; assumption) (fun h => by have := hb h; cases this; assumption)
    · simp at h
  | [], _ :: _, _, _, h, _, _ => by simp [mergeCs] at h
  | _ :: _, [], _, _, h, _, _ => by simp [mergeCs] at h

theorem merge1_ok {c : Bool} {a b m : A1} {v : Value} (h : merge1 c a b = some m) (ha : c = true → a.Rel F w bs v) (hb : c = false → b.Rel F w bs v) : m.Rel F w bs v := by
  unfold merge1 at h
  split at h
  · simp at h; subst h
    exact mergeC_ok ha hb
  · split at h
    · rename_i m' hm
      simp at h; subst h
      cases c
      · obtain ⟨vs, rfl, h⟩ := hb rfl
        exact ⟨vs, rfl, mergeCs_ok hm (fun h => by cases h) (fun _ => h)⟩
      · obtain ⟨vs, rfl, h⟩ := ha rfl
        exact ⟨vs, rfl, mergeCs_ok hm (fun _ => h) (fun h => by cases h)⟩
    · simp at h
  · simp at h

theorem merge1s_ok {c : Bool} : ∀ {a b m : List A1} {vs : List Value}, merge1s c a b = some m → (c = true → All2 (A1.Rel F w bs) a vs) → (c = false → All2 (A1.Rel F w bs) b vs) → All2 (A1.Rel F w bs) m vs
  | [], [], m, vs, h, ha, hb => by
    simp [merge1s] at h; subst h
    cases c
    · exact hb rfl
    · exact ha rfl
  | x :: a, y :: b, m, vs, h, ha, hb => by
    simp only [merge1s] at h
    split at h
    · rename_i x' m' hx hm
      simp at h; subst h
      cases vs with
      | nil =>
        cases c
        · have := hb rfl; cases this
        · have := ha rfl; cases this
      | cons v vs =>
        refine .cons (merge1_ok hx (fun h => by have := ha h; cases this; assumption) (fun h => by have := hb h; cases this; assumption)) ?_
        exact merge1s_ok hm (fun h => by have := ha h; cases this; assumption) (fun h => by have := hb h; cases this; assumption)
    · simp at h
  | [], _ :: _, _, _, h, _, _ => by simp [merge1s] at h
  | _ :: _, [], _, _, h, _, _ => by simp [merge1s] at h

theorem mergeA_ok {c : Bool} {a b : AV} {v : Value} (ha : c = true → a.Rel F w bs v) (hb : c = false → b.Rel F w bs v) : (mergeA c a b).Rel F w bs v := by
  unfold mergeA
  split
  · rename_i a b
    split
    · rename_i m hm
      cases c
      · obtain ⟨vs, rfl, h⟩ := hb rfl
        exact ⟨vs, rfl, merge1s_ok hm (fun h => by cases h) (fun _ => h)⟩
      · obtain ⟨vs, rfl, h⟩ := ha rfl
        exact ⟨vs, rfl, merge1s_ok hm (fun _ => h) (fun h => by cases h)⟩
    · trivial
  · exact mergeC_ok ha hb
  · rename_i a b
    split
    · rename_i m hm
      cases c
      · obtain ⟨vs, rfl, h⟩ := hb rfl
        exact ⟨vs, rfl, mergeCs_ok hm (fun h => by cases h) (fun _ => h)⟩
      · obtain ⟨vs, rfl, h⟩ := ha rfl
        exact ⟨vs, rfl, mergeCs_ok hm (fun _ => h) (fun h => by cases h)⟩
    · trivial
  · trivial

theorem cell_one {x : CV} {v : Value} (h : x.Rel F w bs v) : v.cells = #[v] := by
  have := h.one
  cases v <;> first | rfl | simp [Value.oneCell'] at this

theorem A1.Rel.cells {a : A1} {v : Value} (h : a.Rel F w bs v) : All2 (CV.Rel F w bs) a.cells v.cells.toList := by
  cases a with
  | c x => rw [cell_one h]; exact .cons h .nil
  | agg l => obtain ⟨vs, rfl, h⟩ := h; exact h

theorem isAggT_ok {t : TypeId} {b : Bool} (h : isAggT P t = some b) (w : World) : (isAgg t).run P w = .ok b w := by
  unfold isAggT at h
  unfold isAgg
  split at h
  · rename_i hu; simp at h; subst h; simp [run_underlying hu]
  · rename_i hu; simp at h; subst h; simp [run_underlying hu]
  · rename_i d h1 h2 hu
    simp at h; subst h
    rw [Sem.run_bind, run_underlying hu]
    simp only [Result.andThen_ok]
    cases d <;> first | rfl | exact (h1 _ rfl).elim | exact (h2 _ _ rfl).elim
  · simp at h

theorem run_sizeOf' {t : TypeId} {i : TypeInfo} (h : P.info? t = some i) (w : World) : (sizeOf t).run P w = .ok i.size w := by
  simp [sizeOf, typeInfo, h]

theorem info_of_underlying {t : TypeId} {d : TypeDesc} (h : P.underlying t = some d) : ∃ i, P.info? t = some i := by
  unfold Program.underlying at h
  split at h <;> simp_all

theorem info_of_isAggT {t : TypeId} {b : Bool} (h : isAggT P t = some b) : ∃ i, P.info? t = some i := by
  unfold isAggT at h
  split at h <;> first | (rename_i hu; exact info_of_underlying hu) | simp at h

theorem cellsOf_eq {t : TypeId} {i : TypeInfo} (h : P.info? t = some i) : P.cellsOf t = i.size := by simp [Program.cellsOf, h]

theorem partOf_ok {t : TypeId} {cs : List CV} {off : Nat} {a : A1} {vs : List Value} (h : partOf P t cs off = some a) (hr : All2 (CV.Rel F w bs) cs vs) :
    ∃ v, a.Rel F w bs v ∧ ∀ w', (part t vs.toArray off).run P w' = .ok v w' := by
  unfold partOf at h
  split at h
  · rename_i hi
    split at h
    · rename_i l hl
      simp at h; subst h
      rw [dropN_eq] at hl
      obtain ⟨hl, hlen⟩ := takeN_some hl
      obtain ⟨j, hj⟩ := info_of_isAggT hi
      rw [cellsOf_eq hj] at hl hlen
      refine ⟨.agg ((vs.drop off).take j.size).toArray, ⟨_, rfl, by rw [hl]; exact (hr.drop off).take _⟩, fun w' => ?_⟩
      unfold part
      simp only [Sem.run_bind, isAggT_ok hi, Result.andThen_ok, if_true, run_sizeOf' hj, Sem.run_pure]
      congr 2
      apply Array.ext'
      simp [List.take_drop]
    · simp at h
  · rename_i hi
    split at h
    · rename_i x hx
      simp at h; subst h
      obtain ⟨v, hv, hrel⟩ := hr.nth hx
      refine ⟨v, hrel, fun w' => ?_⟩
      unfold part
      simp only [Sem.run_bind, isAggT_ok hi, Result.andThen_ok]
      simp [hv]
    · simp at h
  · simp at h

theorem putCells_ok : ∀ {news : List CV} {cs : List CV} {o : Nat} {vs nv : List Value}, All2 (CV.Rel F w bs) cs vs → All2 (CV.Rel F w bs) news nv →
    All2 (CV.Rel F w bs) (putCells cs o news) ((nv.zipIdx o).foldl (fun l (c, j) => l.set j c) vs)
  | [], cs, o, vs, nv, h, hn => by cases hn; exact h
  | x :: r, cs, o, vs, nv, h, hn => by
    cases hn with
    | cons hx hr =>
      simp only [putCells, List.zipIdx_cons, List.foldl_cons]
      exact putCells_ok (h.set o hx) hr

theorem fill_ok {places places' : Nat → Option (Nat × Nat)} (hpl : ∀ i p, places i = some p → places' i = some p) : ∀ {parts : List (Nat × A1)} {pv : List (Nat × Value)} {cs r : List CV} {vs : List Value}, evFill places cs parts = some r → All2 (CV.Rel F w bs) cs vs →
    All2 (fun x y => x.1 = y.1 ∧ A1.Rel F w bs x.2 y.2) parts pv → ∃ rv : List Value, All2 (CV.Rel F w bs) r rv ∧ Instr.fill places' vs.toArray pv = some rv.toArray
  | [], pv, cs, r, vs, h, hc, hp => by
    cases hp
    simp [evFill] at h; subst h
    exact ⟨vs, hc, rfl⟩
  | (i, a) :: parts, pv, cs, r, vs, h, hc, hp => by
    cases hp with
    | cons h1 h2 =>
      rename_i y pv
      obtain ⟨i', v⟩ := y
      obtain ⟨rfl, ha⟩ := h1
      simp only [evFill] at h
      split at h
      · simp at h
      · rename_i off size hpi
        split at h
        · rename_i hcond
          simp only [Bool.and_eq_true, beq_iff_eq, Nat.ble_eq] at hcond
          obtain ⟨hl, hb⟩ := hcond
          have hcl := ha.cells
          have hlen := hcl.length
          have hlen2 := hc.length
          obtain ⟨rv, hrv, hf⟩ := fill_ok hpl (vs := ((v.cells.toList.zipIdx off).foldl (fun l (c, j) => l.set j c) vs)) h (putCells_ok hc hcl) h2
          refine ⟨rv, hrv, ?_⟩
          simp only [Instr.fill, hpl _ _ hpi]
          rw [if_neg ?_]
          · rw [← hf]
            congr 1
            rw [← Array.foldl_toList, Array.toList_zipIdx]
            have key : ∀ (l : List Value) (k : Nat) (vs : List Value), (l.zipIdx k).foldl (fun cs (x : Value × Nat) => cs.setIfInBounds (off + x.2) x.1) vs.toArray = ((l.zipIdx (off + k)).foldl (fun l (x : Value × Nat) => l.set x.2 x.1) vs).toArray := by
              intro l
              induction l with
              | nil => intro k vs; rfl
              | cons a l ih =>
                intro k vs
                simp only [List.zipIdx_cons, List.foldl_cons, List.setIfInBounds_toArray]
                exact ih (k + 1) _
            exact key v.cells.toList 0 vs
          · simp only [Array.length_toList] at hlen
            simp [← hlen, hl, ← hlen2]
            omega
        · simp at h

theorem evParts_ok {ρ : Operand → Option AV} {ρc : Operand → Value} (hρ : ∀ x av, ρ x = some av → av.Rel F w bs (ρc x)) : ∀ {parts : List (Nat × Operand)} {l : List (Nat × A1)}, evParts ρ parts = some l →
    All2 (fun x y => x.1 = y.1 ∧ A1.Rel F w bs x.2 y.2) l (parts.map fun (i, x) => (i, ρc x))
  | [], l, h => by simp [evParts] at h; subst h; exact .nil
  | (i, x) :: r, l, h => by
    simp only [evParts] at h
    split at h
    · rename_i a l' ha hl
      simp at h; subst h
      exact .cons ⟨rfl, hρ _ _ ha⟩ (evParts_ok hρ hl)
    · simp at h

theorem zeroCellsOf_ok {t : TypeId} {z : List CV} (h : zeroCellsOf P t = some z) : ∃ v : Value, (∀ w', (zeroValue t).run P w' = .ok v w') ∧ All2 (CV.Rel F w bs) z v.cells.toList := by
  unfold zeroCellsOf at h
  split at h
  · rename_i i hi
    split at h
    · rename_i v hv
      exact ⟨v, fun w' => by simp [zeroValue, typeInfo, hi, hv], liftCells_ok h⟩
    · simp at h
  · simp at h

theorem run_mapM_list {α β : Type} (f : α → Sem β) (g : α → β) (w' : World) : ∀ (l : List α), (∀ x ∈ l, (f x).run P w' = .ok (g x) w') → (l.mapM f).run P w' = .ok (l.map g) w'
  | [], _ => by simp
  | x :: l, h => by
    have ih := run_mapM_list f g w' l (fun y hy => h y (by simp [hy]))
    simp [List.mapM_cons, h x (by simp), ih]

theorem run_mapM {α β : Type} (f : α → Sem β) (g : α → β) (w' : World) (l : Array α) (h : ∀ x ∈ l.toList, (f x).run P w' = .ok (g x) w') : (l.mapM f).run P w' = .ok (l.map g) w' := by
  rw [Array.mapM_eq_mapM_toList]
  simp only [Sem.run_map, run_mapM_list f g w' l.toList h, Result.andThen_ok]
  congr 1
  apply Array.ext'
  simp

theorem evBuild_ok {t : TypeId} {parts : List (Nat × A1)} {pv : Array (Nat × Value)} {x : AV} (h : evBuild P t parts = some x)
    (hp : All2 (fun x y => x.1 = y.1 ∧ A1.Rel F w bs x.2 y.2) parts pv.toList) : ∃ v, x.Rel F w bs v ∧ ∀ w', (Instr.build t pv).run P w' = .ok v w' := by
  unfold evBuild at h
  split at h
  · rename_i z fs hz hu
    split at h
    · rename_i cs hf
      split at h
      · rename_i hall
        simp at h; subst h
        obtain ⟨zv, hzr, hzc⟩ := zeroCellsOf_ok (F := F) (w := w) (bs := bs) hz
        let g : Field → Nat × Nat := fun f => (f.offset, match P.info? f.type with | some j => j.size | none => 0)
        have hplaces : ∀ i p, (match nth fs.toList i with | some f => (match P.info? f.type with | some j => some (f.offset, j.size) | none => none) | none => none) = some p → ((fs.map g)[i]?) = some p := by
          intro i p hp
          split at hp
          · rename_i f hfi
            split at hp
            · rename_i j hj
              simp at hp; subst hp
              rw [nth_eq] at hfi
              simp only [Array.getElem?_toList] at hfi
              simp [hfi, g, hj]
            · simp at hp
          · simp at hp
        obtain ⟨rv, hrv, hfill⟩ := fill_ok (places' := fun i => (fs.map g)[i]?) hplaces hf hzc hp
        refine ⟨.agg rv.toArray, ⟨rv, rfl, hrv⟩, fun w' => ?_⟩
        have hmap : (fs.mapM fun f => (do pure (f.offset, ← sizeOf f.type) : Sem (Nat × Nat))).run P w' = .ok (fs.map g) w' := by
          refine run_mapM _ g w' fs fun f hf => ?_
          have := List.all_eq_true.1 hall f hf
          obtain ⟨j, hj⟩ := Option.isSome_iff_exists.1 this
          simp [run_sizeOf' hj, g, hj]
        unfold Instr.build
        simp only [Array.toArray_toList] at hfill
        simp only [Sem.run_bind, hzr, Result.andThen_ok, run_underlying hu, hmap]
        rw [hfill]
        rfl
      · simp at h
    · simp at h
  · rename_i z n e hz hu
    split at h
    · rename_i j hj
      split at h
      · rename_i cs hf
        simp at h; subst h
        obtain ⟨zv, hzr, hzc⟩ := zeroCellsOf_ok (F := F) (w := w) (bs := bs) hz
        obtain ⟨rv, hrv, hfill⟩ := fill_ok (places' := fun i => some (i * j.size, j.size)) (fun i p h => h) hf hzc hp
        refine ⟨.agg rv.toArray, ⟨rv, rfl, hrv⟩, fun w' => ?_⟩
        unfold Instr.build
        simp only [Sem.run_bind, hzr, Result.andThen_ok, run_underlying hu, run_sizeOf' hj]
        simp only [Array.toArray_toList] at hfill
        simp [hfill]
      · simp at h
    · simp at h
  · simp at h

theorem part_plain {f : Field} (hp : plainField P f = true) {cs : List CV} {vs : List Value} (hr : All2 (CV.Rel F w bs) cs vs) {x : CV} (hx : nth cs f.offset = some x) :
    ∃ v, x.Rel F w bs v ∧ ∀ w', (part f.type vs.toArray f.offset).run P w' = .ok v w' := by
  have hi : isAggT P f.type = some false := by
    unfold plainField at hp
    unfold isAggT
    simp only [Bool.and_eq_true] at hp
    split at hp
    · rename_i hu; simp [hu]
    · rename_i k hu; simp [hu]
    · rename_i hu; simp [hu]
    · simp at hp
  exact partOf_ok (a := .c x) (by unfold partOf; rw [hi]; simp [hx]) hr

theorem eqFields_ok (d : Nat) {xs ys : List CV} {vx vy : List Value} (hx : All2 (CV.Rel F w bs) xs vx) (hy : All2 (CV.Rel F w bs) ys vy) (w' : World) :
    ∀ {fs : List Field} {e : Bool}, eqFields P xs ys fs = some e → (Op.eqFields (d + 1) vx.toArray vy.toArray fs).run P w' = .ok e w'
  | [], e, h => by simp [eqFields] at h; subst h; simp [Op.eqFields]
  | f :: r, e, h => by
    simp only [eqFields] at h
    split at h
    · rename_i hpl
      split at h
      · rename_i a b ha hb
        obtain ⟨va, hra, hpa⟩ := part_plain hpl hx ha
        obtain ⟨vb, hrb, hpb⟩ := part_plain hpl hy hb
        have hname : f.name ≠ "_" := by
          unfold plainField at hpl
          simp only [Bool.and_eq_true, bne_iff_ne] at hpl
          exact hpl.1.1
        simp only [Op.eqFields, if_pos hname, Sem.run_bind, hpa, hpb, Result.andThen_ok]
        split at h
        · rename_i p q e' hu he
          simp at h; subst h
          cases hra; cases hrb
          rw [run_equalIn_bool' w' d f.type p q hu]
          simp only [Result.andThen_ok]
          cases hpq : (p == q)
          · simp
          · simp [eqFields_ok d hx hy w' he]
        · rename_i k0 k p k' q e' hu he
          split at h
          · rename_i hk
            subst hk
            simp at h; subst h
            cases hra; cases hrb
            rw [run_equalIn_int w' d f.type k k0 p q hu]
            simp only [Result.andThen_ok]
            cases hpq : (p == q)
            · simp
            · simp [eqFields_ok d hx hy w' he]
          · simp at h
        · rename_i p q e' hu he
          simp at h; subst h
          cases hra; cases hrb
          rw [run_equalIn_string w' d f.type p q hu, ← beq_toListBytes]
          simp only [Result.andThen_ok]
          cases hpq : (p == q)
          · simp
          · simp [eqFields_ok d hx hy w' he]
        · simp at h
      · simp at h
    · simp at h

theorem eqItems_ok (d : Nat) {e : TypeId} (hp : plainT P e = true) {xs ys : List CV} {vx vy : List Value} (hx : All2 (CV.Rel F w bs) xs vx) (hy : All2 (CV.Rel F w bs) ys vy) (w' : World) :
    ∀ {is : List Nat} {z : Bool}, eqItems P e xs ys is = some z → (Op.eqItems (d + 1) e (P.cellsOf e) vx.toArray vy.toArray is).run P w' = .ok z w'
  | [], z, h => by simp [eqItems] at h; subst h; simp [Op.eqItems]
  | i :: r, z, h => by
    unfold plainT at hp
    simp only [Bool.and_eq_true, beq_iff_eq] at hp
    have hagg : isAggT P e = some false := by
      unfold isAggT
      have := hp.2
      split at this
      · rename_i hu; simp [hu]
      · rename_i k hu; simp [hu]
      · rename_i hu; simp [hu]
      · simp at this
    have hpart : ∀ {cs : List CV} {vs : List Value}, All2 (CV.Rel F w bs) cs vs → ∀ {x : CV}, nth cs i = some x → ∃ v, x.Rel F w bs v ∧ ∀ w', (part e vs.toArray i).run P w' = .ok v w' := fun hr x hx => partOf_ok (a := .c x) (by unfold partOf; rw [hagg]; simp [hx]) hr
    simp only [eqItems] at h
    split at h
    · rename_i a b ha hb
      obtain ⟨va, hra, hpa⟩ := hpart hx ha
      obtain ⟨vb, hrb, hpb⟩ := hpart hy hb
      simp only [Op.eqItems, hp.1, Nat.mul_one, Sem.run_bind, hpa, hpb, Result.andThen_ok]
      have ih := fun {z' : Bool} (h : eqItems P e xs ys r = some z') => eqItems_ok d (by unfold plainT; simp [hp]) hx hy w' h
      rw [hp.1] at ih
      split at h
      · rename_i p q e' hu he
        simp at h; subst h
        cases hra; cases hrb
        rw [run_equalIn_bool' w' d e p q hu]
        simp only [Result.andThen_ok]
        cases hpq : (p == q)
        · simp
        · simp [ih he]
      · rename_i k0 k p k' q e' hu he
        split at h
        · rename_i hk
          subst hk
          simp at h; subst h
          cases hra; cases hrb
          rw [run_equalIn_int w' d e k k0 p q hu]
          simp only [Result.andThen_ok]
          cases hpq : (p == q)
          · simp
          · simp [ih he]
        · simp at h
      · rename_i p q e' hu he
        simp at h; subst h
        cases hra; cases hrb
        rw [run_equalIn_string w' d e p q hu, ← beq_toListBytes]
        simp only [Result.andThen_ok]
        cases hpq : (p == q)
        · simp
        · simp [ih he]
      · simp at h
    · simp at h

end
end Go.Sx
