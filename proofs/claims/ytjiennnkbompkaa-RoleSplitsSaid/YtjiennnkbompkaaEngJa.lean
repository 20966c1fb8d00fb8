/-
  The evaluator's soundness: ways that meet again.
-/
import Derived.Test.YtjiennnkbompkaaEngN
namespace Go.Sx
open Go Go.RowKit

/-- the second memory says no more than the first one -/
structure MemWk (m m' : Mem) : Prop where
  len : m.length ≤ m'.length
  ent : ∀ k T cs', nth m' k = some (some (T, cs')) → ∃ cs, nth m k = some (some (T, cs)) ∧ (isRowL cs = true → cs' = cs) ∧ (isRowL cs = false → isRowL cs' = false ∧ ∀ F w bs vs, All2 (CV.Rel F w bs) cs vs → All2 (CV.Rel F w bs) cs' vs)

theorem MemWk.refl {m : Mem} : MemWk m m := ⟨Nat.le_refl _, fun _ _ cs h => ⟨cs, h, fun _ => rfl, fun hr => ⟨hr, fun _ _ _ _ h => h⟩⟩⟩

theorem lin_sel {α : Type} : ∀ {t : Tree α} {l : List Bool} {a : α}, lin t = some (l, a) → (∀ b ∈ l, b = true) → t.sel = some a
  | .leaf x, l, a, h, _ => by simp [lin] at h; rw [h.2]; rfl
  | .need c t, l, a, h, hl => by
    simp only [lin] at h
    split at h
    · rename_i l' a' h'
      simp at h
      obtain ⟨rfl, rfl⟩ := h
      simp only [Tree.sel, hl c (by simp), cond_true]
      exact lin_sel h' fun b hb => hl b (by simp [hb])
    · simp at h
  | .br _ _ _, _, _, h, _ => by simp [lin] at h
  | .fail, _, _, h, _ => by simp [lin] at h

theorem needAll_sel {α : Type} : ∀ {l : List Bool} {t : Tree α} {x : α}, (needAll l t).sel = some x → (∀ b ∈ l, b = true) ∧ t.sel = some x
  | [], t, x, h => ⟨by simp, h⟩
  | c :: l, t, x, h => by
    simp only [needAll, Tree.sel] at h
    cases c
    · simp at h
    · simp only [cond_true] at h
      obtain ⟨h1, h2⟩ := needAll_sel h
      exact ⟨by simpa using h1, h2⟩

theorem needBoth_ok {c : Bool} {l1 l2 : List Bool} (h : ∀ b ∈ needBoth c l1 l2, b = true) : (c = true → ∀ b ∈ l1, b = true) ∧ (c = false → ∀ b ∈ l2, b = true) := by
  refine ⟨fun hc b hb => ?_, fun hc b hb => ?_⟩
  · have := h (!c || b) (by unfold needBoth; exact List.mem_append_left _ (List.mem_map_of_mem hb))
    subst hc; simpa using this
  · have := h (c || b) (by unfold needBoth; exact List.mem_append_right _ (List.mem_map_of_mem hb))
    subst hc; simpa using this

theorem not_row {cs : List CV} (h : isRowL cs = false) {fz es n ρ} : cs ≠ [.row fz es n ρ] := by
  rintro rfl; simp [isRowL] at h

theorem isRowL_iff {cs : List CV} (h : isRowL cs = true) : ∃ fz es n ρ, cs = [.row fz es n ρ] := by
  unfold isRowL at h
  split at h
  · exact ⟨_, _, _, _, rfl⟩
  · cases h

theorem mergeC_noRow {c : Bool} {a b : CV} {fz es n ρ} (h : mergeC c a b = .row fz es n ρ) : False := by
  unfold mergeC at h
  split at h <;> (try split at h) <;> simp_all

theorem mergeCs_noRow {c : Bool} {a b m : List CV} (h : mergeCs c a b = some m) : isRowL m = false := by
  cases hm : isRowL m
  · rfl
  · obtain ⟨fz, es, n, ρ, rfl⟩ := isRowL_iff hm
    cases a with
    | nil => cases b <;> simp [mergeCs] at h
    | cons x a =>
      cases b with
      | nil => simp [mergeCs] at h
      | cons y b =>
        simp only [mergeCs] at h
        split at h
        · simp only [Option.some.injEq, List.cons.injEq] at h
          exact (mergeC_noRow h.1).elim
        · simp at h

theorem mergeCells_ok {c : Bool} {a b m : List CV} (h : mergeCells c a b = some m) : let s := bif c then a else b; (isRowL s = true → m = s) ∧ (isRowL s = false → isRowL m = false ∧ ∀ F w bs vs, All2 (CV.Rel F w bs) s vs → All2 (CV.Rel F w bs) m vs) := by
  unfold mergeCells at h
  split at h
  · rename_i fz es n ρ fz' es' m' σ
    split at h
    · rename_i hh
      simp only [Bool.and_eq_true, beq_iff_eq] at hh
      obtain ⟨rfl, he⟩ := hh
      have he := shsEq_eq he
      subst he
      simp at h; subst h
      cases c
      · exact ⟨fun _ => rfl, fun h => by simp [isRowL] at h⟩
      · exact ⟨fun _ => rfl, fun h => by simp [isRowL] at h⟩
    · simp at h
  · split at h
    · simp at h
    · rename_i hr
      simp only [Bool.or_eq_true, not_or, Bool.not_eq_true] at hr
      split at h
      · rename_i m' hm
        split at h
        · simp at h; subst h
          cases c
          · refine ⟨fun hs => ?_, fun _ => ⟨mergeCs_noRow hm, fun F w bs vs hv => mergeCs_ok hm (fun h => by cases h) (fun _ => hv)⟩⟩
            simp only [cond_false] at hs; rw [hr.2] at hs; cases hs
          · refine ⟨fun hs => ?_, fun _ => ⟨mergeCs_noRow hm, fun F w bs vs hv => mergeCs_ok hm (fun _ => hv) (fun h => by cases h)⟩⟩
            simp only [cond_true] at hs; rw [hr.1] at hs; cases hs
        · simp at h
      · simp at h

theorem restM_ok {K : Nat} : ∀ {k : Nat} {r m : Mem}, restM K k r = some m → m.length = r.length ∧ ∀ i e, nth m i = some e → e = none
  | k, [], m, h => by simp [restM] at h; subst h; exact ⟨rfl, fun i e h => by simp [nth] at h⟩
  | k, a :: r, m, h => by
    simp only [restM] at h
    split at h
    · simp at h
    · split at h
      · rename_i m' hm
        simp at h; subst h
        obtain ⟨h1, h2⟩ := restM_ok hm
        refine ⟨by simp [h1], fun i e hi => ?_⟩
        cases i with
        | zero => simp [nth] at hi; exact hi.symm
        | succ i => exact h2 i e (by simpa [nth] using hi)
      · simp at h

theorem mergeE_ok {c : Bool} {a b e : Option (TypeId × List CV)} (h : mergeE c a b = some e) {T : TypeId} {cs' : List CV} (he : e = some (T, cs')) :
    ∃ cs, (bif c then a else b) = some (T, cs) ∧ (isRowL cs = true → cs' = cs) ∧ (isRowL cs = false → isRowL cs' = false ∧ ∀ F w bs vs, All2 (CV.Rel F w bs) cs vs → All2 (CV.Rel F w bs) cs' vs) := by
  unfold mergeE at h
  split at h
  · simp at h; subst h; cases he
  · rename_i T1 cs1 T2 cs2
    split at h
    · rename_i ht
      have ht : T1 = T2 := by simpa using ht
      subst ht
      split at h
      · rename_i m hm
        simp at h; subst h
        simp only [Option.some.injEq, Prod.mk.injEq] at he
        obtain ⟨rfl, rfl⟩ := he
        have := mergeCells_ok hm
        cases c
        · exact ⟨cs2, rfl, this.1, this.2⟩
        · exact ⟨cs1, rfl, this.1, this.2⟩
      · simp at h
    · simp at h
  · simp at h

theorem mergeMem_ok {c : Bool} {K : Nat} : ∀ {k : Nat} {a b m : Mem}, mergeMem c K k a b = some m → MemWk (bif c then a else b) m
  | k, [], r, m, h => by
    simp only [mergeMem] at h
    obtain ⟨h1, h2⟩ := restM_ok h
    refine ⟨by cases c <;> simp [h1], fun i T cs' hi => ?_⟩
    have := h2 i _ hi
    cases this
  | k, a :: l, [], m, h => by
    simp only [mergeMem] at h
    obtain ⟨h1, h2⟩ := restM_ok h
    refine ⟨by cases c <;> simp [h1], fun i T cs' hi => ?_⟩
    have := h2 i _ hi
    cases this
  | k, a :: l, b :: r, m, h => by
    simp only [mergeMem] at h
    have cns : (bif c then a :: l else b :: r) = (bif c then a else b) :: (bif c then l else r) := by cases c <;> rfl
    rw [cns]
    split at h
    · rename_i e m' he hm
      simp at h; subst h
      have ih := mergeMem_ok hm
      refine ⟨by simp [ih.len], fun i T cs' hi => ?_⟩
      cases i with
      | zero =>
        simp only [nth, Option.some.injEq] at hi
        obtain ⟨cs, h1, h2⟩ := mergeE_ok he hi
        exact ⟨cs, by simp [nth, h1], h2⟩
      | succ i =>
        obtain ⟨cs, h1, h2⟩ := ih.ent i T cs' (by simpa [nth] using hi)
        exact ⟨cs, by simpa [nth] using h1, h2⟩
    · rename_i m' he hm
      split at h
      · simp at h
      · simp at h; subst h
        have ih := mergeMem_ok hm
        refine ⟨by simp [ih.len], fun i T cs' hi => ?_⟩
        cases i with
        | zero => simp [nth] at hi
        | succ i =>
          obtain ⟨cs, h1, h2⟩ := ih.ent i T cs' (by simpa [nth] using hi)
          exact ⟨cs, by simpa [nth] using h1, h2⟩
    · simp at h

theorem nth_none {α : Type} {l : List α} {k : Nat} (h : l.length ≤ k) : nth l k = none := by
  rw [nth_eq]; exact List.getElem?_eq_none h

theorem nth_lt_len {α : Type} {l : List α} {k : Nat} {x : α} (h : nth l k = some x) : k < l.length := nth_lt h

/-- the memory behind a weakening -/
theorem MemRel.weak {F w bs m m'} (hm : MemRel F w bs m) (h : MemWk m m') : MemRel F w (bs ++ List.replicate (m'.length - m.length) ⟨w.heap.size, 0, 0⟩) m' := by
  have old : ∀ k x, k < m.length → nth (bs ++ List.replicate (m'.length - m.length) ⟨w.heap.size, 0, 0⟩) k = some x → nth bs k = some x := by
    intro k x hk hx
    rw [nth_eq, List.getElem?_append_left (by rw [hm.len]; exact hk)] at hx
    rw [nth_eq]; exact hx
  have lv : ∀ cs cs' : List CV, (isRowL cs = true → cs' = cs) → (isRowL cs = false → isRowL cs' = false ∧ ∀ F w bs vs, All2 (CV.Rel F w bs) cs vs → All2 (CV.Rel F w bs) cs' vs) → liveL cs' → liveL cs := by
    intro cs cs' h1 h2 hl
    cases hr : isRowL cs
    · exact liveL_of hr
    · rw [h1 hr] at hl; exact hl
  refine ⟨by simp [hm.len, h.len], fun k x T cs' hx hk hl => ?_, fun k k' x x' T cs T' cs' hx hx' hk hk' hl hl' e => ?_, fun k T cs' x hk hr hx => ?_, fun k T fz es n ρ x hk hx => ?_⟩
  · obtain ⟨cs, h0, h1, h2⟩ := h.ent k T cs' hk
    exact hm.loc k x T cs (old k x (nth_lt h0) hx) h0 (lv cs cs' h1 h2 hl)
  · obtain ⟨ds, h0, h1, h2⟩ := h.ent k T cs hk
    obtain ⟨ds', g0, g1, g2⟩ := h.ent k' T' cs' hk'
    exact hm.inj k k' x x' T ds T' ds' (old k x (nth_lt h0) hx) (old k' x' (nth_lt g0) hx') h0 g0 (lv ds cs h1 h2 hl) (lv ds' cs' g1 g2 hl') e
  · obtain ⟨cs, h0, h1, h2⟩ := h.ent k T cs' hk
    have hr0 : isRowL cs = false := by
      cases hc : isRowL cs
      · rfl
      · rw [h1 hc, hc] at hr; cases hr
    obtain ⟨vs, g1, g2⟩ := hm.cont k T cs x h0 hr0 (old k x (nth_lt h0) hx)
    exact ⟨vs, g1, ((h2 hr0).2 F w bs vs g2).imp fun _ _ hh => hh.grow ⟨Nat.le_refl _, fun _ _ h => h, fun _ _ _ => rfl, fun _ _ h => nth_append h⟩⟩
  · obtain ⟨cs, h0, h1, h2⟩ := h.ent k T _ hk
    have hc : isRowL cs = true := by
      cases hc : isRowL cs
      · have := (h2 hc).1; simp [isRowL] at this
      · rfl
    rw [← h1 hc] at h0
    exact hm.row k T fz es n ρ x h0 (old k x (nth_lt h0) hx)

theorem Ext.dummies {K F w bs} (d : Nat) : Ext K F w bs F w (bs ++ List.replicate d ⟨w.heap.size, 0, 0⟩) := by
  refine ⟨Nat.le_refl _, fun _ _ h => h, fun _ h _ _ => h, fun _ _ _ => rfl, rfl, rfl, rfl, fun _ _ _ h => nth_append h, fun x hx => ?_⟩
  rcases List.mem_append.1 hx with h | h
  · exact .inl ⟨x, h, rfl⟩
  · rw [List.mem_replicate] at h
    exact .inr (by rw [h.2]; exact Nat.le_refl _)

theorem grow_app {F : Nat → Prop} {w : World} {bs r : List BI} : Grow F F bs (bs ++ r) w w := ⟨Nat.le_refl _, fun _ _ h => h, fun _ _ _ => rfl, fun _ _ h => nth_append h⟩

theorem mergeSlots_ok {c : Bool} : ∀ {a b m : List Slot}, mergeSlots c a b = some m → m.length = (bif c then a else b).length ∧ ∀ i sl, nth m i = some sl → sl.keys = [] ∧ ∃ s0, nth (bif c then a else b) i = some s0 ∧ (s0.keys = [] → ∀ F w bs v, s0.v.Rel F w bs v → sl.v.Rel F w bs v) ∧ (s0.keys ≠ [] → sl.v = .any)
  | [], [], m, h => by simp [mergeSlots] at h; subst h; exact ⟨by cases c <;> rfl, fun i sl h => by simp [nth] at h⟩
  | x :: a, y :: b, m, h => by
    simp only [mergeSlots] at h
    split at h
    · rename_i m' hm
      simp at h; subst h
      obtain ⟨h1, h2⟩ := mergeSlots_ok hm
      have cns : (bif c then x :: a else y :: b) = (bif c then x else y) :: (bif c then a else b) := by cases c <;> rfl
      rw [cns]
      refine ⟨by simp [h1], fun i sl hi => ?_⟩
      cases i with
      | zero =>
        simp only [nth, Option.some.injEq] at hi
        subst hi
        unfold mergeSlot
        split
        · rename_i k1 k2
          refine ⟨rfl, _, rfl, fun _ F w bs v hv => ?_, fun hne => ?_⟩
          · exact mergeA_ok (fun hc => by subst hc; exact hv) (fun hc => by subst hc; exact hv)
          · cases c
            · exact (hne k2).elim
            · exact (hne k1).elim
        · exact ⟨rfl, _, rfl, fun _ F w bs v _ => trivial, fun _ => rfl⟩
      | succ i =>
        obtain ⟨g1, s0, g2, g3⟩ := h2 i sl (by simpa [nth] using hi)
        exact ⟨g1, s0, by simpa [nth] using g2, g3⟩
    · simp at h
  | [], _ :: _, m, h => by simp [mergeSlots] at h
  | _ :: _, [], m, h => by simp [mergeSlots] at h

theorem mergeSt_ok {c : Bool} {K : Nat} {s1 s2 s : St} (h : mergeSt c K s1 s2 = some s) {F w bs} {a : Act} (hs : StRel F w bs (bif c then s1 else s2) a) :
    ∃ d, StRel F w (bs ++ List.replicate d ⟨w.heap.size, 0, 0⟩) s a := by
  unfold mergeSt at h
  split at h
  · rename_i t m ht hm
    simp at h; subst h
    have wk := mergeMem_ok hm
    have mcns : (bif c then s1.mem else s2.mem) = (bif c then s1 else s2).mem := by cases c <;> rfl
    have tcns : (bif c then s1.tmps else s2.tmps) = (bif c then s1 else s2).tmps := by cases c <;> rfl
    obtain ⟨hl, hsl⟩ := mergeSlots_ok ht
    rw [mcns] at wk
    rw [tcns] at hl hsl
    refine ⟨_, hs.defers, by rw [hl]; exact hs.len, fun i sl x hi hx => ?_, hs.mem.weak wk⟩
    obtain ⟨hk, s0, h0, h1, h2⟩ := hsl i sl hi
    have hr := hs.slots i s0 x h0 hx
    refine ⟨fun _ => ?_, fun hn => ?_⟩
    · by_cases hk0 : s0.keys = []
      · exact AV.Rel.grow grow_app (h1 hk0 _ _ _ _ (hr.1 (by rw [hk0]; exact KH_nil)))
      · rw [h2 hk0]; trivial
    · rw [hk] at hn; exact (hn KH_nil).elim
  · simp at h

theorem joinC_ok {j c : Bool} {K : Nat} {t e : Tree (XE × St)} {x : XE × St} (h : (joinC j c K t e).sel = some x) :
    ∃ y, (bif c then t else e).sel = some y ∧ x.1 = y.1 ∧ ∀ {F w bs} {a : Act}, StRel F w bs y.2 a → ∃ d, StRel F w (bs ++ List.replicate d ⟨w.heap.size, 0, 0⟩) x.2 a := by
  have plain : (Tree.br c t e).sel = some x → ∃ y, (bif c then t else e).sel = some y ∧ x.1 = y.1 ∧ ∀ {F w bs} {a : Act}, StRel F w bs y.2 a → ∃ d, StRel F w (bs ++ List.replicate d ⟨w.heap.size, 0, 0⟩) x.2 a := by
    intro h
    simp only [Tree.sel] at h
    refine ⟨x, ?_, rfl, fun hs => ⟨0, by simpa using hs⟩⟩
    cases c <;> exact h
  unfold joinC at h
  split at h
  · split at h
    · rename_i l1 s1 l2 s2 h1 h2
      split at h
      · rename_i s hs
        obtain ⟨hb, hx⟩ := needAll_sel h
        simp only [Tree.sel, Option.some.injEq] at hx
        subst hx
        obtain ⟨b1, b2⟩ := needBoth_ok hb
        refine ⟨(.normal, bif c then s1 else s2), ?_, rfl, fun hr => mergeSt_ok hs hr⟩
        cases c
        · exact lin_sel h2 (b2 rfl)
        · exact lin_sel h1 (b1 rfl)
      · exact plain h
    · exact plain h
  · exact plain h

/-- what is said of a result and the memory behind it, more weakly -/
def WkR (K : Nat) (x y : AV × Mem) : Prop := ∀ F w bs v, K ≤ bs.length → MemRel F w bs x.2 → x.1.Rel F w bs v → ∃ F' bs', Ext K F w bs F' w bs' ∧ MemRel F' w bs' y.2 ∧ y.1.Rel F' w bs' v

theorem WkR.refl {K : Nat} {x : AV × Mem} : WkR K x x := fun F _ bs _ _ hm hr => ⟨F, bs, Ext.refl, hm, hr⟩
theorem WkR.trans {K : Nat} {x y z : AV × Mem} (h : WkR K x y) (g : WkR K y z) : WkR K x z := fun F w bs v hK hm hr => by
  obtain ⟨F1, b1, e1, m1, r1⟩ := h F w bs v hK hm hr
  obtain ⟨F2, b2, e2, m2, r2⟩ := g F1 w b1 v (e1.le hK) m1 r1
  exact ⟨F2, b2, e1.trans e2 (Nat.le_refl _), m2, r2⟩

theorem joinT_ok {K : Nat} : ∀ {t : Tree (AV × Mem)} {x : AV × Mem}, (joinT K t).sel = some x → ∃ y, t.sel = some y ∧ WkR K y x
  | .leaf a, x, h => ⟨x, h, WkR.refl⟩
  | .fail, x, h => by simp [joinT, Tree.sel] at h
  | .need c t, x, h => by
    simp only [joinT, Tree.sel] at h ⊢
    cases c
    · simp at h
    · exact joinT_ok (t := t) h
  | .br c t e, x, h => by
    have plain : (Tree.br c (joinT K t) (joinT K e)).sel = some x → ∃ y, (Tree.br c t e).sel = some y ∧ WkR K y x := by
      intro h
      simp only [Tree.sel] at h ⊢
      cases c
      · exact joinT_ok (t := e) h
      · exact joinT_ok (t := t) h
    simp only [joinT] at h
    split at h
    · rename_i l1 r1 m1 l2 r2 m2 h1 h2
      split at h
      · rename_i m hm
        split at h
        · exact plain h
        · obtain ⟨hb, hx⟩ := needAll_sel h
          simp only [Tree.sel, Option.some.injEq] at hx
          subst hx
          obtain ⟨b1, b2⟩ := needBoth_ok hb
          have wk := mergeMem_ok hm
          have last : ∀ y : AV × Mem, y.2 = (bif c then m1 else m2) → (∀ F w bs v, y.1.Rel F w bs v → (mergeA c r1 r2).Rel F w bs v) → WkR K y (mergeA c r1 r2, m) := by
            intro y hy hv F w bs v hK hm' hr
            rw [← hy] at wk
            exact ⟨F, _, Ext.dummies _, hm'.weak wk, AV.Rel.grow grow_app (hv _ _ _ _ hr)⟩
          simp only [Tree.sel]
          cases c
          · obtain ⟨y, hy, hw⟩ := joinT_ok (t := e) (lin_sel h2 (b2 rfl))
            exact ⟨y, hy, hw.trans (last _ rfl fun F w bs v hv => mergeA_ok (fun h => by cases h) (fun _ => hv))⟩
          · obtain ⟨y, hy, hw⟩ := joinT_ok (t := t) (lin_sel h1 (b1 rfl))
            exact ⟨y, hy, hw.trans (last _ rfl fun F w bs v hv => mergeA_ok (fun _ => hv) (fun h => by cases h))⟩
      · exact plain h
    · exact plain h

theorem frzA_ok {F w bs mem} (hm : MemRel F w bs mem) {x : AV} {v : Value} (h : AV.Rel F w bs x v) :
    ∃ F', Ext bs.length F w bs F' w bs ∧ MemRel F' w bs (frzA mem x).1 ∧ AV.Rel F' w bs (frzA mem x).2 v := by
  cases x with
  | any => exact ⟨F, Ext.refl, hm, trivial⟩
  | one a => exact frz1_ok hm h
  | tup l =>
    obtain ⟨vs, rfl, h⟩ := h
    obtain ⟨F', e, m, r⟩ := frz1s_ok hm h
    exact ⟨F', e, m, vs, rfl, r⟩

theorem AV.Rel.closed {F w bs} {x : AV} {v : Value} (h : AV.Rel F w bs x v) {bs'} (hc : closedAV x = true) : AV.Rel F w bs' x v := by
  cases x with
  | any => trivial
  | one a => exact A1.Rel.closed h hc
  | tup l =>
    obtain ⟨vs, rfl, h⟩ := h
    refine ⟨vs, rfl, ?_⟩
    simp only [closedAV, List.all_eq_true] at hc
    induction h with
    | nil => exact .nil
    | cons h _ ih => exact .cons (h.closed (hc _ (by simp))) (ih fun x hx => hc x (by simp [hx]))

theorem nth_take {α : Type} {l : List α} {K k : Nat} {x : α} (h : nth (l.take K) k = some x) : k < K ∧ nth l k = some x := by
  rw [nth_eq] at h ⊢
  rw [List.getElem?_take] at h
  split at h
  · exact ⟨by assumption, h⟩
  · cases h

theorem nth_take' {α : Type} {l : List α} {K k : Nat} {x : α} (hk : k < K) (h : nth l k = some x) : nth (l.take K) k = some x := by
  rw [nth_eq] at h ⊢
  rw [List.getElem?_take, if_pos hk]; exact h

theorem CV.Rel.under {F w bs x v} (h : CV.Rel F w bs x v) {K : Nat} (hu : underC K x = true) : CV.Rel F w (bs.take K) x v := by
  cases x with
  | ptr b o =>
    simp only [underC] at hu
    cases h with
    | ptr h => exact .ptr (nth_take' (by simpa using hu) h)
  | os b sz =>
    simp only [underC] at hu
    cases h with
    | os h h0 => exact .os (nth_take' (by simpa using hu) h) h0
  | rowp b sz i off =>
    simp only [underC] at hu
    cases h with
    | rowp h h0 => exact .rowp (nth_take' (by simpa using hu) h) h0
  | row _ _ _ _ => cases h
  | ost _ _ _ => simp [underC, closedC] at hu
  | any => exact h.closed hu
  | bool _ => exact h.closed hu
  | int _ _ => exact h.closed hu
  | str _ => exact h.closed hu
  | nilp => exact h.closed hu
  | rop _ _ _ => exact h.closed hu
  | nils => exact h.closed hu
  | sl _ _ _ => exact h.closed hu
  | fn _ _ _ => exact h.closed hu
  | nilf => exact h.closed hu
  | nili => exact h.closed hu
  | iface _ _ => exact h.closed hu

theorem MemRel.take {F w bs m} (hm : MemRel F w bs m) {K : Nat} (hu : ∀ k T cs, k < K → nth m k = some (some (T, cs)) → cs.all (underC K) = true) : MemRel F w (bs.take K) (m.take K) := by
  refine ⟨by simp [hm.len], fun k x T cs hx hk hl => ?_, fun k k' x x' T cs T' cs' hx hx' hk hk' hl hl' e => ?_, fun k T cs x hk hr hx => ?_, fun k T fz es n ρ x hk hx => ?_⟩
  · exact hm.loc k x T cs (nth_take hx).2 (nth_take hk).2 hl
  · exact hm.inj k k' x x' T cs T' cs' (nth_take hx).2 (nth_take hx').2 (nth_take hk).2 (nth_take hk').2 hl hl' e
  · obtain ⟨vs, g1, g2⟩ := hm.cont k T cs x (nth_take hk).2 hr (nth_take hx).2
    refine ⟨vs, g1, ?_⟩
    have hu' := hu k T cs (nth_take hk).1 (nth_take hk).2
    clear hk hr g1 hu
    induction g2 with
    | nil => exact .nil
    | cons h _ ih =>
      simp only [List.all_cons, Bool.and_eq_true] at hu'
      exact .cons (h.under hu'.1) (ih hu'.2)
  · exact hm.row k T fz es n ρ x (nth_take hk).2 (nth_take hx).2

theorem closeR_ok (K : Nat) (y : AV × Mem) : WkR K y (closeR K y) := by
  intro F w bs v hK hm hr
  unfold closeR
  obtain ⟨F', e, m', r'⟩ := frzA_ok hm hr
  generalize frzA y.2 y.1 = z at m' r'
  simp only
  split
  · rename_i m ht
    split
    · rename_i hc
      simp only [Bool.and_eq_true, List.all_eq_true] at hc
      obtain ⟨rfl, hlen⟩ := takeN_some ht
      refine ⟨F', bs.take K, (e.weak hK).trans (K' := K) ⟨Nat.le_refl _, fun _ _ h => h, fun _ h _ _ => h, fun _ _ _ => rfl, rfl, rfl, rfl, fun k x hk hx => nth_take' hk hx, fun x hx => .inl ⟨x, List.mem_of_mem_take hx, rfl⟩⟩ (Nat.le_refl _), m'.take fun k T cs hk hn => ?_, r'.closed hc.1⟩
      have := hc.2 (some (T, cs)) (nth_mem (nth_take' hk hn))
      simpa [underE] using this
    · exact ⟨F, bs, Ext.refl, hm, hr⟩
  · exact ⟨F, bs, Ext.refl, hm, hr⟩

theorem joined_ok {j : Bool} {K : Nat} {t : Tree (AV × Mem)} {x : AV × Mem} (h : (joined j K t).sel = some x) : ∃ y, t.sel = some y ∧ WkR K y x := by
  unfold joined at h
  split at h
  · obtain ⟨y, hy, hw⟩ := joinT_ok h
    obtain ⟨z, hz, he⟩ := sel_bind hy
    simp only [Tree.sel, Option.some.injEq] at he
    subst he
    exact ⟨z, hz, (closeR_ok K z).trans hw⟩
  · exact ⟨x, h, WkR.refl⟩

end Go.Sx
