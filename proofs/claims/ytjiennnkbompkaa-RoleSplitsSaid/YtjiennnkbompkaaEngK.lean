/-
  The evaluator in use (part K): what an argument reads as; the frame of a law's proof.
-/
import Derived.Test.YtjiennnkbompkaaEngJ
import Derived.ProofKit
import Derived.OpenShut
import Derived.ChangeOld
import Derived.Deep.Slices
namespace Go.Sx
open Go Go.RowKit Go.WideShapes

mutual
def wfC : Sh → Val → Prop
  | .bool, _ => True
  | .int k, ρ => (Lit.int k (ρ.N [])).wf = true
  | .str, ρ => (ρ.S []).size ≤ maxLen
  | .sl es, ρ => ρ.L [] ≤ maxLen ∧ ∀ i, i < ρ.L [] → ∀ f, wfAt es f ((ρ.at i).at f)
def wfAt : List Sh → Nat → Val → Prop
  | [], _, _ => True
  | s :: _, 0, ρ => wfC s ρ
  | _ :: r, n + 1, ρ => wfAt r n ρ
end

def wfL : List Sh → Nat → Val → Prop
  | [], _, _ => True
  | s :: r, i, ρ => wfC s (ρ.at i) ∧ wfL r (i + 1) ρ

theorem wfAt_nth : ∀ (es : List Sh) (f : Nat) (ρ : Val), wfAt es f ρ = match nth es f with | some s => wfC s ρ | none => True
  | [], _, _ => rfl
  | _ :: _, 0, _ => rfl
  | _ :: r, n + 1, ρ => by simp only [wfAt, nth]; exact wfAt_nth r n ρ

theorem wfL_nth : ∀ (es : List Sh) (i : Nat) (ρ : Val), wfL es i ρ ↔ ∀ k s, nth es k = some s → wfC s (ρ.at (i + k))
  | [], _, _ => by simp [wfL, nth]
  | s :: r, i, ρ => by
    simp only [wfL]
    rw [wfL_nth r (i + 1) ρ]
    constructor
    · rintro ⟨h1, h2⟩ k t ht
      cases k with
      | zero => simp [nth] at ht; subst ht; exact h1
      | succ k => have := h2 k t (by simpa [nth] using ht); rwa [show i + 1 + k = i + (k + 1) by omega] at this
    · intro h
      refine ⟨h 0 s rfl, fun k t ht => ?_⟩
      have := h (k + 1) t (by simpa [nth] using ht)
      rwa [show i + (k + 1) = i + 1 + k by omega] at this

/-- a valuation put together out of one for each cell -/
def glue (r : Nat → Val) : Val where
  B := fun | [] => false | i :: p => (r i).B p
  N := fun | [] => 0 | i :: p => (r i).N p
  S := fun | [] => .empty | i :: p => (r i).S p
  L := fun | [] => 0 | i :: p => (r i).L p

theorem glue_at (r : Nat → Val) (i : Nat) : (glue r).at i = r i := rfl

/-- a list of cells reads as its shapes -/
def ReadL (w : World) (es : List Sh) (cs : List Value) : Prop := es.length = cs.length ∧ ∀ k s v, nth es k = some s → nth cs k = some v → ∃ ρ : Val, CV.Rel (fun _ => False) w [] (cellOf s ρ) v ∧ wfC s ρ

theorem ReadL.glue {w : World} {es : List Sh} {cs : List Value} (h : ReadL w es cs) : ∃ ρ : Val, All2 (CV.Rel (fun _ => False) w []) (cellsOfL es 0 ρ) cs ∧ wfL es 0 ρ := by
  have hc : ∀ k, ∃ ρ : Val, ∀ s v, nth es k = some s → nth cs k = some v → CV.Rel (fun _ => False) w [] (cellOf s ρ) v ∧ wfC s ρ := by
    intro k
    cases h1 : nth es k with
    | none => exact ⟨⟨fun _ => false, fun _ => 0, fun _ => .empty, fun _ => 0⟩, fun s v hs => by simp at hs⟩
    | some s =>
      have hk : k < cs.length := by
        rw [← h.1]
        rw [nth_eq] at h1
        rcases Nat.lt_or_ge k es.length with h' | h'
        · exact h'
        · simp [List.getElem?_eq_none h'] at h1
      have h2 : nth cs k = some cs[k] := by rw [nth_eq]; exact List.getElem?_eq_getElem hk
      obtain ⟨ρ, hr, hw⟩ := h.2 k s _ h1 h2
      refine ⟨ρ, fun s' v' hs' hv' => ?_⟩
      rw [h2] at hv'
      simp at hs' hv'
      subst hs'; subst hv'
      exact ⟨hr, hw⟩
  refine ⟨Sx.glue (fun k => Classical.choose (hc k)), All2.of_nth (by rw [cellsOfL_length]; exact h.1) fun k x v hx hv => ?_, (wfL_nth _ _ _).2 fun k s hs => ?_⟩
  · rw [cellsOfL_nth] at hx
    split at hx
    · rename_i s hs
      simp at hx; subst hx
      have := (Classical.choose_spec (hc k) s v hs hv).1
      simpa [glue_at] using this
    · simp at hx
  · have hk : k < cs.length := by
      rw [← h.1]
      rw [nth_eq] at hs
      rcases Nat.lt_or_ge k es.length with h' | h'
      · exact h'
      · simp [List.getElem?_eq_none h'] at hs
    have h2 : nth cs k = some cs[k] := by rw [nth_eq]; exact List.getElem?_eq_getElem hk
    have := (Classical.choose_spec (hc k) s _ hs h2).2
    simpa [glue_at] using this

theorem nth_app_lt {α : Type} {l r : List α} {k : Nat} (h : k < l.length) : nth (l ++ r) k = nth l k := by
  rw [nth_eq, nth_eq, List.getElem?_append_left h]

theorem nth_append_ge {α : Type} {l r : List α} {k : Nat} (h : l.length ≤ k) : nth (l ++ r) k = nth r (k - l.length) := by
  rw [nth_eq, nth_eq, List.getElem?_append_right h]

theorem ReadL.append {w : World} {a b : List Sh} {cs ds : List Value} (h : ReadL w a cs) (g : ReadL w b ds) : ReadL w (a ++ b) (cs ++ ds) := by
  refine ⟨by simp [h.1, g.1], fun k s v hs hv => ?_⟩
  rcases Nat.lt_or_ge k a.length with hk | hk
  · rw [nth_app_lt hk] at hs
    rw [nth_app_lt (by rw [← h.1]; exact hk)] at hv
    exact h.2 k s v hs hv
  · rw [nth_append_ge hk] at hs
    rw [nth_append_ge (by rw [← h.1]; exact hk), ← h.1] at hv
    exact g.2 _ s v hs hv

section
variable {H : Type} {enc : TypeId × Value → H} {P : Program} {w : World} {spare : Nat → Bool} {held : Bool}

theorem read_fields {n m : Nat} (ih : ∀ (t : TypeId) (cs : List Value) (x : DataW H × List MemPlace) (es : List Sh), DataW.trod enc P w 0 spare held n t cs = some x → shapesOf P m t = some es → ReadL w es cs) :
    ∀ (fs : List Field) (o : Nat) (es : List Sh) (cs : List Value), shapesFields (shapesOf P m) P o fs = some es → o ≤ cs.length → o + es.length = cs.length →
      (∀ f ∈ fs, ∃ x, DataW.trod enc P w 0 spare held n f.type ((cs.drop f.offset).take (P.cellsOf f.type)) = some x) → ReadL w es (cs.drop o)
  | [], o, es, cs, h, ho, hl, _ => by
    simp [shapesFields] at h; subst h
    simp at hl
    have : cs.drop o = [] := by simp; omega
    rw [this]
    exact ⟨rfl, fun k s v hs => by simp [nth] at hs⟩
  | f :: r, o, es, cs, h, ho, hl, hx => by
    simp only [shapesFields] at h
    split at h
    · rename_i hoff
      have hoff : f.offset = o := by simpa using hoff
      split at h
      · rename_i a ha
        split at h
        · rename_i hlen
          have hlen : a.length = P.cellsOf f.type := by simpa using hlen
          split at h
          · rename_i b hb
            simp at h; subst h
            obtain ⟨x, hx1⟩ := hx f (by simp)
            have h1 := ih f.type _ x a hx1 ha
            rw [hoff] at h1
            have h2 := read_fields ih r (o + a.length) b cs hb (by simp at hl; omega) (by simp at hl ⊢; omega) (fun g hg => hx g (by simp [hg]))
            have e : cs.drop o = (cs.drop o).take (P.cellsOf f.type) ++ cs.drop (o + a.length) := by
              rw [← hlen, ← List.drop_drop, List.take_append_drop]
            rw [e]
            exact h1.append h2
          · simp at h
        · simp at h
      · simp at h
    · simp at h

theorem read_rep {n m : Nat} {e : TypeId} {es : List Sh} (he : shapesOf P m e = some es) (hl : es.length = P.cellsOf e) (ih : ∀ (t : TypeId) (cs : List Value) (x : DataW H × List MemPlace) (es : List Sh), DataW.trod enc P w 0 spare held n t cs = some x → shapesOf P m t = some es → ReadL w es cs) (cs : List Value) :
    ∀ (k i : Nat), (repL es k).length + i * P.cellsOf e = cs.length → (∀ j, i ≤ j → j < i + k → ∃ x, DataW.trod enc P w 0 spare held n e ((cs.drop (j * P.cellsOf e)).take (P.cellsOf e)) = some x) → ReadL w (repL es k) (cs.drop (i * P.cellsOf e))
  | 0, i, h, _ => by
    simp [repL] at h
    have : cs.drop (i * P.cellsOf e) = [] := by simp; omega
    rw [this]
    exact ⟨rfl, fun k s v hs => by simp [repL, nth] at hs⟩
  | k + 1, i, h, hx => by
    obtain ⟨x, hx1⟩ := hx i (Nat.le_refl _) (by omega)
    have h1 := ih e _ x es hx1 he
    have h2 := read_rep he hl ih cs k (i + 1) (by simp [repL, hl] at h; rw [Nat.succ_mul]; omega) (fun j hj hj2 => hx j (by omega) (by omega))
    have e1 : cs.drop (i * P.cellsOf e) = (cs.drop (i * P.cellsOf e)).take (P.cellsOf e) ++ cs.drop ((i + 1) * P.cellsOf e) := by
      rw [Nat.succ_mul, ← List.drop_drop, List.take_append_drop]
    rw [e1]
    exact h1.append h2

/-- **Whatever can be read has the shapes of its type.** -/
theorem read_ok : ∀ (n m : Nat) (t : TypeId) (cs : List Value) (x : DataW H × List MemPlace) (es : List Sh), DataW.trod enc P w 0 spare held n t cs = some x → shapesOf P m t = some es → ReadL w es cs
  | 0, _, _, _, _, _, h, _ => by simp [DataW.trod] at h
  | _ + 1, 0, _, _, _, _, _, h => by simp [shapesOf] at h
  | n + 1, m + 1, t, cs, x, es, h, hs => by
    have ih : ∀ (t : TypeId) (cs : List Value) (x : DataW H × List MemPlace) (es : List Sh), DataW.trod enc P w 0 spare held n t cs = some x → shapesOf P m t = some es → ReadL w es cs := fun t cs x es => read_ok n m t cs x es
    have v0 : Val := ⟨fun _ => false, fun _ => 0, fun _ => .empty, fun _ => 0⟩
    have single : ∀ (s : Sh) (v : Value), (∃ ρ : Val, CV.Rel (fun _ => False) w [] (cellOf s ρ) v ∧ wfC s ρ) → ReadL w [s] [v] := by
      intro s v hv
      refine ⟨rfl, fun k s' v' hs' hv' => ?_⟩
      cases k with
      | zero => simp [nth] at hs' hv'; subst hs'; subst hv'; exact hv
      | succ k => simp [nth] at hs'
    simp only [shapesOf] at hs
    split at hs
    · rename_i hu
      simp at hs; subst hs
      obtain ⟨b, rfl, _⟩ := DataW.trod_bool hu h
      exact single _ _ ⟨{ v0 with B := fun _ => b }, by simp only [cellOf]; exact CV.Rel.bool b, by simp [wfC]⟩
    · rename_i k hu
      simp at hs; subst hs
      obtain ⟨i, rfl, _, hw⟩ := DataW.trod_int hu h
      exact single _ _ ⟨{ v0 with N := fun _ => i }, by simp only [cellOf]; exact CV.Rel.int k i, by simpa [wfC] using hw⟩
    · rename_i hu
      simp at hs; subst hs
      obtain ⟨s, rfl, _, hw⟩ := DataW.trod_string hu h
      exact single _ _ ⟨{ v0 with S := fun _ => s }, by simp only [cellOf]; exact CV.Rel.str s, by simpa [wfC] using hw⟩
    · rename_i e hu
      split at hs
      · rename_i el hel
        split at hs
        · rename_i hcond
          simp at hs; subst hs
          simp only [Bool.and_eq_true, beq_iff_eq, Bool.not_eq_true'] at hcond
          obtain ⟨hlen, hne⟩ := hcond
          rcases DataW.trod_slice hu h with ⟨rfl, _⟩ | ⟨a, len, cap, elems, rest, n', hn', rfl, hx, hb, hl, hm, hlen2, hel2, _, _⟩
          · exact single _ _ ⟨{ v0 with L := fun _ => 0 }, by simp only [cellOf]; exact CV.Rel.slnil, by simp [wfC]⟩
          · have hnn : n' = n := by omega
            subst hnn
            -- each element reads as its shapes
            have helem : ∀ i, i < len → ∃ ρ : Val, ∃ es' : List Value, w.cells? 0 (a.add (i * P.cellsOf e)) (P.cellsOf e) = some es' ∧ All2 (CV.Rel (fun _ => False) w []) (cellsOfL el 0 ρ) es' ∧ wfL el 0 ρ := by
              intro i hi
              have h1 := hel2 i hi
              have h2 : elems[i]? = some elems[i] := List.getElem?_eq_getElem (by omega)
              rw [h2] at h1
              cases hc : w.cells? 0 (a.add (i * P.cellsOf e)) (P.cellsOf e) with
              | none => simp [hc] at h1
              | some cs' =>
                simp [hc] at h1
                obtain ⟨ρ, hr, hw⟩ := (ih e cs' _ el h1 hel).glue
                exact ⟨ρ, cs', rfl, hr, hw⟩
            have hch : ∀ i, ∃ ρ : Val, ∃ es' : List Value, i < len → w.cells? 0 (a.add (i * P.cellsOf e)) (P.cellsOf e) = some es' ∧ All2 (CV.Rel (fun _ => False) w []) (cellsOfL el 0 ρ) es' ∧ wfL el 0 ρ := by
              intro i
              by_cases hi : i < len
              · obtain ⟨ρ, es', h⟩ := helem i hi; exact ⟨ρ, es', fun _ => h⟩
              · exact ⟨v0, [], fun h => (hi h).elim⟩
            refine single _ _ ⟨{ Sx.glue (fun i => Classical.choose (hch i)) with L := fun | [] => len | i :: p => (Classical.choose (hch i)).L p }, ?_, ?_⟩
            · simp only [cellOf]
              have hel1 : 0 < el.length := by cases el; simp at hne; simp
              have cellI : ∀ i f, i < len → f < el.length → ∃ v, w.cell? ((a.add (i * P.cellsOf e)).add f) = some v ∧ ∀ s, nth el f = some s → CV.Rel (fun _ => False) w [] (cellOf s ((Classical.choose (hch i)).at f)) v := by
                intro i f hi hf
                obtain ⟨es', hsp⟩ := Classical.choose_spec (hch i)
                obtain ⟨h1, h2, _⟩ := hsp hi
                obtain ⟨_, hl1, hl2⟩ := World.cells?_some h1
                have hns : nth el f = some el[f] := by rw [nth_eq]; exact List.getElem?_eq_getElem hf
                obtain ⟨v, hv, hr⟩ := h2.nth (i := f) (a := cellOf el[f] ((Classical.choose (hch i)).at f)) (by rw [cellsOfL_nth, hns]; simp)
                refine ⟨v, by rw [hl2 f (by omega)]; exact hv, fun s hs => ?_⟩
                rw [hns] at hs
                simp at hs; subst hs
                exact hr
              have hspot : 0 < len → a.spot = none ∧ a.block < w.heap.size := by
                intro hp
                obtain ⟨v, hv, _⟩ := cellI 0 0 hp hel1
                have hv' : w.cell? a = some v := by simpa [Addr.add] using hv
                exact ⟨World.cell?_spot hv', World.block_lt_of_cell? w a hv'⟩
              have addE : ∀ i f, i < len → (a.add (i * P.cellsOf e)).add f = ⟨a.block, a.off + (i * el.length + f), none⟩ := by
                intro i f hi
                have := (hspot (by omega)).1
                obtain ⟨p, o, sp⟩ := a
                simp only at this
                subst this
                rw [addr_add, addr_add, hlen, Nat.add_assoc]
              refine CV.Rel.sl (fun i f => (w.cell? ⟨a.block, a.off + (i * el.length + f), none⟩).getD undef) hl (fun hp => ⟨(hspot hp).1, (hspot hp).2, fun h => h⟩) (fun i f hi hf => ?_) (fun i f s hi hs => ?_)
              · obtain ⟨v, hv, _⟩ := cellI i f hi hf
                rw [addE i f hi] at hv
                rw [hv]; rfl
              · have hf : f < el.length := by
                  rw [nth_eq] at hs
                  rcases Nat.lt_or_ge f el.length with h' | h'
                  · exact h'
                  · simp [List.getElem?_eq_none h'] at hs
                obtain ⟨v, hv, hr⟩ := cellI i f hi hf
                rw [addE i f hi] at hv
                rw [hv]
                exact hr s hs
            · simp only [wfC]
              refine ⟨by omega, fun i hi f => ?_⟩
              obtain ⟨es', hsp⟩ := Classical.choose_spec (hch i)
              obtain ⟨_, _, h3⟩ := hsp hi
              rw [wfAt_nth]
              split
              · rename_i s hs
                have := (wfL_nth _ _ _).1 h3 f s hs
                rw [Nat.zero_add] at this
                exact this
              · trivial
        · simp at hs
      · simp at hs
    · rename_i fs hu
      split at hs
      · rename_i l hl
        split at hs
        · rename_i hlen
          simp at hs; subst hs
          have hlen : l.length = P.cellsOf t := by simpa using hlen
          obtain ⟨xs, n', hn', _, hcs, hxl, hf⟩ := DataW.trod_struct hu h
          have hnn : n' = n := by omega
          subst hnn
          have := read_fields ih fs.toList 0 l cs hl (by omega) (by omega) (fun f hf' => by
            obtain ⟨i, hi⟩ := List.getElem?_of_mem hf'
            have h1 := hf i f (by simpa using hi)
            have hi2 : i < xs.length := by
              rw [hxl]
              rcases Nat.lt_or_ge i fs.size with h' | h'
              · exact h'
              · simp [Array.getElem?_eq_none h'] at hi
            exact ⟨xs[i], by rw [h1]; exact List.getElem?_eq_getElem hi2⟩)
          simpa using this
        · simp at hs
      · simp at hs
    · rename_i k e hu
      split at hs
      · rename_i el hel
        split at hs
        · rename_i hcond
          simp at hs; subst hs
          simp only [Bool.and_eq_true, beq_iff_eq] at hcond
          obtain ⟨xs, n', hn', _, hcs, hxl, hf⟩ := DataW.trod_array hu h
          have hnn : n' = n := by omega
          subst hnn
          have := read_rep hel hcond.1 ih cs k 0 (by simp; omega) (fun j _ hj => by
            have h1 := hf j (by omega)
            exact ⟨xs[j]'(by omega), by rw [h1]; exact List.getElem?_eq_getElem (by omega)⟩)
          simpa using this
        · simp at hs
      · simp at hs
    · simp at hs

/-- the argument as the evaluator takes it -/
def argOf (P : Program) (t : TypeId) (es : List Sh) (ρ : Val) : A1 :=
  match isAggT P t with
  | some true => .agg (cellsOfL es 0 ρ)
  | _ => match cellsOfL es 0 ρ with
    | x :: _ => .c x
    | [] => .agg []

theorem read_arg {r : Reach} {b0 : Nat} {t : TypeId} {v : Value} {d : DataW H} {p : List MemPlace} {m : Nat} {es : List Sh} (hok : Value.okWide P w r b0 t v) (h : DataW.Trod enc P w 0 spare held t v d p) (hs : shapesOf P m t = some es) :
    ∃ ρ : Val, A1.Rel (fun _ => False) w [] (argOf P t es ρ) v ∧ wfL es 0 ρ := by
  obtain ⟨fuel, hf⟩ := h
  obtain ⟨ρ, hr, hw⟩ := (read_ok fuel m t _ _ es hf hs).glue
  refine ⟨ρ, ?_, hw⟩
  unfold argOf
  have hnone : m ≠ 0 := by intro e; subst e; simp [shapesOf] at hs
  obtain ⟨m', rfl⟩ : ∃ m', m = m' + 1 := ⟨m - 1, by omega⟩
  have one : v.cells = #[v] → ∀ s, es = [s] → A1.Rel (fun _ => False) w [] (match cellsOfL es 0 ρ with | x :: _ => A1.c x | [] => .agg []) v := by
    intro hv s he
    subst he
    rw [hv] at hr
    cases hr with
    | cons h1 _ => exact h1
  unfold isAggT
  split
  · rename_i heq
    split at heq
    · rename_i fs hu
      unfold Value.okWide at hok
      simp only [hu] at hok
      obtain ⟨cs, rfl, _, _⟩ := hok
      exact ⟨cs.toList, by simp, hr⟩
    · rename_i n e hu
      unfold Value.okWide at hok
      simp only [hu] at hok
      obtain ⟨cs, rfl, _, _⟩ := hok
      exact ⟨cs.toList, by simp, hr⟩
    · simp at heq
    · simp at heq
  · rename_i hne
    simp only [shapesOf] at hs
    split at hs
    · rename_i hu
      simp at hs
      obtain ⟨b, rfl⟩ := okWide_bool hu hok
      exact one rfl _ hs.symm
    · rename_i k hu
      simp at hs
      obtain ⟨b, rfl⟩ := okWide_int hu hok
      exact one rfl _ hs.symm
    · rename_i hu
      simp at hs
      obtain ⟨b, rfl⟩ := okWide_string hu hok
      exact one rfl _ hs.symm
    · rename_i e hu
      obtain ⟨a, l, c, rfl⟩ := okWide_slice hu hok
      split at hs
      · split at hs
        · simp at hs
          exact one rfl _ hs.symm
        · simp at hs
      · simp at hs
    · rename_i fs hu; exact (hne (by simp [hu])).elim
    · rename_i k e hu; exact (hne (by simp [hu])).elim
    · simp at hs

end
end Go.Sx
