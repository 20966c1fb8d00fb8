/-
  Part TlL of the proof: EngK EngL EngV EngW EngY EngZ.
-/
import Derived.Test.YtennlgngdjegoaaGreatTlK
import Derived.ProofKit
import Derived.OpenShut
import Derived.ChangeOld
import Derived.Deep.Slices
import Derived.Laws.Cover3
namespace Go.Sx
open Go Go.RowKit Go.WideShapes
mutual
def wfC : Sh → Val → Prop
  | .bool, _ => True
  | .int k, ρ => (Lit.int k (ρ.N [])).wf = true
  | .str, ρ => (ρ.S []).size ≤ maxLen
  | .sl es, ρ => ρ.L [] ≤ maxLen ∧ ∀ i, i < ρ.L [] → ∀ f, wfAt es f ((ρ.at i).at f)
def wfAt : List Sh → Nat → Val → Prop
  | [], _, _ => True
  | s :: _, 0, ρ => wfC s ρ
  | _ :: r, n + 1, ρ => wfAt r n ρ
end
def wfL : List Sh → Nat → Val → Prop
  | [], _, _ => True
  | s :: r, i, ρ => wfC s (ρ.at i) ∧ wfL r (i + 1) ρ
theorem wfAt_nth : ∀ (es : List Sh) (f : Nat) (ρ : Val), wfAt es f ρ = match nth es f with | some s => wfC s ρ | none => True
  | [], _, _ => rfl
  | _ :: _, 0, _ => rfl
  | _ :: r, n + 1, ρ => by simp only [wfAt, nth]; exact wfAt_nth r n ρ
theorem wfL_nth : ∀ (es : List Sh) (i : Nat) (ρ : Val), wfL es i ρ ↔ ∀ k s, nth es k = some s → wfC s (ρ.at (i + k))
  | [], _, _ => by simp [wfL, nth]
  | s :: r, i, ρ => by
    simp only [wfL]
    rw [wfL_nth r (i + 1) ρ]
    constructor
    · rintro ⟨h1, h2⟩ k t ht
      cases k with
      | zero => simp [nth] at ht; subst ht; exact h1
      | succ k => have := h2 k t (by simpa [nth] using ht); rwa [show i + 1 + k = i + (k + 1) by omega] at this
    · intro h
      refine ⟨h 0 s rfl, fun k t ht => ?_⟩
      have := h (k + 1) t (by simpa [nth] using ht)
      rwa [show i + (k + 1) = i + 1 + k by omega] at this
def glue (r : Nat → Val) : Val where
  B := fun | [] => false | i :: p => (r i).B p
  N := fun | [] => 0 | i :: p => (r i).N p
  S := fun | [] => .empty | i :: p => (r i).S p
  L := fun | [] => 0 | i :: p => (r i).L p
theorem glue_at (r : Nat → Val) (i : Nat) : (glue r).at i = r i := rfl
def ReadL (w : World) (es : List Sh) (cs : List Value) : Prop := es.length = cs.length ∧ ∀ k s v, nth es k = some s → nth cs k = some v → ∃ ρ : Val, CV.Rel (fun _ => False) w [] (cellOf s ρ) v ∧ wfC s ρ
theorem ReadL.glue {w : World} {es : List Sh} {cs : List Value} (h : ReadL w es cs) : ∃ ρ : Val, All2 (CV.Rel (fun _ => False) w []) (cellsOfL es 0 ρ) cs ∧ wfL es 0 ρ := by
  have hc : ∀ k, ∃ ρ : Val, ∀ s v, nth es k = some s → nth cs k = some v → CV.Rel (fun _ => False) w [] (cellOf s ρ) v ∧ wfC s ρ := by
    intro k
    cases h1 : nth es k with
    | none => exact ⟨⟨fun _ => false, fun _ => 0, fun _ => .empty, fun _ => 0⟩, fun s v hs => by simp at hs⟩
    | some s =>
      have hk : k < cs.length := by
        rw [← h.1]
        rw [nth_eq] at h1
        rcases Nat.lt_or_ge k es.length with h' | h'
        · exact h'
        · simp [List.getElem?_eq_none h'] at h1
      have h2 : nth cs k = some cs[k] := by rw [nth_eq]; exact List.getElem?_eq_getElem hk
      obtain ⟨ρ, hr, hw⟩ := h.2 k s _ h1 h2
      refine ⟨ρ, fun s' v' hs' hv' => ?_⟩
      rw [h2] at hv'
      simp at hs' hv'
      subst hs'; subst hv'
      exact ⟨hr, hw⟩
  refine ⟨Sx.glue (fun k => Classical.choose (hc k)), All2.of_nth (by rw [cellsOfL_length]; exact h.1) fun k x v hx hv => ?_, (wfL_nth _ _ _).2 fun k s hs => ?_⟩
  · rw [cellsOfL_nth] at hx
    split at hx
    · rename_i s hs
      simp at hx; subst hx
      have := (Classical.choose_spec (hc k) s v hs hv).1
      simpa [glue_at] using this
    · simp at hx
  · have hk : k < cs.length := by
      rw [← h.1]
      rw [nth_eq] at hs
      rcases Nat.lt_or_ge k es.length with h' | h'
      · exact h'
      · simp [List.getElem?_eq_none h'] at hs
    have h2 : nth cs k = some cs[k] := by rw [nth_eq]; exact List.getElem?_eq_getElem hk
    have := (Classical.choose_spec (hc k) s _ hs h2).2
    simpa [glue_at] using this
theorem nth_app_lt {α : Type} {l r : List α} {k : Nat} (h : k < l.length) : nth (l ++ r) k = nth l k := by
  rw [nth_eq, nth_eq, List.getElem?_append_left h]
theorem nth_append_ge {α : Type} {l r : List α} {k : Nat} (h : l.length ≤ k) : nth (l ++ r) k = nth r (k - l.length) := by
  rw [nth_eq, nth_eq, List.getElem?_append_right h]
theorem ReadL.append {w : World} {a b : List Sh} {cs ds : List Value} (h : ReadL w a cs) (g : ReadL w b ds) : ReadL w (a ++ b) (cs ++ ds) := by
  refine ⟨by simp [h.1, g.1], fun k s v hs hv => ?_⟩
  rcases Nat.lt_or_ge k a.length with hk | hk
  · rw [nth_app_lt hk] at hs
    rw [nth_app_lt (by rw [← h.1]; exact hk)] at hv
    exact h.2 k s v hs hv
  · rw [nth_append_ge hk] at hs
    rw [nth_append_ge (by rw [← h.1]; exact hk), ← h.1] at hv
    exact g.2 _ s v hs hv
section
variable {H : Type} {enc : TypeId × Value → H} {P : Program} {w : World} {spare : Nat → Bool} {held : Bool}
theorem read_fields {n m : Nat} (ih : ∀ (t : TypeId) (cs : List Value) (x : DataW H × List MemPlace) (es : List Sh), DataW.trod enc P w 0 spare held n t cs = some x → shapesOf P m t = some es → ReadL w es cs) :
    ∀ (fs : List Field) (o : Nat) (es : List Sh) (cs : List Value), shapesFields (shapesOf P m) P o fs = some es → o ≤ cs.length → o + es.length = cs.length →
      (∀ f ∈ fs, ∃ x, DataW.trod enc P w 0 spare held n f.type ((cs.drop f.offset).take (P.cellsOf f.type)) = some x) → ReadL w es (cs.drop o)
  | [], o, es, cs, h, ho, hl, _ => by
    simp [shapesFields] at h; subst h
    simp at hl
    have : cs.drop o = [] := by simp; omega
    rw [this]
    exact ⟨rfl, fun k s v hs => by simp [nth] at hs⟩
  | f :: r, o, es, cs, h, ho, hl, hx => by
    simp only [shapesFields] at h
    split at h
    · rename_i hoff
      have hoff : f.offset = o := by simpa using hoff
      split at h
      · rename_i a ha
        split at h
        · rename_i hlen
          have hlen : a.length = P.cellsOf f.type := by simpa using hlen
          split at h
          · rename_i b hb
            simp at h; subst h
            obtain ⟨x, hx1⟩ := hx f (by simp)
            have h1 := ih f.type _ x a hx1 ha
            rw [hoff] at h1
            have h2 := read_fields ih r (o + a.length) b cs hb (by simp at hl; omega) (by simp at hl ⊢; omega) (fun g hg => hx g (by simp [hg]))
            have e : cs.drop o = (cs.drop o).take (P.cellsOf f.type) ++ cs.drop (o + a.length) := by
              rw [← hlen, ← List.drop_drop, List.take_append_drop]
            rw [e]
            exact h1.append h2
          · simp at h
        · simp at h
      · simp at h
    · simp at h
theorem read_rep {n m : Nat} {e : TypeId} {es : List Sh} (he : shapesOf P m e = some es) (hl : es.length = P.cellsOf e) (ih : ∀ (t : TypeId) (cs : List Value) (x : DataW H × List MemPlace) (es : List Sh), DataW.trod enc P w 0 spare held n t cs = some x → shapesOf P m t = some es → ReadL w es cs) (cs : List Value) :
    ∀ (k i : Nat), (repL es k).length + i * P.cellsOf e = cs.length → (∀ j, i ≤ j → j < i + k → ∃ x, DataW.trod enc P w 0 spare held n e ((cs.drop (j * P.cellsOf e)).take (P.cellsOf e)) = some x) → ReadL w (repL es k) (cs.drop (i * P.cellsOf e))
  | 0, i, h, _ => by
    simp [repL] at h
    have : cs.drop (i * P.cellsOf e) = [] := by simp; omega
    rw [this]
    exact ⟨rfl, fun k s v hs => by simp [repL, nth] at hs⟩
  | k + 1, i, h, hx => by
    obtain ⟨x, hx1⟩ := hx i (Nat.le_refl _) (by omega)
    have h1 := ih e _ x es hx1 he
    have h2 := read_rep he hl ih cs k (i + 1) (by simp [repL, hl] at h; rw [Nat.succ_mul]; omega) (fun j hj hj2 => hx j (by omega) (by omega))
    have e1 : cs.drop (i * P.cellsOf e) = (cs.drop (i * P.cellsOf e)).take (P.cellsOf e) ++ cs.drop ((i + 1) * P.cellsOf e) := by
      rw [Nat.succ_mul, ← List.drop_drop, List.take_append_drop]
    rw [e1]
    exact h1.append h2
theorem read_ok : ∀ (n m : Nat) (t : TypeId) (cs : List Value) (x : DataW H × List MemPlace) (es : List Sh), DataW.trod enc P w 0 spare held n t cs = some x → shapesOf P m t = some es → ReadL w es cs
  | 0, _, _, _, _, _, h, _ => by simp [DataW.trod] at h
  | _ + 1, 0, _, _, _, _, _, h => by simp [shapesOf] at h
  | n + 1, m + 1, t, cs, x, es, h, hs => by
    have ih : ∀ (t : TypeId) (cs : List Value) (x : DataW H × List MemPlace) (es : List Sh), DataW.trod enc P w 0 spare held n t cs = some x → shapesOf P m t = some es → ReadL w es cs := fun t cs x es => read_ok n m t cs x es
    have v0 : Val := ⟨fun _ => false, fun _ => 0, fun _ => .empty, fun _ => 0⟩
    have single : ∀ (s : Sh) (v : Value), (∃ ρ : Val, CV.Rel (fun _ => False) w [] (cellOf s ρ) v ∧ wfC s ρ) → ReadL w [s] [v] := by
      intro s v hv
      refine ⟨rfl, fun k s' v' hs' hv' => ?_⟩
      cases k with
      | zero => simp [nth] at hs' hv'; subst hs'; subst hv'; exact hv
      | succ k => simp [nth] at hs'
    simp only [shapesOf] at hs
    split at hs
    · rename_i hu
      simp at hs; subst hs
      obtain ⟨b, rfl, _⟩ := DataW.trod_bool hu h
      exact single _ _ ⟨{ v0 with B := fun _ => b }, by simp only [cellOf]; exact CV.Rel.bool b, by simp [wfC]⟩
    · rename_i k hu
      simp at hs; subst hs
      obtain ⟨i, rfl, _, hw⟩ := DataW.trod_int hu h
      exact single _ _ ⟨{ v0 with N := fun _ => i }, by simp only [cellOf]; exact CV.Rel.int k i, by simpa [wfC] using hw⟩
    · rename_i hu
      simp at hs; subst hs
      obtain ⟨s, rfl, _, hw⟩ := DataW.trod_string hu h
      exact single _ _ ⟨{ v0 with S := fun _ => s }, by simp only [cellOf]; exact CV.Rel.str s, by simpa [wfC] using hw⟩
    · rename_i e hu
      split at hs
      · rename_i el hel
        split at hs
        · rename_i hcond
          simp at hs; subst hs
          simp only [Bool.and_eq_true, beq_iff_eq, Bool.not_eq_true'] at hcond
          obtain ⟨hlen, hne⟩ := hcond
          rcases DataW.trod_slice hu h with ⟨rfl, _⟩ | ⟨a, len, cap, elems, rest, n', hn', rfl, hx, hb, hl, hm, hlen2, hel2, _, _⟩
          · exact single _ _ ⟨{ v0 with L := fun _ => 0 }, by simp only [cellOf]; exact CV.Rel.slnil, by simp [wfC]⟩
          · have hnn : n' = n := by omega
            subst hnn
            have helem : ∀ i, i < len → ∃ ρ : Val, ∃ es' : List Value, w.cells? 0 (a.add (i * P.cellsOf e)) (P.cellsOf e) = some es' ∧ All2 (CV.Rel (fun _ => False) w []) (cellsOfL el 0 ρ) es' ∧ wfL el 0 ρ := by
              intro i hi
              have h1 := hel2 i hi
              have h2 : elems[i]? = some elems[i] := List.getElem?_eq_getElem (by omega)
              rw [h2] at h1
              cases hc : w.cells? 0 (a.add (i * P.cellsOf e)) (P.cellsOf e) with
              | none => simp [hc] at h1
              | some cs' =>
                simp [hc] at h1
                obtain ⟨ρ, hr, hw⟩ := (ih e cs' _ el h1 hel).glue
                exact ⟨ρ, cs', rfl, hr, hw⟩
            have hch : ∀ i, ∃ ρ : Val, ∃ es' : List Value, i < len → w.cells? 0 (a.add (i * P.cellsOf e)) (P.cellsOf e) = some es' ∧ All2 (CV.Rel (fun _ => False) w []) (cellsOfL el 0 ρ) es' ∧ wfL el 0 ρ := by
              intro i
              by_cases hi : i < len
              · obtain ⟨ρ, es', h⟩ := helem i hi; exact ⟨ρ, es', fun _ => h⟩
              · exact ⟨v0, [], fun h => (hi h).elim⟩
            refine single _ _ ⟨{ Sx.glue (fun i => Classical.choose (hch i)) with L := fun | [] => len | i :: p => (Classical.choose (hch i)).L p }, ?_, ?_⟩
            · simp only [cellOf]
              have hel1 : 0 < el.length := by cases el; simp at hne; simp
              have cellI : ∀ i f, i < len → f < el.length → ∃ v, w.cell? ((a.add (i * P.cellsOf e)).add f) = some v ∧ ∀ s, nth el f = some s → CV.Rel (fun _ => False) w [] (cellOf s ((Classical.choose (hch i)).at f)) v := by
                intro i f hi hf
                obtain ⟨es', hsp⟩ := Classical.choose_spec (hch i)
                obtain ⟨h1, h2, _⟩ := hsp hi
                obtain ⟨_, hl1, hl2⟩ := World.cells?_some h1
                have hns : nth el f = some el[f] := by rw [nth_eq]; exact List.getElem?_eq_getElem hf
                obtain ⟨v, hv, hr⟩ := h2.nth (i := f) (a := cellOf el[f] ((Classical.choose (hch i)).at f)) (by rw [cellsOfL_nth, hns]; simp)
                refine ⟨v, by rw [hl2 f (by omega)]; exact hv, fun s hs => ?_⟩
                rw [hns] at hs
                simp at hs; subst hs
                exact hr
              have hspot : 0 < len → a.spot = none ∧ a.block < w.heap.size := by
                intro hp
                obtain ⟨v, hv, _⟩ := cellI 0 0 hp hel1
                have hv' : w.cell? a = some v := by simpa [Addr.add] using hv
                exact ⟨World.cell?_spot hv', World.block_lt_of_cell? w a hv'⟩
              have addE : ∀ i f, i < len → (a.add (i * P.cellsOf e)).add f = ⟨a.block, a.off + (i * el.length + f), none⟩ := by
                intro i f hi
                have := (hspot (by omega)).1
                obtain ⟨p, o, sp⟩ := a
                simp only at this
                subst this
                rw [addr_add, addr_add, hlen, Nat.add_assoc]
              refine CV.Rel.sl (fun i f => (w.cell? ⟨a.block, a.off + (i * el.length + f), none⟩).getD undef) hl (fun hp => ⟨(hspot hp).1, (hspot hp).2, fun h => h⟩) (fun i f hi hf => ?_) (fun i f s hi hs => ?_)
              · obtain ⟨v, hv, _⟩ := cellI i f hi hf
                rw [addE i f hi] at hv
                rw [hv]; rfl
              · have hf : f < el.length := by
                  rw [nth_eq] at hs
                  rcases Nat.lt_or_ge f el.length with h' | h'
                  · exact h'
                  · simp [List.getElem?_eq_none h'] at hs
                obtain ⟨v, hv, hr⟩ := cellI i f hi hf
                rw [addE i f hi] at hv
                rw [hv]
                exact hr s hs
            · simp only [wfC]
              refine ⟨by omega, fun i hi f => ?_⟩
              obtain ⟨es', hsp⟩ := Classical.choose_spec (hch i)
              obtain ⟨_, _, h3⟩ := hsp hi
              rw [wfAt_nth]
              split
              · rename_i s hs
                have := (wfL_nth _ _ _).1 h3 f s hs
                rw [Nat.zero_add] at this
                exact this
              · trivial
        · simp at hs
      · simp at hs
    · rename_i fs hu
      split at hs
      · rename_i l hl
        split at hs
        · rename_i hlen
          simp at hs; subst hs
          have hlen : l.length = P.cellsOf t := by simpa using hlen
          obtain ⟨xs, n', hn', _, hcs, hxl, hf⟩ := DataW.trod_struct hu h
          have hnn : n' = n := by omega
          subst hnn
          have := read_fields ih fs.toList 0 l cs hl (by omega) (by omega) (fun f hf' => by
            obtain ⟨i, hi⟩ := List.getElem?_of_mem hf'
            have h1 := hf i f (by simpa using hi)
            have hi2 : i < xs.length := by
              rw [hxl]
              rcases Nat.lt_or_ge i fs.size with h' | h'
              · exact h'
              · simp [Array.getElem?_eq_none h'] at hi
            exact ⟨xs[i], by rw [h1]; exact List.getElem?_eq_getElem hi2⟩)
          simpa using this
        · simp at hs
      · simp at hs
    · rename_i k e hu
      split at hs
      · rename_i el hel
        split at hs
        · rename_i hcond
          simp at hs; subst hs
          simp only [Bool.and_eq_true, beq_iff_eq] at hcond
          obtain ⟨xs, n', hn', _, hcs, hxl, hf⟩ := DataW.trod_array hu h
          have hnn : n' = n := by omega
          subst hnn
          have := read_rep hel hcond.1 ih cs k 0 (by simp; omega) (fun j _ hj => by
            have h1 := hf j (by omega)
            exact ⟨xs[j]'(by omega), by rw [h1]; exact List.getElem?_eq_getElem (by omega)⟩)
          simpa using this
        · simp at hs
      · simp at hs
    · simp at hs
def argOf (P : Program) (t : TypeId) (es : List Sh) (ρ : Val) : A1 :=
  match isAggT P t with
  | some true => .agg (cellsOfL es 0 ρ)
  | _ => match cellsOfL es 0 ρ with
    | x :: _ => .c x
    | [] => .agg []
theorem read_arg {r : Reach} {b0 : Nat} {t : TypeId} {v : Value} {d : DataW H} {p : List MemPlace} {m : Nat} {es : List Sh} (hok : Value.okWide P w r b0 t v) (h : DataW.Trod enc P w 0 spare held t v d p) (hs : shapesOf P m t = some es) :
    ∃ ρ : Val, A1.Rel (fun _ => False) w [] (argOf P t es ρ) v ∧ wfL es 0 ρ := by
  obtain ⟨fuel, hf⟩ := h
  obtain ⟨ρ, hr, hw⟩ := (read_ok fuel m t _ _ es hf hs).glue
  refine ⟨ρ, ?_, hw⟩
  unfold argOf
  have hnone : m ≠ 0 := by intro e; subst e; simp [shapesOf] at hs
  obtain ⟨m', rfl⟩ : ∃ m', m = m' + 1 := ⟨m - 1, by omega⟩
  have one : v.cells = #[v] → ∀ s, es = [s] → A1.Rel (fun _ => False) w [] (match cellsOfL es 0 ρ with | x :: _ => A1.c x | [] => .agg []) v := by
    intro hv s he
    subst he
    rw [hv] at hr
    cases hr with
    | cons h1 _ => exact h1
  unfold isAggT
  split
  · rename_i heq
    split at heq
    · rename_i fs hu
      unfold Value.okWide at hok
      simp only [hu] at hok
      obtain ⟨cs, rfl, _, _⟩ := hok
      exact ⟨cs.toList, by simp, hr⟩
    · rename_i n e hu
      unfold Value.okWide at hok
      simp only [hu] at hok
      obtain ⟨cs, rfl, _, _⟩ := hok
      exact ⟨cs.toList, by simp, hr⟩
    · simp at heq
    · simp at heq
  · rename_i hne
    simp only [shapesOf] at hs
    split at hs
    · rename_i hu
      simp at hs
      obtain ⟨b, rfl⟩ := okWide_bool hu hok
      exact one rfl _ hs.symm
    · rename_i k hu
      simp at hs
      obtain ⟨b, rfl⟩ := okWide_int hu hok
      exact one rfl _ hs.symm
    · rename_i hu
      simp at hs
      obtain ⟨b, rfl⟩ := okWide_string hu hok
      exact one rfl _ hs.symm
    · rename_i e hu
      obtain ⟨a, l, c, rfl⟩ := okWide_slice hu hok
      split at hs
      · split at hs
        · simp at hs
          exact one rfl _ hs.symm
        · simp at hs
      · simp at hs
    · rename_i fs hu; exact (hne (by simp [hu])).elim
    · rename_i k e hu; exact (hne (by simp [hu])).elim
    · simp at hs
end
end Go.Sx
namespace Go.Sx
open Go Go.RowKit
theorem trod_keep {H : Type} {enc : TypeId × Value → H} {P : Program} {t : TypeId} (hl : laidOutB P = true) (hr : P.readableRec t = true) (hrow : t < P.types.size) {W W' : World} {v : Value} {d : DataW H} {ps : List MemPlace}
    (h : DataW.Trod enc P W 0 (fun _ => true) true t v d ps) (hb : Below W.heap.size W W') : DataW.Trod enc P W' 0 (fun b => decide (b < W.heap.size)) true t v d ps :=
  Below.trod hl hr hrow h hb (by obtain ⟨m, hm⟩ := h; exact DataW.trod_lt m _ _ _ hm)
def leC (x y : CV) : Prop := ∀ (F : Nat → Prop) (w : World) (v : Value), CV.Rel F w [] x v → CV.Rel F w [] y v
theorem leC.refl {x : CV} : leC x x := fun _ _ _ h => h
inductive LeL : List CV → List CV → Prop
  | nil : LeL [] []
  | cons {x y l r} : leC x y → LeL l r → LeL (x :: l) (y :: r)
theorem LeL.refl : ∀ {l : List CV}, LeL l l
  | [] => .nil
  | _ :: _ => .cons leC.refl LeL.refl
inductive le1 : A1 → A1 → Prop
  | c {x y} : leC x y → le1 (.c x) (.c y)
  | agg {l r} : LeL l r → le1 (.agg l) (.agg r)
theorem le1.refl : ∀ {x : A1}, le1 x x
  | .c _ => .c leC.refl
  | .agg _ => .agg LeL.refl
theorem LeL.ok {F w} : ∀ {l r : List CV} {vs : List Value}, LeL l r → All2 (CV.Rel F w []) l vs → All2 (CV.Rel F w []) r vs
  | _, _, _, .nil, h => h
  | _, _, _, .cons h1 h2, .cons k1 k2 => .cons (h1 _ _ _ k1) (h2.ok k2)
theorem le1.ok {F w v} {x y : A1} (h : le1 x y) (hx : A1.Rel F w [] x v) : A1.Rel F w [] y v := by
  cases h with
  | c h => exact h _ _ _ hx
  | agg h =>
    obtain ⟨vs, rfl, hv⟩ := hx
    exact ⟨vs, rfl, h.ok hv⟩
inductive LeT : List A1 → List A1 → Prop
  | nil : LeT [] []
  | cons {x y l r} : le1 x y → LeT l r → LeT (x :: l) (y :: r)
theorem LeT.ok {F w} : ∀ {l r : List A1} {vs : List Value}, LeT l r → All2 (A1.Rel F w []) l vs → All2 (A1.Rel F w []) r vs
  | _, _, _, .nil, h => h
  | _, _, _, .cons h1 h2, .cons k1 k2 => .cons (h1.ok k1) (h2.ok k2)
theorem leA_tup {l r : List A1} (h : LeT l r) : leA (.tup l) (.tup r) := fun _ _ _ hx => by
  obtain ⟨vs, rfl, hv⟩ := hx
  exact ⟨vs, rfl, h.ok hv⟩
end Go.Sx
namespace Go.Sx
open Go Go.RowKit
variable {P : Program}
variable {D : List Deferred}
def rowZ (T : TypeId) (es : List Sh) : Option (TypeId × List CV) := some (T, [.row false es 0 Val.zero])
def St.own (t : Nat) (T : TypeId) (es : List Sh) (s : St) : St :=
  match nth s.tmps t with
  | some ⟨[], .one (.c .nils)⟩ => ⟨setN s.tmps t ⟨[], .one (.c (.os s.mem.length es.length))⟩, s.mem ++ [rowZ T es]⟩
  | _ => s
def St.flat (t : Nat) (es : List Sh) (s : St) : St :=
  match nth s.tmps t with
  | some ⟨[], .one (.c .nils)⟩ => ⟨setN s.tmps t ⟨[], .one (.c (.sl es 0 Val.zero))⟩, s.mem⟩
  | _ => s
def St.ownM (b o : Nat) (T : TypeId) (es : List Sh) (s : St) : St :=
  match nth s.mem b with
  | some (some (T', cs)) => if isRowL cs then s else match nth cs o with
    | some .nils => ⟨s.tmps, setN s.mem b (some (T', setN cs o (.os s.mem.length es.length))) ++ [rowZ T es]⟩
    | _ => s
  | _ => s
inductive Place where
  | own (t : Nat) (T : TypeId) (es : List Sh)
  | flat (t : Nat) (es : List Sh)
  | ownM (b o : Nat) (T : TypeId) (es : List Sh)
def St.place (s : St) : Place → St
  | .own t T es => s.own t T es
  | .flat t es => s.flat t es
  | .ownM b o T es => s.ownM b o T es
def St.places (s : St) : List Place → St
  | [] => s
  | p :: r => (s.place p).places r
theorem Ext.row0 {K F w bs} (_ : K ≤ bs.length) : Ext K F w bs F w (bs ++ [⟨w.heap.size, 0, 0⟩]) :=
  (Ext.refl (K := K)).push (.inr (Nat.le_refl _))
theorem MemRel.row0 {F w bs mem} (hm : MemRel P F w bs mem) (T : TypeId) (es : List Sh) : MemRel P F w (bs ++ [⟨w.heap.size, 0, 0⟩]) (mem ++ [rowZ T es]) := by
  refine hm.push _ (fun h => ?_) (fun h => ?_) (fun h => ?_) (fun fz es' n ρ h => ?_)
  · simp [liveL] at h
  · simp [liveL] at h
  · simp [isRowL] at h
  · simp only [List.cons.injEq, CV.row.injEq, and_true] at h
    obtain ⟨rfl, rfl, rfl, rfl⟩ := h
    exact ⟨rfl, Nat.le_refl _, Nat.zero_le _, fun h => by simp at h, fun h => by simp at h⟩
theorem nils_os {F w bs} {v : Value} {sz : Nat} {k : Nat} {x : BI} (hx : nth bs k = some x) (h0 : x.n = 0) (h1 : x.cap = 0) (h : CV.Rel F w bs .nils v) : CV.Rel F w bs (.os k sz) v := by
  cases h
  have := CV.Rel.os (F := F) (w := w) (sz := sz) (base := none) hx (fun h => by omega)
  rwa [h0, h1] at this
theorem setN_noRow {cs : List CV} {o : Nat} {c : CV} (h : isRowL cs = false) (hc : ∀ r, isRowL (c :: r) = false) (ho : nth cs o = some .nils) : isRowL (setN cs o c) = false := by
  cases cs with
  | nil => simp [nth] at ho
  | cons d r =>
    cases o with
    | zero => exact hc r
    | succ o =>
      cases r with
      | nil => simp [nth] at ho
      | cons d2 r2 => cases d <;> cases o <;> first | rfl | (simp [isRowL] at h; done)
theorem StRel.place {F w bs s} {a : Act} (hs : StRel P D F w bs s a) (p : Place) {K : Nat} (hK : K ≤ bs.length) : ∃ bs', Ext K F w bs F w bs' ∧ K ≤ bs'.length ∧ StRel P D F w bs' (s.place p) a := by
  have triv : ∃ bs', Ext K F w bs F w bs' ∧ K ≤ bs'.length ∧ StRel P D F w bs' s a := ⟨bs, Ext.refl, hK, hs⟩
  have put : ∀ (t : Nat) (v : AV) (m : Mem) (bs' : List BI), Ext bs.length F w bs F w bs' → MemRel P F w bs' m → nth s.tmps t = some ⟨[], .one (.c .nils)⟩ → (∀ u, CV.Rel F w bs' .nils u → v.Rel F w bs' u) →
      StRel P D F w bs' ⟨setN s.tmps t ⟨[], v⟩, m⟩ a := by
    intro t v m bs' he hm ht hv
    refine ⟨hs.defers, by simp only [setN_length]; exact hs.len, fun i sl x h1 h2 => ?_, hm⟩
    simp only at h1
    rcases nth_setN h1 with ⟨rfl, rfl⟩ | ⟨_, h1⟩
    · have := (hs.slots i _ x ht h2).1 KH_nil
      exact ⟨fun _ => hv _ (CV.Rel.grow he.grow this), fun h => (h KH_nil).elim⟩
    · have := hs.slots i sl x h1 h2
      exact ⟨fun hk => AV.Rel.grow he.grow (this.1 hk), this.2⟩
  have hnew : nth (bs ++ [(⟨w.heap.size, 0, 0⟩ : BI)]) s.mem.length = some ⟨w.heap.size, 0, 0⟩ := by rw [← hs.mem.len]; exact nth_append_last _ _
  cases p with
  | own t T es =>
    simp only [St.place, St.own]
    split
    · rename_i ht
      refine ⟨_, Ext.row0 hK, by simp; omega, put t _ _ _ (Ext.row0 (Nat.le_refl _)) (hs.mem.row0 T es) ht fun u hu => ?_⟩
      exact nils_os (x := ⟨w.heap.size, 0, 0⟩) hnew rfl rfl hu
    · exact triv
  | flat t es =>
    simp only [St.place, St.flat]
    split
    · rename_i ht
      refine ⟨bs, Ext.refl, hK, put t _ _ _ Ext.refl hs.mem ht fun u hu => ?_⟩
      cases hu
      exact CV.Rel.slnil
    · exact triv
  | ownM b o T es =>
    simp only [St.place, St.ownM]
    split
    · rename_i T' cs hb
      split
      · exact triv
      rename_i hrow
      simp only [Bool.not_eq_true] at hrow
      split
      · rename_i ho
        have he := Ext.row0 (K := bs.length) (F := F) (w := w) (bs := bs) (Nat.le_refl _)
        refine ⟨_, Ext.row0 hK, by simp; omega, hs.defers, hs.len, fun i sl x h1 h2 => ?_, ?_⟩
        · have := hs.slots i sl x h1 h2
          exact ⟨fun hk => AV.Rel.grow he.grow (this.1 hk), this.2⟩
        · have hrow' : ∀ y, isRowL (setN cs o (.os y es.length)) = false := fun y => setN_noRow hrow (fun _ => rfl) ho
          have hm := hs.mem.row0 T es
          have hblt := nth_lt hb
          have hbn : ∃ x, nth bs b = some x := by
            rw [← hs.mem.len] at hblt
            exact ⟨bs[b], by rw [nth_eq]; exact List.getElem?_eq_getElem hblt⟩
          obtain ⟨x, hx⟩ := hbn
          have hx' : nth (bs ++ [(⟨w.heap.size, 0, 0⟩ : BI)]) b = some x := nth_append hx
          have hb' : nth (s.mem ++ [rowZ T es]) b = some (some (T', cs)) := nth_append hb
          obtain ⟨vs, hv, hr⟩ := hm.cont b T' cs x hb' hrow hx'
          have hl := hm.loc b x T' cs hx' hb' (liveL_of hrow)
          have e : setN s.mem b (some (T', setN cs o (.os s.mem.length es.length))) ++ [rowZ T es] = setN (setN (s.mem ++ [rowZ T es]) b none) b (some (T', setN cs o (.os s.mem.length es.length))) := by
            rw [setN_setN, setN_eq s.mem, setN_eq (s.mem ++ _), List.set_append_left _ _ hblt]
          simp only [e]
          refine (hm.kill b).put hx' (fun T cs h => ?_) (fun _ => hl) (fun _ k y T2 cs2 hk hc h2 hp => ?_) (fun _ => ⟨vs, hv, ?_⟩) (fun fz es' n ρ h => ?_) (fun f i st cs' h => by have := hrow' s.mem.length; rw [h] at this; simp [isRowL] at this)
          · rcases nth_setN h with ⟨_, h⟩ | ⟨h, _⟩
            · cases h
            · exact h rfl
          · rcases nth_setN hc with ⟨_, h⟩ | ⟨hne, hc⟩
            · cases h
            · exact hne (hm.inj k b y x T2 cs2 T' cs hk hx' hc hb' h2 (liveL_of hrow) hp)
          · refine All2.of_nth (by rw [setN_length]; exact hr.length) fun i c v hc hv => ?_
            rcases nth_setN hc with ⟨rfl, rfl⟩ | ⟨_, hc⟩
            · obtain ⟨v', hv', hrel⟩ := hr.nth ho
              rw [nth_eq, hv'] at hv
              simp at hv; subst hv
              exact nils_os (x := ⟨w.heap.size, 0, 0⟩) hnew rfl rfl hrel
            · obtain ⟨v', hv', hrel⟩ := hr.nth hc
              rw [nth_eq, hv'] at hv
              simp at hv; subst hv
              exact hrel
          · have := hrow' s.mem.length
            rw [h] at this
            simp [isRowL] at this
      · exact triv
    · exact triv
theorem StRel.places {F w a} : ∀ (ps : List Place) {bs s} (_ : StRel P D F w bs s a) {K : Nat} (_ : K ≤ bs.length), ∃ bs', Ext K F w bs F w bs' ∧ K ≤ bs'.length ∧ StRel P D F w bs' (s.places ps) a
  | [], bs, _, hs, _, hK => ⟨bs, Ext.refl, hK, hs⟩
  | p :: r, _, _, hs, _, hK => by
    obtain ⟨bs1, e1, k1, h1⟩ := hs.place p hK
    obtain ⟨bs2, e2, k2, h2⟩ := StRel.places r h1 k1
    exact ⟨bs2, e1.trans e2 (Nat.le_refl _), k2, h2⟩
def ownH (ps : List Place) (h : Nat → St → Tree (XE × St)) (K : Nat) (s : St) : Tree (XE × St) := h K (s.places ps)
theorem ownH_ok {P : Program} {b : Code} {h : Nat → St → Tree (XE × St)} (ps : List Place) (hh : LoopOk P b h) : LoopOk P b (ownH ps h) := by
  intro K s x hx lr nn D F w bs a hK hs Q hQ
  obtain ⟨bs', he, hK', hs'⟩ := hs.places ps hK
  exact hh K (s.places ps) x hx lr nn D F w bs' a hK' hs' Q fun F' w' bs2 a' he' hs2 => hQ F' w' bs2 a' (he.trans he' (Nat.le_refl _)) hs2
theorem pcOne_of_sel {P : Program} {H : Hd} (hH : HdOk P H) (n f : Nat) {G : List A1 → Option AV}
    (h : ∀ args r, G args = some r → (denA r).isSome = true ∧ (evFn P H n f args []).sel.map Prod.fst = some r) : PcOne P f G := by
  intro args r hG hcl F w vs hargs
  obtain ⟨hd, ha⟩ := h args r hG
  obtain ⟨v, hv⟩ := Option.isSome_iff_exists.1 hd
  refine ⟨v, denA_mk hv, fun w1 hw1 => ?_⟩
  obtain ⟨⟨r', m⟩, hsel, hr⟩ := Option.map_eq_some_iff.1 ha
  simp only at hr
  subst hr
  have hargs1 : All2 (A1.Rel F w1 []) args vs := hargs.imp fun _ _ hx => A1.Rel.grow (F := F) (F' := F) (bs := []) (bs' := []) ⟨hw1.size, fun _ _ h => h, fun p hp _ => hw1.block p hp, fun _ _ h => h⟩ hx
  refine (evFn_ok0 hH n f args r' m hsel F w1 [] vs MemRel.nil hargs1).mono fun e w2 ⟨u, F', bs', he, hext, hm, hu⟩ => ?_
  have := denA_ok hv hu
  subst this
  exact ⟨he, hext.below⟩
end Go.Sx
namespace Go.Sx
open Go Go.RowKit Classical
def nG (G : List A1 → Option (Bool × AV)) (args : List A1) : Tree AV :=
  match G args with
  | some (p, r) => .need p (.leaf r)
  | none => .fail
theorem nG_sel {G : List A1 → Option (Bool × AV)} {args : List A1} {r : AV} (h : (nG G args).sel = some r) : G args = some (true, r) := by
  unfold nG at h
  split at h
  · rename_i p x hx
    simp only [Tree.sel] at h
    cases p <;> simp at h
    rw [hx, h]
  · simp [Tree.sel] at h
theorem tcOne_of_all {P : Program} {H : Hd} (hH : HdOk P H) (n f : Nat) {G : List A1 → Option (Bool × AV)}
    (h : ∀ args r, G args = some (true, r) → (denA r).isSome = true ∧ (evFn P H n f args []).All (fun y => y.1 = r)) : TcOne P f (nG G) := by
  intro args r hG hcl
  have hs := nG_sel hG
  exact pcOne_of_all (G := fun a => if a = args then some r else none) hH n f (fun a r' ha => by
    split at ha
    · rename_i e
      subst e
      simp at ha; subst ha
      exact h a r hs
    · cases ha) args r (by simp) hcl
theorem ucOne_of_all {P : Program} {H : Hd} (hH : HdOk P H) (n f : Nat) {G : List A1 → Option (Bool × AV)}
    (h : ∀ args r, G args = some (true, r) → (hcTree P H n f args).All (fun x => leA x r)) : UcOne P f (nG G) := by
  intro args r hG hcl
  have hs := nG_sel hG
  exact hcOne_of_all (G := fun a => if a = args then some r else none) hH n f (fun a r' ha => by
    split at ha
    · rename_i e
      subst e
      simp at ha; subst ha
      exact h a r hs
    · cases ha) args r (by simp) hcl
theorem all_bind {α β : Type} {Q : β → Prop} {f : α → Tree β} : ∀ {t : Tree α}, (t.bind f).All Q ↔ t.All (fun a => (f a).All Q)
  | .leaf _ => Iff.rfl
  | .br _ _ _ => and_congr (imp_congr_right fun _ => all_bind) (imp_congr_right fun _ => all_bind)
  | .need _ _ => and_congr_right fun _ => all_bind
  | .fail => Iff.rfl
theorem All.imp {α : Type} {Q R : α → Prop} (h : ∀ a, Q a → R a) : ∀ {t : Tree α}, t.All Q → t.All R
  | .leaf _, k => h _ k
  | .br _ _ _, ⟨k1, k2⟩ => ⟨fun hc => All.imp h (k1 hc), fun hc => All.imp h (k2 hc)⟩
  | .need _ _, ⟨k1, k2⟩ => ⟨k1, All.imp h k2⟩
  | .fail, k => k.elim
def Tree.vals (t : Tree (AV × Mem)) : Tree AV := t.bind fun y => .leaf y.1
theorem all_vals {Q : AV → Prop} {t : Tree (AV × Mem)} (h : t.vals.All Q) : t.All (fun y => Q y.1) := all_bind.1 h
theorem tcOne_of_tree {P : Program} {H : Hd} (hH : HdOk P H) (n f : Nat) {G : List A1 → Option (Bool × AV)}
    (h : ∀ args r, G args = some (true, r) → (denA r).isSome = true ∧ ∃ u, (evFn P H n f args []).vals = u ∧ u.All (fun z => z = r)) : TcOne P f (nG G) :=
  tcOne_of_all hH n f fun args r hG => by
    obtain ⟨h1, u, h2, h3⟩ := h args r hG
    exact ⟨h1, all_vals (Q := fun z => z = r) (h2 ▸ h3)⟩
theorem pcOne_of_tree {P : Program} {H : Hd} (hH : HdOk P H) (n f : Nat) {G : List A1 → Option AV}
    (h : ∀ args r, G args = some r → (denA r).isSome = true ∧ ∃ u, (evFn P H n f args []).vals = u ∧ u.All (fun z => z = r)) : PcOne P f G :=
  pcOne_of_all hH n f fun args r hG => by
    obtain ⟨h1, u, h2, h3⟩ := h args r hG
    exact ⟨h1, all_vals (Q := fun z => z = r) (h2 ▸ h3)⟩
theorem ucOne_of_tree {P : Program} {H : Hd} (hH : HdOk P H) (n f : Nat) {G : List A1 → Option (Bool × AV)}
    (h : ∀ args r, G args = some (true, r) → ∃ u, hcTree P H n f args = u ∧ u.All (fun z => leA z r)) : UcOne P f (nG G) :=
  ucOne_of_all hH n f fun args r hG => by
    obtain ⟨u, h2, h3⟩ := h args r hG
    exact h2 ▸ h3
theorem law_of_tree {P : Program} {H : Hd} (hH : HdOk P H) (n f : Nat) {args : List A1} {u : Tree AV} (hu : (evFn P H n f args []).vals = u) (ha : u.All (fun z => z = .one (.c (.bool true)))) {F : Nat → Prop} {W : World} {vs : List Value}
    (hargs : All2 (A1.Rel F W []) args vs) : Calls P f vs.toArray W (fun e W' => e = .returned (.bool true) ∧ Below W.heap.size W W') := by
  subst hu
  obtain ⟨⟨r', m⟩, hsel, hr⟩ := all_sel (all_vals (Q := fun z => z = .one (.c (.bool true))) ha)
  simp only at hr
  subst hr
  refine (evFn_ok0 hH n f args _ m hsel F W [] vs MemRel.nil hargs).mono fun e w2 ⟨u, F', bs', he, hext, hm, hu⟩ => ?_
  cases hu
  exact ⟨he, hext.below⟩
def anyB (bad : Nat → Bool) : Nat → Bool
  | 0 => false
  | n + 1 => anyB bad n || bad n
theorem anyB_iff {bad : Nat → Bool} : ∀ {n : Nat}, anyB bad n = true ↔ ∃ i, i < n ∧ bad i = true
  | 0 => by simp [anyB]
  | n + 1 => by
    simp only [anyB, Bool.or_eq_true, anyB_iff (n := n)]
    constructor
    · rintro (⟨i, h1, h2⟩ | h)
      · exact ⟨i, by omega, h2⟩
      · exact ⟨n, by omega, h⟩
    · rintro ⟨i, h1, h2⟩
      rcases Nat.lt_or_eq_of_le (Nat.le_of_lt_succ h1) with h | rfl
      · exact .inl ⟨i, h, h2⟩
      · exact .inr h2
theorem anyB_none {bad : Nat → Bool} {n : Nat} (h : ∀ i, i < n → bad i = false) : anyB bad n = false := by
  rw [Bool.eq_false_iff]
  intro hh
  obtain ⟨i, h1, h2⟩ := anyB_iff.1 hh
  rw [h i h1] at h2
  cases h2
end Go.Sx
namespace Go.Sx
open Go Go.RowKit
variable {P : Program}
def shC (k : Nat) : CV → CV
  | .ptr b o => .ptr (k + b) o
  | .os b sz => .os (k + b) sz
  | .ost b sz lo => .ost (k + b) sz lo
  | .osh b sz m => .osh (k + b) sz m
  | .oc b m c => .oc (k + b) m c
  | .rowp b sz i off => .rowp (k + b) sz i off
  | .fn f a c => .fn f (shCs k a) (shCs k c)
  | .iface t v => .iface t (shC k v)
  | .yld b => .yld (k + b)
  | x => x
 where shCs (k : Nat) : List CV → List CV
  | [] => []
  | a :: l => shC k a :: shCs k l
def sh1 (k : Nat) : A1 → A1
  | .c x => .c (shC k x)
  | .agg l => .agg (l.map (shC k))
def shA (k : Nat) : AV → AV
  | .any => .any
  | .one a => .one (sh1 k a)
  | .tup l => .tup (l.map (sh1 k))
def shE (k : Nat) : Option (TypeId × List CV) → Option (TypeId × List CV)
  | some (T, cs) => some (T, cs.map (shC k))
  | none => none
theorem nth_shift {α : Type} (l r : List α) (b : Nat) : nth (l ++ r) (l.length + b) = nth r b := by
  rw [nth_eq, nth_eq, List.getElem?_append_right (by omega)]
  congr 1; omega
theorem shC_ok {F : Nat → Prop} {w : World} {bs bs' : List BI} {x : CV} {v : Value} (h : CV.Rel F w bs' x v) : CV.Rel F w (bs ++ bs') (shC bs.length x) v := by
  have hcs : ∀ (l : List CV) (i : Nat) (x : CV), nth (shC.shCs bs.length l) i = some x → ∃ y, nth l i = some y ∧ x = shC bs.length y := by
    intro l
    induction l with
    | nil => intro i x h; simp [shC.shCs, nth] at h
    | cons a l ih =>
      intro i x h
      cases i with
      | zero => simp [shC.shCs, nth] at h; exact ⟨a, rfl, h.symm⟩
      | succ n => exact ih n x (by simpa [shC.shCs, nth] using h)
  have hlen : ∀ l : List CV, (shC.shCs bs.length l).length = l.length := by
    intro l
    induction l with
    | nil => rfl
    | cons a l ih => simp [shC.shCs, ih]
  induction h with
  | any h => exact .any h
  | bool b => exact .bool b
  | int k n => exact .int k n
  | str s => exact .str s
  | nilp => exact .nilp
  | nils => exact .nils
  | nilf => exact .nilf
  | nili => exact .nili
  | ptr h => exact .ptr (by rw [nth_shift]; exact h)
  | os h hb => exact .os (by rw [nth_shift]; exact h) hb
  | ost h hl => exact .ost (by rw [nth_shift]; exact h) hl
  | osh h hl h0 => exact .osh (by rw [nth_shift]; exact h) hl h0
  | oc h hl => exact .oc (by rw [nth_shift]; exact h) hl
  | rowp h hi => exact .rowp (by rw [nth_shift]; exact h) hi
  | rop val hb hF hc hr _ => exact .rop val hb hF hc hr
  | slnil => exact .slnil
  | sl val hn h0 hc hr _ => exact .sl val hn h0 hc hr
  | fn l1 l2 r1 r2 ih1 ih2 =>
    refine .fn (by rw [hlen]; exact l1) (by rw [hlen]; exact l2) (fun i x v h1 h2 => ?_) (fun i x v h1 h2 => ?_)
    · obtain ⟨y, hy, rfl⟩ := hcs _ _ _ h1
      exact ih1 i y v hy h2
    · obtain ⟨y, hy, rfl⟩ := hcs _ _ _ h1
      exact ih2 i y v hy h2
  | iface h ih => exact .iface ih
  | yld h => exact .yld (by rw [nth_shift]; exact h)
theorem sh1_ok {F : Nat → Prop} {w : World} {bs bs' : List BI} {x : A1} {v : Value} (h : A1.Rel F w bs' x v) : A1.Rel F w (bs ++ bs') (sh1 bs.length x) v := by
  cases x with
  | c x => exact shC_ok h
  | agg l =>
    obtain ⟨vs, rfl, h⟩ := h
    exact ⟨vs, rfl, h.map_left fun _ _ h => shC_ok h⟩
theorem shA_ok {F : Nat → Prop} {w : World} {bs bs' : List BI} {x : AV} {v : Value} (h : AV.Rel F w bs' x v) : AV.Rel F w (bs ++ bs') (shA bs.length x) v := by
  cases x with
  | any => trivial
  | one a => exact sh1_ok h
  | tup l =>
    obtain ⟨vs, rfl, h⟩ := h
    exact ⟨vs, rfl, h.map_left fun _ _ h => sh1_ok h⟩
theorem sh_row {k : Nat} {cs : List CV} {fz : Bool} {es : List Sh} {n : Nat} {ρ : Val} (h : cs.map (shC k) = [.row fz es n ρ]) : cs = [.row fz es n ρ] := by
  match cs, h with
  | [c], h =>
    simp only [List.map_cons, List.map_nil, List.cons.injEq, and_true] at h
    cases c <;> simp only [shC] at h <;> first | exact congrArg (fun x => [x]) h | cases h
  | [], h => simp at h
  | _ :: _ :: _, h => simp at h
theorem sh_isRow {k : Nat} {cs : List CV} (h : isRowL (cs.map (shC k)) = false) : isRowL cs = false := by
  cases hr : isRowL cs
  · rfl
  · unfold isRowL at hr
    split at hr
    · simp [shC, isRowL] at h
    · simp [shC, isRowL] at h
    · cases hr
theorem sh_lp {k : Nat} {cs cs' : List CV} {f i : Nat} {st : LpS} (h : cs.map (shC k) = .lp f i st :: cs') : ∃ ds, cs = .lp f i st :: ds ∧ cs' = ds.map (shC k) := by
  match cs, h with
  | c :: ds, h =>
    simp only [List.map_cons, List.cons.injEq] at h
    refine ⟨ds, ?_, h.2.symm⟩
    have h1 := h.1
    cases c <;> simp only [shC] at h1 <;> first | (rw [h1]; done) | cases h1
  | [], h => simp at h
theorem sh_any {k : Nat} {c : CV} (h : isAny (shC k c) = false) : isAny c = false := by
  cases c <;> first | rfl | simp [shC, isAny] at h
theorem sh_live {x : BI} {k : Nat} {cs : List CV} (h : liveL x (cs.map (shC k))) : liveL x cs := by
  unfold liveL
  split
  · simpa [shC, liveL] using h
  · trivial
theorem nth_app {α : Type} {l r : List α} {k : Nat} {x : α} (h : nth (l ++ r) k = some x) : (k < l.length ∧ nth l k = some x) ∨ (l.length ≤ k ∧ nth r (k - l.length) = some x) := by
  rw [nth_eq] at h
  rcases Nat.lt_or_ge k l.length with hk | hk
  · left; rw [List.getElem?_append_left hk] at h; exact ⟨hk, by rw [nth_eq]; exact h⟩
  · right; rw [List.getElem?_append_right hk] at h; exact ⟨hk, by rw [nth_eq]; exact h⟩
theorem MemRel.join {F w bs mem bs' mem'} (h1 : MemRel P F w bs mem) (h2 : MemRel P F w bs' mem') (hd : ∀ k x T cs, nth bs k = some x → nth mem k = some (some (T, cs)) → liveL x cs → ∀ y ∈ bs', x.p ≠ y.p) : MemRel P F w (bs ++ bs') (mem ++ mem'.map (shE bs.length)) := by
  have g : Grow F F bs (bs ++ bs') w w := ⟨Nat.le_refl _, fun _ _ h => h, fun _ _ _ => rfl, fun k p hk => nth_append hk⟩
  have key : ∀ k T cs, nth (mem ++ mem'.map (shE bs.length)) k = some (some (T, cs)) → (k < mem.length ∧ nth mem k = some (some (T, cs))) ∨ (mem.length ≤ k ∧ ∃ cs0, nth mem' (k - mem.length) = some (some (T, cs0)) ∧ cs = cs0.map (shC bs.length)) := by
    intro k T cs h
    rcases nth_app h with h | ⟨hk, h⟩
    · exact .inl h
    · rw [nth_eq, List.getElem?_map] at h
      simp only [Option.map_eq_some_iff] at h
      obtain ⟨e, he, h⟩ := h
      unfold shE at h
      split at h
      · rename_i T' cs0
        simp only [Option.some.injEq, Prod.mk.injEq] at h
        obtain ⟨rfl, rfl⟩ := h
        exact .inr ⟨hk, cs0, by rw [nth_eq]; exact he, rfl⟩
      · cases h
  have keyb : ∀ k x, nth (bs ++ bs') k = some x → (k < mem.length → nth bs k = some x) ∧ (mem.length ≤ k → nth bs' (k - mem.length) = some x) := by
    intro k x h
    rcases nth_app h with ⟨hk, h⟩ | ⟨hk, h⟩
    · exact ⟨fun _ => h, fun h' => by have := h1.len; omega⟩
    · exact ⟨fun h' => by have := h1.len; omega, fun _ => by rw [← h1.len]; exact h⟩
  refine ⟨by simp [h1.len, h2.len], fun k x T cs hk hc hv => ?_, fun k k' x x' T cs T' cs' hk hk' hc hc' hv hv' hp => ?_, fun k T cs x hc hr hk => ?_, fun k T fz es n ρ x hc hk => ?_, fun k T f i st cs x hc hk => ?_⟩
  · rcases key k T cs hc with ⟨hlt, hm⟩ | ⟨hge, cs0, hm, rfl⟩
    · exact h1.loc k x T cs ((keyb k x hk).1 hlt) hm hv
    · exact h2.loc _ x T cs0 ((keyb k x hk).2 hge) hm (sh_live hv)
  · rcases key k T cs hc with ⟨hlt, hm⟩ | ⟨hge, cs0, hm, rfl⟩ <;> rcases key k' T' cs' hc' with ⟨hlt', hm'⟩ | ⟨hge', cs0', hm', rfl⟩
    · exact h1.inj k k' x x' T cs T' cs' ((keyb k x hk).1 hlt) ((keyb k' x' hk').1 hlt') hm hm' hv hv' hp
    · exact (hd k x T cs ((keyb k x hk).1 hlt) hm hv x' (nth_mem ((keyb k' x' hk').2 hge')) hp).elim
    · exact (hd k' x' T' cs' ((keyb k' x' hk').1 hlt') hm' hv' x (nth_mem ((keyb k x hk).2 hge)) hp.symm).elim
    · have := h2.inj _ _ x x' T cs0 T' cs0' ((keyb k x hk).2 hge) ((keyb k' x' hk').2 hge') hm hm' (sh_live hv) (sh_live hv') hp
      omega
  · rcases key k T cs hc with ⟨hlt, hm⟩ | ⟨hge, cs0, hm, rfl⟩
    · obtain ⟨vs, a1, a2⟩ := h1.cont k T cs x hm hr ((keyb k x hk).1 hlt)
      exact ⟨vs, a1, a2.imp fun _ _ h => h.grow g⟩
    · obtain ⟨vs, a1, a2⟩ := h2.cont _ T cs0 x hm (sh_isRow hr) ((keyb k x hk).2 hge)
      exact ⟨vs, a1, a2.map_left fun _ _ h => shC_ok h⟩
  · rcases key k T _ hc with ⟨hlt, hm⟩ | ⟨hge, cs0, hm, he⟩
    · exact h1.row k T fz es n ρ x hm ((keyb k x hk).1 hlt)
    · have := sh_row he.symm
      subst this
      exact h2.row _ T fz es n ρ x hm ((keyb k x hk).2 hge)
  · rcases key k T _ hc with ⟨hlt, hm⟩ | ⟨hge, cs0, hm, he⟩
    · exact (h1.lp k T f i st cs x hm ((keyb k x hk).1 hlt)).grow g rfl
    · obtain ⟨ds, rfl, rfl⟩ := sh_lp he.symm
      obtain ⟨R, a1, a2, a4, a5, a6⟩ := h2.lp _ T f i st ds x hm ((keyb k x hk).2 hge)
      refine ⟨R, a1, a2, a4, by simpa using a5, fun j c v hj hv ha => ?_⟩
      rw [nth_eq, List.getElem?_map] at hj
      simp only [Option.map_eq_some_iff] at hj
      obtain ⟨c0, hc0, rfl⟩ := hj
      exact shC_ok (a6 j c0 v (by rw [nth_eq]; exact hc0) hv (sh_any ha))
theorem MemRel.less {F F' : Nat → Prop} {w bs mem} (h : MemRel P F w bs mem) (hF : ∀ p, F' p → F p) (hb : ∀ x ∈ bs, F x.p → F' x.p) : MemRel P F' w bs mem := by
  have g : Grow F F' bs bs w w := ⟨Nat.le_refl _, fun p _ h => hF p h, fun _ _ _ => rfl, fun _ _ h => h⟩
  have g0 : Grow F F' [] [] w w := ⟨Nat.le_refl _, fun p _ h => hF p h, fun _ _ _ => rfl, fun _ _ h => h⟩
  refine ⟨h.len, fun k x T cs hk hc hv => ⟨hb x (nth_mem hk) (h.loc k x T cs hk hc hv).1, (h.loc k x T cs hk hc hv).2⟩, h.inj, fun k T cs x hc hr hk => ?_, fun k T fz es n ρ x hc hk => ?_, fun k T f i st cs x hc hk => (h.lp k T f i st cs x hc hk).grow g rfl⟩
  · obtain ⟨vs, a1, a2⟩ := h.cont k T cs x hc hr hk
    exact ⟨vs, a1, a2.imp fun _ _ h => h.grow g⟩
  · exact (h.row k T fz es n ρ x hc hk).grow g0 fun _ => rfl
def NcOne (P : Program) (f : Nat) (G : List A1 → Tree (AV × Mem)) : Prop :=
  ∀ args r m, (G args).sel = some (r, m) → args.all closedA = true → ∀ F w vs, All2 (A1.Rel F w []) args vs →
    Calls P f vs.toArray w (fun e w2 => ∃ v F' bs', e = .returned v ∧ Ext 0 F w [] F' w2 bs' ∧ MemRel P F' w2 bs' m ∧ AV.Rel F' w2 bs' r v)
def ncG (G : List A1 → Tree (AV × Mem)) (args : List A1) (mem : Mem) : Tree (AV × Mem) :=
  let y := frz1s mem args
  if y.2.all closedA then (G y.2).bind fun z => .leaf (shA y.1.length z.1, y.1 ++ z.2.map (shE y.1.length)) else .fail
theorem NcOne.mc {P : Program} {f : Nat} {G : List A1 → Tree (AV × Mem)} (h : NcOne P f G) : McOne P f (ncG G) := by
  intro args mem r mem' hs F w bs vs hm hargs
  unfold ncG at hs
  simp only at hs
  split at hs
  · rename_i hcl
    obtain ⟨⟨r0, m0⟩, h1, h2⟩ := sel_bind hs
    simp only [Tree.sel, Option.some.injEq, Prod.mk.injEq] at h2
    obtain ⟨rfl, rfl⟩ := h2
    obtain ⟨F1, e1, m1, r1⟩ := frz1s_ok hm hargs
    have hvs' : All2 (A1.Rel F1 w []) (frz1s mem args).2 vs := by
      clear h1 hargs
      generalize (frz1s mem args).2 = l at r1 hcl
      induction r1 with
      | nil => exact .nil
      | cons ha _ ih =>
        simp only [List.all_cons, Bool.and_eq_true] at hcl
        exact .cons (ha.closed hcl.1) (ih hcl.2)
    refine (h _ _ _ h1 hcl F1 w vs hvs').mono fun e w2 ⟨v, F', bs', he, hx, hmm, hr⟩ => ?_
    have hlen : bs.length = (frz1s mem args).1.length := m1.len
    rw [← hlen]
    refine ⟨v, fun p => (p < w.heap.size ∧ F1 p) ∨ (w.heap.size ≤ p ∧ F' p), bs ++ bs', he, ?_, ?_, ?_⟩
    · have e2 : Ext bs.length F1 w bs (fun p => (p < w.heap.size ∧ F1 p) ∨ (w.heap.size ≤ p ∧ F' p)) w2 (bs ++ bs') :=
        ⟨hx.size, fun p hp h => h.elim (fun h => h.2) (fun h => by omega), fun p h hp _ => .inl ⟨hp, h⟩, fun p hp _ => hx.same p hp (.inr fun x hx => by cases hx), hx.os, hx.tape, hx.output, fun k x _ h => nth_append h, fun x hx' => by
          rcases List.mem_append.1 hx' with h | h
          · exact .inl ⟨x, h, rfl⟩
          · rcases hx.mem x h with ⟨y, hy, _⟩ | h
            · cases hy
            · exact .inr h⟩
      exact e1.trans e2 (Nat.le_refl _)
    · have hge : ∀ x ∈ bs', w.heap.size ≤ x.p := fun x h => by
        rcases hx.mem x h with ⟨y, hy, _⟩ | h
        · cases hy
        · exact h
      have hmA : MemRel P (fun p => (p < w.heap.size ∧ F1 p) ∨ (w.heap.size ≤ p ∧ F' p)) w2 bs (frz1s mem args).1 := by
        refine m1.move (F' := fun p => (p < w.heap.size ∧ F1 p) ∨ (w.heap.size ≤ p ∧ F' p)) ⟨hx.size, fun p hp h => h.elim (fun h => h.2) (fun h => by omega), fun p h hp _ => .inl ⟨hp, h⟩, fun p hp _ => hx.same p hp (.inr fun x hx => by cases hx), hx.os, hx.tape, hx.output, fun _ _ _ h => h, fun x h => .inl ⟨x, h, rfl⟩⟩ fun k x T cs hk hc hv => ?_
        have hl := m1.loc k x T cs hk hc hv
        exact ⟨.inl ⟨hl.2, hl.1⟩, hx.same _ hl.2 (.inr fun x hx => by cases hx)⟩
      have hmB : MemRel P (fun p => (p < w.heap.size ∧ F1 p) ∨ (w.heap.size ≤ p ∧ F' p)) w2 bs' m0 :=
        hmm.less (fun p h => h.elim (fun h => hx.F2 p h.2 h.1 (fun x hx => by cases hx)) (fun h => h.2)) fun x h hf => .inr ⟨hge x h, hf⟩
      refine hmA.join hmB fun k x T cs hk hc hv y hy e => ?_
      have hy' := hge y hy
      have := (m1.loc k x T cs hk hc hv).2
      omega
    · refine shA_ok (AV.Rel.grow (bs := bs') (bs' := bs') ⟨Nat.le_refl _, fun p _ h => h.elim (fun h => hx.F2 p h.2 h.1 (fun x hx => by cases hx)) (fun h => h.2), fun _ _ _ => rfl, fun _ _ h => h⟩ hr)
  · simp [Tree.sel] at hs
end Go.Sx
namespace Go.Sx
open Go Go.RowKit
variable {P : Program}
variable {D : List Deferred}
noncomputable abbrev HN : Hd := ⟨[], [], [], []⟩
theorem hn {P : Program} : HdOk P HN := HdOk.nil
theorem MemRel.row2 {F w bs T es n} {ρ σ : Val} (h : MemRel P F w bs [none, some (T, [.row false es n ρ])]) (he : ∀ i f s, nth es f = some s → cellOf s ((ρ.at i).at f) = cellOf s ((σ.at i).at f)) : MemRel P F w bs [none, some (T, [.row false es n σ])] := by
  have key : ∀ k T' cs, nth [none, some (T, [CV.row false es n σ])] k = some (some (T', cs)) → k = 1 ∧ T' = T ∧ cs = [.row false es n σ] := by
    intro k T' cs hk
    match k, hk with
    | 0, hk => simp [nth] at hk
    | 1, hk => simp [nth] at hk; exact ⟨rfl, hk.1.symm, hk.2.symm⟩
    | k + 2, hk => simp [nth] at hk
  have old : nth [none, some (T, [CV.row false es n ρ])] 1 = some (some (T, [CV.row false es n ρ])) := rfl
  refine ⟨h.len, fun k x T' cs hk hc hv => ?_, fun k k' x x' T1 cs1 T2 cs2 _ _ h3 h4 _ _ _ => ?_, fun k T' cs x hc hr _ => ?_, fun k T' fz es' n' ρ' x hc hk => ?_, fun k T' f i st cs x hc _ => by have := (key k T' _ hc).2.2; simp at this⟩
  · obtain ⟨rfl, rfl, rfl⟩ := key k T' cs hc
    exact h.loc 1 x T' _ hk old hv
  · rw [(key k T1 cs1 h3).1, (key k' T2 cs2 h4).1]
  · obtain ⟨rfl, rfl, rfl⟩ := key k T' cs hc
    simp [isRowL] at hr
  · obtain ⟨rfl, rfl, hcs⟩ := key k T' _ hc
    simp only [List.cons.injEq, CV.row.injEq, and_true] at hcs
    obtain ⟨rfl, rfl, rfl, rfl⟩ := hcs
    have := h.row 1 T' false _ _ ρ x old hk
    refine ⟨this.len, this.le, this.mx, fun h0 => ?_, this.frz⟩
    obtain ⟨arr, a1, a2, val, a3, a4⟩ := this.blk h0
    exact ⟨arr, a1, a2, val, a3, fun i f s hi hs => he i f s hs ▸ a4 i f s hi hs⟩
theorem MemRel.row0' {F w bs mem} (hm : MemRel P F w bs mem) (T : TypeId) (es : List Sh) (ρ : Val) : MemRel P F w (bs ++ [⟨w.heap.size, 0, 0⟩]) (mem ++ [some (T, [.row false es 0 ρ])]) := by
  refine hm.push _ (fun h => ?_) (fun h => ?_) (fun h => ?_) (fun fz es' n ρ' h => ?_)
  · simp [liveL] at h
  · simp [liveL] at h
  · simp [isRowL] at h
  · simp only [List.cons.injEq, CV.row.injEq, and_true] at h
    obtain ⟨rfl, rfl, rfl, rfl⟩ := h
    exact ⟨rfl, Nat.le_refl _, Nat.zero_le _, fun h => by simp at h, fun h => by simp at h⟩
theorem init_ok {F w bs} {args : List A1} {vs : List Value} {mem : Mem} {nt : Nat} (hm : MemRel P F w bs mem) (hargs : All2 (A1.Rel F w bs) args vs) (_ : args.length ≤ nt) :
    StRel P [] F w bs ⟨args.map (fun a => ⟨[], .one a⟩) ++ List.replicate (nt - args.length) ⟨[], .any⟩, mem⟩ { tmps := vs.toArray ++ Array.replicate (nt - vs.toArray.size) undef, defers := [] } := by
  have hl := hargs.length
  refine ⟨rfl, ?_, ?_, hm⟩
  · simp [hl]
  · intro i sl x hsl hx
    simp only [nth_eq] at hsl
    rcases Nat.lt_or_ge i args.length with hi | hi
    · rw [List.getElem?_append_left (by simpa using hi)] at hsl
      simp only [List.getElem?_map, Option.map_eq_some_iff] at hsl
      obtain ⟨b, hb', rfl⟩ := hsl
      rw [Array.getElem?_append_left (by simp; omega)] at hx
      obtain ⟨v, hv, hr⟩ := hargs.nth (by rw [nth_eq]; exact hb')
      simp only [List.getElem?_toArray] at hx
      rw [hv] at hx
      simp at hx; subst hx
      exact ⟨fun _ => hr, fun h => (h KH_nil).elim⟩
    · rw [List.getElem?_append_right (by simpa using hi)] at hsl
      rw [List.getElem?_replicate] at hsl
      split at hsl
      · simp at hsl; subst hsl
        exact ⟨fun _ => trivial, fun h => (h KH_nil).elim⟩
      · simp at hsl
def cloneG (E : TypeId) (es : List Sh) (sz bt : Nat) : List A1 → Tree (AV × Mem)
  | [.c (.sl es' n ρ)] => if shEq.shsEq es' es then .need (Nat.ble ((0 + n) * bt) 140737488355328) (.leaf (.one (.c (.os 1 sz)), [none, some (E, [.row false es n ρ])])) else .fail
  | _ => .fail
def stC (es : List Sh) (n : Nat) (ρ : Val) (b : Bool) : St := mkS 8 [(0, .one (.c (.sl es n ρ))), (2, .one (.c .nils)), (3, .one (.c (.sl es n ρ))), (4, .one (.c (.bool b)))] []
theorem clone_nc {P : Program} {f : Nat} {fn : Func} {R0 A B : Code} {i1 : Nat} {ops : Array Oper} {o1 o2 : Oper} {T T2 E : TypeId} {es : List Sh} {sz bt : Nat}
    (hf : P.funcs[f]? = some fn) (hb : fn.body = some (.seq R0 (.seq (.seq (.region i1 ops false) (.cond (.tmp 4) A .skip)) B)))
    (hops : ops.toList = [o1, o2]) (g1 : o1.guard = none) (p1 : o1.op = .move (.tmp 0)) (d1 : o1.dst = some 3) (g2 : o2.guard = none) (p2 : o2.op = .binOp .eql T (.tmp 3) (.const (.slice none 0 0)) T2) (d2 : o2.dst = some 4)
    (hT : P.underlying T = some (.slice E)) (hnt : fn.ntmps = 8)
    (e0 : ∀ n ρ, evCode P HN (evFn P HN 5) f 0 0 R0 (mkS 8 [(0, .one (.c (.sl es n ρ)))] []) = .leaf (.normal, mkS 8 [(0, .one (.c (.sl es n ρ))), (2, .one (.c .nils))] []))
    (sA sB : Nat → Val → St) (eA : ∀ n ρ, evCode P HN (evFn P HN 5) f 0 0 A (stC es n ρ true) = .leaf (.ret, sA n ρ)) (rA : ∀ n ρ, evResults P (sA n ρ) fn.results.toList = some [.c .nils]) (mA : ∀ n ρ, (sA n ρ).mem = [])
    (eB : ∀ n ρ, evCode P HN (evFn P HN 5) f 0 0 B (stC es n ρ false) = .need (Nat.ble ((0 + n) * bt) 140737488355328) (.leaf (.ret, sB n ρ))) (rB : ∀ n ρ, evResults P (sB n ρ) fn.results.toList = some [.c (.os 1 sz)])
    (mB : ∀ n ρ, (sB n ρ).mem = [none, some (E, [.row false es (0 + n) (Val.cat 0 (Val.ofFlat sz []) ρ)])]) : NcOne P f (cloneG E es sz bt) := by
  intro args r m hs hcl F w vs hargs
  unfold cloneG at hs
  split at hs
  · rename_i es' n ρ
    split at hs
    · rename_i hes
      have hes := shsEq_eq hes
      subst hes
      simp only [Tree.sel] at hs
      cases hn' : Nat.ble ((0 + n) * bt) 140737488355328
      · rw [hn'] at hs; simp at hs
      · rw [hn'] at hs
        simp only [cond_true, Option.some.injEq, Prod.mk.injEq] at hs
        obtain ⟨rfl, rfl⟩ := hs
        have noloop : ∀ (c : Code) (i : Nat) (b : Code) (h : Nat → St → Tree (XE × St)), nthLoop c i = some b → lookLh HN.lh f (0 + i) = some h → LoopOk P b h := fun c i b h _ hl => by simp [lookLh] at hl
        refine calls_of_wp hf hb ?_
        have hi := init_ok (P := P) (nt := fn.ntmps) MemRel.nil hargs (by rw [hnt]; simp)
        have es0 : (⟨([A1.c (CV.sl es' n ρ)] : List A1).map (fun a => ⟨[], .one a⟩) ++ List.replicate (fn.ntmps - ([A1.c (CV.sl es' n ρ)] : List A1).length) ⟨[], .any⟩, []⟩ : St) = mkS 8 [(0, .one (.c (.sl es' n ρ)))] [] := by rw [hnt]; rfl
        rw [es0] at hi
        refine wp_seq (evCode_wp hn.pc (evFn_ok hn 5) f 0 R0 0 _ (by rw [e0]; rfl) (fun i b h hl hk => noloop R0 i b h hl hk) (Nat.le_refl _) hi fun F1 w1 bs1 a1 x1 h1 => ?_)
        simp only [xe, Exit.then]
        refine wp_seq (wp_seq (wp_region_list ?_))
        rw [hops]
        have r0 : CV.Rel F1 w1 bs1 (.sl es' n ρ) (a1.eval (.tmp 0)) := opnd_ok (x := .tmp 0) (av := .one (.c (.sl es' n ρ))) h1 KH_nil rfl
        refine wpList_plain g1 fun K1 hK1 => wp_value (w' := w1) (v := a1.eval (.tmp 0)) (by unfold execOp; simp [p1]) (hK1 _ _ ?_)
        have h2 := StRel.put (dst := some 3) (ks := []) (v := .one (.c (.sl es' n ρ))) h1 (fun _ hp => by cases hp) (fun _ => r0) (fun h => (h KH_nil).elim)
        rw [d1]
        generalize hu : a1.eval (.tmp 0) = u at *
        have hsz : 3 < a1.tmps.size := by rw [← h1.len]; exact (by decide : 3 < 8)
        have e3 : (a1.put (some 3) u).eval (.tmp 3) = u := by simp [Act.put, Act.eval, hsz]
        obtain ⟨ba, bl, bc, rfl⟩ : ∃ ba bl bc, u = .slice ba bl bc := by cases r0 <;> exact ⟨_, _, _, rfl⟩
        refine wpList_plain g2 fun K2 hK2 => wp_value (w' := w1) (v := .bool ba.isNone) ?_ (hK2 _ _ (wpList_nil ?_))
        · unfold execOp
          simp only [p2]
          have g4 : ∀ w', (eqGuard .eql T (.tmp 3) (.const (.slice none 0 0)) (.slice ba bl bc) (.slice none 0 0)).run P w' = .ok () w' := fun w' => eqGuard_cell (by simp) (by simp) w'
          have e4 : ∀ w', (do eqGuard .eql T (.tmp 3) (.const (.slice none 0 0)) (.slice ba bl bc) (.slice none 0 0); binOp .eql T (.slice ba bl bc) (.slice none 0 0) : Sem Value).run P w' = .ok (.bool ba.isNone) w' := fun w' => by
            simp only [Sem.run_bind, g4, Result.andThen_ok]
            show (do pure (Value.bool (← Op.equal T (.slice ba bl bc) (.slice none 0 0))) : Sem Value).run P w' = _
            simp [run_equal_slice_nil w' T E ba bl bc hT]
          have e5 : (a1.put (some 3) (.slice ba bl bc)).eval (.const (.slice none 0 0)) = .slice none 0 0 := rfl
          simp only [e3, e5]
          have := e4 w1
          simp only [Sem.run_bind] at this ⊢
          rw [this]
          simp
        · rw [d2]
          have h3 := StRel.put (dst := some 4) (ks := []) (v := .one (.c (.bool ba.isNone))) h2 (fun _ hp => by cases hp) (fun _ => CV.Rel.bool _) (fun h => (h KH_nil).elim)
          have hst : (((mkS 8 [(0, .one (.c (.sl es' n ρ))), (2, .one (.c .nils))] []).put (some 3) [] (.one (.c (.sl es' n ρ)))).put (some 4) [] (.one (.c (.bool ba.isNone)))) = stC es' n ρ ba.isNone := rfl
          rw [hst] at h3
          simp only [Exit.then]
          have hc4 : ((a1.put (some 3) (.slice ba bl bc)).put (some 4) (.bool ba.isNone)).eval (.tmp 4) = .bool ba.isNone := by
            have hr := opnd_ok (x := .tmp 4) (av := .one (.c (.bool ba.isNone))) h3 KH_nil rfl
            generalize ((a1.put (some 3) (.slice ba bl bc)).put (some 4) (.bool ba.isNone)).eval (.tmp 4) = z at hr ⊢
            cases hr; rfl
          cases hba : ba.isNone
          · rw [hba] at h3 hc4
            refine wp_cond_false hc4 (wp_skip ?_)
            simp only [Exit.then]
            refine evCode_wp hn.pc (evFn_ok hn 5) f 0 B 0 _ (x := (.ret, sB n ρ)) (by rw [eB]; simp only [Tree.sel, hn', cond_true]) (fun i b h hl hk => noloop B i b h hl hk) (Nat.zero_le _) h3 fun F2 w2 bs2 a2 x2 h4 => ?_
            obtain ⟨z, hz, hrun⟩ := run_results h4 (rB n ρ)
            have hm2 := h4.mem
            rw [mB n ρ, Nat.zero_add] at hm2
            exact ⟨h4.defers, z, hrun, z, F2, bs2, rfl, (x1.weak (Nat.zero_le _)).trans x2 (Nat.zero_le _), hm2.row2 fun i f s _ => rfl, hz⟩
          · rw [hba] at h3 hc4
            obtain rfl : ba = none := by simpa using hba
            have hn0 : n = 0 := by cases r0; rfl
            subst hn0
            refine wp_cond_true hc4 (evCode_wp hn.pc (evFn_ok hn 5) f 0 A 0 _ (x := (.ret, sA 0 ρ)) (by rw [eA]; rfl) (fun i b h hl hk => noloop A i b h hl hk) (Nat.zero_le _) h3 fun F2 w2 bs2 a2 x2 h4 => ?_)
            simp only [xe, Exit.then]
            obtain ⟨z, hz, hrun⟩ := run_results h4 (rA 0 ρ)
            have hm2 := h4.mem
            rw [mA 0 ρ] at hm2
            have hbs : bs2 = [] := by
              have := hm2.len
              cases bs2 with
              | nil => rfl
              | cons _ _ => simp at this
            subst hbs
            have hz' : CV.Rel F2 w2 [] .nils z := hz
            have m3 := ((hm2.extend ⟨w2.heap.size, 0, 0⟩).row0' E es' ρ)
            have x3 : Ext 0 F w [] F2 w2 ([] ++ [⟨w2.heap.size, 0, 0⟩] ++ [⟨w2.heap.size, 0, 0⟩]) := by
              have x12 := (x1.weak (Nat.zero_le _)).trans x2 (Nat.zero_le _)
              exact (x12.push (.inr x12.size)).push (.inr x12.size)
            refine ⟨h4.defers, z, hrun, z, F2, _, rfl, x3, m3, ?_⟩
            cases hz'
            exact CV.Rel.os (F := F2) (w := w2) (b := 1) (sz := sz) (base := none) (x := ⟨w2.heap.size, 0, 0⟩) rfl (fun h => by simp at h)
    · simp [Tree.sel] at hs
  · simp [Tree.sel] at hs
end Go.Sx
