/-
  The evaluator in use (part L): from the evaluator to a law.
-/
import Derived.Test.YtcplkefmilpmpaaEngK
namespace Go.Sx
open Go Go.RowKit

/-- **A law out of the evaluator.** -/
theorem law_of_ev {P : Program} {H : Hd} (hH : HdOk P H) (n f : Nat) {args : List A1} {b : Bool} (hn : (evFn P H n f args []).needs = true) (hr : (evFn P H n f args []).res = .one (.c (.bool b))) (hb : b = true) {F : Nat → Prop} {W : World} {vs : List Value}
    (hargs : All2 (A1.Rel F W []) args vs) : Calls P f vs.toArray W (fun e W' => e = .returned (.bool true) ∧ Below W.heap.size W W') := by
  obtain ⟨⟨r', m⟩, hsel⟩ := needs_sel hn
  refine (evFn_ok hH n f args [] r' m hsel F W [] vs ⟨rfl, fun k p h => by simp [nth] at h, fun k k' p h => by simp [nth] at h, fun k T cs h => by simp [nth] at h⟩ hargs).mono fun e w2 ⟨u, F', bs', he, hext, hm, hu⟩ => ?_
  have := res_rel hsel hu
  rw [hr, hb] at this
  cases this
  exact ⟨he, hext.below⟩

/-- the same by a summary -/
theorem law_of_pc {P : Program} {f : Nat} {G : List A1 → Option AV} (h : PcOne P f G) {args : List A1} (hG : G args = some (.one (.c (.bool true)))) (hc : args.all closedA = true) {F : Nat → Prop} {W : World} {vs : List Value}
    (hargs : All2 (A1.Rel F W []) args vs) : Calls P f vs.toArray W (fun e W' => e = .returned (.bool true) ∧ Below W.heap.size W W') := by
  obtain ⟨v, hv, hcalls⟩ := h args _ hG hc F W vs hargs
  cases hv
  exact hcalls W (Below.refl _ _)

theorem All2.two {α β : Type} {R : α → β → Prop} {a b x y} (h : R a x) (k : R b y) : All2 R [a, b] [x, y] := .cons h (.cons k .nil)

/-- an argument reads as it did -/
theorem trod_keep {H : Type} {enc : TypeId × Value → H} {P : Program} {t : TypeId} (hl : laidOutB P = true) (hr : P.readableRec t = true) (hrow : t < P.types.size) {W W' : World} {v : Value} {d : DataW H} {ps : List MemPlace}
    (h : DataW.Trod enc P W 0 (fun _ => true) true t v d ps) (hb : Below W.heap.size W W') : DataW.Trod enc P W' 0 (fun b => decide (b < W.heap.size)) true t v d ps :=
  Below.trod hl hr hrow h hb (by obtain ⟨m, hm⟩ := h; exact DataW.trod_lt m _ _ _ hm)

end Go.Sx
