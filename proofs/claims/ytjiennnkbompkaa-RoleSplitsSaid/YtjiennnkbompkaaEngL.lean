/-
  The evaluator in use (part L): from the evaluator to a law.
-/
import Derived.Test.YtjiennnkbompkaaEngK
namespace Go.Sx
open Go Go.RowKit

/-- **A law out of the evaluator.** -/
theorem law_of_ev {P : Program} {H : Hd} (hH : HdOk P H) (n f : Nat) {args : List A1} {b : Bool} (hn : (evFn P H n f args []).needs = true) (hr : (evFn P H n f args []).res = .one (.c (.bool b))) (hb : b = true) {F : Nat → Prop} {W : World} {vs : List Value}
    (hargs : All2 (A1.Rel F W []) args vs) : Calls P f vs.toArray W (fun e W' => e = .returned (.bool true) ∧ Below W.heap.size W W') := by
  obtain ⟨⟨r', m⟩, hsel⟩ := needs_sel hn
  refine (evFn_ok hH n f args [] r' m hsel F W [] vs MemRel.nil hargs).mono fun e w2 ⟨u, F', bs', he, hext, hm, hu⟩ => ?_
  have := res_rel hsel hu
  rw [hr, hb] at this
  cases this
  exact ⟨he, hext.below⟩

/-- the same by a summary -/
theorem law_of_pc {P : Program} {f : Nat} {G : List A1 → Option AV} (h : PcOne P f G) {args : List A1} (hG : G args = some (.one (.c (.bool true)))) (hc : args.all closedA = true) {F : Nat → Prop} {W : World} {vs : List Value}
    (hargs : All2 (A1.Rel F W []) args vs) : Calls P f vs.toArray W (fun e W' => e = .returned (.bool true) ∧ Below W.heap.size W W') := by
  obtain ⟨v, hv, hcalls⟩ := h args _ hG hc F W vs hargs
  cases hv
  exact hcalls W (Below.refl _ _)

theorem All2.two {α β : Type} {R : α → β → Prop} {a b x y} (h : R a x) (k : R b y) : All2 R [a, b] [x, y] := .cons h (.cons k .nil)

/-- an argument reads as it did -/
theorem trod_keep {H : Type} {enc : TypeId × Value → H} {P : Program} {t : TypeId} (hl : laidOutB P = true) (hr : P.readableRec t = true) (hrow : t < P.types.size) {W W' : World} {v : Value} {d : DataW H} {ps : List MemPlace}
    (h : DataW.Trod enc P W 0 (fun _ => true) true t v d ps) (hb : Below W.heap.size W W') : DataW.Trod enc P W' 0 (fun b => decide (b < W.heap.size)) true t v d ps :=
  Below.trod hl hr hrow h hb (by obtain ⟨m, hm⟩ := h; exact DataW.trod_lt m _ _ _ hm)

/-- the results of all roads as one value -/
def Tree.res0 : Tree AV → AV
  | .leaf a => a
  | .br c t e => mergeA c t.res0 e.res0
  | .need _ t => t.res0
  | .fail => .any

theorem res0_rel {F w bs} {v : Value} : ∀ {t : Tree AV} {r}, t.sel = some r → r.Rel F w bs v → t.res0.Rel F w bs v
  | .leaf a, r, h, hr => by simp [Tree.sel] at h; subst h; exact hr
  | .br c t e, r, h, hr => by
    simp only [Tree.sel] at h
    refine mergeA_ok (fun hc => ?_) (fun hc => ?_)
    · subst hc; exact res0_rel h hr
    · subst hc; exact res0_rel h hr
  | .need c t, r, h, hr => by
    simp only [Tree.sel] at h
    cases c
    · simp at h
    · exact res0_rel (t := t) h hr
  | .fail, r, h, _ => by simp [Tree.sel] at h

/-- **A summary of a function that lays what it returns: all roads as one value.** -/
theorem hcOne_of_le {P : Program} {H : Hd} (hH : HdOk P H) (n f : Nat) {G : List A1 → Option AV}
    (h : ∀ args r, G args = some r → (hcTree P H n f args).needs = true ∧ leA (hcTree P H n f args).res0 r) : HcOne P f G := by
  intro args r hG hcl F w vs hargs
  obtain ⟨hn, hr⟩ := h args r hG
  obtain ⟨x, hsel⟩ := needs_sel hn
  obtain ⟨⟨r', m⟩, h1, h2⟩ := sel_bind hsel
  have ho : outA m r' = some x := by
    cases hx : outA m r' with
    | none => rw [hx] at h2; simp [Tree.ofOpt, Tree.sel] at h2
    | some y => rw [hx] at h2; simpa [Tree.ofOpt, Tree.sel] using h2
  have hargs1 : All2 (A1.Rel (fun p => F p ∧ p < w.heap.size) w []) args vs := hargs.imp fun _ _ hx => A1.Rel.grow (bs := []) (bs' := []) ⟨Nat.le_refl _, fun _ _ h => h.1, fun _ _ _ => rfl, fun _ _ h => h⟩ hx
  refine (evFn_ok hH n f args [] r' m h1 _ w [] vs MemRel.nil hargs1).mono fun e w2 ⟨u, F', bs', he, hext, hm, hu⟩ => ?_
  refine ⟨u, he, hext.below, hr _ _ _ (res0_rel hsel (AV.Rel.grow (bs := []) (bs' := []) ⟨Nat.le_refl _, fun p _ hp => ?_, fun _ _ _ => rfl, fun _ _ h => h⟩ (outA_ok hm hu ho)))⟩
  refine ⟨hext.F2 p hp hp.2 (by simp), fun y hy e => ?_⟩
  rcases hext.mem y hy with ⟨z, hz, _⟩ | hs
  · cases hz
  · have := hp.2; omega

theorem hcOne_of_ev {P : Program} {H : Hd} (hH : HdOk P H) (n f : Nat) {G : List A1 → Option AV}
    (h : ∀ args r, G args = some r → (hcTree P H n f args).needs = true ∧ (hcTree P H n f args).res0 = r) : HcOne P f G :=
  hcOne_of_le hH n f fun args r hG => ⟨(h args r hG).1, (h args r hG).2 ▸ leA.refl⟩

/-- a slice without elements is any such slice -/
def leC (x y : CV) : Prop := ∀ (F : Nat → Prop) (w : World) (v : Value), CV.Rel F w [] x v → CV.Rel F w [] y v

theorem leC.refl {x : CV} : leC x x := fun _ _ _ h => h

theorem leC_sl {es : List Sh} {n m : Nat} {ρ σ : Val} (hn : n = m) (h : n ≠ 0 → ρ = σ) : leC (.sl es n ρ) (.sl es m σ) := by
  subst hn
  intro F w v hv
  rcases Nat.eq_zero_or_pos n with h0 | h0
  · subst h0
    cases hv with
    | slnil => exact .slnil
    | sl val hn h0 hc hr => exact .sl val hn (fun h => by omega) (fun i f hi => by omega) (fun i f s hi => by omega)
  · rw [← h (by omega)]; exact hv

/-- part by part -/
inductive LeL : List CV → List CV → Prop
  | nil : LeL [] []
  | cons {x y l r} : leC x y → LeL l r → LeL (x :: l) (y :: r)

theorem LeL.refl : ∀ {l : List CV}, LeL l l
  | [] => .nil
  | _ :: _ => .cons leC.refl LeL.refl

inductive le1 : A1 → A1 → Prop
  | c {x y} : leC x y → le1 (.c x) (.c y)
  | agg {l r} : LeL l r → le1 (.agg l) (.agg r)

theorem le1.refl : ∀ {x : A1}, le1 x x
  | .c _ => .c leC.refl
  | .agg _ => .agg LeL.refl

theorem LeL.ok {F w} : ∀ {l r : List CV} {vs : List Value}, LeL l r → All2 (CV.Rel F w []) l vs → All2 (CV.Rel F w []) r vs
  | _, _, _, .nil, h => h
  | _, _, _, .cons h1 h2, .cons k1 k2 => .cons (h1 _ _ _ k1) (h2.ok k2)

theorem le1.ok {F w v} {x y : A1} (h : le1 x y) (hx : A1.Rel F w [] x v) : A1.Rel F w [] y v := by
  cases h with
  | c h => exact h _ _ _ hx
  | agg h =>
    obtain ⟨vs, rfl, hv⟩ := hx
    exact ⟨vs, rfl, h.ok hv⟩

inductive LeT : List A1 → List A1 → Prop
  | nil : LeT [] []
  | cons {x y l r} : le1 x y → LeT l r → LeT (x :: l) (y :: r)

theorem LeT.ok {F w} : ∀ {l r : List A1} {vs : List Value}, LeT l r → All2 (A1.Rel F w []) l vs → All2 (A1.Rel F w []) r vs
  | _, _, _, .nil, h => h
  | _, _, _, .cons h1 h2, .cons k1 k2 => .cons (h1.ok k1) (h2.ok k2)

theorem leA_one {x y : A1} (h : le1 x y) : leA (.one x) (.one y) := fun _ _ _ hx => h.ok hx

theorem leA_tup {l r : List A1} (h : LeT l r) : leA (.tup l) (.tup r) := fun _ _ _ hx => by
  obtain ⟨vs, rfl, hv⟩ := hx
  exact ⟨vs, rfl, h.ok hv⟩

end Go.Sx
