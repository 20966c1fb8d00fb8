/-
  The evaluator in use (part Y): functions that lay what may still be written; rounds that follow one another.
-/
import Derived.Test.YtjiennnkbompkaaEngX
namespace Go.Sx
open Go Go.RowKit

/-- a value among more blocks -/
def shC (k : Nat) : CV → CV
  | .ptr b o => .ptr (k + b) o
  | .os b sz => .os (k + b) sz
  | .ost b sz lo => .ost (k + b) sz lo
  | .rowp b sz i off => .rowp (k + b) sz i off
  | .fn f a c => .fn f (shCs k a) (shCs k c)
  | .iface t v => .iface t (shC k v)
  | x => x
 where shCs (k : Nat) : List CV → List CV
  | [] => []
  | a :: l => shC k a :: shCs k l

def sh1 (k : Nat) : A1 → A1
  | .c x => .c (shC k x)
  | .agg l => .agg (l.map (shC k))

def shA (k : Nat) : AV → AV
  | .any => .any
  | .one a => .one (sh1 k a)
  | .tup l => .tup (l.map (sh1 k))

def shE (k : Nat) : Option (TypeId × List CV) → Option (TypeId × List CV)
  | some (T, cs) => some (T, cs.map (shC k))
  | none => none

theorem nth_shift {α : Type} (l r : List α) (b : Nat) : nth (l ++ r) (l.length + b) = nth r b := by
  rw [nth_eq, nth_eq, List.getElem?_append_right (by omega)]
  congr 1; omega

theorem shC_ok {F : Nat → Prop} {w : World} {bs bs' : List BI} {x : CV} {v : Value} (h : CV.Rel F w bs' x v) : CV.Rel F w (bs ++ bs') (shC bs.length x) v := by
  have hcs : ∀ (l : List CV) (i : Nat) (x : CV), nth (shC.shCs bs.length l) i = some x → ∃ y, nth l i = some y ∧ x = shC bs.length y := by
    intro l
    induction l with
    | nil => intro i x h; simp [shC.shCs, nth] at h
    | cons a l ih =>
      intro i x h
      cases i with
      | zero => simp [shC.shCs, nth] at h; exact ⟨a, rfl, h.symm⟩
      | succ n => exact ih n x (by simpa [shC.shCs, nth] using h)
  have hlen : ∀ l : List CV, (shC.shCs bs.length l).length = l.length := by
    intro l
    induction l with
    | nil => rfl
    | cons a l ih => simp [shC.shCs, ih]
  induction h with
  | any h => exact .any h
  | bool b => exact .bool b
  | int k n => exact .int k n
  | str s => exact .str s
  | nilp => exact .nilp
  | nils => exact .nils
  | nilf => exact .nilf
  | nili => exact .nili
  | ptr h => exact .ptr (by rw [nth_shift]; exact h)
  | os h hb => exact .os (by rw [nth_shift]; exact h) hb
  | ost h hl => exact .ost (by rw [nth_shift]; exact h) hl
  | rowp h hi => exact .rowp (by rw [nth_shift]; exact h) hi
  | rop val hb hF hc hr _ => exact .rop val hb hF hc hr
  | slnil => exact .slnil
  | sl val hn h0 hc hr _ => exact .sl val hn h0 hc hr
  | fn l1 l2 r1 r2 ih1 ih2 =>
    refine .fn (by rw [hlen]; exact l1) (by rw [hlen]; exact l2) (fun i x v h1 h2 => ?_) (fun i x v h1 h2 => ?_)
    · obtain ⟨y, hy, rfl⟩ := hcs _ _ _ h1
      exact ih1 i y v hy h2
    · obtain ⟨y, hy, rfl⟩ := hcs _ _ _ h1
      exact ih2 i y v hy h2
  | iface h ih => exact .iface ih

theorem sh1_ok {F : Nat → Prop} {w : World} {bs bs' : List BI} {x : A1} {v : Value} (h : A1.Rel F w bs' x v) : A1.Rel F w (bs ++ bs') (sh1 bs.length x) v := by
  cases x with
  | c x => exact shC_ok h
  | agg l =>
    obtain ⟨vs, rfl, h⟩ := h
    exact ⟨vs, rfl, h.map_left fun _ _ h => shC_ok h⟩

theorem shA_ok {F : Nat → Prop} {w : World} {bs bs' : List BI} {x : AV} {v : Value} (h : AV.Rel F w bs' x v) : AV.Rel F w (bs ++ bs') (shA bs.length x) v := by
  cases x with
  | any => trivial
  | one a => exact sh1_ok h
  | tup l =>
    obtain ⟨vs, rfl, h⟩ := h
    exact ⟨vs, rfl, h.map_left fun _ _ h => sh1_ok h⟩

theorem sh_row {k : Nat} {cs : List CV} {fz : Bool} {es : List Sh} {n : Nat} {ρ : Val} (h : cs.map (shC k) = [.row fz es n ρ]) : cs = [.row fz es n ρ] := by
  match cs, h with
  | [c], h =>
    simp only [List.map_cons, List.map_nil, List.cons.injEq, and_true] at h
    cases c <;> simp only [shC] at h <;> first | exact congrArg (fun x => [x]) h | cases h
  | [], h => simp at h
  | _ :: _ :: _, h => simp at h

theorem sh_isRow {k : Nat} {cs : List CV} (h : isRowL (cs.map (shC k)) = false) : isRowL cs = false := by
  cases hr : isRowL cs
  · rfl
  · unfold isRowL at hr
    split at hr
    · simp [shC, isRowL] at h
    · cases hr

theorem sh_live {k : Nat} {cs : List CV} (h : liveL (cs.map (shC k))) : liveL cs := by
  unfold liveL
  split
  · simpa [shC, liveL] using h
  · trivial

theorem nth_app {α : Type} {l r : List α} {k : Nat} {x : α} (h : nth (l ++ r) k = some x) : (k < l.length ∧ nth l k = some x) ∨ (l.length ≤ k ∧ nth r (k - l.length) = some x) := by
  rw [nth_eq] at h
  rcases Nat.lt_or_ge k l.length with hk | hk
  · left; rw [List.getElem?_append_left hk] at h; exact ⟨hk, by rw [nth_eq]; exact h⟩
  · right; rw [List.getElem?_append_right hk] at h; exact ⟨hk, by rw [nth_eq]; exact h⟩

/-- two memories side by side -/
theorem MemRel.join {F w bs mem bs' mem'} (h1 : MemRel F w bs mem) (h2 : MemRel F w bs' mem') (hd : ∀ k x T cs, nth bs k = some x → nth mem k = some (some (T, cs)) → liveL cs → ∀ y ∈ bs', x.p ≠ y.p) : MemRel F w (bs ++ bs') (mem ++ mem'.map (shE bs.length)) := by
  have g : Grow F F bs (bs ++ bs') w w := ⟨Nat.le_refl _, fun _ _ h => h, fun _ _ _ => rfl, fun k p hk => nth_append hk⟩
  have key : ∀ k T cs, nth (mem ++ mem'.map (shE bs.length)) k = some (some (T, cs)) → (k < mem.length ∧ nth mem k = some (some (T, cs))) ∨ (mem.length ≤ k ∧ ∃ cs0, nth mem' (k - mem.length) = some (some (T, cs0)) ∧ cs = cs0.map (shC bs.length)) := by
    intro k T cs h
    rcases nth_app h with h | ⟨hk, h⟩
    · exact .inl h
    · rw [nth_eq, List.getElem?_map] at h
      simp only [Option.map_eq_some_iff] at h
      obtain ⟨e, he, h⟩ := h
      unfold shE at h
      split at h
      · rename_i T' cs0
        simp only [Option.some.injEq, Prod.mk.injEq] at h
        obtain ⟨rfl, rfl⟩ := h
        exact .inr ⟨hk, cs0, by rw [nth_eq]; exact he, rfl⟩
      · cases h
  have keyb : ∀ k x, nth (bs ++ bs') k = some x → (k < mem.length → nth bs k = some x) ∧ (mem.length ≤ k → nth bs' (k - mem.length) = some x) := by
    intro k x h
    rcases nth_app h with ⟨hk, h⟩ | ⟨hk, h⟩
    · exact ⟨fun _ => h, fun h' => by have := h1.len; omega⟩
    · exact ⟨fun h' => by have := h1.len; omega, fun _ => by rw [← h1.len]; exact h⟩
  refine ⟨by simp [h1.len, h2.len], fun k x T cs hk hc hv => ?_, fun k k' x x' T cs T' cs' hk hk' hc hc' hv hv' hp => ?_, fun k T cs x hc hr hk => ?_, fun k T fz es n ρ x hc hk => ?_⟩
  · rcases key k T cs hc with ⟨hlt, hm⟩ | ⟨hge, cs0, hm, rfl⟩
    · exact h1.loc k x T cs ((keyb k x hk).1 hlt) hm hv
    · exact h2.loc _ x T cs0 ((keyb k x hk).2 hge) hm (sh_live hv)
  · rcases key k T cs hc with ⟨hlt, hm⟩ | ⟨hge, cs0, hm, rfl⟩ <;> rcases key k' T' cs' hc' with ⟨hlt', hm'⟩ | ⟨hge', cs0', hm', rfl⟩
    · exact h1.inj k k' x x' T cs T' cs' ((keyb k x hk).1 hlt) ((keyb k' x' hk').1 hlt') hm hm' hv hv' hp
    · exact (hd k x T cs ((keyb k x hk).1 hlt) hm hv x' (nth_mem ((keyb k' x' hk').2 hge')) hp).elim
    · exact (hd k' x' T' cs' ((keyb k' x' hk').1 hlt') hm' hv' x (nth_mem ((keyb k x hk).2 hge)) hp.symm).elim
    · have := h2.inj _ _ x x' T cs0 T' cs0' ((keyb k x hk).2 hge) ((keyb k' x' hk').2 hge') hm hm' (sh_live hv) (sh_live hv') hp
      omega
  · rcases key k T cs hc with ⟨hlt, hm⟩ | ⟨hge, cs0, hm, rfl⟩
    · obtain ⟨vs, a1, a2⟩ := h1.cont k T cs x hm hr ((keyb k x hk).1 hlt)
      exact ⟨vs, a1, a2.imp fun _ _ h => h.grow g⟩
    · obtain ⟨vs, a1, a2⟩ := h2.cont _ T cs0 x hm (sh_isRow hr) ((keyb k x hk).2 hge)
      exact ⟨vs, a1, a2.map_left fun _ _ h => shC_ok h⟩
  · rcases key k T _ hc with ⟨hlt, hm⟩ | ⟨hge, cs0, hm, he⟩
    · exact h1.row k T fz es n ρ x hm ((keyb k x hk).1 hlt)
    · have := sh_row he.symm
      subst this
      exact h2.row _ T fz es n ρ x hm ((keyb k x hk).2 hge)

/-- a world in which another part of the memory is owned less -/
theorem MemRel.less {F F' : Nat → Prop} {w bs mem} (h : MemRel F w bs mem) (hF : ∀ p, F' p → F p) (hb : ∀ x ∈ bs, F x.p → F' x.p) : MemRel F' w bs mem := by
  have g : Grow F F' bs bs w w := ⟨Nat.le_refl _, fun p _ h => hF p h, fun _ _ _ => rfl, fun _ _ h => h⟩
  have g0 : Grow F F' [] [] w w := ⟨Nat.le_refl _, fun p _ h => hF p h, fun _ _ _ => rfl, fun _ _ h => h⟩
  refine ⟨h.len, fun k x T cs hk hc hv => ⟨hb x (nth_mem hk) (h.loc k x T cs hk hc hv).1, (h.loc k x T cs hk hc hv).2⟩, h.inj, fun k T cs x hc hr hk => ?_, fun k T fz es n ρ x hc hk => ?_⟩
  · obtain ⟨vs, a1, a2⟩ := h.cont k T cs x hc hr hk
    exact ⟨vs, a1, a2.imp fun _ _ h => h.grow g⟩
  · exact (h.row k T fz es n ρ x hc hk).grow g0 fun _ => rfl

/-- One summary of a function that lays what may still be written. -/
def NcOne (P : Program) (f : Nat) (G : List A1 → Tree (AV × Mem)) : Prop :=
  ∀ args r m, (G args).sel = some (r, m) → args.all closedA = true → ∀ F w vs, All2 (A1.Rel F w []) args vs →
    Calls P f vs.toArray w (fun e w2 => ∃ v F' bs', e = .returned v ∧ Ext 0 F w [] F' w2 bs' ∧ MemRel F' w2 bs' m ∧ AV.Rel F' w2 bs' r v)

/-- … beside the memory that is there -/
def ncG (G : List A1 → Tree (AV × Mem)) (args : List A1) (mem : Mem) : Tree (AV × Mem) :=
  let y := frz1s mem args
  if y.2.all closedA then (G y.2).bind fun z => .leaf (shA y.1.length z.1, y.1 ++ z.2.map (shE y.1.length)) else .fail

theorem NcOne.mc {P : Program} {f : Nat} {G : List A1 → Tree (AV × Mem)} (h : NcOne P f G) : McOne P f (ncG G) := by
  intro args mem r mem' hs F w bs vs hm hargs
  unfold ncG at hs
  simp only at hs
  split at hs
  · rename_i hcl
    obtain ⟨⟨r0, m0⟩, h1, h2⟩ := sel_bind hs
    simp only [Tree.sel, Option.some.injEq, Prod.mk.injEq] at h2
    obtain ⟨rfl, rfl⟩ := h2
    obtain ⟨F1, e1, m1, r1⟩ := frz1s_ok hm hargs
    have hvs' : All2 (A1.Rel F1 w []) (frz1s mem args).2 vs := by
      clear h1 hargs
      generalize (frz1s mem args).2 = l at r1 hcl
      induction r1 with
      | nil => exact .nil
      | cons ha _ ih =>
        simp only [List.all_cons, Bool.and_eq_true] at hcl
        exact .cons (ha.closed hcl.1) (ih hcl.2)
    refine (h _ _ _ h1 hcl F1 w vs hvs').mono fun e w2 ⟨v, F', bs', he, hx, hmm, hr⟩ => ?_
    have hlen : bs.length = (frz1s mem args).1.length := m1.len
    rw [← hlen]
    refine ⟨v, fun p => (p < w.heap.size ∧ F1 p) ∨ (w.heap.size ≤ p ∧ F' p), bs ++ bs', he, ?_, ?_, ?_⟩
    · have e2 : Ext bs.length F1 w bs (fun p => (p < w.heap.size ∧ F1 p) ∨ (w.heap.size ≤ p ∧ F' p)) w2 (bs ++ bs') :=
        ⟨hx.size, fun p hp h => h.elim (fun h => h.2) (fun h => by omega), fun p h hp _ => .inl ⟨hp, h⟩, fun p hp _ => hx.same p hp (.inr fun x hx => by cases hx), hx.os, hx.tape, hx.output, fun k x _ h => nth_append h, fun x hx' => by
          rcases List.mem_append.1 hx' with h | h
          · exact .inl ⟨x, h, rfl⟩
          · rcases hx.mem x h with ⟨y, hy, _⟩ | h
            · cases hy
            · exact .inr h⟩
      exact e1.trans e2 (Nat.le_refl _)
    · have hge : ∀ x ∈ bs', w.heap.size ≤ x.p := fun x h => by
        rcases hx.mem x h with ⟨y, hy, _⟩ | h
        · cases hy
        · exact h
      have hmA : MemRel (fun p => (p < w.heap.size ∧ F1 p) ∨ (w.heap.size ≤ p ∧ F' p)) w2 bs (frz1s mem args).1 := by
        refine m1.move (F' := fun p => (p < w.heap.size ∧ F1 p) ∨ (w.heap.size ≤ p ∧ F' p)) ⟨hx.size, fun p hp h => h.elim (fun h => h.2) (fun h => by omega), fun p h hp _ => .inl ⟨hp, h⟩, fun p hp _ => hx.same p hp (.inr fun x hx => by cases hx), hx.os, hx.tape, hx.output, fun _ _ _ h => h, fun x h => .inl ⟨x, h, rfl⟩⟩ fun k x T cs hk hc hv => ?_
        have hl := m1.loc k x T cs hk hc hv
        exact ⟨.inl ⟨hl.2, hl.1⟩, hx.same _ hl.2 (.inr fun x hx => by cases hx)⟩
      have hmB : MemRel (fun p => (p < w.heap.size ∧ F1 p) ∨ (w.heap.size ≤ p ∧ F' p)) w2 bs' m0 :=
        hmm.less (fun p h => h.elim (fun h => hx.F2 p h.2 h.1 (fun x hx => by cases hx)) (fun h => h.2)) fun x h hf => .inr ⟨hge x h, hf⟩
      refine hmA.join hmB fun k x T cs hk hc hv y hy e => ?_
      have hy' := hge y hy
      have := (m1.loc k x T cs hk hc hv).2
      omega
    · refine shA_ok (AV.Rel.grow (bs := bs') (bs' := bs') ⟨Nat.le_refl _, fun p _ h => h.elim (fun h => hx.F2 p h.2 h.1 (fun x hx => by cases hx)) (fun h => h.2), fun _ _ _ => rfl, fun _ _ h => h⟩ hr)
  · simp [Tree.sel] at hs

end Go.Sx
