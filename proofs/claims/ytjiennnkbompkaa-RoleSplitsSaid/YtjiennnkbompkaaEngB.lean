/-
  The evaluator's soundness (part B): what an abstract value says of a value, and the operations that touch no memory.
-/
import Derived.Test.YtjiennnkbompkaaEngA
import Derived.Laws.StructEq
namespace Go.Sx
open Go

inductive All2 {α β : Type} (R : α → β → Prop) : List α → List β → Prop
  | nil : All2 R [] []
  | cons {a b l r} : R a b → All2 R l r → All2 R (a :: l) (b :: r)

theorem All2.length {α β : Type} {R : α → β → Prop} {l : List α} {r : List β} (h : All2 R l r) : l.length = r.length := by
  induction h with
  | nil => rfl
  | cons _ _ ih => simp [ih]

theorem All2.imp {α β : Type} {R S : α → β → Prop} {l : List α} {r : List β} (h : All2 R l r) (hi : ∀ a b, R a b → S a b) : All2 S l r := by
  induction h with
  | nil => exact .nil
  | cons h _ ih => exact .cons (hi _ _ h) ih

theorem All2.append {α β : Type} {R : α → β → Prop} {l l' : List α} {r r' : List β} (h : All2 R l r) (h' : All2 R l' r') : All2 R (l ++ l') (r ++ r') := by
  induction h with
  | nil => exact h'
  | cons h _ ih => exact .cons h ih

theorem nth_eq {α : Type} (l : List α) (i : Nat) : nth l i = l[i]? := by
  induction l generalizing i with
  | nil => rfl
  | cons a l ih => cases i with
    | zero => rfl
    | succ n => simpa [nth] using ih n

theorem setN_eq {α : Type} (l : List α) (i : Nat) (b : α) : setN l i b = l.set i b := by
  induction l generalizing i with
  | nil => rfl
  | cons a l ih => cases i with
    | zero => rfl
    | succ n => simp [setN, ih]

theorem dropN_eq {α : Type} (l : List α) (n : Nat) : dropN l n = l.drop n := by
  induction n generalizing l with
  | zero => cases l <;> rfl
  | succ n ih => cases l with
    | nil => rfl
    | cons a l => simpa [dropN] using ih l

theorem takeN_some {α : Type} {l : List α} {n : Nat} {r : List α} (h : takeN l n = some r) : r = l.take n ∧ n ≤ l.length := by
  induction n generalizing l r with
  | zero => cases l <;> simp_all [takeN]
  | succ n ih => cases l with
    | nil => simp [takeN] at h
    | cons a l =>
      simp only [takeN] at h
      split at h
      · rename_i r' hr
        obtain ⟨h1, h2⟩ := ih hr
        simp at h; subst h; subst h1
        exact ⟨by simp, by simp; omega⟩
      · simp at h

theorem All2.nth {α β : Type} {R : α → β → Prop} {l : List α} {r : List β} (h : All2 R l r) {i : Nat} {a : α} (ha : nth l i = some a) : ∃ b, r[i]? = some b ∧ R a b := by
  induction h generalizing i with
  | nil => simp [Sx.nth] at ha
  | cons hab _ ih => cases i with
    | zero => simp [Sx.nth] at ha; subst ha; exact ⟨_, rfl, hab⟩
    | succ n => obtain ⟨b, hb, hr⟩ := ih (by simpa [Sx.nth] using ha); exact ⟨b, by simpa using hb, hr⟩

theorem All2.nth' {α β : Type} {R : α → β → Prop} {l : List α} {r : List β} (h : All2 R l r) {i : Nat} {b : β} (hb : r[i]? = some b) : ∃ a, Sx.nth l i = some a ∧ R a b := by
  induction h generalizing i with
  | nil => simp at hb
  | cons hab _ ih => cases i with
    | zero => simp at hb; subst hb; exact ⟨_, rfl, hab⟩
    | succ n => obtain ⟨a, ha, hr⟩ := ih (by simpa using hb); exact ⟨a, by simpa [Sx.nth] using ha, hr⟩

theorem All2.set {α β : Type} {R : α → β → Prop} {l : List α} {r : List β} (h : All2 R l r) (i : Nat) {a : α} {b : β} (hab : R a b) : All2 R (setN l i a) (r.set i b) := by
  induction h generalizing i with
  | nil => exact .nil
  | cons h h' ih => cases i with
    | zero => exact .cons hab h'
    | succ n => exact .cons h (ih n)

theorem All2.drop {α β : Type} {R : α → β → Prop} {l : List α} {r : List β} (h : All2 R l r) (n : Nat) : All2 R (l.drop n) (r.drop n) := by
  induction h generalizing n with
  | nil => simp; exact .nil
  | cons h h' ih => cases n with
    | zero => exact .cons h h'
    | succ n => exact ih n

theorem All2.take {α β : Type} {R : α → β → Prop} {l : List α} {r : List β} (h : All2 R l r) (n : Nat) : All2 R (l.take n) (r.take n) := by
  induction h generalizing n with
  | nil => simp; exact .nil
  | cons h h' ih => cases n with
    | zero => simp; exact .nil
    | succ n => exact .cons h (ih n)

theorem All2.of_nth {α β : Type} {R : α → β → Prop} : ∀ {l : List α} {r : List β}, l.length = r.length → (∀ i a b, Sx.nth l i = some a → Sx.nth r i = some b → R a b) → All2 R l r
  | [], [], _, _ => .nil
  | [], _ :: _, h, _ => by simp at h
  | _ :: _, [], h, _ => by simp at h
  | a :: l, b :: r, h, H => .cons (H 0 a b rfl rfl) (All2.of_nth (by simpa using h) fun i x y hx hy => H (i + 1) x y hx hy)

/-- what is known of a block of the call's own: where it lies; of a row: how many elements it has, and room for how many -/
structure BI where
  p : Nat
  n : Nat
  cap : Nat

/-- What an abstract cell says of a value. 'F': the blocks that a slice that is only read may not lie in; the list: the blocks of the call's own, by their numbers. -/
inductive CV.Rel (F : Nat → Prop) (w : World) : List BI → CV → Value → Prop
  | any {bs v} (h : v.oneCell' = true) : CV.Rel F w bs .any v
  | bool {bs} (b) : CV.Rel F w bs (.bool b) (.bool b)
  | int {bs} (k n) : CV.Rel F w bs (.int k n) (.int k n)
  | str {bs} (s) : CV.Rel F w bs (.str s) (.string s)
  | nilp {bs} : CV.Rel F w bs .nilp (.pointer none)
  | nils {bs} : CV.Rel F w bs .nils (.slice none 0 0)
  | nilf {bs} : CV.Rel F w bs .nilf .nilFunc
  | nili {bs} : CV.Rel F w bs .nili .nilIface
  | ptr {bs b o x} (h : nth bs b = some x) : CV.Rel F w bs (.ptr b o) (.pointer (some ⟨x.p, o, none⟩))
  | os {bs b sz x base} (h : nth bs b = some x) (hb : 0 < x.n → base = some ⟨x.p, 0, none⟩) : CV.Rel F w bs (.os b sz) (.slice base x.n x.cap)
  | ost {bs b sz lo x} (h : nth bs b = some x) (hl : lo < x.n) : CV.Rel F w bs (.ost b sz lo) (.slice (some ⟨x.p, lo * sz, none⟩) (x.n - lo) (x.cap - lo))
  | rowp {bs b sz i off x} (h : nth bs b = some x) (hi : i < x.n) : CV.Rel F w bs (.rowp b sz i off) (.pointer (some ⟨x.p, i * sz + off, none⟩))
  | rop {bs es off ρ p o} (val : Nat → Value) (hb : p < w.heap.size) (hF : ¬ F p) (hc : ∀ j, j < es.length → w.cell? ⟨p, o + j, none⟩ = some (val j))
      (hr : ∀ j s, nth es j = some s → CV.Rel F w [] (cellOf s (ρ.at j)) (val j)) : CV.Rel F w bs (.rop es off ρ) (.pointer (some ⟨p, o + off, none⟩))
  | slnil {bs es ρ} : CV.Rel F w bs (.sl es 0 ρ) (.slice none 0 0)
  | sl {bs es n ρ cap} {a : Addr} (val : Nat → Nat → Value) (hn : n ≤ cap) (h0 : 0 < n → a.spot = none ∧ a.block < w.heap.size ∧ ¬ F a.block)
      (hc : ∀ i f, i < n → f < es.length → w.cell? ⟨a.block, a.off + (i * es.length + f), none⟩ = some (val i f))
      (hr : ∀ i f s, i < n → nth es f = some s → CV.Rel F w [] (cellOf s ((ρ.at i).at f)) (val i f)) : CV.Rel F w bs (.sl es n ρ) (.slice (some a) n cap)
  | fn {bs f first cap} {vf vc : List Value} (l1 : first.length = vf.length) (l2 : cap.length = vc.length)
      (r1 : ∀ i x v, nth first i = some x → nth vf i = some v → CV.Rel F w bs x v)
      (r2 : ∀ i x v, nth cap i = some x → nth vc i = some v → CV.Rel F w bs x v) : CV.Rel F w bs (.fn f first cap) (.func f vf.toArray vc.toArray)
  | iface {bs t x v} (h : CV.Rel F w bs x v) : CV.Rel F w bs (.iface t x) (.iface t v)

theorem CV.Rel.one {F w bs x v} (h : CV.Rel F w bs x v) : v.oneCell' = true := by
  cases h <;> first | rfl | assumption

theorem CV.Rel.mono {F F' : Nat → Prop} {w w' : World} (hs : w.heap.size ≤ w'.heap.size) (hF : ∀ p, p < w.heap.size → F' p → F p)
    (hsame : ∀ p, p < w.heap.size → ¬ F p → w'.heap[p]? = w.heap[p]?) {bs : List BI} {x : CV} {v : Value} (h : CV.Rel F w bs x v) :
    ∀ {bs' : List BI}, (∀ k p, nth bs k = some p → nth bs' k = some p) → CV.Rel F' w' bs' x v := by
  have hcell : ∀ p o, p < w.heap.size → ¬ F p → w'.cell? ⟨p, o, none⟩ = w.cell? ⟨p, o, none⟩ := fun p o h1 h2 => World.cell?_of_block (hsame p h1 h2)
  induction h with
  | any h => intro _ _; exact .any h
  | bool b => intro _ _; exact .bool b
  | int k n => intro _ _; exact .int k n
  | str s => intro _ _; exact .str s
  | nilp => intro _ _; exact .nilp
  | nils => intro _ _; exact .nils
  | nilf => intro _ _; exact .nilf
  | nili => intro _ _; exact .nili
  | ptr h => intro _ hb; exact .ptr (hb _ _ h)
  | os h h0 => intro _ hb; exact .os (hb _ _ h) h0
  | ost h hl => intro _ hb; exact .ost (hb _ _ h) hl
  | rowp h hi => intro _ hb; exact .rowp (hb _ _ h) hi
  | rop val hb hF' hc _ ih =>
    intro _ _
    exact .rop val (by omega) (fun h => hF' (hF _ hb h)) (fun j hj => by rw [hcell _ _ hb hF']; exact hc j hj) (fun j s hj => ih j s hj (fun _ _ h => h))
  | slnil => intro _ _; exact .slnil
  | sl val hn h0 hc _ ih =>
    intro _ _
    exact .sl val hn (fun hp => ⟨(h0 hp).1, Nat.lt_of_lt_of_le (h0 hp).2.1 hs, fun h => (h0 hp).2.2 (hF _ (h0 hp).2.1 h)⟩) (fun i f hi hf => by rw [hcell _ _ (h0 (by omega)).2.1 (h0 (by omega)).2.2]; exact hc i f hi hf) (fun i f s hi hf => ih i f s hi hf (fun _ _ h => h))
  | fn l1 l2 _ _ ih1 ih2 => intro _ hb; exact .fn l1 l2 (fun i x v h1 h2 => ih1 i x v h1 h2 hb) (fun i x v h1 h2 => ih2 i x v h1 h2 hb)
  | iface _ ih => intro _ hb; exact .iface (ih hb)

def A1.Rel (F : Nat → Prop) (w : World) (bs : List BI) : A1 → Value → Prop
  | .c x, v => x.Rel F w bs v
  | .agg l, v => ∃ vs : List Value, v = .agg vs.toArray ∧ All2 (CV.Rel F w bs) l vs

def AV.Rel (F : Nat → Prop) (w : World) (bs : List BI) : AV → Value → Prop
  | .any, _ => True
  | .one a, v => a.Rel F w bs v
  | .tup l, v => ∃ vs : List Value, v = .tuple vs.toArray ∧ All2 (A1.Rel F w bs) l vs

structure Grow (F F' : Nat → Prop) (bs bs' : List BI) (w w' : World) : Prop where
  size : w.heap.size ≤ w'.heap.size
  F1 : ∀ p, p < w.heap.size → F' p → F p
  same : ∀ p, p < w.heap.size → ¬ F p → w'.heap[p]? = w.heap[p]?
  bs : ∀ k p, nth bs k = some p → nth bs' k = some p

theorem CV.Rel.grow {F F' bs bs' w w' x v} (g : Grow F F' bs bs' w w') (h : CV.Rel F w bs x v) : CV.Rel F' w' bs' x v := h.mono g.size g.F1 g.same g.bs
theorem A1.Rel.grow {F F' bs bs' w w' x v} (g : Grow F F' bs bs' w w') (h : A1.Rel F w bs x v) : A1.Rel F' w' bs' x v := by
  cases x with
  | c x => exact CV.Rel.grow g h
  | agg l => obtain ⟨vs, rfl, h⟩ := h; exact ⟨vs, rfl, h.imp fun _ _ h => h.grow g⟩
theorem AV.Rel.grow {F F' bs bs' w w' x v} (g : Grow F F' bs bs' w w') (h : AV.Rel F w bs x v) : AV.Rel F' w' bs' x v := by
  cases x with
  | any => trivial
  | one x => exact A1.Rel.grow g h
  | tup l => obtain ⟨vs, rfl, h⟩ := h; exact ⟨vs, rfl, h.imp fun _ _ h => A1.Rel.grow g h⟩

/-- closed values hold whatever the call's own blocks are -/
theorem CV.Rel.closed {F w bs x v} (h : CV.Rel F w bs x v) : ∀ {bs'}, closedC x = true → CV.Rel F w bs' x v := by
  have hcs : ∀ l : List CV, closedC.closedCs l = true → ∀ i x, nth l i = some x → closedC x = true := by
    intro l
    induction l with
    | nil => intro _ i x h; simp [nth] at h
    | cons a l ih =>
      intro h i x hx
      simp only [closedC.closedCs, Bool.and_eq_true] at h
      cases i with
      | zero => simp [nth] at hx; subst hx; exact h.1
      | succ n => exact ih h.2 n x (by simpa [nth] using hx)
  induction h with
  | any h => intro _ _; exact .any h
  | bool b => intro _ _; exact .bool b
  | int k n => intro _ _; exact .int k n
  | str s => intro _ _; exact .str s
  | nilp => intro _ _; exact .nilp
  | nils => intro _ _; exact .nils
  | nilf => intro _ _; exact .nilf
  | nili => intro _ _; exact .nili
  | ptr h => intro _ hc; simp [closedC] at hc
  | os h _ => intro _ hc; simp [closedC] at hc
  | ost h _ => intro _ hc; simp [closedC] at hc
  | rowp h _ => intro _ hc; simp [closedC] at hc
  | rop val hb hF' hc hr _ => intro _ _; exact .rop val hb hF' hc hr
  | slnil => intro _ _; exact .slnil
  | sl val hn h0 hc hr _ => intro _ _; exact .sl val hn h0 hc hr
  | fn l1 l2 _ _ ih1 ih2 =>
    intro _ hc
    simp only [closedC, Bool.and_eq_true] at hc
    exact .fn l1 l2 (fun i x v h1 h2 => ih1 i x v h1 h2 (hcs _ hc.1 i x h1)) (fun i x v h1 h2 => ih2 i x v h1 h2 (hcs _ hc.2 i x h1))
  | iface _ ih => intro _ hc; exact .iface (ih (by simpa [closedC] using hc))

theorem A1.Rel.closed {F w bs x v} (h : A1.Rel F w bs x v) {bs'} (hc : closedA x = true) : A1.Rel F w bs' x v := by
  cases x with
  | c x => exact CV.Rel.closed h hc
  | agg l =>
    obtain ⟨vs, rfl, h⟩ := h
    refine ⟨vs, rfl, ?_⟩
    simp only [closedA, List.all_eq_true] at hc
    induction h with
    | nil => exact .nil
    | cons h _ ih => exact .cons (h.closed (hc _ (by simp))) (ih fun x hx => hc x (by simp [hx]))

end Go.Sx
