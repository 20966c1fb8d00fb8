/-
  The evaluator in use (part W): summaries with conditions; loops that look for something.
-/
import Derived.Test.YtjiennnkbompkaaEngV
namespace Go.Sx
open Go Go.RowKit Classical

/-- a summary with a condition -/
def nG (G : List A1 → Option (Bool × AV)) (args : List A1) : Tree AV :=
  match G args with
  | some (p, r) => .need p (.leaf r)
  | none => .fail

theorem nG_sel {G : List A1 → Option (Bool × AV)} {args : List A1} {r : AV} (h : (nG G args).sel = some r) : G args = some (true, r) := by
  unfold nG at h
  split at h
  · rename_i p x hx
    simp only [Tree.sel] at h
    cases p <;> simp at h
    rw [hx, h]
  · simp [Tree.sel] at h

theorem tcOne_of_ev {P : Program} {H : Hd} (hH : HdOk P H) (n f : Nat) {G : List A1 → Option (Bool × AV)}
    (h : ∀ args r, G args = some (true, r) → (denA r).isSome = true ∧ (evFn P H n f args []).needs = true ∧ (evFn P H n f args []).res = r) : TcOne P f (nG G) := by
  intro args r hG hcl
  have hs := nG_sel hG
  exact pcOne_of_ev (G := fun a => if a = args then some r else none) hH n f (fun a r' ha => by
    split at ha
    · rename_i e
      subst e
      simp at ha; subst ha
      exact h a r hs
    · cases ha) args r (by simp) hcl

theorem tcOne_of_all {P : Program} {H : Hd} (hH : HdOk P H) (n f : Nat) {G : List A1 → Option (Bool × AV)}
    (h : ∀ args r, G args = some (true, r) → (denA r).isSome = true ∧ (evFn P H n f args []).All (fun y => y.1 = r)) : TcOne P f (nG G) := by
  intro args r hG hcl
  have hs := nG_sel hG
  exact pcOne_of_all (G := fun a => if a = args then some r else none) hH n f (fun a r' ha => by
    split at ha
    · rename_i e
      subst e
      simp at ha; subst ha
      exact h a r hs
    · cases ha) args r (by simp) hcl

theorem ucOne_of_le {P : Program} {H : Hd} (hH : HdOk P H) (n f : Nat) {G : List A1 → Option (Bool × AV)}
    (h : ∀ args r, G args = some (true, r) → (hcTree P H n f args).needs = true ∧ leA (hcTree P H n f args).res0 r) : UcOne P f (nG G) := by
  intro args r hG hcl
  have hs := nG_sel hG
  exact hcOne_of_le (G := fun a => if a = args then some r else none) hH n f (fun a r' ha => by
    split at ha
    · rename_i e
      subst e
      simp at ha; subst ha
      exact h a r hs
    · cases ha) args r (by simp) hcl

theorem ucOne_of_all {P : Program} {H : Hd} (hH : HdOk P H) (n f : Nat) {G : List A1 → Option (Bool × AV)}
    (h : ∀ args r, G args = some (true, r) → (hcTree P H n f args).All (fun x => leA x r)) : UcOne P f (nG G) := by
  intro args r hG hcl
  have hs := nG_sel hG
  exact hcOne_of_all (G := fun a => if a = args then some r else none) hH n f (fun a r' ha => by
    split at ha
    · rename_i e
      subst e
      simp at ha; subst ha
      exact h a r hs
    · cases ha) args r (by simp) hcl

theorem all_bind {α β : Type} {Q : β → Prop} {f : α → Tree β} : ∀ {t : Tree α}, (t.bind f).All Q ↔ t.All (fun a => (f a).All Q)
  | .leaf _ => Iff.rfl
  | .br _ _ _ => and_congr (imp_congr_right fun _ => all_bind) (imp_congr_right fun _ => all_bind)
  | .need _ _ => and_congr_right fun _ => all_bind
  | .fail => Iff.rfl

theorem All.imp {α : Type} {Q R : α → Prop} (h : ∀ a, Q a → R a) : ∀ {t : Tree α}, t.All Q → t.All R
  | .leaf _, k => h _ k
  | .br _ _ _, ⟨k1, k2⟩ => ⟨fun hc => All.imp h (k1 hc), fun hc => All.imp h (k2 hc)⟩
  | .need _ _, ⟨k1, k2⟩ => ⟨k1, All.imp h k2⟩
  | .fail, k => k.elim

/-- the values alone -/
def Tree.vals (t : Tree (AV × Mem)) : Tree AV := t.bind fun y => .leaf y.1

theorem all_of {α : Type} {Q : α → Prop} {t u : Tree α} (h : t = u) (k : u.All Q) : t.All Q := h ▸ k

theorem all_vals {Q : AV → Prop} {t : Tree (AV × Mem)} (h : t.vals.All Q) : t.All (fun y => Q y.1) := all_bind.1 h

/-- summaries out of a tree that is given -/
theorem tcOne_of_tree {P : Program} {H : Hd} (hH : HdOk P H) (n f : Nat) {G : List A1 → Option (Bool × AV)}
    (h : ∀ args r, G args = some (true, r) → (denA r).isSome = true ∧ ∃ u, (evFn P H n f args []).vals = u ∧ u.All (fun z => z = r)) : TcOne P f (nG G) :=
  tcOne_of_all hH n f fun args r hG => by
    obtain ⟨h1, u, h2, h3⟩ := h args r hG
    exact ⟨h1, all_vals (Q := fun z => z = r) (h2 ▸ h3)⟩

theorem pcOne_of_tree {P : Program} {H : Hd} (hH : HdOk P H) (n f : Nat) {G : List A1 → Option AV}
    (h : ∀ args r, G args = some r → (denA r).isSome = true ∧ ∃ u, (evFn P H n f args []).vals = u ∧ u.All (fun z => z = r)) : PcOne P f G :=
  pcOne_of_all hH n f fun args r hG => by
    obtain ⟨h1, u, h2, h3⟩ := h args r hG
    exact ⟨h1, all_vals (Q := fun z => z = r) (h2 ▸ h3)⟩

theorem hcOne_of_tree {P : Program} {H : Hd} (hH : HdOk P H) (n f : Nat) {G : List A1 → Option AV}
    (h : ∀ args r, G args = some r → ∃ u, hcTree P H n f args = u ∧ u.All (fun z => leA z r)) : HcOne P f G :=
  hcOne_of_all hH n f fun args r hG => by
    obtain ⟨u, h2, h3⟩ := h args r hG
    exact h2 ▸ h3

theorem ucOne_of_tree {P : Program} {H : Hd} (hH : HdOk P H) (n f : Nat) {G : List A1 → Option (Bool × AV)}
    (h : ∀ args r, G args = some (true, r) → ∃ u, hcTree P H n f args = u ∧ u.All (fun z => leA z r)) : UcOne P f (nG G) :=
  ucOne_of_all hH n f fun args r hG => by
    obtain ⟨u, h2, h3⟩ := h args r hG
    exact h2 ▸ h3

/-- a law out of a tree that is given -/
theorem law_of_tree {P : Program} {H : Hd} (hH : HdOk P H) (n f : Nat) {args : List A1} {u : Tree AV} (hu : (evFn P H n f args []).vals = u) (ha : u.All (fun z => z = .one (.c (.bool true)))) {F : Nat → Prop} {W : World} {vs : List Value}
    (hargs : All2 (A1.Rel F W []) args vs) : Calls P f vs.toArray W (fun e W' => e = .returned (.bool true) ∧ Below W.heap.size W W') := by
  subst hu
  obtain ⟨⟨r', m⟩, hsel, hr⟩ := all_sel (all_vals (Q := fun z => z = .one (.c (.bool true))) ha)
  simp only at hr
  subst hr
  refine (evFn_ok hH n f args [] _ m hsel F W [] vs MemRel.nil hargs).mono fun e w2 ⟨u, F', bs', he, hext, hm, hu⟩ => ?_
  cases hu
  exact ⟨he, hext.below⟩

/-! ### loops that look for something -/

/-- is there one among the first? -/
def anyB (bad : Nat → Bool) : Nat → Bool
  | 0 => false
  | n + 1 => anyB bad n || bad n

theorem anyB_iff {bad : Nat → Bool} : ∀ {n : Nat}, anyB bad n = true ↔ ∃ i, i < n ∧ bad i = true
  | 0 => by simp [anyB]
  | n + 1 => by
    simp only [anyB, Bool.or_eq_true, anyB_iff (n := n)]
    constructor
    · rintro (⟨i, h1, h2⟩ | h)
      · exact ⟨i, by omega, h2⟩
      · exact ⟨n, by omega, h⟩
    · rintro ⟨i, h1, h2⟩
      rcases Nat.lt_or_eq_of_le (Nat.le_of_lt_succ h1) with h | rfl
      · exact .inl ⟨i, h, h2⟩
      · exact .inr h2

theorem anyB_none {bad : Nat → Bool} {n : Nat} (h : ∀ i, i < n → bad i = false) : anyB bad n = false := by
  rw [Bool.eq_false_iff]
  intro hh
  obtain ⟨i, h1, h2⟩ := anyB_iff.1 hh
  rw [h i h1] at h2
  cases h2

/-- a scan: what one round does -/
structure Scan (TX : Int → Tree (XE × Int)) (n : Nat) (bad : Nat → Bool) (e1 e0 : XE) : Prop where
  small : n ≤ 4611686018427387904
  out : e0 ≠ .normal
  hit : e1 ≠ .normal
  round : ∀ i : Nat, i < n → (TX (i : Int)).All fun y => if bad i then y.1 = e1 ∧ y.2 = (i : Int) else y.1 = .normal ∧ y.2 = (i : Int) + 1
  stop : (TX (n : Int)).All fun y => y.1 = e0

def scanInv (n : Nat) (i : Int) : Prop := 0 ≤ i ∧ i ≤ n
def scanμ (n : Nat) (i : Int) : Nat := (n - i).toNat

theorem Scan.rounds {TX : Int → Tree (XE × Int)} {n : Nat} {bad : Nat → Bool} {e1 e0 : XE} (h : Scan TX n bad e1 e0) {inv : Int → Prop} (hinv : ∀ i, inv i ↔ scanInv n i) :
    Rounds TX inv (scanμ n) (fun y => y.1 = e1 ∨ y.1 = e0) := by
  intro x hx
  obtain ⟨h0, h1⟩ := (hinv x).1 hx
  obtain ⟨i, rfl⟩ : ∃ i : Nat, x = i := ⟨x.toNat, by omega⟩
  rcases Nat.lt_or_eq_of_le (show i ≤ n by omega) with hi | rfl
  · refine All.imp (fun y hy => ?_) (h.round i hi)
    obtain ⟨e, z⟩ := y
    split at hy
    · obtain ⟨rfl, rfl⟩ := hy
      cases hn : e with
      | normal => exact (h.hit hn).elim
      | exit k => simp only; exact .inl trivial
      | ret => simp only; exact .inl trivial
    · obtain ⟨rfl, rfl⟩ := hy
      exact ⟨(hinv _).2 ⟨by simp only; omega, by simp only; omega⟩, by unfold scanμ; simp only; omega⟩
  · refine All.imp (fun y hy => ?_) h.stop
    obtain ⟨e, z⟩ := y
    simp only at hy
    subst hy
    cases hn : e with
    | normal => exact (h.out hn).elim
    | exit k => simp only; exact .inr trivial
    | ret => simp only; exact .inr trivial

theorem Scan.fin_from {TX : Int → Tree (XE × Int)} {n : Nat} {bad : Nat → Bool} {e1 e0 : XE} (h : Scan TX n bad e1 e0) :
    ∀ (d i : Nat), i + d = n → (fin TX (scanμ n) (i : Int)).1 = if ∃ j, i ≤ j ∧ j < n ∧ bad j = true then e1 else e0 := by
  have hr := h.rounds (inv := scanInv n) (fun _ => Iff.rfl)
  intro d
  induction d with
  | zero =>
    intro i hi
    have hi : i = n := by omega
    subst hi
    obtain ⟨y, hs, hy⟩ := all_sel (fin_step hr (x := (i : Int)) ⟨by omega, by omega⟩)
    obtain ⟨y', hs', hy'⟩ := all_sel h.stop
    rw [hs] at hs'
    simp at hs'; subst hs'
    rw [if_neg (by rintro ⟨j, h1, h2, _⟩; omega)]
    rcases hy with ⟨hn, _⟩ | ⟨_, hf⟩
    · exact (h.out (hy'.symm.trans hn)).elim
    · rw [hf]; exact hy'
  | succ d ih =>
    intro i hi
    obtain ⟨y, hs, hy⟩ := all_sel (fin_step hr (x := (i : Int)) ⟨by omega, by omega⟩)
    obtain ⟨y', hs', hy'⟩ := all_sel (h.round i (by omega))
    rw [hs] at hs'
    simp at hs'; subst hs'
    by_cases hb : bad i = true
    · rw [if_pos hb] at hy'
      rw [if_pos ⟨i, by omega, by omega, hb⟩]
      rcases hy with ⟨hn, _⟩ | ⟨_, hf⟩
      · exact (h.hit (hy'.1.symm.trans hn)).elim
      · rw [hf]; exact hy'.1
    · rw [if_neg hb] at hy'
      rcases hy with ⟨_, _, _, hf⟩ | ⟨hn, _⟩
      · rw [← hf, hy'.2]
        have := ih (i + 1) (by omega)
        rw [show ((i + 1 : Nat) : Int) = (i : Int) + 1 by omega] at this
        rw [this]
        congr 1
        refine propext ⟨fun ⟨j, h1, h2, h3⟩ => ⟨j, by omega, h2, h3⟩, fun ⟨j, h1, h2, h3⟩ => ⟨j, ?_, h2, h3⟩⟩
        rcases Nat.lt_or_eq_of_le h1 with h4 | rfl
        · omega
        · exact (hb h3).elim
      · exact (hn hy'.1).elim

theorem Scan.fin0 {TX : Int → Tree (XE × Int)} {n : Nat} {bad : Nat → Bool} {e1 e0 : XE} (h : Scan TX n bad e1 e0) : (fin TX (scanμ n) 0).1 = bif anyB bad n then e1 else e0 := by
  have := h.fin_from n 0 (by omega)
  rw [show ((0 : Nat) : Int) = 0 from rfl] at this
  rw [this]
  cases hb : anyB bad n
  · rw [if_neg]
    · rfl
    · rintro ⟨j, _, h2, h3⟩
      have := anyB_iff.2 ⟨j, h2, h3⟩
      rw [hb] at this
      cases this
  · obtain ⟨i, h1, h2⟩ := anyB_iff.1 hb
    rw [if_pos ⟨i, by omega, h1, h2⟩]
    rfl

end Go.Sx
