/-
  The evaluator in use (part I): summaries of functions whose result is a plain value.
-/
import Derived.Test.YtcplkefmilpmpaaEngH
namespace Go.Sx
open Go Go.RowKit

def imp' (c : Bool) : Bool → Bool
  | true => true
  | false => !c

def and' : Bool → Bool → Bool
  | true, y => y
  | false, _ => false

/-- all that the road asks for -/
def Tree.needs {α : Type} : Tree α → Bool
  | .leaf _ => true
  | .br c t e => and' (imp' c t.needs) (imp' (!c) e.needs)
  | .need c t => and' c t.needs
  | .fail => false

/-- the results of all roads as one value -/
def Tree.res : Tree (AV × Mem) → AV
  | .leaf a => a.1
  | .br c t e => mergeA c t.res e.res
  | .need _ t => t.res
  | .fail => .any

def Tree.conds {α : Type} : Tree α → Tree Unit
  | .leaf _ => .leaf ()
  | .br c t e => .br c t.conds e.conds
  | .need c t => .need c t.conds
  | .fail => .fail

theorem needs_conds {α : Type} : ∀ (t : Tree α), t.conds.needs = t.needs
  | .leaf _ => rfl
  | .br c t e => by simp only [Tree.conds, Tree.needs, needs_conds t, needs_conds e]
  | .need c t => by simp only [Tree.conds, Tree.needs, needs_conds t]
  | .fail => rfl

theorem needs_sel {α : Type} : ∀ {t : Tree α}, t.needs = true → ∃ x, t.sel = some x
  | .leaf a, _ => ⟨a, rfl⟩
  | .br c t e, h => by
    simp only [Tree.needs] at h
    cases c
    · simp only [Tree.sel, cond_false]
      refine needs_sel ?_
      cases he : e.needs
      · rw [he] at h
        cases ht : t.needs <;> rw [ht] at h <;> cases h
      · rfl
    · simp only [Tree.sel, cond_true]
      refine needs_sel ?_
      cases ht : t.needs
      · rw [ht] at h
        cases h
      · rfl
  | .need c t, h => by
    simp only [Tree.needs] at h
    cases c
    · simp [and'] at h
    · simpa [Tree.sel] using needs_sel (t := t) h
  | .fail, h => by simp [Tree.needs] at h

def Tree.All {α : Type} (Q : α → Prop) : Tree α → Prop
  | .leaf a => Q a
  | .br c t e => (c = true → t.All Q) ∧ (c = false → e.All Q)
  | .need c t => c = true ∧ t.All Q
  | .fail => False

theorem all_sel {α : Type} {Q : α → Prop} : ∀ {t : Tree α}, t.All Q → ∃ x, t.sel = some x ∧ Q x
  | .leaf a, h => ⟨a, rfl, h⟩
  | .br c t e, h => by
    obtain ⟨h1, h2⟩ := h
    simp only [Tree.sel]
    cases c
    · exact all_sel (h2 rfl)
    · exact all_sel (h1 rfl)
  | .need c t, h => by
    obtain ⟨h1, h2⟩ := h
    simp only [Tree.sel, h1, cond_true]
    exact all_sel h2
  | .fail, h => h.elim

/-- what the road asks for is given -/
def Tree.Safe {α : Type} : Tree α → Prop
  | .leaf _ => True
  | .br c t e => (c = true → t.Safe) ∧ (c = false → e.Safe)
  | .need c t => c = true ∧ t.Safe
  | .fail => False

theorem needs_of_safe {α : Type} : ∀ {t : Tree α}, t.Safe → t.needs = true
  | .leaf _, _ => rfl
  | .br c t e, h => by
    obtain ⟨h1, h2⟩ := h
    simp only [Tree.needs]
    cases c
    · rw [needs_of_safe (h2 rfl)]
      cases t.needs <;> rfl
    · rw [needs_of_safe (h1 rfl)]
      cases e.needs <;> rfl
  | .need c t, h => by
    obtain ⟨h1, h2⟩ := h
    simp only [Tree.needs, h1, needs_of_safe h2]
    rfl
  | .fail, h => h.elim

theorem needs_of_conds {α : Type} {t : Tree α} {u : Tree Unit} (h : t.conds = u) (hs : u.Safe) : t.needs = true := by
  rw [← needs_conds, h]
  exact needs_of_safe hs

theorem res_rel {F w bs} {v : Value} : ∀ {t : Tree (AV × Mem)} {r m}, t.sel = some (r, m) → r.Rel F w bs v → t.res.Rel F w bs v
  | .leaf a, r, m, h, hr => by simp [Tree.sel] at h; subst h; exact hr
  | .br c t e, r, m, h, hr => by
    simp only [Tree.sel] at h
    refine mergeA_ok (fun hc => ?_) (fun hc => ?_)
    · subst hc; exact res_rel h hr
    · subst hc; exact res_rel h hr
  | .need c t, r, m, h, hr => by
    simp only [Tree.sel] at h
    cases c
    · simp at h
    · exact res_rel (t := t) h hr
  | .fail, r, m, h, _ => by simp [Tree.sel] at h

/-- the value of an abstract value that leaves nothing open -/
def denC : CV → Option Value
  | .bool b => some (.bool b)
  | .int k n => some (.int k n)
  | .str s => some (.string s)
  | .nilp => some (.pointer none)
  | .nils => some (.slice none 0 0)
  | .nilf => some .nilFunc
  | .nili => some .nilIface
  | _ => none

def denCs : List CV → Option (List Value)
  | [] => some []
  | c :: l => match denC c, denCs l with
    | some v, some r => some (v :: r)
    | _, _ => none

def den1 : A1 → Option Value
  | .c x => denC x
  | .agg l => match denCs l with
    | some r => some (.agg r.toArray)
    | none => none

def den1s : List A1 → Option (List Value)
  | [] => some []
  | c :: l => match den1 c, den1s l with
    | some v, some r => some (v :: r)
    | _, _ => none

def denA : AV → Option Value
  | .any => none
  | .one a => den1 a
  | .tup l => match den1s l with
    | some r => some (.tuple r.toArray)
    | none => none

theorem denC_ok {F w bs} {c : CV} {v u : Value} (h : denC c = some v) (hr : c.Rel F w bs u) : u = v := by
  unfold denC at h
  split at h <;> simp at h <;> subst h <;> cases hr <;> rfl

theorem denC_mk {F w bs} {c : CV} {v : Value} (h : denC c = some v) : c.Rel F w bs v := by
  unfold denC at h
  split at h <;> simp at h <;> subst h <;> constructor

theorem denCs_ok {F w bs} : ∀ {l : List CV} {r vs : List Value}, denCs l = some r → All2 (CV.Rel F w bs) l vs → vs = r
  | [], r, vs, h, hr => by cases hr; simp [denCs] at h; exact h.symm
  | c :: l, r, vs, h, hr => by
    simp only [denCs] at h
    split at h
    · rename_i v r' h1 h2
      simp at h; subst h
      cases hr with
      | cons ha hb => rw [denC_ok h1 ha, denCs_ok h2 hb]
    · simp at h

theorem denCs_mk {F w bs} : ∀ {l : List CV} {r : List Value}, denCs l = some r → All2 (CV.Rel F w bs) l r
  | [], r, h => by simp [denCs] at h; subst h; exact .nil
  | c :: l, r, h => by
    simp only [denCs] at h
    split at h
    · rename_i v r' h1 h2
      simp at h; subst h
      exact .cons (denC_mk h1) (denCs_mk h2)
    · simp at h

theorem den1_ok {F w bs} {c : A1} {v u : Value} (h : den1 c = some v) (hr : c.Rel F w bs u) : u = v := by
  cases c with
  | c x => exact denC_ok h hr
  | agg l =>
    simp only [den1] at h
    split at h
    · rename_i r hr'
      simp at h; subst h
      obtain ⟨vs, rfl, hv⟩ := hr
      rw [denCs_ok hr' hv]
    · simp at h

theorem den1_mk {F w bs} {c : A1} {v : Value} (h : den1 c = some v) : c.Rel F w bs v := by
  cases c with
  | c x => exact denC_mk h
  | agg l =>
    simp only [den1] at h
    split at h
    · rename_i r hr'
      simp at h; subst h
      exact ⟨r, rfl, denCs_mk hr'⟩
    · simp at h

theorem den1s_ok {F w bs} : ∀ {l : List A1} {r vs : List Value}, den1s l = some r → All2 (A1.Rel F w bs) l vs → vs = r
  | [], r, vs, h, hr => by cases hr; simp [den1s] at h; exact h.symm
  | c :: l, r, vs, h, hr => by
    simp only [den1s] at h
    split at h
    · rename_i v r' h1 h2
      simp at h; subst h
      cases hr with
      | cons ha hb => rw [den1_ok h1 ha, den1s_ok h2 hb]
    · simp at h

theorem den1s_mk {F w bs} : ∀ {l : List A1} {r : List Value}, den1s l = some r → All2 (A1.Rel F w bs) l r
  | [], r, h => by simp [den1s] at h; subst h; exact .nil
  | c :: l, r, h => by
    simp only [den1s] at h
    split at h
    · rename_i v r' h1 h2
      simp at h; subst h
      exact .cons (den1_mk h1) (den1s_mk h2)
    · simp at h

theorem denA_ok {F w bs} {c : AV} {v u : Value} (h : denA c = some v) (hr : c.Rel F w bs u) : u = v := by
  cases c with
  | any => simp [denA] at h
  | one x => exact den1_ok h hr
  | tup l =>
    simp only [denA] at h
    split at h
    · rename_i r hr'
      simp at h; subst h
      obtain ⟨vs, rfl, hv⟩ := hr
      rw [den1s_ok hr' hv]
    · simp at h

theorem denA_mk {F w bs} {c : AV} {v : Value} (h : denA c = some v) : c.Rel F w bs v := by
  cases c with
  | any => simp [denA] at h
  | one x => exact den1_mk h
  | tup l =>
    simp only [denA] at h
    split at h
    · rename_i r hr'
      simp at h; subst h
      exact ⟨r, rfl, den1s_mk hr'⟩
    · simp at h

/-- One summary is right. -/
def PcOne (P : Program) (f : Nat) (G : List A1 → Option AV) : Prop :=
  ∀ args r, G args = some r → args.all closedA = true → ∀ F w vs, All2 (A1.Rel F w []) args vs →
    ∃ v, AV.Rel F w [] r v ∧ ∀ w1, Below w.heap.size w w1 → Calls P f vs.toArray w1 (fun e w2 => e = .returned v ∧ Below w1.heap.size w1 w2)

theorem PcOk.nil {P : Program} : PcOk P [] := by intro f G h; simp [lookPc] at h

theorem PcOk.cons {P : Program} {f : Nat} {G : List A1 → Option AV} {pc} (h1 : PcOne P f G) (h2 : PcOk P pc) : PcOk P ((f, G) :: pc) := by
  intro f' G' h
  simp only [lookPc] at h
  split at h
  · rename_i e
    simp at h; subst h
    have : f = f' := by simpa using e
    subst this
    exact h1
  · exact h2 f' G' h

theorem HdOk.nil {P : Program} : HdOk P ⟨[], []⟩ := ⟨PcOk.nil, by intro f fn c i b h _ _ _ hl; simp [lookLh] at hl⟩

theorem HdOk.pcCons {P : Program} {pc lh} {f : Nat} {G : List A1 → Option AV} (h : HdOk P ⟨pc, lh⟩) (h1 : PcOne P f G) : HdOk P ⟨(f, G) :: pc, lh⟩ := ⟨h.pc.cons h1, h.lh⟩

/-- **A summary out of the evaluator.** -/
theorem pcOne_of_ev {P : Program} {H : Hd} (hH : HdOk P H) (n f : Nat) {G : List A1 → Option AV}
    (h : ∀ args r, G args = some r → (denA r).isSome = true ∧ (evFn P H n f args []).needs = true ∧ (evFn P H n f args []).res = r) : PcOne P f G := by
  intro args r hG hcl F w vs hargs
  obtain ⟨hd, hn, hr⟩ := h args r hG
  obtain ⟨v, hv⟩ := Option.isSome_iff_exists.1 hd
  refine ⟨v, denA_mk hv, fun w1 hw1 => ?_⟩
  obtain ⟨⟨r', m⟩, hsel⟩ := needs_sel hn
  have hargs1 : All2 (A1.Rel F w1 []) args vs := hargs.imp fun _ _ hx => A1.Rel.grow (F := F) (F' := F) (bs := []) (bs' := []) ⟨hw1.size, fun _ _ h => h, fun p hp _ => hw1.block p hp, fun _ _ h => h⟩ hx
  refine (evFn_ok hH n f args [] r' m hsel F w1 [] vs ⟨rfl, fun k p h => by simp [nth] at h, fun k k' p h => by simp [nth] at h, fun k T cs h => by simp [nth] at h⟩ hargs1).mono fun e w2 ⟨u, F', bs', he, hext, hm, hu⟩ => ?_
  have := res_rel hsel hu
  rw [hr] at this
  have := denA_ok hv this
  subst this
  exact ⟨he, hext.below⟩

end Go.Sx
