/-
  The evaluator in use (part I): summaries of functions whose result is a plain value.
-/
import Derived.Test.YtennlgngdjegoaaEnC
import Derived.Deep.LoopGhost
import Derived.LoopN
import Derived.LoopNIn
import Derived.Sort.LoopGhostIn
import Derived.ProofKit
import Derived.OpenShut
import Derived.ChangeOld
import Derived.Deep.Slices
import Derived.Laws.Cover3
namespace Go.Sx
open Go Go.RowKit

variable {P : Program}

/-- all that the road asks for -/
def Tree.needs {α : Type} : Tree α → Bool
  | .leaf _ => true
  | .br c t e => and' (imp' c t.needs) (imp' (!c) e.needs)
  | .need c t => and' c t.needs
  | .fail => false

/-- the results of all roads as one value -/
def Tree.res : Tree (AV × Mem) → AV
  | .leaf a => a.1
  | .br c t e => mergeA c t.res e.res
  | .need _ t => t.res
  | .fail => .any

def Tree.conds {α : Type} : Tree α → Tree Unit
  | .leaf _ => .leaf ()
  | .br c t e => .br c t.conds e.conds
  | .need c t => .need c t.conds
  | .fail => .fail

theorem needs_conds {α : Type} : ∀ (t : Tree α), t.conds.needs = t.needs
  | .leaf _ => rfl
  | .br c t e => by simp only [Tree.conds, Tree.needs, needs_conds t, needs_conds e]
  | .need c t => by simp only [Tree.conds, Tree.needs, needs_conds t]
  | .fail => rfl

theorem needs_sel {α : Type} : ∀ {t : Tree α}, t.needs = true → ∃ x, t.sel = some x
  | .leaf a, _ => ⟨a, rfl⟩
  | .br c t e, h => by
    simp only [Tree.needs] at h
    cases c
    · simp only [Tree.sel, cond_false]
      refine needs_sel ?_
      cases he : e.needs
      · rw [he] at h
        cases ht : t.needs <;> rw [ht] at h <;> cases h
      · rfl
    · simp only [Tree.sel, cond_true]
      refine needs_sel ?_
      cases ht : t.needs
      · rw [ht] at h
        cases h
      · rfl
  | .need c t, h => by
    simp only [Tree.needs] at h
    cases c
    · simp [and'] at h
    · simpa [Tree.sel] using needs_sel (t := t) h
  | .fail, h => by simp [Tree.needs] at h

def Tree.All {α : Type} (Q : α → Prop) : Tree α → Prop
  | .leaf a => Q a
  | .br c t e => (c = true → t.All Q) ∧ (c = false → e.All Q)
  | .need c t => c = true ∧ t.All Q
  | .fail => False

theorem all_sel {α : Type} {Q : α → Prop} : ∀ {t : Tree α}, t.All Q → ∃ x, t.sel = some x ∧ Q x
  | .leaf a, h => ⟨a, rfl, h⟩
  | .br c t e, h => by
    obtain ⟨h1, h2⟩ := h
    simp only [Tree.sel]
    cases c
    · exact all_sel (h2 rfl)
    · exact all_sel (h1 rfl)
  | .need c t, h => by
    obtain ⟨h1, h2⟩ := h
    simp only [Tree.sel, h1, cond_true]
    exact all_sel h2
  | .fail, h => h.elim

/-- what the road asks for is given -/
def Tree.Safe {α : Type} : Tree α → Prop
  | .leaf _ => True
  | .br c t e => (c = true → t.Safe) ∧ (c = false → e.Safe)
  | .need c t => c = true ∧ t.Safe
  | .fail => False

theorem needs_of_safe {α : Type} : ∀ {t : Tree α}, t.Safe → t.needs = true
  | .leaf _, _ => rfl
  | .br c t e, h => by
    obtain ⟨h1, h2⟩ := h
    simp only [Tree.needs]
    cases c
    · rw [needs_of_safe (h2 rfl)]
      cases t.needs <;> rfl
    · rw [needs_of_safe (h1 rfl)]
      cases e.needs <;> rfl
  | .need c t, h => by
    obtain ⟨h1, h2⟩ := h
    simp only [Tree.needs, h1, needs_of_safe h2]
    rfl
  | .fail, h => h.elim

theorem needs_of_conds {α : Type} {t : Tree α} {u : Tree Unit} (h : t.conds = u) (hs : u.Safe) : t.needs = true := by
  rw [← needs_conds, h]
  exact needs_of_safe hs

theorem res_rel {F w bs} {v : Value} : ∀ {t : Tree (AV × Mem)} {r m}, t.sel = some (r, m) → r.Rel F w bs v → t.res.Rel F w bs v
  | .leaf a, r, m, h, hr => by simp [Tree.sel] at h; subst h; exact hr
  | .br c t e, r, m, h, hr => by
    simp only [Tree.sel] at h
    refine mergeA_ok (fun hc => ?_) (fun hc => ?_)
    · subst hc; exact res_rel h hr
    · subst hc; exact res_rel h hr
  | .need c t, r, m, h, hr => by
    simp only [Tree.sel] at h
    cases c
    · simp at h
    · exact res_rel (t := t) h hr
  | .fail, r, m, h, _ => by simp [Tree.sel] at h

/-- the value of an abstract value that leaves nothing open -/
def denC : CV → Option Value
  | .bool b => some (.bool b)
  | .int k n => some (.int k n)
  | .str s => some (.string s)
  | .nilp => some (.pointer none)
  | .nils => some (.slice none 0 0)
  | .nilf => some .nilFunc
  | .nili => some .nilIface
  | _ => none

def denCs : List CV → Option (List Value)
  | [] => some []
  | c :: l => match denC c, denCs l with
    | some v, some r => some (v :: r)
    | _, _ => none

def den1 : A1 → Option Value
  | .c x => denC x
  | .agg l => match denCs l with
    | some r => some (.agg r.toArray)
    | none => none

def den1s : List A1 → Option (List Value)
  | [] => some []
  | c :: l => match den1 c, den1s l with
    | some v, some r => some (v :: r)
    | _, _ => none

def denA : AV → Option Value
  | .any => none
  | .one a => den1 a
  | .tup l => match den1s l with
    | some r => some (.tuple r.toArray)
    | none => none

theorem denC_ok {F w bs} {c : CV} {v u : Value} (h : denC c = some v) (hr : c.Rel F w bs u) : u = v := by
  unfold denC at h
  split at h <;> simp at h <;> subst h <;> cases hr <;> rfl

theorem denC_mk {F w bs} {c : CV} {v : Value} (h : denC c = some v) : c.Rel F w bs v := by
  unfold denC at h
  split at h <;> simp at h <;> subst h <;> constructor

theorem denCs_ok {F w bs} : ∀ {l : List CV} {r vs : List Value}, denCs l = some r → All2 (CV.Rel F w bs) l vs → vs = r
  | [], r, vs, h, hr => by cases hr; simp [denCs] at h; exact h.symm
  | c :: l, r, vs, h, hr => by
    simp only [denCs] at h
    split at h
    · rename_i v r' h1 h2
      simp at h; subst h
      cases hr with
      | cons ha hb => rw [denC_ok h1 ha, denCs_ok h2 hb]
    · simp at h

theorem denCs_mk {F w bs} : ∀ {l : List CV} {r : List Value}, denCs l = some r → All2 (CV.Rel F w bs) l r
  | [], r, h => by simp [denCs] at h; subst h; exact .nil
  | c :: l, r, h => by
    simp only [denCs] at h
    split at h
    · rename_i v r' h1 h2
      simp at h; subst h
      exact .cons (denC_mk h1) (denCs_mk h2)
    · simp at h

theorem den1_ok {F w bs} {c : A1} {v u : Value} (h : den1 c = some v) (hr : c.Rel F w bs u) : u = v := by
  cases c with
  | c x => exact denC_ok h hr
  | agg l =>
    simp only [den1] at h
    split at h
    · rename_i r hr'
      simp at h; subst h
      obtain ⟨vs, rfl, hv⟩ := hr
      rw [denCs_ok hr' hv]
    · simp at h

theorem den1_mk {F w bs} {c : A1} {v : Value} (h : den1 c = some v) : c.Rel F w bs v := by
  cases c with
  | c x => exact denC_mk h
  | agg l =>
    simp only [den1] at h
    split at h
    · rename_i r hr'
      simp at h; subst h
      exact ⟨r, rfl, denCs_mk hr'⟩
    · simp at h

theorem den1s_ok {F w bs} : ∀ {l : List A1} {r vs : List Value}, den1s l = some r → All2 (A1.Rel F w bs) l vs → vs = r
  | [], r, vs, h, hr => by cases hr; simp [den1s] at h; exact h.symm
  | c :: l, r, vs, h, hr => by
    simp only [den1s] at h
    split at h
    · rename_i v r' h1 h2
      simp at h; subst h
      cases hr with
      | cons ha hb => rw [den1_ok h1 ha, den1s_ok h2 hb]
    · simp at h

theorem den1s_mk {F w bs} : ∀ {l : List A1} {r : List Value}, den1s l = some r → All2 (A1.Rel F w bs) l r
  | [], r, h => by simp [den1s] at h; subst h; exact .nil
  | c :: l, r, h => by
    simp only [den1s] at h
    split at h
    · rename_i v r' h1 h2
      simp at h; subst h
      exact .cons (den1_mk h1) (den1s_mk h2)
    · simp at h

theorem denA_ok {F w bs} {c : AV} {v u : Value} (h : denA c = some v) (hr : c.Rel F w bs u) : u = v := by
  cases c with
  | any => simp [denA] at h
  | one x => exact den1_ok h hr
  | tup l =>
    simp only [denA] at h
    split at h
    · rename_i r hr'
      simp at h; subst h
      obtain ⟨vs, rfl, hv⟩ := hr
      rw [den1s_ok hr' hv]
    · simp at h

theorem denA_mk {F w bs} {c : AV} {v : Value} (h : denA c = some v) : c.Rel F w bs v := by
  cases c with
  | any => simp [denA] at h
  | one x => exact den1_mk h
  | tup l =>
    simp only [denA] at h
    split at h
    · rename_i r hr'
      simp at h; subst h
      exact ⟨r, rfl, den1s_mk hr'⟩
    · simp at h

/-- One summary is right. -/
def PcOne (P : Program) (f : Nat) (G : List A1 → Option AV) : Prop :=
  ∀ args r, G args = some r → args.all closedA = true → ∀ F w vs, All2 (A1.Rel F w []) args vs →
    ∃ v, AV.Rel F w [] r v ∧ ∀ w1, Below w.heap.size w w1 → Calls P f vs.toArray w1 (fun e w2 => e = .returned v ∧ Below w1.heap.size w1 w2)

/-- One summary with conditions is right. -/
def TcOne (P : Program) (f : Nat) (G : List A1 → Tree AV) : Prop :=
  ∀ args r, (G args).sel = some r → args.all closedA = true → ∀ F w vs, All2 (A1.Rel F w []) args vs →
    ∃ v, AV.Rel F w [] r v ∧ ∀ w1, Below w.heap.size w w1 → Calls P f vs.toArray w1 (fun e w2 => e = .returned v ∧ Below w1.heap.size w1 w2)

theorem PcOk.nil {P : Program} : PcOk P [] := by intro f G h; simp [lookPc] at h

theorem oG_sel {G : List A1 → Option AV} {args : List A1} {r : AV} (h : (oG G args).sel = some r) : G args = some r := by
  unfold oG at h
  split at h
  · rename_i x hx
    simp only [Tree.sel, Option.some.injEq] at h
    rw [hx, h]
  · simp [Tree.sel] at h

/-- the key that says that indices of arrays are known -/
def concK : Nat × (List A1 → Tree AV) := (4294967295, fun _ => .fail)

theorem concK_ok {P : Program} : TcOne P 4294967295 (fun _ => .fail) := fun _ _ h => by simp [Tree.sel] at h

theorem PcOne.tc {P : Program} {f : Nat} {G : List A1 → Option AV} (h : PcOne P f G) : TcOne P f (oG G) := fun args r hr => h args r (oG_sel hr)

theorem PcOk.cons {P : Program} {f : Nat} {G : List A1 → Tree AV} {pc} (h1 : TcOne P f G) (h2 : PcOk P pc) : PcOk P ((f, G) :: pc) := by
  intro f' G' h
  simp only [lookPc] at h
  split at h
  · rename_i e
    simp at h; subst h
    have : f = f' := by simpa using e
    subst this
    exact h1
  · exact h2 f' G' h

/-- One summary of a function that lays what it returns is right. -/
def HcOne (P : Program) (f : Nat) (G : List A1 → Option AV) : Prop :=
  ∀ args r, G args = some r → args.all closedA = true → ∀ F w vs, All2 (A1.Rel F w []) args vs →
    Calls P f vs.toArray w (fun e w2 => ∃ v, e = .returned v ∧ Below w.heap.size w w2 ∧ AV.Rel (fun p => F p ∧ p < w.heap.size) w2 [] r v)

/-- the same with conditions -/
def UcOne (P : Program) (f : Nat) (G : List A1 → Tree AV) : Prop :=
  ∀ args r, (G args).sel = some r → args.all closedA = true → ∀ F w vs, All2 (A1.Rel F w []) args vs →
    Calls P f vs.toArray w (fun e w2 => ∃ v, e = .returned v ∧ Below w.heap.size w w2 ∧ AV.Rel (fun p => F p ∧ p < w.heap.size) w2 [] r v)

theorem HcOk.nil {P : Program} : HcOk P [] := by intro f G h; simp [lookPc] at h

theorem HcOne.uc {P : Program} {f : Nat} {G : List A1 → Option AV} (h : HcOne P f G) : UcOne P f (oG G) := fun args r hr => h args r (oG_sel hr)

theorem HcOk.cons {P : Program} {f : Nat} {G : List A1 → Tree AV} {hc} (h1 : UcOne P f G) (h2 : HcOk P hc) : HcOk P ((f, G) :: hc) := by
  intro f' G' h
  simp only [lookPc] at h
  split at h
  · rename_i e
    simp at h; subst h
    have : f = f' := by simpa using e
    subst this
    exact h1
  · exact h2 f' G' h

/-- One summary of a function that works on the memory is right. -/
def McOne (P : Program) (f : Nat) (G : List A1 → Mem → Tree (AV × Mem)) : Prop :=
  ∀ args mem r mem', (G args mem).sel = some (r, mem') → ∀ F w bs vs, MemRel P F w bs mem → All2 (A1.Rel F w bs) args vs →
    Calls P f vs.toArray w (fun e w' => ∃ v F' bs', e = .returned v ∧ Ext bs.length F w bs F' w' bs' ∧ MemRel P F' w' bs' mem' ∧ AV.Rel F' w' bs' r v)

theorem McOk.nil {P : Program} : McOk P [] := by intro f G h; simp [lookMc] at h

theorem McOk.cons {P : Program} {f : Nat} {G : List A1 → Mem → Tree (AV × Mem)} {mc} (h1 : McOne P f G) (h2 : McOk P mc) : McOk P ((f, G) :: mc) := by
  intro f' G' h
  simp only [lookMc] at h
  split at h
  · rename_i e
    simp at h; subst h
    have : f = f' := by simpa using e
    subst this
    exact h1
  · exact h2 f' G' h

theorem HdOk.nil {P : Program} : HdOk P ⟨[], [], [], []⟩ := ⟨⟨PcOk.nil, HcOk.nil, McOk.nil⟩, by intro f fn c i b h _ _ _ hl; simp [lookLh] at hl⟩

theorem HdOk.tcCons {P : Program} {pc hc lh mc} {f : Nat} {G : List A1 → Tree AV} (h : HdOk P ⟨pc, hc, lh, mc⟩) (h1 : TcOne P f G) : HdOk P ⟨(f, G) :: pc, hc, lh, mc⟩ := ⟨⟨h.pc.pc.cons h1, h.pc.hc, h.pc.mc⟩, h.lh⟩

theorem HdOk.ucCons {P : Program} {pc hc lh mc} {f : Nat} {G : List A1 → Tree AV} (h : HdOk P ⟨pc, hc, lh, mc⟩) (h1 : UcOne P f G) : HdOk P ⟨pc, (f, G) :: hc, lh, mc⟩ := ⟨⟨h.pc.pc, h.pc.hc.cons h1, h.pc.mc⟩, h.lh⟩

theorem HdOk.mcCons {P : Program} {pc hc lh mc} {f : Nat} {G : List A1 → Mem → Tree (AV × Mem)} (h : HdOk P ⟨pc, hc, lh, mc⟩) (h1 : McOne P f G) : HdOk P ⟨pc, hc, lh, (f, G) :: mc⟩ := ⟨⟨h.pc.pc, h.pc.hc, h.pc.mc.cons h1⟩, h.lh⟩

theorem HdOk.pcCons {P : Program} {pc hc lh mc} {f : Nat} {G : List A1 → Option AV} (h : HdOk P ⟨pc, hc, lh, mc⟩) (h1 : PcOne P f G) : HdOk P ⟨(f, oG G) :: pc, hc, lh, mc⟩ := h.tcCons h1.tc

theorem HdOk.hcCons {P : Program} {pc hc lh mc} {f : Nat} {G : List A1 → Option AV} (h : HdOk P ⟨pc, hc, lh, mc⟩) (h1 : HcOne P f G) : HdOk P ⟨pc, (f, oG G) :: hc, lh, mc⟩ := h.ucCons h1.uc

theorem MemRel.nil {F w} : MemRel P F w [] [] := ⟨rfl, fun k x T cs h => by simp [nth] at h, fun k k' x x' T cs T' cs' h => by simp [nth] at h, fun k T cs x h => by simp [nth] at h, fun k T fz es n ρ x h => by simp [nth] at h, fun k T f i st cs x h => by simp [nth] at h⟩

/-- **A summary out of the evaluator.** -/
theorem pcOne_of_ev {P : Program} {H : Hd} (hH : HdOk P H) (n f : Nat) {G : List A1 → Option AV}
    (h : ∀ args r, G args = some r → (denA r).isSome = true ∧ (evFn P H n f args []).needs = true ∧ (evFn P H n f args []).res = r) : PcOne P f G := by
  intro args r hG hcl F w vs hargs
  obtain ⟨hd, hn, hr⟩ := h args r hG
  obtain ⟨v, hv⟩ := Option.isSome_iff_exists.1 hd
  refine ⟨v, denA_mk hv, fun w1 hw1 => ?_⟩
  obtain ⟨⟨r', m⟩, hsel⟩ := needs_sel hn
  have hargs1 : All2 (A1.Rel F w1 []) args vs := hargs.imp fun _ _ hx => A1.Rel.grow (F := F) (F' := F) (bs := []) (bs' := []) ⟨hw1.size, fun _ _ h => h, fun p hp _ => hw1.block p hp, fun _ _ h => h⟩ hx
  refine (evFn_ok0 hH n f args r' m hsel F w1 [] vs MemRel.nil hargs1).mono fun e w2 ⟨u, F', bs', he, hext, hm, hu⟩ => ?_
  have := res_rel hsel hu
  rw [hr] at this
  have := denA_ok hv this
  subst this
  exact ⟨he, hext.below⟩

/-- the same, path by path -/
theorem pcOne_of_all {P : Program} {H : Hd} (hH : HdOk P H) (n f : Nat) {G : List A1 → Option AV}
    (h : ∀ args r, G args = some r → (denA r).isSome = true ∧ (evFn P H n f args []).All (fun y => y.1 = r)) : PcOne P f G := by
  intro args r hG hcl F w vs hargs
  obtain ⟨hd, ha⟩ := h args r hG
  obtain ⟨v, hv⟩ := Option.isSome_iff_exists.1 hd
  refine ⟨v, denA_mk hv, fun w1 hw1 => ?_⟩
  obtain ⟨⟨r', m⟩, hsel, hr⟩ := all_sel ha
  simp only at hr
  subst hr
  have hargs1 : All2 (A1.Rel F w1 []) args vs := hargs.imp fun _ _ hx => A1.Rel.grow (F := F) (F' := F) (bs := []) (bs' := []) ⟨hw1.size, fun _ _ h => h, fun p hp _ => hw1.block p hp, fun _ _ h => h⟩ hx
  refine (evFn_ok0 hH n f args r' m hsel F w1 [] vs MemRel.nil hargs1).mono fun e w2 ⟨u, F', bs', he, hext, hm, hu⟩ => ?_
  have := denA_ok hv hu
  subst this
  exact ⟨he, hext.below⟩

/-- a result, as plain data -/
def outA (mem : Mem) : AV → Option AV
  | .one a => let b := view1 mem a; if closedA b then some (.one b) else none
  | .tup l => let m := l.map (view1 mem); if m.all closedA then some (.tup m) else none
  | .any => none

def hcTree (P : Program) (H : Hd) (n f : Nat) (args : List A1) : Tree AV := (evFn P H n f args []).bind fun y => Tree.ofOpt (outA y.2 y.1)

theorem outA_ok {F w bs mem} (hm : MemRel P F w bs mem) {x r : AV} {v : Value} (h : AV.Rel F w bs x v) (ho : outA mem x = some r) : AV.Rel (outF F bs) w [] r v := by
  cases x with
  | any => simp [outA] at ho
  | one a =>
    simp only [outA] at ho
    split at ho
    · rename_i hc
      simp at ho; subst ho
      exact view1_ok hm h hc
    · simp at ho
  | tup l =>
    obtain ⟨vs, rfl, h⟩ := h
    simp only [outA] at ho
    split at ho
    · rename_i hc
      simp at ho; subst ho
      refine ⟨vs, rfl, ?_⟩
      induction h with
      | nil => exact .nil
      | cons h _ ih =>
        simp only [List.map_cons, List.all_cons, Bool.and_eq_true] at hc
        exact .cons (view1_ok hm h hc.1) (ih hc.2)
    · simp at ho

/-- what holds of every value of the one holds of it as the other -/
def leA (x r : AV) : Prop := ∀ (F : Nat → Prop) (w : World) (v : Value), AV.Rel F w [] x v → AV.Rel F w [] r v

theorem leA.refl {x : AV} : leA x x := fun _ _ _ h => h

/-- **A summary of a function that lays what it returns, out of the evaluator.** -/
theorem hcOne_of_all {P : Program} {H : Hd} (hH : HdOk P H) (n f : Nat) {G : List A1 → Option AV}
    (h : ∀ args r, G args = some r → (hcTree P H n f args).All (fun x => leA x r)) : HcOne P f G := by
  intro args r hG hcl F w vs hargs
  obtain ⟨x, hsel, hle⟩ := all_sel (h args r hG)
  obtain ⟨⟨r', m⟩, h1, h2⟩ := sel_bind hsel
  have ho : outA m r' = some x := by
    cases hx : outA m r' with
    | none => rw [hx] at h2; simp [Tree.ofOpt, Tree.sel] at h2
    | some y => rw [hx] at h2; simpa [Tree.ofOpt, Tree.sel] using h2
  have hargs1 : All2 (A1.Rel (fun p => F p ∧ p < w.heap.size) w []) args vs := hargs.imp fun _ _ hx => A1.Rel.grow (bs := []) (bs' := []) ⟨Nat.le_refl _, fun _ _ h => h.1, fun _ _ _ => rfl, fun _ _ h => h⟩ hx
  refine (evFn_ok0 hH n f args r' m h1 _ w [] vs MemRel.nil hargs1).mono fun e w2 ⟨u, F', bs', he, hext, hm, hu⟩ => ?_
  refine ⟨u, he, hext.below, hle _ _ _ (AV.Rel.grow (bs := []) (bs' := []) ⟨Nat.le_refl _, fun p _ hp => ?_, fun _ _ _ => rfl, fun _ _ h => h⟩ (outA_ok hm hu ho))⟩
  refine ⟨hext.F2 p hp hp.2 (by simp), fun y hy e => ?_⟩
  rcases hext.mem y hy with ⟨z, hz, _⟩ | hs
  · cases hz
  · have := hp.2; omega

end Go.Sx
/-
  The evaluator in use (part J): loops.
-/
namespace Go.Sx
open Go Go.RowKit

variable {P : Program}

variable {D : List Deferred}

theorem All2.map_left {α β γ : Type} {R : α → β → Prop} {S : γ → β → Prop} {f : α → γ} {l : List α} {r : List β} (h : All2 R l r) (hf : ∀ a b, R a b → S (f a) b) : All2 S (l.map f) r := by
  induction h with
  | nil => exact .nil
  | cons h _ ih => exact .cons (hf _ _ h) ih

def idx : List Nat → Nat → Option Nat
  | [], _ => none
  | a :: r, b => if a == b then some 0 else match idx r b with | some n => some (n + 1) | none => none

/-- a cell behind a renumbering of the blocks; what isn't named is forgotten -/
def renC (pm : List Nat) : CV → CV
  | .ptr b o => match idx pm b with | some b' => .ptr b' o | none => .any
  | .os b sz => match idx pm b with | some b' => .os b' sz | none => .any
  | .rowp b sz i off => match idx pm b with | some b' => .rowp b' sz i off | none => .any
  | .fn f a c => .fn f (renCs pm a) (renCs pm c)
  | .yld b => match idx pm b with | some b' => .yld b' | none => .any
  | .lp f i st => .lp f i st
  | .row fz es n ρ => .row fz es n ρ
  | x => if closedC x then x else .any
 where renCs (pm : List Nat) : List CV → List CV
  | [] => []
  | a :: l => renC pm a :: renCs pm l

def ren1 (pm : List Nat) : A1 → A1
  | .c x => .c (renC pm x)
  | .agg l => .agg (l.map (renC pm))

def renA (pm : List Nat) : AV → AV
  | .one a => .one (ren1 pm a)
  | _ => .any

def renE (pm : List Nat) (mem : Mem) (b : Nat) : Option (TypeId × List CV) :=
  match nth mem b with
  | some (some (T, cs)) => some (T, cs.map (renC pm))
  | _ => none

/-- the blocks that a cell names -/
def idsC : CV → List Nat
  | .ptr b _ => [b]
  | .os b _ => [b]
  | .rowp b _ _ _ => [b]
  | .yld b => [b]
  | .fn _ a c => idsCs a ++ idsCs c
  | _ => []
 where idsCs : List CV → List Nat
  | [] => []
  | a :: l => idsC a ++ idsCs l

def idsL : List CV → List Nat
  | [] => []
  | x :: r => idsC x ++ idsL r

def idsA : AV → List Nat
  | .one (.c x) => idsC x
  | .one (.agg l) => idsL l
  | _ => []

def idsE (mem : Mem) (b : Nat) : List Nat :=
  match nth mem b with
  | some (some (_, cs)) => idsL cs
  | _ => []

/-- the blocks that are reached, in order -/
def gcGo (mem : Mem) (k0 : Nat) : Nat → List Nat → List Nat → List Nat
  | 0, _, done => done
  | _ + 1, [], done => done
  | n + 1, b :: r, done => if Nat.blt b k0 || anyN b done then gcGo mem k0 n r done else gcGo mem k0 n (r ++ idsE mem b) (done ++ [b])

def upto : Nat → List Nat
  | 0 => []
  | n + 1 => upto n ++ [n]

def idsKept (s : St) : List Nat → List Nat
  | [] => []
  | k :: r => (match nth s.tmps k with | some ⟨[], v⟩ => idsA v | _ => []) ++ idsKept s r

def idsMem (mem : Mem) : List Nat → List Nat
  | [] => []
  | k :: r => idsE mem k ++ idsMem mem r

def nodupN : List Nat → Bool
  | [] => true
  | a :: r => !anyN a r && nodupN r

def gcPerm (keep : List Nat) (k0 : Nat) (s : St) : List Nat := upto k0 ++ gcGo s.mem k0 300 (idsKept s keep ++ idsMem s.mem (upto k0)) []

def forgetL (keep : List Nat) (pm : List Nat) : Nat → List Slot → List Slot
  | _, [] => []
  | i, s :: r => (if keep.any (fun k => k == i) && s.keys.isEmpty then ⟨[], renA pm s.v⟩ else ⟨[], .any⟩) :: forgetL keep pm (i + 1) r

/-- a loop's state: the slots that are kept, the blocks that they reach -/
def St.gc (keep : List Nat) (k0 : Nat) (s : St) : Option St :=
  let pm := gcPerm keep k0 s
  if nodupN pm && pm.all (fun b => Nat.blt b s.mem.length) then some ⟨forgetL keep pm 0 s.tmps, pm.map (renE pm s.mem)⟩ else none

def gcT (keep : List Nat) (k0 : Nat) (y : XE × St) : Tree (XE × St) :=
  match y.2.gc keep k0 with
  | some s => .leaf (y.1, s)
  | none => .fail

def lookN {α : Type} : List (Nat × α) → Nat → Option α
  | [], _ => none
  | (k, v) :: r, i => if k == i then some v else lookN r i

def mkL (l : List (Nat × AV)) : Nat → Nat → List Slot
  | 0, _ => []
  | n + 1, i => (match lookN l i with | some v => ⟨[], v⟩ | none => ⟨[], .any⟩) :: mkL l n (i + 1)

def mkS (n : Nat) (l : List (Nat × AV)) (mem : Mem) : St := ⟨mkL l n 0, mem⟩

def getKept (s : St) : List Nat → Option (List (Nat × AV))
  | [] => some []
  | k :: r => match nth s.tmps k, getKept s r with
    | some ⟨[], v⟩, some l => some ((k, v) :: l)
    | _, _ => none

theorem forgetL_length (keep pm : List Nat) : ∀ (l : List Slot) (i : Nat), (forgetL keep pm i l).length = l.length
  | [], _ => rfl
  | _ :: l, i => by simp [forgetL, forgetL_length keep pm l (i + 1)]

theorem forgetL_nth (keep pm : List Nat) : ∀ (l : List Slot) (i n : Nat), nth (forgetL keep pm i l) n = (nth l n).map fun s => if keep.any (fun j => j == i + n) && s.keys.isEmpty then ⟨[], renA pm s.v⟩ else ⟨[], .any⟩
  | [], _, _ => rfl
  | s :: l, i, 0 => by simp [forgetL, nth]
  | s :: l, i, n + 1 => by
    simp only [forgetL, nth]
    rw [forgetL_nth keep pm l (i + 1) n, show i + 1 + n = i + (n + 1) by omega]

theorem idx_nth : ∀ {pm : List Nat} {b b' : Nat}, idx pm b = some b' → nth pm b' = some b
  | [], _, _, h => by simp [idx] at h
  | a :: r, b, b', h => by
    simp only [idx] at h
    split at h
    · rename_i e
      simp at h; subst h
      simpa [nth] using e
    · split at h
      · rename_i n hn
        simp at h; subst h
        simpa [nth] using idx_nth hn
      · simp at h

theorem nodupN_inj : ∀ {pm : List Nat}, nodupN pm = true → ∀ {i j b : Nat}, nth pm i = some b → nth pm j = some b → i = j
  | [], _, i, _, _, h, _ => by simp [nth] at h
  | a :: r, hn, i, j, b, hi, hj => by
    simp only [nodupN, Bool.and_eq_true, Bool.not_eq_true'] at hn
    have hno : ∀ k, nth r k ≠ some a := fun k hk => by
      have := anyN_iff.2 (nth_mem hk)
      rw [hn.1] at this
      cases this
    cases i with
    | zero =>
      simp [nth] at hi
      subst hi
      cases j with
      | zero => rfl
      | succ j => exact (hno j (by simpa [nth] using hj)).elim
    | succ i => cases j with
      | zero =>
        simp [nth] at hj
        subst hj
        exact (hno i (by simpa [nth] using hi)).elim
      | succ j =>
        have := nodupN_inj hn.2 (i := i) (j := j) (b := b) (by simpa [nth] using hi) (by simpa [nth] using hj)
        omega

theorem upto_length : ∀ k, (upto k).length = k
  | 0 => rfl
  | k + 1 => by simp [upto, upto_length k]

theorem upto_nth : ∀ {k i : Nat}, i < k → nth (upto k) i = some i
  | k + 1, i, h => by
    simp only [upto]
    rcases Nat.lt_or_eq_of_le (Nat.le_of_lt_succ h) with h' | rfl
    · exact nth_append (upto_nth h')
    · have := nth_append_last (upto i) i
      rwa [upto_length] at this

/-- where the blocks lie behind the renumbering -/
def renB (pm : List Nat) (bs : List BI) : List BI := pm.map fun b => match nth bs b with | some x => x | none => ⟨0, 0, 0⟩

theorem renB_nth {pm : List Nat} {bs : List BI} {b b' : Nat} {x : BI} (h : nth pm b' = some b) (hx : nth bs b = some x) : nth (renB pm bs) b' = some x := by
  rw [nth_eq] at h
  rw [renB, nth_eq, List.getElem?_map, h]
  simp [hx]

theorem renC_ok {F : Nat → Prop} {w : World} {bs : List BI} {pm : List Nat} {x : CV} {v : Value} (h : CV.Rel F w bs x v) : CV.Rel F w (renB pm bs) (renC pm x) v := by
  have hcs : ∀ (l : List CV) (i : Nat) (x : CV), nth (renC.renCs pm l) i = some x → ∃ y, nth l i = some y ∧ x = renC pm y := by
    intro l
    induction l with
    | nil => intro i x h; simp [renC.renCs, nth] at h
    | cons a l ih =>
      intro i x h
      cases i with
      | zero => simp [renC.renCs, nth] at h; exact ⟨a, rfl, h.symm⟩
      | succ n => exact ih n x (by simpa [renC.renCs, nth] using h)
  have hlen : ∀ l : List CV, (renC.renCs pm l).length = l.length := by
    intro l
    induction l with
    | nil => rfl
    | cons a l ih => simp [renC.renCs, ih]
  induction h with
  | any h => exact .any h
  | bool b => exact .bool b
  | int k n => exact .int k n
  | str s => exact .str s
  | nilp => exact .nilp
  | nils => exact .nils
  | nilf => exact .nilf
  | ost h hl => exact .any rfl
  | osh h hl h0 => exact .any rfl
  | nili => exact .nili
  | ptr h =>
    simp only [renC]
    split
    · rename_i hi; exact .ptr (renB_nth (idx_nth hi) h)
    · exact .any rfl
  | os h hb =>
    simp only [renC]
    split
    · rename_i hi; exact .os (renB_nth (idx_nth hi) h) hb
    · exact .any rfl
  | rowp h hi' =>
    simp only [renC]
    split
    · rename_i hi; exact .rowp (renB_nth (idx_nth hi) h) hi'
    · exact .any rfl
  | yld h =>
    simp only [renC]
    split
    · rename_i hi; exact .yld (renB_nth (idx_nth hi) h)
    · exact .any rfl
  | rop val hb hF hc hr _ => exact .rop val hb hF hc hr
  | slnil => exact .slnil
  | sl val hn h0 hc hr _ => exact .sl val hn h0 hc hr
  | fn l1 l2 r1 r2 ih1 ih2 =>
    refine .fn (by rw [hlen]; exact l1) (by rw [hlen]; exact l2) (fun i x v h1 h2 => ?_) (fun i x v h1 h2 => ?_)
    · obtain ⟨y, hy, rfl⟩ := hcs _ _ _ h1
      exact ih1 i y v hy h2
    · obtain ⟨y, hy, rfl⟩ := hcs _ _ _ h1
      exact ih2 i y v hy h2
  | iface h _ =>
    simp only [renC]
    split
    · rename_i hc
      exact .iface (h.closed (by simpa [closedC] using hc))
    · exact .any rfl

theorem renA_ok {F : Nat → Prop} {w : World} {bs : List BI} {pm : List Nat} {x : AV} {v : Value} (h : AV.Rel F w bs x v) : AV.Rel F w (renB pm bs) (renA pm x) v := by
  cases x with
  | any => trivial
  | tup l => trivial
  | one a => cases a with
    | c x => exact renC_ok h
    | agg l =>
      obtain ⟨vs, rfl, h⟩ := h
      exact ⟨vs, rfl, h.map_left fun _ _ h => renC_ok h⟩

theorem ren_row {pm : List Nat} {cs : List CV} {fz : Bool} {es : List Sh} {n : Nat} {ρ : Val} (h : cs.map (renC pm) = [.row fz es n ρ]) : cs = [.row fz es n ρ] := by
  match cs, h with
  | [c], h =>
    simp only [List.map_cons, List.map_nil, List.cons.injEq, and_true] at h
    cases c <;> simp only [renC] at h <;> first | exact congrArg (fun x => [x]) h | (split at h <;> cases h) | cases h
  | [], h => simp at h
  | _ :: _ :: _, h => simp at h

theorem ren_isRow {pm : List Nat} {cs : List CV} (h : isRowL (cs.map (renC pm)) = false) : isRowL cs = false := by
  cases hr : isRowL cs
  · rfl
  · unfold isRowL at hr
    split at hr
    · simp [renC, isRowL] at h
    · simp [renC, isRowL] at h
    · cases hr

theorem ren_lp {pm : List Nat} {cs cs' : List CV} {f i : Nat} {st : LpS} (h : cs.map (renC pm) = .lp f i st :: cs') : ∃ ds, cs = .lp f i st :: ds ∧ cs' = ds.map (renC pm) := by
  match cs, h with
  | c :: ds, h =>
    simp only [List.map_cons, List.cons.injEq] at h
    refine ⟨ds, ?_, h.2.symm⟩
    have h1 := h.1
    cases c <;> simp only [renC] at h1 <;> first | (rw [h1]; done) | (split at h1 <;> cases h1) | cases h1
  | [], h => simp at h

theorem ren_any {pm : List Nat} {c : CV} (h : isAny (renC pm c) = false) : isAny c = false := by
  cases c <;> first | rfl | simp [renC, closedC, isAny] at h

theorem ren_live {x : BI} {pm : List Nat} {cs : List CV} (h : liveL x (cs.map (renC pm))) : liveL x cs := by
  unfold liveL
  split
  · simpa [renC, liveL] using h
  · trivial

theorem MemRel.ren {F w bs mem} (hm : MemRel P F w bs mem) {pm : List Nat} (hn : nodupN pm = true) (hl : ∀ b ∈ pm, b < mem.length) : MemRel P F w (renB pm bs) (pm.map (renE pm mem)) := by
  have key : ∀ k T cs, nth (pm.map (renE pm mem)) k = some (some (T, cs)) → ∃ b cs0, nth pm k = some b ∧ nth mem b = some (some (T, cs0)) ∧ cs = cs0.map (renC pm) := by
    intro k T cs h
    rw [nth_eq, List.getElem?_map] at h
    simp only [Option.map_eq_some_iff] at h
    obtain ⟨b, hb, he⟩ := h
    unfold renE at he
    split at he
    · rename_i T' cs0 hmem
      simp at he
      obtain ⟨rfl, rfl⟩ := he
      exact ⟨b, cs0, by rw [nth_eq]; exact hb, hmem, rfl⟩
    · cases he
  have keyb : ∀ k b x, nth pm k = some b → nth (renB pm bs) k = some x → nth bs b = some x := by
    intro k b x hk hx
    have hlt : b < bs.length := by rw [hm.len]; exact hl b (nth_mem hk)
    have hb : nth bs b = some bs[b] := by rw [nth_eq]; exact List.getElem?_eq_getElem hlt
    rw [renB_nth hk hb] at hx
    simp at hx; subst hx
    exact hb
  refine ⟨by simp [renB], fun k x T cs hk hc hv => ?_, fun k k' x x' T cs T' cs' hk hk' hc hc' hv hv' hp => ?_, fun k T cs x hc hr hk => ?_, fun k T fz es n ρ x hc hk => ?_, fun k T f i st cs x hc hk => ?_⟩
  · obtain ⟨b, cs0, hb, hmem, rfl⟩ := key k T cs hc
    exact hm.loc b x T cs0 (keyb k b x hb hk) hmem (ren_live hv)
  · obtain ⟨b, cs0, hb, hmem, rfl⟩ := key k T cs hc
    obtain ⟨b', cs0', hb', hmem', rfl⟩ := key k' T' cs' hc'
    have := hm.inj b b' x x' T cs0 T' cs0' (keyb k b x hb hk) (keyb k' b' x' hb' hk') hmem hmem' (ren_live hv) (ren_live hv') hp
    subst this
    exact nodupN_inj hn hb hb'
  · obtain ⟨b, cs0, hb, hmem, rfl⟩ := key k T cs hc
    obtain ⟨vs, h1, h2⟩ := hm.cont b T cs0 x hmem (ren_isRow hr) (keyb k b x hb hk)
    exact ⟨vs, h1, h2.map_left fun _ _ h => renC_ok h⟩
  · obtain ⟨b, cs0, hb, hmem, he⟩ := key k T _ hc
    have := ren_row he.symm
    subst this
    exact hm.row b T fz es n ρ x hmem (keyb k b x hb hk)
  · obtain ⟨b, cs0, hb, hmem, he⟩ := key k T _ hc
    obtain ⟨ds, rfl, rfl⟩ := ren_lp he.symm
    obtain ⟨R, h1, h2, h4, h5, h6⟩ := hm.lp b T f i st ds x hmem (keyb k b x hb hk)
    refine ⟨R, h1, h2, h4, by simpa using h5, fun j c v hj hv ha => ?_⟩
    rw [nth_eq, List.getElem?_map] at hj
    simp only [Option.map_eq_some_iff] at hj
    obtain ⟨c0, hc0, rfl⟩ := hj
    exact renC_ok (h6 j c0 v (by rw [nth_eq]; exact hc0) hv (ren_any ha))

theorem mkL_nth (l : List (Nat × AV)) : ∀ (n i k : Nat), nth (mkL l n i) k = if k < n then some (match lookN l (i + k) with | some v => ⟨[], v⟩ | none => ⟨[], .any⟩) else none
  | 0, _, _ => by simp [mkL, nth]
  | n + 1, i, 0 => by simp [mkL, nth]
  | n + 1, i, k + 1 => by
    simp only [mkL, nth]
    rw [mkL_nth l n (i + 1) k, show i + 1 + k = i + (k + 1) by omega]
    simp

theorem getKept_look {s : St} : ∀ {keep : List Nat} {l : List (Nat × AV)}, getKept s keep = some l → ∀ i, (if keep.any (fun j => j == i) then ∃ v, nth s.tmps i = some ⟨[], v⟩ ∧ lookN l i = some v else lookN l i = none)
  | [], l, h, i => by simp [getKept] at h; subst h; simp [lookN]
  | k :: r, l, h, i => by
    simp only [getKept] at h
    split at h
    · rename_i v l' hk hl
      simp at h; subst h
      have ih := getKept_look hl i
      by_cases e : k = i
      · subst e
        simp [lookN, hk]
      · simp only [List.any_cons, lookN]
        have : (k == i) = false := by simpa using e
        simpa [this] using ih
    · simp at h

theorem gc_some {keep : List Nat} {k0 : Nat} {s s' : St} (h : s.gc keep k0 = some s') : ∃ pm, nodupN pm = true ∧ (∀ b ∈ pm, b < s.mem.length) ∧ (∀ i, i < k0 → nth pm i = some i) ∧ s' = ⟨forgetL keep pm 0 s.tmps, pm.map (renE pm s.mem)⟩ := by
  unfold St.gc at h
  simp only at h
  split at h
  · rename_i hc
    simp at h; subst h
    rw [Bool.and_eq_true, List.all_eq_true] at hc
    exact ⟨_, hc.1, fun b hb => Nat.blt_eq.mp (hc.2 b hb), fun i hi => nth_append (upto_nth hi), rfl⟩
  · cases h

theorem gc_eq {s s' : St} {keep : List Nat} {k0 : Nat} {l : List (Nat × AV)} (hg : s.gc keep k0 = some s') (h : getKept s' keep = some l) : s' = mkS s.tmps.length l s'.mem := by
  obtain ⟨pm, _, _, _, rfl⟩ := gc_some hg
  unfold mkS
  have ht : forgetL keep pm 0 s.tmps = mkL l s.tmps.length 0 := by
    apply List.ext_getElem?
    intro i
    rw [← nth_eq, ← nth_eq, mkL_nth]
    have := getKept_look h i
    simp only [Nat.zero_add]
    rcases Nat.lt_or_ge i s.tmps.length with hi | hi
    · rw [if_pos hi]
      by_cases hk : keep.any (fun j => j == i) = true
      · rw [if_pos hk] at this
        obtain ⟨v, hv, hl⟩ := this
        rw [hl]
        exact hv
      · rw [if_neg hk] at this
        rw [this]
        rw [forgetL_nth]
        have hn : nth s.tmps i = some s.tmps[i] := by rw [nth_eq]; exact List.getElem?_eq_getElem hi
        rw [hn]
        simp [hk]
    · rw [if_neg (by omega)]
      rw [nth_eq]
      exact List.getElem?_eq_none (by rw [forgetL_length]; exact hi)
  rw [ht]

theorem StRel.gc {F w bs s s'} {a : Act} (hs : StRel P D F w bs s a) {keep : List Nat} {k0 : Nat} (hg : s.gc keep k0 = some s') : ∃ bs', Ext k0 F w bs F w bs' ∧ k0 ≤ bs'.length ∧ StRel P D F w bs' s' a := by
  obtain ⟨pm, hn, hl, hk, rfl⟩ := gc_some hg
  have hlen : ∀ i, i < k0 → i < pm.length := fun i hi => nth_lt (hk i hi)
  refine ⟨renB pm bs, ⟨Nat.le_refl _, fun _ _ h => h, fun _ h _ _ => h, fun _ _ _ => rfl, rfl, rfl, rfl, fun k x hk' hx => renB_nth (hk k hk') hx, fun x hx => ?_⟩, ?_, hs.defers, by simp [forgetL_length, hs.len], fun i sl x h1 h2 => ?_, hs.mem.ren hn hl⟩
  · simp only [renB, List.mem_map] at hx
    obtain ⟨b, hb, rfl⟩ := hx
    have hlt : b < bs.length := by rw [hs.mem.len]; exact hl b hb
    have hb' : nth bs b = some bs[b] := by rw [nth_eq]; exact List.getElem?_eq_getElem hlt
    rw [hb']
    exact .inl ⟨_, nth_mem hb', rfl⟩
  · simp only [renB, List.length_map]
    rcases Nat.eq_zero_or_pos k0 with h | h
    · omega
    · have := hlen (k0 - 1) (by omega)
      omega
  · simp only at h1
    rw [forgetL_nth] at h1
    simp only [Option.map_eq_some_iff] at h1
    obtain ⟨s0, h0, rfl⟩ := h1
    split
    · rename_i hc
      simp only [Bool.and_eq_true, List.isEmpty_iff] at hc
      have := (hs.slots i s0 x h0 h2).1 (by rw [hc.2]; exact KH_nil)
      exact ⟨fun _ => renA_ok this, fun h => (h KH_nil).elim⟩
    · exact ⟨fun _ => trivial, fun h => (h KH_nil).elim⟩

def loopBody (P : Program) (f i : Nat) : Code :=
  match nth P.funcs.toList f with
  | some fn => match fn.body with
    | some c => match nthLoop c i with
      | some b => b
      | none => .skip
    | none => .skip
  | none => .skip

theorem nthLoop_in : ∀ {c : Code} {i : Nat} {b : Code}, nthLoop c i = some b → ∀ {j b'}, nthLoop b j = some b' → nthLoop c (i + 1 + j) = some b'
  | .skip, _, _, h, _, _, _ => by simp [nthLoop] at h
  | .region _ _ _, _, _, h, _, _, _ => by simp [nthLoop] at h
  | .seq x y, i, b, h, j, b', hj => by
    simp only [nthLoop] at h ⊢
    split at h
    · rename_i hi
      have h2 := nthLoop_in h hj
      have : i + 1 + j < nloops x := by
        rcases Nat.lt_or_ge (i + 1 + j) (nloops x) with h' | h'
        · exact h'
        · rw [evCode_ok.nthLoop_none x _ h'] at h2; simp at h2
      rw [if_pos this]; exact h2
    · rename_i hi
      rw [if_neg (by omega), show i + 1 + j - nloops x = i - nloops x + 1 + j by omega]
      exact nthLoop_in h hj
  | .cond _ x y, i, b, h, j, b', hj => by
    simp only [nthLoop] at h ⊢
    split at h
    · rename_i hi
      have h2 := nthLoop_in h hj
      have : i + 1 + j < nloops x := by
        rcases Nat.lt_or_ge (i + 1 + j) (nloops x) with h' | h'
        · exact h'
        · rw [evCode_ok.nthLoop_none x _ h'] at h2; simp at h2
      rw [if_pos this]; exact h2
    · rename_i hi
      rw [if_neg (by omega), show i + 1 + j - nloops x = i - nloops x + 1 + j by omega]
      exact nthLoop_in h hj
  | .block _ x, i, b, h, j, b', hj => by simp only [nthLoop] at h ⊢; exact nthLoop_in h hj
  | .loop x, 0, b, h, j, b', hj => by
    simp only [nthLoop] at h
    simp at h; subst h
    rw [show 0 + 1 + j = j + 1 by omega]
    simpa [nthLoop] using hj
  | .loop x, i + 1, b, h, j, b', hj => by
    simp only [nthLoop] at h
    rw [show i + 1 + 1 + j = (i + 1 + j) + 1 by omega]
    simp only [nthLoop]
    exact nthLoop_in h hj
  | .scope x, i, b, h, j, b', hj => by simp only [nthLoop] at h ⊢; exact nthLoop_in h hj
  | .rangeFunc _ _ x y, i, b, h, j, b', hj => by
    simp only [nthLoop] at h ⊢
    split at h
    · rename_i hi
      have h2 := nthLoop_in h hj
      have : i + 1 + j < nloops x := by
        rcases Nat.lt_or_ge (i + 1 + j) (nloops x) with h' | h'
        · exact h'
        · rw [evCode_ok.nthLoop_none x _ h'] at h2; simp at h2
      rw [if_pos this]; exact h2
    · rename_i hi
      rw [if_neg (by omega), show i + 1 + j - nloops x = i - nloops x + 1 + j by omega]
      exact nthLoop_in h hj
  | .exit _, _, _, h, _, _, _ => by simp [nthLoop] at h
  | .label _, _, _, h, _, _, _ => by simp [nthLoop] at h
  | .goto _, _, _, h, _, _, _ => by simp [nthLoop] at h
  | .ret, _, _, h, _, _, _ => by simp [nthLoop] at h
  | .refuse _, _, _, h, _, _, _ => by simp [nthLoop] at h

/-- a loop, entered in the states of a family -/
theorem loop_at {P : Program} {H : Hd} (hH : HdOk P H) (d f i : Nat) {fn : Func} {c b : Code} (hf : P.funcs[f]? = some fn) (hc : fn.body = some c) (hb : nthLoop c i = some b) {X : Type} (keep : List Nat) (k0 : Nat) (S : X → St) (T : X → Tree (XE × St))
    (hT : ∀ x, ((evCode P H (evFn P H d) f k0 (i + 1) b (S x)).bind fun y => gcT keep k0 y) = T x)
    (Inv : X → Prop) (μ : X → Nat) (fin : X → XE × St)
    (step : ∀ x, Inv x → ∃ e s, (T x).sel = some (e, s) ∧ ((e = .normal ∧ ∃ x', s = S x' ∧ Inv x' ∧ μ x' < μ x ∧ fin x' = fin x) ∨ (e ≠ .normal ∧ fin x = (e, s)))) :
    ∀ (lr : Option Nat) (nn : Nat) x, Inv x → ∀ F w bs a, k0 ≤ bs.length → StRel P D F w bs (S x) a → ∀ Q : Exit → Act → World → Prop,
      (∀ F' w' bs' a', Ext k0 F w bs F' w' bs' → StRel P D F' w' bs' (fin x).2 a' → Q (xe (fin x).1) a' w') → (Code.loop b).wpIn (FW lr) nn P Q a w := by
  intro lr nn x0 h0 F w bs a hlen hs Q hQ
  refine wpIn_loop_ghost (fun n a' w' => ∃ x F' bs', Inv x ∧ μ x = n ∧ fin x = fin x0 ∧ k0 ≤ bs'.length ∧ Ext k0 F w bs F' w' bs' ∧ StRel P D F' w' bs' (S x) a') (μ x0) ⟨x0, F, bs, h0, rfl, rfl, hlen, Ext.refl, hs⟩ ?_
  rintro n a' w' ⟨x, F', bs', hI, rfl, hfin, hlen', hext, hs'⟩
  obtain ⟨e, s, hsel, hcase⟩ := step x hI
  rw [← hT] at hsel
  obtain ⟨⟨e1, s1⟩, h1, h2⟩ := sel_bind hsel
  unfold gcT at h2
  simp only at h2
  split at h2
  · rename_i s2 hg
    simp only [Tree.sel, Option.some.injEq, Prod.mk.injEq] at h2
    obtain ⟨rfl, rfl⟩ := h2
    refine evCode_ok hH.pc (evFn_ok hH d) f k0 b (i + 1) (S x) h1 (fun j b' h hj hk => hH.lh f fn c (i + 1 + j) b' h hf hc (nthLoop_in hb hj) hk) hlen' hs' fun F'' w'' bs'' a'' he hs'' => ?_
    obtain ⟨bs3, e3, hl3, hs3⟩ := hs''.gc hg
    have het := (hext.trans he (Nat.le_refl _)).trans e3 (Nat.le_refl _)
    rcases hcase with ⟨he1, x', hx', hI', hlt, hf'⟩ | ⟨he1, hf'⟩
    · subst he1
      simp only [xe, Exit.then]
      exact ⟨μ x', hlt, x', F'', bs3, hI', rfl, hf'.trans hfin, hl3, het, hx' ▸ hs3⟩
    · have hq := hQ F'' w'' bs3 a'' het (by rw [← hfin, hf']; exact hs3)
      rw [← hfin, hf'] at hq
      cases e1 with
      | normal => exact (he1 rfl).elim
      | exit k => exact hq
      | ret => exact hq
  · simp [Tree.sel] at h2

theorem HdOk.lhCons {P : Program} {pc hc lh mc} {f i : Nat} {h : Nat → St → Tree (XE × St)} (hH : HdOk P ⟨pc, hc, lh, mc⟩) (h1 : ∀ fn c b, P.funcs[f]? = some fn → fn.body = some c → nthLoop c i = some b → LoopOk P b h) : HdOk P ⟨pc, hc, ((f, i), h) :: lh, mc⟩ := by
  refine ⟨⟨hH.pc.pc, hH.pc.hc, hH.pc.mc⟩, fun f' fn c j b h' hf hc hb hl => ?_⟩
  simp only [lookLh] at hl
  split at hl
  · rename_i e
    simp only [Bool.and_eq_true, beq_iff_eq] at e
    simp at hl; subst hl
    obtain ⟨e1, e2⟩ := e
    subst e1; subst e2
    exact h1 fn c b hf hc hb
  · exact hH.lh f' fn c j b h' hf hc hb hl

/-- rounds of a loop, one behind the other -/
def iter {X : Type} (TX : X → Tree (XE × X)) : Nat → X → XE × X
  | 0, x => (.normal, x)
  | n + 1, x => match (TX x).sel with
    | some (.normal, x') => iter TX n x'
    | some (.exit k, x') => (.exit k, x')
    | some (.ret, x') => (.ret, x')
    | none => (.normal, x)

/-- how a loop ends -/
def fin {X : Type} (TX : X → Tree (XE × X)) (μ : X → Nat) (x : X) : XE × X := iter TX (μ x + 1) x

/-- each round keeps the invariant, and comes nearer to the end; whatever leaves the loop satisfies Q -/
def Rounds {X : Type} (TX : X → Tree (XE × X)) (inv : X → Prop) (μ : X → Nat) (Q : XE × X → Prop) : Prop :=
  ∀ x, inv x → (TX x).All fun y => match y.1 with
    | .normal => inv y.2 ∧ μ y.2 < μ x
    | e => Q (e, y.2)

theorem iter_fuel {X : Type} {TX : X → Tree (XE × X)} {inv : X → Prop} {μ : X → Nat} {Q : XE × X → Prop} (h : Rounds TX inv μ Q) : ∀ (m : Nat) (x : X), μ x = m → inv x → ∀ n, m < n → iter TX n x = iter TX (m + 1) x := by
  intro m
  induction m using Nat.strongRecOn with
  | _ m ih =>
    intro x hm hi n hn
    obtain ⟨⟨e, x'⟩, hsel, hy⟩ := all_sel (h x hi)
    obtain ⟨n, rfl⟩ : ∃ k, n = k + 1 := ⟨n - 1, by omega⟩
    simp only [iter, hsel]
    cases e with
    | normal =>
      simp only at hy ⊢
      rw [ih (μ x') (by omega) x' rfl hy.1 n (by omega), ih (μ x') (by omega) x' rfl hy.1 m (by omega)]
    | exit k => rfl
    | ret => rfl

theorem fin_post {X : Type} {TX : X → Tree (XE × X)} {inv : X → Prop} {μ : X → Nat} {Q : XE × X → Prop} (h : Rounds TX inv μ Q) : ∀ (m : Nat) (x : X), μ x = m → inv x → (fin TX μ x).1 ≠ .normal ∧ Q (fin TX μ x) := by
  intro m
  induction m using Nat.strongRecOn with
  | _ m ih =>
    intro x hm hi
    obtain ⟨⟨e, x'⟩, hsel, hy⟩ := all_sel (h x hi)
    have key : fin TX μ x = match e with | .normal => iter TX (μ x) x' | .exit k => (.exit k, x') | .ret => (.ret, x') := by
      unfold fin
      simp only [iter, hsel]
      cases e <;> rfl
    rw [key]
    cases e with
    | normal =>
      simp only at hy ⊢
      rw [iter_fuel h (μ x') x' rfl hy.1 (μ x) hy.2]
      exact ih (μ x') (by omega) x' rfl hy.1
    | exit k => exact ⟨by simp, hy⟩
    | ret => exact ⟨by simp, hy⟩

theorem fin_step {X : Type} {TX : X → Tree (XE × X)} {inv : X → Prop} {μ : X → Nat} {Q : XE × X → Prop} (h : Rounds TX inv μ Q) {x : X} (hi : inv x) :
    (TX x).All fun y => (y.1 = .normal ∧ inv y.2 ∧ μ y.2 < μ x ∧ fin TX μ y.2 = fin TX μ x) ∨ (y.1 ≠ .normal ∧ fin TX μ x = y) := by
  have h0 := h x hi
  have key : ∀ y, (TX x).sel = some y → fin TX μ x = match y.1 with | .normal => iter TX (μ x) y.2 | .exit k => (.exit k, y.2) | .ret => (.ret, y.2) := by
    rintro ⟨e, x'⟩ hsel
    unfold fin
    simp only [iter, hsel]
    cases e <;> rfl
  have gen : ∀ t : Tree (XE × X), (∀ y, t.sel = some y → fin TX μ x = match y.1 with | .normal => iter TX (μ x) y.2 | .exit k => (.exit k, y.2) | .ret => (.ret, y.2)) →
      (t.All fun y => match y.1 with | .normal => inv y.2 ∧ μ y.2 < μ x | e => Q (e, y.2)) → t.All fun y => (y.1 = .normal ∧ inv y.2 ∧ μ y.2 < μ x ∧ fin TX μ y.2 = fin TX μ x) ∨ (y.1 ≠ .normal ∧ fin TX μ x = y) := by
    intro t
    induction t with
    | leaf y =>
      intro hk hy
      obtain ⟨e, x'⟩ := y
      have hk := hk (e, x') rfl
      cases e with
      | normal =>
        simp only [Tree.All] at hy hk
        refine .inl ⟨rfl, hy.1, hy.2, ?_⟩
        show fin TX μ x' = _
        rw [hk, iter_fuel h (μ x') x' rfl hy.1 (μ x) hy.2]
        rfl
      | exit k => exact .inr ⟨by simp, hk⟩
      | ret => exact .inr ⟨by simp, hk⟩
    | br c t e iht ihe =>
      intro hk hy
      refine ⟨fun hc => iht (fun y hs => hk y ?_) (hy.1 hc), fun hc => ihe (fun y hs => hk y ?_) (hy.2 hc)⟩
      · simp only [Tree.sel, hc, cond_true]; exact hs
      · simp only [Tree.sel, hc, cond_false]; exact hs
    | need c t ih =>
      intro hk hy
      refine ⟨hy.1, ih (fun y hs => hk y ?_) hy.2⟩
      simp only [Tree.sel, hy.1, cond_true]; exact hs
    | fail => intro _ hy; exact hy
  exact gen (TX x) key h0

def eqXE : XE → XE → Bool
  | .normal, .normal => true
  | .ret, .ret => true
  | .exit a, .exit b => a == b
  | _, _ => false

theorem eqXE_iff {a b : XE} : eqXE a b = true ↔ a = b := by
  cases a <;> cases b <;> simp [eqXE]

/-- the ways out of a loop -/
def outT {X : Type} (S : X → St) (y : XE × X) : List XE → Tree (XE × St)
  | [] => .fail
  | [e] => .need (eqXE y.1 e) (.leaf (e, S y.2))
  | e :: r => .br (eqXE y.1 e) (.leaf (e, S y.2)) (outT S y r)

/-- the one way out -/
def outOne {X : Type} (S : X → St) (y : XE × X) (e : XE) : Tree (XE × St) := .leaf (e, S y.2)

theorem outT_sel {X : Type} {S : X → St} {y : XE × X} : ∀ {es : List XE} {z : XE × St}, (outT S y es).sel = some z → z = (y.1, S y.2)
  | [], z, h => by simp [outT, Tree.sel] at h
  | [e], z, h => by
    simp only [outT, Tree.sel] at h
    cases he : eqXE y.1 e <;> simp [he] at h
    rw [eqXE_iff.1 he, ← h]
  | e :: e' :: r, z, h => by
    simp only [outT, Tree.sel] at h
    cases he : eqXE y.1 e
    · simp only [he, cond_false] at h
      exact outT_sel h
    · simp only [he, cond_true, Option.some.injEq] at h
      rw [eqXE_iff.1 he, ← h]

/-- a loop's summary: 'get' reads off the state what stays (C) and what turns (V); 'es': the ways out; 'k0': how many blocks stay in their places -/
def loopH {C V : Type} (keep : List Nat) (k0 n : Nat) (get : List (Nat × AV) → Mem → Option (C × V)) (inv : C → V → Bool) (S : C → V → St) (f : C → V → XE × V) (es : List XE) (K : Nat) (s : St) : Tree (XE × St) :=
  if s.tmps.length == n && Nat.ble K k0 then
    match s.gc keep k0 with
    | some s' => match getKept s' keep with
      | some l => match get l s'.mem with
        | some (c, v) => .need (inv c v) (outT (S c) (f c v) es)
        | none => .fail
      | none => .fail
    | none => .fail
  else .fail

theorem loopOk_of {P : Program} {H : Hd} (hH : HdOk P H) (d f i : Nat) {fn : Func} {c b : Code} (hf : P.funcs[f]? = some fn) (hc : fn.body = some c) (hb : nthLoop c i = some b) {C V : Type} (keep : List Nat) (k0 n : Nat) (S : C → V → St) (TX : C → V → Tree (XE × V))
    (hT : ∀ c v, ((evCode P H (evFn P H d) f k0 (i + 1) (loopBody P f i) (S c v)).bind fun y => gcT keep k0 y) = (TX c v).bind fun y => .leaf (y.1, S c y.2))
    (get : List (Nat × AV) → Mem → Option (C × V)) (inv : C → V → Bool) (μ : C → V → Nat) (es : List XE) {Q : C → XE × V → Prop}
    (hget : ∀ l m c v, get l m = some (c, v) → mkS n l m = S c v)
    (step : ∀ c, Rounds (TX c) (fun v => inv c v = true) (μ c) (Q c)) :
    LoopOk P b (loopH keep k0 n get inv S (fun c => fin (TX c) (μ c)) es) := by
  have hlb : loopBody P f i = b := by
    unfold loopBody
    rw [nth_eq]
    simp only [Array.getElem?_toList, hf, hc, hb]
  rw [hlb] at hT
  intro K s y hy lr nn D F w bs a _ hs Q' hQ
  unfold loopH at hy
  split at hy
  · rename_i hlen
    rw [Bool.and_eq_true] at hlen
    have hKk := Nat.ble_eq.mp hlen.2
    have hlen : s.tmps.length = n := by simpa using hlen.1
    split at hy
    · rename_i s' hg
      split at hy
      · rename_i l hl
        split at hy
        · rename_i cc x hx
          simp only [Tree.sel] at hy
          cases hi : inv cc x <;> simp [hi] at hy
          have hy2 := outT_sel hy
          subst hy2
          have e := gc_eq hg hl
          rw [hlen, hget l _ cc x hx] at e
          obtain ⟨bs1, he1, hl1, hs2⟩ := hs.gc hg
          rw [e] at hs2
          refine loop_at hH d f i hf hc hb keep k0 (S cc) (fun x => (TX cc x).bind fun y => .leaf (y.1, S cc y.2)) (hT cc) (fun x => inv cc x = true) (μ cc) (fun x => ((fin (TX cc) (μ cc) x).1, S cc (fin (TX cc) (μ cc) x).2)) (fun x hx => ?_) lr nn x hi F w bs1 a hl1 hs2 Q' fun F' w' bs' a' he hs' => hQ F' w' bs' a' ((he1.trans he (Nat.le_refl _)).weak hKk) hs'
          obtain ⟨y, h1, h2⟩ := all_sel (fin_step (step cc) hx)
          refine ⟨y.1, S cc y.2, ?_, ?_⟩
          · have gen : ∀ t : Tree (XE × V), t.sel = some y → (t.bind fun y => Tree.leaf (y.1, S cc y.2)).sel = some (y.1, S cc y.2) := by
              intro t
              induction t with
              | leaf z => intro h; simp [Tree.sel] at h; subst h; rfl
              | br c t e iht ihe =>
                intro h
                simp only [Tree.bind, Tree.sel] at h ⊢
                cases c
                · exact ihe h
                · exact iht h
              | need c t ih =>
                intro h
                simp only [Tree.bind, Tree.sel] at h ⊢
                cases c
                · simp at h
                · exact ih h
              | fail => intro h; simp [Tree.sel] at h
            exact gen (TX cc x) h1
          · rcases h2 with ⟨he, hi2, hlt, hfe⟩ | ⟨he, hfe⟩
            · exact .inl ⟨he, y.2, rfl, hi2, hlt, by rw [hfe]⟩
            · exact .inr ⟨he, by rw [hfe]⟩
        · simp [Tree.sel] at hy
      · simp [Tree.sel] at hy
    · simp [Tree.sel] at hy
  · simp [Tree.sel] at hy

/-- a loop, round by round -/
def unrollH (P : Program) (H : Hd) (d f i : Nat) : Nat → Nat → St → Tree (XE × St)
  | 0, _, _ => .fail
  | n + 1, K, s => (evCode P H (evFn P H d) f K (i + 1) (loopBody P f i) s).bind fun y => match y.1 with
    | .normal => unrollH P H d f i n K y.2
    | e => .leaf (e, y.2)

theorem unroll_ok {P : Program} {H : Hd} (hH : HdOk P H) (d f i : Nat) {fn : Func} {c b : Code} (hf : P.funcs[f]? = some fn) (hc : fn.body = some c) (hb : nthLoop c i = some b) (n : Nat) : LoopOk P b (unrollH P H d f i n) := by
  have hlb : loopBody P f i = b := by
    unfold loopBody
    rw [nth_eq]
    simp only [Array.getElem?_toList, hf, hc, hb]
  have key : ∀ (lr : Option Nat) (nn : Nat) (D : List Deferred) (n K : Nat) (s : St) (x : XE × St), (unrollH P H d f i n K s).sel = some x → ∀ (F : Nat → Prop) (w : World) (bs : List BI) (a : Act), K ≤ bs.length → StRel P D F w bs s a → ∀ Q : Exit → Act → World → Prop,
      (∀ F' w' bs' a', Ext K F w bs F' w' bs' → StRel P D F' w' bs' x.2 a' → Q (xe x.1) a' w') → Code.roundsIn (FW lr) nn P b Q n a w := by
    intro lr nn D n
    induction n with
    | zero => intro K s x h; simp [unrollH, Tree.sel] at h
    | succ n ih =>
      intro K s x h F w bs a hK hs Q hQ
      simp only [unrollH, hlb] at h
      obtain ⟨⟨e, s1⟩, h1, h2⟩ := sel_bind h
      unfold Code.roundsIn
      refine evCode_ok hH.pc (evFn_ok hH d) f K b (i + 1) s h1 (fun j b' h hj hk => hH.lh f fn c (i + 1 + j) b' h hf hc (nthLoop_in hb hj) hk) hK hs fun F' w' bs' a' he hs' => ?_
      cases e with
      | normal =>
        simp only [xe, Exit.then]
        exact ih K s1 x h2 F' w' bs' a' (he.le hK) hs' Q fun F'' w'' bs'' a'' he' hs'' => hQ F'' w'' bs'' a'' (he.trans he' (Nat.le_refl _)) hs''
      | exit k =>
        simp only [Tree.sel, Option.some.injEq] at h2
        subst h2
        exact hQ F' w' bs' a' he hs'
      | ret =>
        simp only [Tree.sel, Option.some.injEq] at h2
        subst h2
        exact hQ F' w' bs' a' he hs'
  intro K s x h lr nn D F w bs a hK hs Q hQ
  exact wpIn_loop_rounds n (key lr nn D n K s x h F w bs a hK hs Q hQ)

/-- a plain test of anything -/
noncomputable def dec (p : Prop) : Bool := @decide p (Classical.propDecidable p)

theorem dec_iff {p : Prop} : dec p = true ↔ p := by
  unfold dec
  exact @decide_eq_true_iff p (Classical.propDecidable p)

/-- how a loop ends, by its rounds -/
theorem fin_of {X : Type} {TX : X → Tree (XE × X)} {inv : X → Prop} {μ : X → Nat} {Q : XE × X → Prop} (h : Rounds TX inv μ Q) {x : X} (hi : inv x) : Q (fin TX μ x) := (fin_post h (μ x) x rfl hi).2

end Go.Sx
/-
  The evaluator in use (part K): what an argument reads as; the frame of a law's proof.
-/
namespace Go.Sx
open Go Go.RowKit Go.WideShapes

mutual
def wfC : Sh → Val → Prop
  | .bool, _ => True
  | .int k, ρ => (Lit.int k (ρ.N [])).wf = true
  | .str, ρ => (ρ.S []).size ≤ maxLen
  | .sl es, ρ => ρ.L [] ≤ maxLen ∧ ∀ i, i < ρ.L [] → ∀ f, wfAt es f ((ρ.at i).at f)
def wfAt : List Sh → Nat → Val → Prop
  | [], _, _ => True
  | s :: _, 0, ρ => wfC s ρ
  | _ :: r, n + 1, ρ => wfAt r n ρ
end

def wfL : List Sh → Nat → Val → Prop
  | [], _, _ => True
  | s :: r, i, ρ => wfC s (ρ.at i) ∧ wfL r (i + 1) ρ

theorem wfAt_nth : ∀ (es : List Sh) (f : Nat) (ρ : Val), wfAt es f ρ = match nth es f with | some s => wfC s ρ | none => True
  | [], _, _ => rfl
  | _ :: _, 0, _ => rfl
  | _ :: r, n + 1, ρ => by simp only [wfAt, nth]; exact wfAt_nth r n ρ

theorem wfL_nth : ∀ (es : List Sh) (i : Nat) (ρ : Val), wfL es i ρ ↔ ∀ k s, nth es k = some s → wfC s (ρ.at (i + k))
  | [], _, _ => by simp [wfL, nth]
  | s :: r, i, ρ => by
    simp only [wfL]
    rw [wfL_nth r (i + 1) ρ]
    constructor
    · rintro ⟨h1, h2⟩ k t ht
      cases k with
      | zero => simp [nth] at ht; subst ht; exact h1
      | succ k => have := h2 k t (by simpa [nth] using ht); rwa [show i + 1 + k = i + (k + 1) by omega] at this
    · intro h
      refine ⟨h 0 s rfl, fun k t ht => ?_⟩
      have := h (k + 1) t (by simpa [nth] using ht)
      rwa [show i + (k + 1) = i + 1 + k by omega] at this

/-- a valuation put together out of one for each cell -/
def glue (r : Nat → Val) : Val where
  B := fun | [] => false | i :: p => (r i).B p
  N := fun | [] => 0 | i :: p => (r i).N p
  S := fun | [] => .empty | i :: p => (r i).S p
  L := fun | [] => 0 | i :: p => (r i).L p

theorem glue_at (r : Nat → Val) (i : Nat) : (glue r).at i = r i := rfl

/-- a list of cells reads as its shapes -/
def ReadL (w : World) (es : List Sh) (cs : List Value) : Prop := es.length = cs.length ∧ ∀ k s v, nth es k = some s → nth cs k = some v → ∃ ρ : Val, CV.Rel (fun _ => False) w [] (cellOf s ρ) v ∧ wfC s ρ

theorem ReadL.glue {w : World} {es : List Sh} {cs : List Value} (h : ReadL w es cs) : ∃ ρ : Val, All2 (CV.Rel (fun _ => False) w []) (cellsOfL es 0 ρ) cs ∧ wfL es 0 ρ := by
  have hc : ∀ k, ∃ ρ : Val, ∀ s v, nth es k = some s → nth cs k = some v → CV.Rel (fun _ => False) w [] (cellOf s ρ) v ∧ wfC s ρ := by
    intro k
    cases h1 : nth es k with
    | none => exact ⟨⟨fun _ => false, fun _ => 0, fun _ => .empty, fun _ => 0⟩, fun s v hs => by simp at hs⟩
    | some s =>
      have hk : k < cs.length := by
        rw [← h.1]
        rw [nth_eq] at h1
        rcases Nat.lt_or_ge k es.length with h' | h'
        · exact h'
        · simp [List.getElem?_eq_none h'] at h1
      have h2 : nth cs k = some cs[k] := by rw [nth_eq]; exact List.getElem?_eq_getElem hk
      obtain ⟨ρ, hr, hw⟩ := h.2 k s _ h1 h2
      refine ⟨ρ, fun s' v' hs' hv' => ?_⟩
      rw [h2] at hv'
      simp at hs' hv'
      subst hs'; subst hv'
      exact ⟨hr, hw⟩
  refine ⟨Sx.glue (fun k => Classical.choose (hc k)), All2.of_nth (by rw [cellsOfL_length]; exact h.1) fun k x v hx hv => ?_, (wfL_nth _ _ _).2 fun k s hs => ?_⟩
  · rw [cellsOfL_nth] at hx
    split at hx
    · rename_i s hs
      simp at hx; subst hx
      have := (Classical.choose_spec (hc k) s v hs hv).1
      simpa [glue_at] using this
    · simp at hx
  · have hk : k < cs.length := by
      rw [← h.1]
      rw [nth_eq] at hs
      rcases Nat.lt_or_ge k es.length with h' | h'
      · exact h'
      · simp [List.getElem?_eq_none h'] at hs
    have h2 : nth cs k = some cs[k] := by rw [nth_eq]; exact List.getElem?_eq_getElem hk
    have := (Classical.choose_spec (hc k) s _ hs h2).2
    simpa [glue_at] using this

theorem nth_app_lt {α : Type} {l r : List α} {k : Nat} (h : k < l.length) : nth (l ++ r) k = nth l k := by
  rw [nth_eq, nth_eq, List.getElem?_append_left h]

theorem nth_append_ge {α : Type} {l r : List α} {k : Nat} (h : l.length ≤ k) : nth (l ++ r) k = nth r (k - l.length) := by
  rw [nth_eq, nth_eq, List.getElem?_append_right h]

theorem ReadL.append {w : World} {a b : List Sh} {cs ds : List Value} (h : ReadL w a cs) (g : ReadL w b ds) : ReadL w (a ++ b) (cs ++ ds) := by
  refine ⟨by simp [h.1, g.1], fun k s v hs hv => ?_⟩
  rcases Nat.lt_or_ge k a.length with hk | hk
  · rw [nth_app_lt hk] at hs
    rw [nth_app_lt (by rw [← h.1]; exact hk)] at hv
    exact h.2 k s v hs hv
  · rw [nth_append_ge hk] at hs
    rw [nth_append_ge (by rw [← h.1]; exact hk), ← h.1] at hv
    exact g.2 _ s v hs hv

section
variable {H : Type} {enc : TypeId × Value → H} {P : Program} {w : World} {spare : Nat → Bool} {held : Bool}

theorem read_fields {n m : Nat} (ih : ∀ (t : TypeId) (cs : List Value) (x : DataW H × List MemPlace) (es : List Sh), DataW.trod enc P w 0 spare held n t cs = some x → shapesOf P m t = some es → ReadL w es cs) :
    ∀ (fs : List Field) (o : Nat) (es : List Sh) (cs : List Value), shapesFields (shapesOf P m) P o fs = some es → o ≤ cs.length → o + es.length = cs.length →
      (∀ f ∈ fs, ∃ x, DataW.trod enc P w 0 spare held n f.type ((cs.drop f.offset).take (P.cellsOf f.type)) = some x) → ReadL w es (cs.drop o)
  | [], o, es, cs, h, ho, hl, _ => by
    simp [shapesFields] at h; subst h
    simp at hl
    have : cs.drop o = [] := by simp; omega
    rw [this]
    exact ⟨rfl, fun k s v hs => by simp [nth] at hs⟩
  | f :: r, o, es, cs, h, ho, hl, hx => by
    simp only [shapesFields] at h
    split at h
    · rename_i hoff
      have hoff : f.offset = o := by simpa using hoff
      split at h
      · rename_i a ha
        split at h
        · rename_i hlen
          have hlen : a.length = P.cellsOf f.type := by simpa using hlen
          split at h
          · rename_i b hb
            simp at h; subst h
            obtain ⟨x, hx1⟩ := hx f (by simp)
            have h1 := ih f.type _ x a hx1 ha
            rw [hoff] at h1
            have h2 := read_fields ih r (o + a.length) b cs hb (by simp at hl; omega) (by simp at hl ⊢; omega) (fun g hg => hx g (by simp [hg]))
            have e : cs.drop o = (cs.drop o).take (P.cellsOf f.type) ++ cs.drop (o + a.length) := by
              rw [← hlen, ← List.drop_drop, List.take_append_drop]
            rw [e]
            exact h1.append h2
          · simp at h
        · simp at h
      · simp at h
    · simp at h

theorem read_rep {n m : Nat} {e : TypeId} {es : List Sh} (he : shapesOf P m e = some es) (hl : es.length = P.cellsOf e) (ih : ∀ (t : TypeId) (cs : List Value) (x : DataW H × List MemPlace) (es : List Sh), DataW.trod enc P w 0 spare held n t cs = some x → shapesOf P m t = some es → ReadL w es cs) (cs : List Value) :
    ∀ (k i : Nat), (repL es k).length + i * P.cellsOf e = cs.length → (∀ j, i ≤ j → j < i + k → ∃ x, DataW.trod enc P w 0 spare held n e ((cs.drop (j * P.cellsOf e)).take (P.cellsOf e)) = some x) → ReadL w (repL es k) (cs.drop (i * P.cellsOf e))
  | 0, i, h, _ => by
    simp [repL] at h
    have : cs.drop (i * P.cellsOf e) = [] := by simp; omega
    rw [this]
    exact ⟨rfl, fun k s v hs => by simp [repL, nth] at hs⟩
  | k + 1, i, h, hx => by
    obtain ⟨x, hx1⟩ := hx i (Nat.le_refl _) (by omega)
    have h1 := ih e _ x es hx1 he
    have h2 := read_rep he hl ih cs k (i + 1) (by simp [repL, hl] at h; rw [Nat.succ_mul]; omega) (fun j hj hj2 => hx j (by omega) (by omega))
    have e1 : cs.drop (i * P.cellsOf e) = (cs.drop (i * P.cellsOf e)).take (P.cellsOf e) ++ cs.drop ((i + 1) * P.cellsOf e) := by
      rw [Nat.succ_mul, ← List.drop_drop, List.take_append_drop]
    rw [e1]
    exact h1.append h2

/-- **Whatever can be read has the shapes of its type.** -/
theorem read_ok : ∀ (n m : Nat) (t : TypeId) (cs : List Value) (x : DataW H × List MemPlace) (es : List Sh), DataW.trod enc P w 0 spare held n t cs = some x → shapesOf P m t = some es → ReadL w es cs
  | 0, _, _, _, _, _, h, _ => by simp [DataW.trod] at h
  | _ + 1, 0, _, _, _, _, _, h => by simp [shapesOf] at h
  | n + 1, m + 1, t, cs, x, es, h, hs => by
    have ih : ∀ (t : TypeId) (cs : List Value) (x : DataW H × List MemPlace) (es : List Sh), DataW.trod enc P w 0 spare held n t cs = some x → shapesOf P m t = some es → ReadL w es cs := fun t cs x es => read_ok n m t cs x es
    have v0 : Val := ⟨fun _ => false, fun _ => 0, fun _ => .empty, fun _ => 0⟩
    have single : ∀ (s : Sh) (v : Value), (∃ ρ : Val, CV.Rel (fun _ => False) w [] (cellOf s ρ) v ∧ wfC s ρ) → ReadL w [s] [v] := by
      intro s v hv
      refine ⟨rfl, fun k s' v' hs' hv' => ?_⟩
      cases k with
      | zero => simp [nth] at hs' hv'; subst hs'; subst hv'; exact hv
      | succ k => simp [nth] at hs'
    simp only [shapesOf] at hs
    split at hs
    · rename_i hu
      simp at hs; subst hs
      obtain ⟨b, rfl, _⟩ := DataW.trod_bool hu h
      exact single _ _ ⟨{ v0 with B := fun _ => b }, by simp only [cellOf]; exact CV.Rel.bool b, by simp [wfC]⟩
    · rename_i k hu
      simp at hs; subst hs
      obtain ⟨i, rfl, _, hw⟩ := DataW.trod_int hu h
      exact single _ _ ⟨{ v0 with N := fun _ => i }, by simp only [cellOf]; exact CV.Rel.int k i, by simpa [wfC] using hw⟩
    · rename_i hu
      simp at hs; subst hs
      obtain ⟨s, rfl, _, hw⟩ := DataW.trod_string hu h
      exact single _ _ ⟨{ v0 with S := fun _ => s }, by simp only [cellOf]; exact CV.Rel.str s, by simpa [wfC] using hw⟩
    · rename_i e hu
      split at hs
      · rename_i el hel
        split at hs
        · rename_i hcond
          simp at hs; subst hs
          simp only [Bool.and_eq_true, beq_iff_eq, Bool.not_eq_true'] at hcond
          obtain ⟨hlen, hne⟩ := hcond
          rcases DataW.trod_slice hu h with ⟨rfl, _⟩ | ⟨a, len, cap, elems, rest, n', hn', rfl, hx, hb, hl, hm, hlen2, hel2, _, _⟩
          · exact single _ _ ⟨{ v0 with L := fun _ => 0 }, by simp only [cellOf]; exact CV.Rel.slnil, by simp [wfC]⟩
          · have hnn : n' = n := by omega
            subst hnn
            -- each element reads as its shapes
            have helem : ∀ i, i < len → ∃ ρ : Val, ∃ es' : List Value, w.cells? 0 (a.add (i * P.cellsOf e)) (P.cellsOf e) = some es' ∧ All2 (CV.Rel (fun _ => False) w []) (cellsOfL el 0 ρ) es' ∧ wfL el 0 ρ := by
              intro i hi
              have h1 := hel2 i hi
              have h2 : elems[i]? = some elems[i] := List.getElem?_eq_getElem (by omega)
              rw [h2] at h1
              cases hc : w.cells? 0 (a.add (i * P.cellsOf e)) (P.cellsOf e) with
              | none => simp [hc] at h1
              | some cs' =>
                simp [hc] at h1
                obtain ⟨ρ, hr, hw⟩ := (ih e cs' _ el h1 hel).glue
                exact ⟨ρ, cs', rfl, hr, hw⟩
            have hch : ∀ i, ∃ ρ : Val, ∃ es' : List Value, i < len → w.cells? 0 (a.add (i * P.cellsOf e)) (P.cellsOf e) = some es' ∧ All2 (CV.Rel (fun _ => False) w []) (cellsOfL el 0 ρ) es' ∧ wfL el 0 ρ := by
              intro i
              by_cases hi : i < len
              · obtain ⟨ρ, es', h⟩ := helem i hi; exact ⟨ρ, es', fun _ => h⟩
              · exact ⟨v0, [], fun h => (hi h).elim⟩
            refine single _ _ ⟨{ Sx.glue (fun i => Classical.choose (hch i)) with L := fun | [] => len | i :: p => (Classical.choose (hch i)).L p }, ?_, ?_⟩
            · simp only [cellOf]
              have hel1 : 0 < el.length := by cases el; simp at hne; simp
              have cellI : ∀ i f, i < len → f < el.length → ∃ v, w.cell? ((a.add (i * P.cellsOf e)).add f) = some v ∧ ∀ s, nth el f = some s → CV.Rel (fun _ => False) w [] (cellOf s ((Classical.choose (hch i)).at f)) v := by
                intro i f hi hf
                obtain ⟨es', hsp⟩ := Classical.choose_spec (hch i)
                obtain ⟨h1, h2, _⟩ := hsp hi
                obtain ⟨_, hl1, hl2⟩ := World.cells?_some h1
                have hns : nth el f = some el[f] := by rw [nth_eq]; exact List.getElem?_eq_getElem hf
                obtain ⟨v, hv, hr⟩ := h2.nth (i := f) (a := cellOf el[f] ((Classical.choose (hch i)).at f)) (by rw [cellsOfL_nth, hns]; simp)
                refine ⟨v, by rw [hl2 f (by omega)]; exact hv, fun s hs => ?_⟩
                rw [hns] at hs
                simp at hs; subst hs
                exact hr
              have hspot : 0 < len → a.spot = none ∧ a.block < w.heap.size := by
                intro hp
                obtain ⟨v, hv, _⟩ := cellI 0 0 hp hel1
                have hv' : w.cell? a = some v := by simpa [Addr.add] using hv
                exact ⟨World.cell?_spot hv', World.block_lt_of_cell? w a hv'⟩
              have addE : ∀ i f, i < len → (a.add (i * P.cellsOf e)).add f = ⟨a.block, a.off + (i * el.length + f), none⟩ := by
                intro i f hi
                have := (hspot (by omega)).1
                obtain ⟨p, o, sp⟩ := a
                simp only at this
                subst this
                rw [addr_add, addr_add, hlen, Nat.add_assoc]
              refine CV.Rel.sl (fun i f => (w.cell? ⟨a.block, a.off + (i * el.length + f), none⟩).getD undef) hl (fun hp => ⟨(hspot hp).1, (hspot hp).2, fun h => h⟩) (fun i f hi hf => ?_) (fun i f s hi hs => ?_)
              · obtain ⟨v, hv, _⟩ := cellI i f hi hf
                rw [addE i f hi] at hv
                rw [hv]; rfl
              · have hf : f < el.length := by
                  rw [nth_eq] at hs
                  rcases Nat.lt_or_ge f el.length with h' | h'
                  · exact h'
                  · simp [List.getElem?_eq_none h'] at hs
                obtain ⟨v, hv, hr⟩ := cellI i f hi hf
                rw [addE i f hi] at hv
                rw [hv]
                exact hr s hs
            · simp only [wfC]
              refine ⟨by omega, fun i hi f => ?_⟩
              obtain ⟨es', hsp⟩ := Classical.choose_spec (hch i)
              obtain ⟨_, _, h3⟩ := hsp hi
              rw [wfAt_nth]
              split
              · rename_i s hs
                have := (wfL_nth _ _ _).1 h3 f s hs
                rw [Nat.zero_add] at this
                exact this
              · trivial
        · simp at hs
      · simp at hs
    · rename_i fs hu
      split at hs
      · rename_i l hl
        split at hs
        · rename_i hlen
          simp at hs; subst hs
          have hlen : l.length = P.cellsOf t := by simpa using hlen
          obtain ⟨xs, n', hn', _, hcs, hxl, hf⟩ := DataW.trod_struct hu h
          have hnn : n' = n := by omega
          subst hnn
          have := read_fields ih fs.toList 0 l cs hl (by omega) (by omega) (fun f hf' => by
            obtain ⟨i, hi⟩ := List.getElem?_of_mem hf'
            have h1 := hf i f (by simpa using hi)
            have hi2 : i < xs.length := by
              rw [hxl]
              rcases Nat.lt_or_ge i fs.size with h' | h'
              · exact h'
              · simp [Array.getElem?_eq_none h'] at hi
            exact ⟨xs[i], by rw [h1]; exact List.getElem?_eq_getElem hi2⟩)
          simpa using this
        · simp at hs
      · simp at hs
    · rename_i k e hu
      split at hs
      · rename_i el hel
        split at hs
        · rename_i hcond
          simp at hs; subst hs
          simp only [Bool.and_eq_true, beq_iff_eq] at hcond
          obtain ⟨xs, n', hn', _, hcs, hxl, hf⟩ := DataW.trod_array hu h
          have hnn : n' = n := by omega
          subst hnn
          have := read_rep hel hcond.1 ih cs k 0 (by simp; omega) (fun j _ hj => by
            have h1 := hf j (by omega)
            exact ⟨xs[j]'(by omega), by rw [h1]; exact List.getElem?_eq_getElem (by omega)⟩)
          simpa using this
        · simp at hs
      · simp at hs
    · simp at hs

/-- the argument as the evaluator takes it -/
def argOf (P : Program) (t : TypeId) (es : List Sh) (ρ : Val) : A1 :=
  match isAggT P t with
  | some true => .agg (cellsOfL es 0 ρ)
  | _ => match cellsOfL es 0 ρ with
    | x :: _ => .c x
    | [] => .agg []

theorem read_arg {r : Reach} {b0 : Nat} {t : TypeId} {v : Value} {d : DataW H} {p : List MemPlace} {m : Nat} {es : List Sh} (hok : Value.okWide P w r b0 t v) (h : DataW.Trod enc P w 0 spare held t v d p) (hs : shapesOf P m t = some es) :
    ∃ ρ : Val, A1.Rel (fun _ => False) w [] (argOf P t es ρ) v ∧ wfL es 0 ρ := by
  obtain ⟨fuel, hf⟩ := h
  obtain ⟨ρ, hr, hw⟩ := (read_ok fuel m t _ _ es hf hs).glue
  refine ⟨ρ, ?_, hw⟩
  unfold argOf
  have hnone : m ≠ 0 := by intro e; subst e; simp [shapesOf] at hs
  obtain ⟨m', rfl⟩ : ∃ m', m = m' + 1 := ⟨m - 1, by omega⟩
  have one : v.cells = #[v] → ∀ s, es = [s] → A1.Rel (fun _ => False) w [] (match cellsOfL es 0 ρ with | x :: _ => A1.c x | [] => .agg []) v := by
    intro hv s he
    subst he
    rw [hv] at hr
    cases hr with
    | cons h1 _ => exact h1
  unfold isAggT
  split
  · rename_i heq
    split at heq
    · rename_i fs hu
      unfold Value.okWide at hok
      simp only [hu] at hok
      obtain ⟨cs, rfl, _, _⟩ := hok
      exact ⟨cs.toList, by simp, hr⟩
    · rename_i n e hu
      unfold Value.okWide at hok
      simp only [hu] at hok
      obtain ⟨cs, rfl, _, _⟩ := hok
      exact ⟨cs.toList, by simp, hr⟩
    · simp at heq
    · simp at heq
  · rename_i hne
    simp only [shapesOf] at hs
    split at hs
    · rename_i hu
      simp at hs
      obtain ⟨b, rfl⟩ := okWide_bool hu hok
      exact one rfl _ hs.symm
    · rename_i k hu
      simp at hs
      obtain ⟨b, rfl⟩ := okWide_int hu hok
      exact one rfl _ hs.symm
    · rename_i hu
      simp at hs
      obtain ⟨b, rfl⟩ := okWide_string hu hok
      exact one rfl _ hs.symm
    · rename_i e hu
      obtain ⟨a, l, c, rfl⟩ := okWide_slice hu hok
      split at hs
      · split at hs
        · simp at hs
          exact one rfl _ hs.symm
        · simp at hs
      · simp at hs
    · rename_i fs hu; exact (hne (by simp [hu])).elim
    · rename_i k e hu; exact (hne (by simp [hu])).elim
    · simp at hs

end
end Go.Sx
/-
  The evaluator in use (part L): from the evaluator to a law.
-/
namespace Go.Sx
open Go Go.RowKit

/-- **A law out of the evaluator.** -/
theorem law_of_ev {P : Program} {H : Hd} (hH : HdOk P H) (n f : Nat) {args : List A1} {b : Bool} (hn : (evFn P H n f args []).needs = true) (hr : (evFn P H n f args []).res = .one (.c (.bool b))) (hb : b = true) {F : Nat → Prop} {W : World} {vs : List Value}
    (hargs : All2 (A1.Rel F W []) args vs) : Calls P f vs.toArray W (fun e W' => e = .returned (.bool true) ∧ Below W.heap.size W W') := by
  obtain ⟨⟨r', m⟩, hsel⟩ := needs_sel hn
  refine (evFn_ok0 hH n f args r' m hsel F W [] vs MemRel.nil hargs).mono fun e w2 ⟨u, F', bs', he, hext, hm, hu⟩ => ?_
  have := res_rel hsel hu
  rw [hr, hb] at this
  cases this
  exact ⟨he, hext.below⟩

/-- the same by a summary -/
theorem law_of_pc {P : Program} {f : Nat} {G : List A1 → Option AV} (h : PcOne P f G) {args : List A1} (hG : G args = some (.one (.c (.bool true)))) (hc : args.all closedA = true) {F : Nat → Prop} {W : World} {vs : List Value}
    (hargs : All2 (A1.Rel F W []) args vs) : Calls P f vs.toArray W (fun e W' => e = .returned (.bool true) ∧ Below W.heap.size W W') := by
  obtain ⟨v, hv, hcalls⟩ := h args _ hG hc F W vs hargs
  cases hv
  exact hcalls W (Below.refl _ _)

theorem All2.two {α β : Type} {R : α → β → Prop} {a b x y} (h : R a x) (k : R b y) : All2 R [a, b] [x, y] := .cons h (.cons k .nil)

/-- an argument reads as it did -/
theorem trod_keep {H : Type} {enc : TypeId × Value → H} {P : Program} {t : TypeId} (hl : laidOutB P = true) (hr : P.readableRec t = true) (hrow : t < P.types.size) {W W' : World} {v : Value} {d : DataW H} {ps : List MemPlace}
    (h : DataW.Trod enc P W 0 (fun _ => true) true t v d ps) (hb : Below W.heap.size W W') : DataW.Trod enc P W' 0 (fun b => decide (b < W.heap.size)) true t v d ps :=
  Below.trod hl hr hrow h hb (by obtain ⟨m, hm⟩ := h; exact DataW.trod_lt m _ _ _ hm)

/-- the results of all roads as one value -/
def Tree.res0 : Tree AV → AV
  | .leaf a => a
  | .br c t e => mergeA c t.res0 e.res0
  | .need _ t => t.res0
  | .fail => .any

theorem res0_rel {F w bs} {v : Value} : ∀ {t : Tree AV} {r}, t.sel = some r → r.Rel F w bs v → t.res0.Rel F w bs v
  | .leaf a, r, h, hr => by simp [Tree.sel] at h; subst h; exact hr
  | .br c t e, r, h, hr => by
    simp only [Tree.sel] at h
    refine mergeA_ok (fun hc => ?_) (fun hc => ?_)
    · subst hc; exact res0_rel h hr
    · subst hc; exact res0_rel h hr
  | .need c t, r, h, hr => by
    simp only [Tree.sel] at h
    cases c
    · simp at h
    · exact res0_rel (t := t) h hr
  | .fail, r, h, _ => by simp [Tree.sel] at h

/-- **A summary of a function that lays what it returns: all roads as one value.** -/
theorem hcOne_of_le {P : Program} {H : Hd} (hH : HdOk P H) (n f : Nat) {G : List A1 → Option AV}
    (h : ∀ args r, G args = some r → (hcTree P H n f args).needs = true ∧ leA (hcTree P H n f args).res0 r) : HcOne P f G := by
  intro args r hG hcl F w vs hargs
  obtain ⟨hn, hr⟩ := h args r hG
  obtain ⟨x, hsel⟩ := needs_sel hn
  obtain ⟨⟨r', m⟩, h1, h2⟩ := sel_bind hsel
  have ho : outA m r' = some x := by
    cases hx : outA m r' with
    | none => rw [hx] at h2; simp [Tree.ofOpt, Tree.sel] at h2
    | some y => rw [hx] at h2; simpa [Tree.ofOpt, Tree.sel] using h2
  have hargs1 : All2 (A1.Rel (fun p => F p ∧ p < w.heap.size) w []) args vs := hargs.imp fun _ _ hx => A1.Rel.grow (bs := []) (bs' := []) ⟨Nat.le_refl _, fun _ _ h => h.1, fun _ _ _ => rfl, fun _ _ h => h⟩ hx
  refine (evFn_ok0 hH n f args r' m h1 _ w [] vs MemRel.nil hargs1).mono fun e w2 ⟨u, F', bs', he, hext, hm, hu⟩ => ?_
  refine ⟨u, he, hext.below, hr _ _ _ (res0_rel hsel (AV.Rel.grow (bs := []) (bs' := []) ⟨Nat.le_refl _, fun p _ hp => ?_, fun _ _ _ => rfl, fun _ _ h => h⟩ (outA_ok hm hu ho)))⟩
  refine ⟨hext.F2 p hp hp.2 (by simp), fun y hy e => ?_⟩
  rcases hext.mem y hy with ⟨z, hz, _⟩ | hs
  · cases hz
  · have := hp.2; omega

theorem hcOne_of_ev {P : Program} {H : Hd} (hH : HdOk P H) (n f : Nat) {G : List A1 → Option AV}
    (h : ∀ args r, G args = some r → (hcTree P H n f args).needs = true ∧ (hcTree P H n f args).res0 = r) : HcOne P f G :=
  hcOne_of_le hH n f fun args r hG => ⟨(h args r hG).1, (h args r hG).2 ▸ leA.refl⟩

/-- a slice without elements is any such slice -/
def leC (x y : CV) : Prop := ∀ (F : Nat → Prop) (w : World) (v : Value), CV.Rel F w [] x v → CV.Rel F w [] y v

theorem leC.refl {x : CV} : leC x x := fun _ _ _ h => h

theorem leC_sl {es : List Sh} {n m : Nat} {ρ σ : Val} (hn : n = m) (h : n ≠ 0 → ρ = σ) : leC (.sl es n ρ) (.sl es m σ) := by
  subst hn
  intro F w v hv
  rcases Nat.eq_zero_or_pos n with h0 | h0
  · subst h0
    cases hv with
    | slnil => exact .slnil
    | sl val hn h0 hc hr => exact .sl val hn (fun h => by omega) (fun i f hi => by omega) (fun i f s hi => by omega)
  · rw [← h (by omega)]; exact hv

/-- part by part -/
inductive LeL : List CV → List CV → Prop
  | nil : LeL [] []
  | cons {x y l r} : leC x y → LeL l r → LeL (x :: l) (y :: r)

theorem LeL.refl : ∀ {l : List CV}, LeL l l
  | [] => .nil
  | _ :: _ => .cons leC.refl LeL.refl

inductive le1 : A1 → A1 → Prop
  | c {x y} : leC x y → le1 (.c x) (.c y)
  | agg {l r} : LeL l r → le1 (.agg l) (.agg r)

theorem le1.refl : ∀ {x : A1}, le1 x x
  | .c _ => .c leC.refl
  | .agg _ => .agg LeL.refl

theorem LeL.ok {F w} : ∀ {l r : List CV} {vs : List Value}, LeL l r → All2 (CV.Rel F w []) l vs → All2 (CV.Rel F w []) r vs
  | _, _, _, .nil, h => h
  | _, _, _, .cons h1 h2, .cons k1 k2 => .cons (h1 _ _ _ k1) (h2.ok k2)

theorem le1.ok {F w v} {x y : A1} (h : le1 x y) (hx : A1.Rel F w [] x v) : A1.Rel F w [] y v := by
  cases h with
  | c h => exact h _ _ _ hx
  | agg h =>
    obtain ⟨vs, rfl, hv⟩ := hx
    exact ⟨vs, rfl, h.ok hv⟩

inductive LeT : List A1 → List A1 → Prop
  | nil : LeT [] []
  | cons {x y l r} : le1 x y → LeT l r → LeT (x :: l) (y :: r)

theorem LeT.ok {F w} : ∀ {l r : List A1} {vs : List Value}, LeT l r → All2 (A1.Rel F w []) l vs → All2 (A1.Rel F w []) r vs
  | _, _, _, .nil, h => h
  | _, _, _, .cons h1 h2, .cons k1 k2 => .cons (h1.ok k1) (h2.ok k2)

theorem leA_one {x y : A1} (h : le1 x y) : leA (.one x) (.one y) := fun _ _ _ hx => h.ok hx

theorem leA_tup {l r : List A1} (h : LeT l r) : leA (.tup l) (.tup r) := fun _ _ _ hx => by
  obtain ⟨vs, rfl, hv⟩ := hx
  exact ⟨vs, rfl, h.ok hv⟩

end Go.Sx
/-
  The evaluator in use (part V): a nil slice as an empty row of one's own, or as plain data without elements, where a loop begins.
-/
namespace Go.Sx
open Go Go.RowKit

variable {P : Program}

variable {D : List Deferred}

/-- an empty row -/
def rowZ (T : TypeId) (es : List Sh) : Option (TypeId × List CV) := some (T, [.row false es 0 Val.zero])

def St.own (t : Nat) (T : TypeId) (es : List Sh) (s : St) : St :=
  match nth s.tmps t with
  | some ⟨[], .one (.c .nils)⟩ => ⟨setN s.tmps t ⟨[], .one (.c (.os s.mem.length es.length))⟩, s.mem ++ [rowZ T es]⟩
  | _ => s

def St.flat (t : Nat) (es : List Sh) (s : St) : St :=
  match nth s.tmps t with
  | some ⟨[], .one (.c .nils)⟩ => ⟨setN s.tmps t ⟨[], .one (.c (.sl es 0 Val.zero))⟩, s.mem⟩
  | _ => s

/-- a cell of a block -/
def St.ownM (b o : Nat) (T : TypeId) (es : List Sh) (s : St) : St :=
  match nth s.mem b with
  | some (some (T', cs)) => if isRowL cs then s else match nth cs o with
    | some .nils => ⟨s.tmps, setN s.mem b (some (T', setN cs o (.os s.mem.length es.length))) ++ [rowZ T es]⟩
    | _ => s
  | _ => s

inductive Place where
  | own (t : Nat) (T : TypeId) (es : List Sh)
  | flat (t : Nat) (es : List Sh)
  | ownM (b o : Nat) (T : TypeId) (es : List Sh)

def St.place (s : St) : Place → St
  | .own t T es => s.own t T es
  | .flat t es => s.flat t es
  | .ownM b o T es => s.ownM b o T es

def St.places (s : St) : List Place → St
  | [] => s
  | p :: r => (s.place p).places r

theorem Ext.row0 {K F w bs} (_ : K ≤ bs.length) : Ext K F w bs F w (bs ++ [⟨w.heap.size, 0, 0⟩]) :=
  (Ext.refl (K := K)).push (.inr (Nat.le_refl _))

theorem MemRel.row0 {F w bs mem} (hm : MemRel P F w bs mem) (T : TypeId) (es : List Sh) : MemRel P F w (bs ++ [⟨w.heap.size, 0, 0⟩]) (mem ++ [rowZ T es]) := by
  refine hm.push _ (fun h => ?_) (fun h => ?_) (fun h => ?_) (fun fz es' n ρ h => ?_)
  · simp [liveL] at h
  · simp [liveL] at h
  · simp [isRowL] at h
  · simp only [List.cons.injEq, CV.row.injEq, and_true] at h
    obtain ⟨rfl, rfl, rfl, rfl⟩ := h
    exact ⟨rfl, Nat.le_refl _, Nat.zero_le _, fun h => by simp at h, fun h => by simp at h⟩

theorem nils_os {F w bs} {v : Value} {sz : Nat} {k : Nat} {x : BI} (hx : nth bs k = some x) (h0 : x.n = 0) (h1 : x.cap = 0) (h : CV.Rel F w bs .nils v) : CV.Rel F w bs (.os k sz) v := by
  cases h
  have := CV.Rel.os (F := F) (w := w) (sz := sz) (base := none) hx (fun h => by omega)
  rwa [h0, h1] at this

theorem setN_noRow {cs : List CV} {o : Nat} {c : CV} (h : isRowL cs = false) (hc : ∀ r, isRowL (c :: r) = false) (ho : nth cs o = some .nils) : isRowL (setN cs o c) = false := by
  cases cs with
  | nil => simp [nth] at ho
  | cons d r =>
    cases o with
    | zero => exact hc r
    | succ o =>
      cases r with
      | nil => simp [nth] at ho
      | cons d2 r2 => cases d <;> cases o <;> first | rfl | (simp [isRowL] at h; done)

theorem StRel.place {F w bs s} {a : Act} (hs : StRel P D F w bs s a) (p : Place) {K : Nat} (hK : K ≤ bs.length) : ∃ bs', Ext K F w bs F w bs' ∧ K ≤ bs'.length ∧ StRel P D F w bs' (s.place p) a := by
  have triv : ∃ bs', Ext K F w bs F w bs' ∧ K ≤ bs'.length ∧ StRel P D F w bs' s a := ⟨bs, Ext.refl, hK, hs⟩
  have put : ∀ (t : Nat) (v : AV) (m : Mem) (bs' : List BI), Ext bs.length F w bs F w bs' → MemRel P F w bs' m → nth s.tmps t = some ⟨[], .one (.c .nils)⟩ → (∀ u, CV.Rel F w bs' .nils u → v.Rel F w bs' u) →
      StRel P D F w bs' ⟨setN s.tmps t ⟨[], v⟩, m⟩ a := by
    intro t v m bs' he hm ht hv
    refine ⟨hs.defers, by simp only [setN_length]; exact hs.len, fun i sl x h1 h2 => ?_, hm⟩
    simp only at h1
    rcases nth_setN h1 with ⟨rfl, rfl⟩ | ⟨_, h1⟩
    · have := (hs.slots i _ x ht h2).1 KH_nil
      exact ⟨fun _ => hv _ (CV.Rel.grow he.grow this), fun h => (h KH_nil).elim⟩
    · have := hs.slots i sl x h1 h2
      exact ⟨fun hk => AV.Rel.grow he.grow (this.1 hk), this.2⟩
  have hnew : nth (bs ++ [(⟨w.heap.size, 0, 0⟩ : BI)]) s.mem.length = some ⟨w.heap.size, 0, 0⟩ := by rw [← hs.mem.len]; exact nth_append_last _ _
  cases p with
  | own t T es =>
    simp only [St.place, St.own]
    split
    · rename_i ht
      refine ⟨_, Ext.row0 hK, by simp; omega, put t _ _ _ (Ext.row0 (Nat.le_refl _)) (hs.mem.row0 T es) ht fun u hu => ?_⟩
      exact nils_os (x := ⟨w.heap.size, 0, 0⟩) hnew rfl rfl hu
    · exact triv
  | flat t es =>
    simp only [St.place, St.flat]
    split
    · rename_i ht
      refine ⟨bs, Ext.refl, hK, put t _ _ _ Ext.refl hs.mem ht fun u hu => ?_⟩
      cases hu
      exact CV.Rel.slnil
    · exact triv
  | ownM b o T es =>
    simp only [St.place, St.ownM]
    split
    · rename_i T' cs hb
      split
      · exact triv
      rename_i hrow
      simp only [Bool.not_eq_true] at hrow
      split
      · rename_i ho
        have he := Ext.row0 (K := bs.length) (F := F) (w := w) (bs := bs) (Nat.le_refl _)
        refine ⟨_, Ext.row0 hK, by simp; omega, hs.defers, hs.len, fun i sl x h1 h2 => ?_, ?_⟩
        · have := hs.slots i sl x h1 h2
          exact ⟨fun hk => AV.Rel.grow he.grow (this.1 hk), this.2⟩
        · have hrow' : ∀ y, isRowL (setN cs o (.os y es.length)) = false := fun y => setN_noRow hrow (fun _ => rfl) ho
          have hm := hs.mem.row0 T es
          have hblt := nth_lt hb
          have hbn : ∃ x, nth bs b = some x := by
            rw [← hs.mem.len] at hblt
            exact ⟨bs[b], by rw [nth_eq]; exact List.getElem?_eq_getElem hblt⟩
          obtain ⟨x, hx⟩ := hbn
          have hx' : nth (bs ++ [(⟨w.heap.size, 0, 0⟩ : BI)]) b = some x := nth_append hx
          have hb' : nth (s.mem ++ [rowZ T es]) b = some (some (T', cs)) := nth_append hb
          obtain ⟨vs, hv, hr⟩ := hm.cont b T' cs x hb' hrow hx'
          have hl := hm.loc b x T' cs hx' hb' (liveL_of hrow)
          have e : setN s.mem b (some (T', setN cs o (.os s.mem.length es.length))) ++ [rowZ T es] = setN (setN (s.mem ++ [rowZ T es]) b none) b (some (T', setN cs o (.os s.mem.length es.length))) := by
            rw [setN_setN, setN_eq s.mem, setN_eq (s.mem ++ _), List.set_append_left _ _ hblt]
          simp only [e]
          refine (hm.kill b).put hx' (fun T cs h => ?_) (fun _ => hl) (fun _ k y T2 cs2 hk hc h2 hp => ?_) (fun _ => ⟨vs, hv, ?_⟩) (fun fz es' n ρ h => ?_) (fun f i st cs' h => by have := hrow' s.mem.length; rw [h] at this; simp [isRowL] at this)
          · rcases nth_setN h with ⟨_, h⟩ | ⟨h, _⟩
            · cases h
            · exact h rfl
          · rcases nth_setN hc with ⟨_, h⟩ | ⟨hne, hc⟩
            · cases h
            · exact hne (hm.inj k b y x T2 cs2 T' cs hk hx' hc hb' h2 (liveL_of hrow) hp)
          · refine All2.of_nth (by rw [setN_length]; exact hr.length) fun i c v hc hv => ?_
            rcases nth_setN hc with ⟨rfl, rfl⟩ | ⟨_, hc⟩
            · obtain ⟨v', hv', hrel⟩ := hr.nth ho
              rw [nth_eq, hv'] at hv
              simp at hv; subst hv
              exact nils_os (x := ⟨w.heap.size, 0, 0⟩) hnew rfl rfl hrel
            · obtain ⟨v', hv', hrel⟩ := hr.nth hc
              rw [nth_eq, hv'] at hv
              simp at hv; subst hv
              exact hrel
          · have := hrow' s.mem.length
            rw [h] at this
            simp [isRowL] at this
      · exact triv
    · exact triv

theorem StRel.places {F w a} : ∀ (ps : List Place) {bs s} (_ : StRel P D F w bs s a) {K : Nat} (_ : K ≤ bs.length), ∃ bs', Ext K F w bs F w bs' ∧ K ≤ bs'.length ∧ StRel P D F w bs' (s.places ps) a
  | [], bs, _, hs, _, hK => ⟨bs, Ext.refl, hK, hs⟩
  | p :: r, _, _, hs, _, hK => by
    obtain ⟨bs1, e1, k1, h1⟩ := hs.place p hK
    obtain ⟨bs2, e2, k2, h2⟩ := StRel.places r h1 k1
    exact ⟨bs2, e1.trans e2 (Nat.le_refl _), k2, h2⟩

/-- a loop that begins so -/
def ownH (ps : List Place) (h : Nat → St → Tree (XE × St)) (K : Nat) (s : St) : Tree (XE × St) := h K (s.places ps)

theorem ownH_ok {P : Program} {b : Code} {h : Nat → St → Tree (XE × St)} (ps : List Place) (hh : LoopOk P b h) : LoopOk P b (ownH ps h) := by
  intro K s x hx lr nn D F w bs a hK hs Q hQ
  obtain ⟨bs', he, hK', hs'⟩ := hs.places ps hK
  exact hh K (s.places ps) x hx lr nn D F w bs' a hK' hs' Q fun F' w' bs2 a' he' hs2 => hQ F' w' bs2 a' (he.trans he' (Nat.le_refl _)) hs2

/-- a summary of a function at closed arguments -/
theorem pcOne_of_sel {P : Program} {H : Hd} (hH : HdOk P H) (n f : Nat) {G : List A1 → Option AV}
    (h : ∀ args r, G args = some r → (denA r).isSome = true ∧ (evFn P H n f args []).sel.map Prod.fst = some r) : PcOne P f G := by
  intro args r hG hcl F w vs hargs
  obtain ⟨hd, ha⟩ := h args r hG
  obtain ⟨v, hv⟩ := Option.isSome_iff_exists.1 hd
  refine ⟨v, denA_mk hv, fun w1 hw1 => ?_⟩
  obtain ⟨⟨r', m⟩, hsel, hr⟩ := Option.map_eq_some_iff.1 ha
  simp only at hr
  subst hr
  have hargs1 : All2 (A1.Rel F w1 []) args vs := hargs.imp fun _ _ hx => A1.Rel.grow (F := F) (F' := F) (bs := []) (bs' := []) ⟨hw1.size, fun _ _ h => h, fun p hp _ => hw1.block p hp, fun _ _ h => h⟩ hx
  refine (evFn_ok0 hH n f args r' m hsel F w1 [] vs MemRel.nil hargs1).mono fun e w2 ⟨u, F', bs', he, hext, hm, hu⟩ => ?_
  have := denA_ok hv hu
  subst this
  exact ⟨he, hext.below⟩

end Go.Sx
/-
  The evaluator in use (part W): summaries with conditions; loops that look for something.
-/
namespace Go.Sx
open Go Go.RowKit Classical

/-- a summary with a condition -/
def nG (G : List A1 → Option (Bool × AV)) (args : List A1) : Tree AV :=
  match G args with
  | some (p, r) => .need p (.leaf r)
  | none => .fail

theorem nG_sel {G : List A1 → Option (Bool × AV)} {args : List A1} {r : AV} (h : (nG G args).sel = some r) : G args = some (true, r) := by
  unfold nG at h
  split at h
  · rename_i p x hx
    simp only [Tree.sel] at h
    cases p <;> simp at h
    rw [hx, h]
  · simp [Tree.sel] at h

theorem tcOne_of_ev {P : Program} {H : Hd} (hH : HdOk P H) (n f : Nat) {G : List A1 → Option (Bool × AV)}
    (h : ∀ args r, G args = some (true, r) → (denA r).isSome = true ∧ (evFn P H n f args []).needs = true ∧ (evFn P H n f args []).res = r) : TcOne P f (nG G) := by
  intro args r hG hcl
  have hs := nG_sel hG
  exact pcOne_of_ev (G := fun a => if a = args then some r else none) hH n f (fun a r' ha => by
    split at ha
    · rename_i e
      subst e
      simp at ha; subst ha
      exact h a r hs
    · cases ha) args r (by simp) hcl

theorem tcOne_of_all {P : Program} {H : Hd} (hH : HdOk P H) (n f : Nat) {G : List A1 → Option (Bool × AV)}
    (h : ∀ args r, G args = some (true, r) → (denA r).isSome = true ∧ (evFn P H n f args []).All (fun y => y.1 = r)) : TcOne P f (nG G) := by
  intro args r hG hcl
  have hs := nG_sel hG
  exact pcOne_of_all (G := fun a => if a = args then some r else none) hH n f (fun a r' ha => by
    split at ha
    · rename_i e
      subst e
      simp at ha; subst ha
      exact h a r hs
    · cases ha) args r (by simp) hcl

theorem ucOne_of_le {P : Program} {H : Hd} (hH : HdOk P H) (n f : Nat) {G : List A1 → Option (Bool × AV)}
    (h : ∀ args r, G args = some (true, r) → (hcTree P H n f args).needs = true ∧ leA (hcTree P H n f args).res0 r) : UcOne P f (nG G) := by
  intro args r hG hcl
  have hs := nG_sel hG
  exact hcOne_of_le (G := fun a => if a = args then some r else none) hH n f (fun a r' ha => by
    split at ha
    · rename_i e
      subst e
      simp at ha; subst ha
      exact h a r hs
    · cases ha) args r (by simp) hcl

theorem ucOne_of_all {P : Program} {H : Hd} (hH : HdOk P H) (n f : Nat) {G : List A1 → Option (Bool × AV)}
    (h : ∀ args r, G args = some (true, r) → (hcTree P H n f args).All (fun x => leA x r)) : UcOne P f (nG G) := by
  intro args r hG hcl
  have hs := nG_sel hG
  exact hcOne_of_all (G := fun a => if a = args then some r else none) hH n f (fun a r' ha => by
    split at ha
    · rename_i e
      subst e
      simp at ha; subst ha
      exact h a r hs
    · cases ha) args r (by simp) hcl

theorem all_bind {α β : Type} {Q : β → Prop} {f : α → Tree β} : ∀ {t : Tree α}, (t.bind f).All Q ↔ t.All (fun a => (f a).All Q)
  | .leaf _ => Iff.rfl
  | .br _ _ _ => and_congr (imp_congr_right fun _ => all_bind) (imp_congr_right fun _ => all_bind)
  | .need _ _ => and_congr_right fun _ => all_bind
  | .fail => Iff.rfl

theorem All.imp {α : Type} {Q R : α → Prop} (h : ∀ a, Q a → R a) : ∀ {t : Tree α}, t.All Q → t.All R
  | .leaf _, k => h _ k
  | .br _ _ _, ⟨k1, k2⟩ => ⟨fun hc => All.imp h (k1 hc), fun hc => All.imp h (k2 hc)⟩
  | .need _ _, ⟨k1, k2⟩ => ⟨k1, All.imp h k2⟩
  | .fail, k => k.elim

/-- the values alone -/
def Tree.vals (t : Tree (AV × Mem)) : Tree AV := t.bind fun y => .leaf y.1

theorem all_of {α : Type} {Q : α → Prop} {t u : Tree α} (h : t = u) (k : u.All Q) : t.All Q := h ▸ k

theorem all_vals {Q : AV → Prop} {t : Tree (AV × Mem)} (h : t.vals.All Q) : t.All (fun y => Q y.1) := all_bind.1 h

/-- summaries out of a tree that is given -/
theorem tcOne_of_tree {P : Program} {H : Hd} (hH : HdOk P H) (n f : Nat) {G : List A1 → Option (Bool × AV)}
    (h : ∀ args r, G args = some (true, r) → (denA r).isSome = true ∧ ∃ u, (evFn P H n f args []).vals = u ∧ u.All (fun z => z = r)) : TcOne P f (nG G) :=
  tcOne_of_all hH n f fun args r hG => by
    obtain ⟨h1, u, h2, h3⟩ := h args r hG
    exact ⟨h1, all_vals (Q := fun z => z = r) (h2 ▸ h3)⟩

theorem pcOne_of_tree {P : Program} {H : Hd} (hH : HdOk P H) (n f : Nat) {G : List A1 → Option AV}
    (h : ∀ args r, G args = some r → (denA r).isSome = true ∧ ∃ u, (evFn P H n f args []).vals = u ∧ u.All (fun z => z = r)) : PcOne P f G :=
  pcOne_of_all hH n f fun args r hG => by
    obtain ⟨h1, u, h2, h3⟩ := h args r hG
    exact ⟨h1, all_vals (Q := fun z => z = r) (h2 ▸ h3)⟩

theorem hcOne_of_tree {P : Program} {H : Hd} (hH : HdOk P H) (n f : Nat) {G : List A1 → Option AV}
    (h : ∀ args r, G args = some r → ∃ u, hcTree P H n f args = u ∧ u.All (fun z => leA z r)) : HcOne P f G :=
  hcOne_of_all hH n f fun args r hG => by
    obtain ⟨u, h2, h3⟩ := h args r hG
    exact h2 ▸ h3

theorem ucOne_of_tree {P : Program} {H : Hd} (hH : HdOk P H) (n f : Nat) {G : List A1 → Option (Bool × AV)}
    (h : ∀ args r, G args = some (true, r) → ∃ u, hcTree P H n f args = u ∧ u.All (fun z => leA z r)) : UcOne P f (nG G) :=
  ucOne_of_all hH n f fun args r hG => by
    obtain ⟨u, h2, h3⟩ := h args r hG
    exact h2 ▸ h3

/-- a law out of a tree that is given -/
theorem law_of_tree {P : Program} {H : Hd} (hH : HdOk P H) (n f : Nat) {args : List A1} {u : Tree AV} (hu : (evFn P H n f args []).vals = u) (ha : u.All (fun z => z = .one (.c (.bool true)))) {F : Nat → Prop} {W : World} {vs : List Value}
    (hargs : All2 (A1.Rel F W []) args vs) : Calls P f vs.toArray W (fun e W' => e = .returned (.bool true) ∧ Below W.heap.size W W') := by
  subst hu
  obtain ⟨⟨r', m⟩, hsel, hr⟩ := all_sel (all_vals (Q := fun z => z = .one (.c (.bool true))) ha)
  simp only at hr
  subst hr
  refine (evFn_ok0 hH n f args _ m hsel F W [] vs MemRel.nil hargs).mono fun e w2 ⟨u, F', bs', he, hext, hm, hu⟩ => ?_
  cases hu
  exact ⟨he, hext.below⟩

/-! ### loops that look for something -/

/-- is there one among the first? -/
def anyB (bad : Nat → Bool) : Nat → Bool
  | 0 => false
  | n + 1 => anyB bad n || bad n

theorem anyB_iff {bad : Nat → Bool} : ∀ {n : Nat}, anyB bad n = true ↔ ∃ i, i < n ∧ bad i = true
  | 0 => by simp [anyB]
  | n + 1 => by
    simp only [anyB, Bool.or_eq_true, anyB_iff (n := n)]
    constructor
    · rintro (⟨i, h1, h2⟩ | h)
      · exact ⟨i, by omega, h2⟩
      · exact ⟨n, by omega, h⟩
    · rintro ⟨i, h1, h2⟩
      rcases Nat.lt_or_eq_of_le (Nat.le_of_lt_succ h1) with h | rfl
      · exact .inl ⟨i, h, h2⟩
      · exact .inr h2

theorem anyB_none {bad : Nat → Bool} {n : Nat} (h : ∀ i, i < n → bad i = false) : anyB bad n = false := by
  rw [Bool.eq_false_iff]
  intro hh
  obtain ⟨i, h1, h2⟩ := anyB_iff.1 hh
  rw [h i h1] at h2
  cases h2

/-- a scan: what one round does -/
structure Scan (TX : Int → Tree (XE × Int)) (n : Nat) (bad : Nat → Bool) (e1 e0 : XE) : Prop where
  small : n ≤ 4611686018427387904
  out : e0 ≠ .normal
  hit : e1 ≠ .normal
  round : ∀ i : Nat, i < n → (TX (i : Int)).All fun y => if bad i then y.1 = e1 ∧ y.2 = (i : Int) else y.1 = .normal ∧ y.2 = (i : Int) + 1
  stop : (TX (n : Int)).All fun y => y.1 = e0

def scanInv (n : Nat) (i : Int) : Prop := 0 ≤ i ∧ i ≤ n
def scanμ (n : Nat) (i : Int) : Nat := (n - i).toNat

theorem Scan.rounds {TX : Int → Tree (XE × Int)} {n : Nat} {bad : Nat → Bool} {e1 e0 : XE} (h : Scan TX n bad e1 e0) {inv : Int → Prop} (hinv : ∀ i, inv i ↔ scanInv n i) :
    Rounds TX inv (scanμ n) (fun y => y.1 = e1 ∨ y.1 = e0) := by
  intro x hx
  obtain ⟨h0, h1⟩ := (hinv x).1 hx
  obtain ⟨i, rfl⟩ : ∃ i : Nat, x = i := ⟨x.toNat, by omega⟩
  rcases Nat.lt_or_eq_of_le (show i ≤ n by omega) with hi | rfl
  · refine All.imp (fun y hy => ?_) (h.round i hi)
    obtain ⟨e, z⟩ := y
    split at hy
    · obtain ⟨rfl, rfl⟩ := hy
      cases hn : e with
      | normal => exact (h.hit hn).elim
      | exit k => simp only; exact .inl trivial
      | ret => simp only; exact .inl trivial
    · obtain ⟨rfl, rfl⟩ := hy
      exact ⟨(hinv _).2 ⟨by simp only; omega, by simp only; omega⟩, by unfold scanμ; simp only; omega⟩
  · refine All.imp (fun y hy => ?_) h.stop
    obtain ⟨e, z⟩ := y
    simp only at hy
    subst hy
    cases hn : e with
    | normal => exact (h.out hn).elim
    | exit k => simp only; exact .inr trivial
    | ret => simp only; exact .inr trivial

theorem Scan.fin_from {TX : Int → Tree (XE × Int)} {n : Nat} {bad : Nat → Bool} {e1 e0 : XE} (h : Scan TX n bad e1 e0) :
    ∀ (d i : Nat), i + d = n → (fin TX (scanμ n) (i : Int)).1 = if ∃ j, i ≤ j ∧ j < n ∧ bad j = true then e1 else e0 := by
  have hr := h.rounds (inv := scanInv n) (fun _ => Iff.rfl)
  intro d
  induction d with
  | zero =>
    intro i hi
    have hi : i = n := by omega
    subst hi
    obtain ⟨y, hs, hy⟩ := all_sel (fin_step hr (x := (i : Int)) ⟨by omega, by omega⟩)
    obtain ⟨y', hs', hy'⟩ := all_sel h.stop
    rw [hs] at hs'
    simp at hs'; subst hs'
    rw [if_neg (by rintro ⟨j, h1, h2, _⟩; omega)]
    rcases hy with ⟨hn, _⟩ | ⟨_, hf⟩
    · exact (h.out (hy'.symm.trans hn)).elim
    · rw [hf]; exact hy'
  | succ d ih =>
    intro i hi
    obtain ⟨y, hs, hy⟩ := all_sel (fin_step hr (x := (i : Int)) ⟨by omega, by omega⟩)
    obtain ⟨y', hs', hy'⟩ := all_sel (h.round i (by omega))
    rw [hs] at hs'
    simp at hs'; subst hs'
    by_cases hb : bad i = true
    · rw [if_pos hb] at hy'
      rw [if_pos ⟨i, by omega, by omega, hb⟩]
      rcases hy with ⟨hn, _⟩ | ⟨_, hf⟩
      · exact (h.hit (hy'.1.symm.trans hn)).elim
      · rw [hf]; exact hy'.1
    · rw [if_neg hb] at hy'
      rcases hy with ⟨_, _, _, hf⟩ | ⟨hn, _⟩
      · rw [← hf, hy'.2]
        have := ih (i + 1) (by omega)
        rw [show ((i + 1 : Nat) : Int) = (i : Int) + 1 by omega] at this
        rw [this]
        congr 1
        refine propext ⟨fun ⟨j, h1, h2, h3⟩ => ⟨j, by omega, h2, h3⟩, fun ⟨j, h1, h2, h3⟩ => ⟨j, ?_, h2, h3⟩⟩
        rcases Nat.lt_or_eq_of_le h1 with h4 | rfl
        · omega
        · exact (hb h3).elim
      · exact (hn hy'.1).elim

theorem Scan.fin0 {TX : Int → Tree (XE × Int)} {n : Nat} {bad : Nat → Bool} {e1 e0 : XE} (h : Scan TX n bad e1 e0) : (fin TX (scanμ n) 0).1 = bif anyB bad n then e1 else e0 := by
  have := h.fin_from n 0 (by omega)
  rw [show ((0 : Nat) : Int) = 0 from rfl] at this
  rw [this]
  cases hb : anyB bad n
  · rw [if_neg]
    · rfl
    · rintro ⟨j, _, h2, h3⟩
      have := anyB_iff.2 ⟨j, h2, h3⟩
      rw [hb] at this
      cases this
  · obtain ⟨i, h1, h2⟩ := anyB_iff.1 hb
    rw [if_pos ⟨i, by omega, h1, h2⟩]
    rfl

end Go.Sx
/-
  The evaluator in use (part X): a loop of few rounds, once for all states of a family.
-/
namespace Go.Sx
open Go Go.RowKit

/-- the summary of such a loop -/
def unrollG {X : Type} (keep : List Nat) (k0 n : Nat) (get : List (Nat × AV) → Mem → Option X) (T : X → Tree (XE × St)) (K : Nat) (s : St) : Tree (XE × St) :=
  if s.tmps.length == n && Nat.ble K k0 then
    match s.gc keep k0 with
    | some s' => match getKept s' keep with
      | some l => match get l s'.mem with
        | some x => T x
        | none => .fail
      | none => .fail
    | none => .fail
  else .fail

theorem unrollG_ok {P : Program} {H : Hd} (hH : HdOk P H) (d f i m : Nat) {fn : Func} {c b : Code} (hf : P.funcs[f]? = some fn) (hc : fn.body = some c) (hb : nthLoop c i = some b) {X : Type} (keep : List Nat) (k0 n : Nat) (S : X → St) (T : X → Tree (XE × St))
    (hT : ∀ x z, (T x).sel = some z → ((unrollH P H d f i m k0 (S x)).bind fun y => gcT keep k0 y).sel = some z)
    (get : List (Nat × AV) → Mem → Option X) (hget : ∀ l m x, get l m = some x → mkS n l m = S x) : LoopOk P b (unrollG keep k0 n get T) := by
  intro K s y hy lr nn D F w bs a _ hs Q' hQ
  unfold unrollG at hy
  split at hy
  · rename_i hlen
    rw [Bool.and_eq_true] at hlen
    have hKk := Nat.ble_eq.mp hlen.2
    have hlen : s.tmps.length = n := by simpa using hlen.1
    split at hy
    · rename_i s' hg
      split at hy
      · rename_i l hl
        split at hy
        · rename_i x hx
          have e := gc_eq hg hl
          rw [hlen, hget l _ x hx] at e
          obtain ⟨bs1, he1, hl1, hs2⟩ := hs.gc hg
          rw [e] at hs2
          obtain ⟨⟨e1, s1⟩, h1, h2⟩ := sel_bind (hT x y hy)
          unfold gcT at h2
          simp only at h2
          split at h2
          · rename_i s2 hg2
            simp only [Tree.sel, Option.some.injEq] at h2
            subst h2
            refine unroll_ok hH d f i hf hc hb m k0 (S x) (e1, s1) h1 lr nn D F w bs1 a hl1 hs2 Q' fun F' w' bs' a' he hs' => ?_
            obtain ⟨bs3, e3, hl3, hs3⟩ := hs'.gc hg2
            exact hQ F' w' bs3 a' (((he1.trans he (Nat.le_refl _)).trans e3 (Nat.le_refl _)).weak hKk) hs3
          · simp [Tree.sel] at h2
        · simp [Tree.sel] at hy
      · simp [Tree.sel] at hy
    · simp [Tree.sel] at hy
  · simp [Tree.sel] at hy

end Go.Sx
/-
  The evaluator in use (part Y): functions that lay what may still be written; rounds that follow one another.
-/
namespace Go.Sx
open Go Go.RowKit

variable {P : Program}

/-- a value among more blocks -/
def shC (k : Nat) : CV → CV
  | .ptr b o => .ptr (k + b) o
  | .os b sz => .os (k + b) sz
  | .ost b sz lo => .ost (k + b) sz lo
  | .osh b sz m => .osh (k + b) sz m
  | .rowp b sz i off => .rowp (k + b) sz i off
  | .fn f a c => .fn f (shCs k a) (shCs k c)
  | .iface t v => .iface t (shC k v)
  | .yld b => .yld (k + b)
  | x => x
 where shCs (k : Nat) : List CV → List CV
  | [] => []
  | a :: l => shC k a :: shCs k l

def sh1 (k : Nat) : A1 → A1
  | .c x => .c (shC k x)
  | .agg l => .agg (l.map (shC k))

def shA (k : Nat) : AV → AV
  | .any => .any
  | .one a => .one (sh1 k a)
  | .tup l => .tup (l.map (sh1 k))

def shE (k : Nat) : Option (TypeId × List CV) → Option (TypeId × List CV)
  | some (T, cs) => some (T, cs.map (shC k))
  | none => none

theorem nth_shift {α : Type} (l r : List α) (b : Nat) : nth (l ++ r) (l.length + b) = nth r b := by
  rw [nth_eq, nth_eq, List.getElem?_append_right (by omega)]
  congr 1; omega

theorem shC_ok {F : Nat → Prop} {w : World} {bs bs' : List BI} {x : CV} {v : Value} (h : CV.Rel F w bs' x v) : CV.Rel F w (bs ++ bs') (shC bs.length x) v := by
  have hcs : ∀ (l : List CV) (i : Nat) (x : CV), nth (shC.shCs bs.length l) i = some x → ∃ y, nth l i = some y ∧ x = shC bs.length y := by
    intro l
    induction l with
    | nil => intro i x h; simp [shC.shCs, nth] at h
    | cons a l ih =>
      intro i x h
      cases i with
      | zero => simp [shC.shCs, nth] at h; exact ⟨a, rfl, h.symm⟩
      | succ n => exact ih n x (by simpa [shC.shCs, nth] using h)
  have hlen : ∀ l : List CV, (shC.shCs bs.length l).length = l.length := by
    intro l
    induction l with
    | nil => rfl
    | cons a l ih => simp [shC.shCs, ih]
  induction h with
  | any h => exact .any h
  | bool b => exact .bool b
  | int k n => exact .int k n
  | str s => exact .str s
  | nilp => exact .nilp
  | nils => exact .nils
  | nilf => exact .nilf
  | nili => exact .nili
  | ptr h => exact .ptr (by rw [nth_shift]; exact h)
  | os h hb => exact .os (by rw [nth_shift]; exact h) hb
  | ost h hl => exact .ost (by rw [nth_shift]; exact h) hl
  | osh h hl h0 => exact .osh (by rw [nth_shift]; exact h) hl h0
  | rowp h hi => exact .rowp (by rw [nth_shift]; exact h) hi
  | rop val hb hF hc hr _ => exact .rop val hb hF hc hr
  | slnil => exact .slnil
  | sl val hn h0 hc hr _ => exact .sl val hn h0 hc hr
  | fn l1 l2 r1 r2 ih1 ih2 =>
    refine .fn (by rw [hlen]; exact l1) (by rw [hlen]; exact l2) (fun i x v h1 h2 => ?_) (fun i x v h1 h2 => ?_)
    · obtain ⟨y, hy, rfl⟩ := hcs _ _ _ h1
      exact ih1 i y v hy h2
    · obtain ⟨y, hy, rfl⟩ := hcs _ _ _ h1
      exact ih2 i y v hy h2
  | iface h ih => exact .iface ih
  | yld h => exact .yld (by rw [nth_shift]; exact h)

theorem sh1_ok {F : Nat → Prop} {w : World} {bs bs' : List BI} {x : A1} {v : Value} (h : A1.Rel F w bs' x v) : A1.Rel F w (bs ++ bs') (sh1 bs.length x) v := by
  cases x with
  | c x => exact shC_ok h
  | agg l =>
    obtain ⟨vs, rfl, h⟩ := h
    exact ⟨vs, rfl, h.map_left fun _ _ h => shC_ok h⟩

theorem shA_ok {F : Nat → Prop} {w : World} {bs bs' : List BI} {x : AV} {v : Value} (h : AV.Rel F w bs' x v) : AV.Rel F w (bs ++ bs') (shA bs.length x) v := by
  cases x with
  | any => trivial
  | one a => exact sh1_ok h
  | tup l =>
    obtain ⟨vs, rfl, h⟩ := h
    exact ⟨vs, rfl, h.map_left fun _ _ h => sh1_ok h⟩

theorem sh_row {k : Nat} {cs : List CV} {fz : Bool} {es : List Sh} {n : Nat} {ρ : Val} (h : cs.map (shC k) = [.row fz es n ρ]) : cs = [.row fz es n ρ] := by
  match cs, h with
  | [c], h =>
    simp only [List.map_cons, List.map_nil, List.cons.injEq, and_true] at h
    cases c <;> simp only [shC] at h <;> first | exact congrArg (fun x => [x]) h | cases h
  | [], h => simp at h
  | _ :: _ :: _, h => simp at h

theorem sh_isRow {k : Nat} {cs : List CV} (h : isRowL (cs.map (shC k)) = false) : isRowL cs = false := by
  cases hr : isRowL cs
  · rfl
  · unfold isRowL at hr
    split at hr
    · simp [shC, isRowL] at h
    · simp [shC, isRowL] at h
    · cases hr

theorem sh_lp {k : Nat} {cs cs' : List CV} {f i : Nat} {st : LpS} (h : cs.map (shC k) = .lp f i st :: cs') : ∃ ds, cs = .lp f i st :: ds ∧ cs' = ds.map (shC k) := by
  match cs, h with
  | c :: ds, h =>
    simp only [List.map_cons, List.cons.injEq] at h
    refine ⟨ds, ?_, h.2.symm⟩
    have h1 := h.1
    cases c <;> simp only [shC] at h1 <;> first | (rw [h1]; done) | cases h1
  | [], h => simp at h

theorem sh_any {k : Nat} {c : CV} (h : isAny (shC k c) = false) : isAny c = false := by
  cases c <;> first | rfl | simp [shC, isAny] at h

theorem sh_live {x : BI} {k : Nat} {cs : List CV} (h : liveL x (cs.map (shC k))) : liveL x cs := by
  unfold liveL
  split
  · simpa [shC, liveL] using h
  · trivial

theorem nth_app {α : Type} {l r : List α} {k : Nat} {x : α} (h : nth (l ++ r) k = some x) : (k < l.length ∧ nth l k = some x) ∨ (l.length ≤ k ∧ nth r (k - l.length) = some x) := by
  rw [nth_eq] at h
  rcases Nat.lt_or_ge k l.length with hk | hk
  · left; rw [List.getElem?_append_left hk] at h; exact ⟨hk, by rw [nth_eq]; exact h⟩
  · right; rw [List.getElem?_append_right hk] at h; exact ⟨hk, by rw [nth_eq]; exact h⟩

/-- two memories side by side -/
theorem MemRel.join {F w bs mem bs' mem'} (h1 : MemRel P F w bs mem) (h2 : MemRel P F w bs' mem') (hd : ∀ k x T cs, nth bs k = some x → nth mem k = some (some (T, cs)) → liveL x cs → ∀ y ∈ bs', x.p ≠ y.p) : MemRel P F w (bs ++ bs') (mem ++ mem'.map (shE bs.length)) := by
  have g : Grow F F bs (bs ++ bs') w w := ⟨Nat.le_refl _, fun _ _ h => h, fun _ _ _ => rfl, fun k p hk => nth_append hk⟩
  have key : ∀ k T cs, nth (mem ++ mem'.map (shE bs.length)) k = some (some (T, cs)) → (k < mem.length ∧ nth mem k = some (some (T, cs))) ∨ (mem.length ≤ k ∧ ∃ cs0, nth mem' (k - mem.length) = some (some (T, cs0)) ∧ cs = cs0.map (shC bs.length)) := by
    intro k T cs h
    rcases nth_app h with h | ⟨hk, h⟩
    · exact .inl h
    · rw [nth_eq, List.getElem?_map] at h
      simp only [Option.map_eq_some_iff] at h
      obtain ⟨e, he, h⟩ := h
      unfold shE at h
      split at h
      · rename_i T' cs0
        simp only [Option.some.injEq, Prod.mk.injEq] at h
        obtain ⟨rfl, rfl⟩ := h
        exact .inr ⟨hk, cs0, by rw [nth_eq]; exact he, rfl⟩
      · cases h
  have keyb : ∀ k x, nth (bs ++ bs') k = some x → (k < mem.length → nth bs k = some x) ∧ (mem.length ≤ k → nth bs' (k - mem.length) = some x) := by
    intro k x h
    rcases nth_app h with ⟨hk, h⟩ | ⟨hk, h⟩
    · exact ⟨fun _ => h, fun h' => by have := h1.len; omega⟩
    · exact ⟨fun h' => by have := h1.len; omega, fun _ => by rw [← h1.len]; exact h⟩
  refine ⟨by simp [h1.len, h2.len], fun k x T cs hk hc hv => ?_, fun k k' x x' T cs T' cs' hk hk' hc hc' hv hv' hp => ?_, fun k T cs x hc hr hk => ?_, fun k T fz es n ρ x hc hk => ?_, fun k T f i st cs x hc hk => ?_⟩
  · rcases key k T cs hc with ⟨hlt, hm⟩ | ⟨hge, cs0, hm, rfl⟩
    · exact h1.loc k x T cs ((keyb k x hk).1 hlt) hm hv
    · exact h2.loc _ x T cs0 ((keyb k x hk).2 hge) hm (sh_live hv)
  · rcases key k T cs hc with ⟨hlt, hm⟩ | ⟨hge, cs0, hm, rfl⟩ <;> rcases key k' T' cs' hc' with ⟨hlt', hm'⟩ | ⟨hge', cs0', hm', rfl⟩
    · exact h1.inj k k' x x' T cs T' cs' ((keyb k x hk).1 hlt) ((keyb k' x' hk').1 hlt') hm hm' hv hv' hp
    · exact (hd k x T cs ((keyb k x hk).1 hlt) hm hv x' (nth_mem ((keyb k' x' hk').2 hge')) hp).elim
    · exact (hd k' x' T' cs' ((keyb k' x' hk').1 hlt') hm' hv' x (nth_mem ((keyb k x hk).2 hge)) hp.symm).elim
    · have := h2.inj _ _ x x' T cs0 T' cs0' ((keyb k x hk).2 hge) ((keyb k' x' hk').2 hge') hm hm' (sh_live hv) (sh_live hv') hp
      omega
  · rcases key k T cs hc with ⟨hlt, hm⟩ | ⟨hge, cs0, hm, rfl⟩
    · obtain ⟨vs, a1, a2⟩ := h1.cont k T cs x hm hr ((keyb k x hk).1 hlt)
      exact ⟨vs, a1, a2.imp fun _ _ h => h.grow g⟩
    · obtain ⟨vs, a1, a2⟩ := h2.cont _ T cs0 x hm (sh_isRow hr) ((keyb k x hk).2 hge)
      exact ⟨vs, a1, a2.map_left fun _ _ h => shC_ok h⟩
  · rcases key k T _ hc with ⟨hlt, hm⟩ | ⟨hge, cs0, hm, he⟩
    · exact h1.row k T fz es n ρ x hm ((keyb k x hk).1 hlt)
    · have := sh_row he.symm
      subst this
      exact h2.row _ T fz es n ρ x hm ((keyb k x hk).2 hge)
  · rcases key k T _ hc with ⟨hlt, hm⟩ | ⟨hge, cs0, hm, he⟩
    · exact (h1.lp k T f i st cs x hm ((keyb k x hk).1 hlt)).grow g rfl
    · obtain ⟨ds, rfl, rfl⟩ := sh_lp he.symm
      obtain ⟨R, a1, a2, a4, a5, a6⟩ := h2.lp _ T f i st ds x hm ((keyb k x hk).2 hge)
      refine ⟨R, a1, a2, a4, by simpa using a5, fun j c v hj hv ha => ?_⟩
      rw [nth_eq, List.getElem?_map] at hj
      simp only [Option.map_eq_some_iff] at hj
      obtain ⟨c0, hc0, rfl⟩ := hj
      exact shC_ok (a6 j c0 v (by rw [nth_eq]; exact hc0) hv (sh_any ha))

/-- a world in which another part of the memory is owned less -/
theorem MemRel.less {F F' : Nat → Prop} {w bs mem} (h : MemRel P F w bs mem) (hF : ∀ p, F' p → F p) (hb : ∀ x ∈ bs, F x.p → F' x.p) : MemRel P F' w bs mem := by
  have g : Grow F F' bs bs w w := ⟨Nat.le_refl _, fun p _ h => hF p h, fun _ _ _ => rfl, fun _ _ h => h⟩
  have g0 : Grow F F' [] [] w w := ⟨Nat.le_refl _, fun p _ h => hF p h, fun _ _ _ => rfl, fun _ _ h => h⟩
  refine ⟨h.len, fun k x T cs hk hc hv => ⟨hb x (nth_mem hk) (h.loc k x T cs hk hc hv).1, (h.loc k x T cs hk hc hv).2⟩, h.inj, fun k T cs x hc hr hk => ?_, fun k T fz es n ρ x hc hk => ?_, fun k T f i st cs x hc hk => (h.lp k T f i st cs x hc hk).grow g rfl⟩
  · obtain ⟨vs, a1, a2⟩ := h.cont k T cs x hc hr hk
    exact ⟨vs, a1, a2.imp fun _ _ h => h.grow g⟩
  · exact (h.row k T fz es n ρ x hc hk).grow g0 fun _ => rfl

/-- One summary of a function that lays what may still be written. -/
def NcOne (P : Program) (f : Nat) (G : List A1 → Tree (AV × Mem)) : Prop :=
  ∀ args r m, (G args).sel = some (r, m) → args.all closedA = true → ∀ F w vs, All2 (A1.Rel F w []) args vs →
    Calls P f vs.toArray w (fun e w2 => ∃ v F' bs', e = .returned v ∧ Ext 0 F w [] F' w2 bs' ∧ MemRel P F' w2 bs' m ∧ AV.Rel F' w2 bs' r v)

/-- … beside the memory that is there -/
def ncG (G : List A1 → Tree (AV × Mem)) (args : List A1) (mem : Mem) : Tree (AV × Mem) :=
  let y := frz1s mem args
  if y.2.all closedA then (G y.2).bind fun z => .leaf (shA y.1.length z.1, y.1 ++ z.2.map (shE y.1.length)) else .fail

theorem NcOne.mc {P : Program} {f : Nat} {G : List A1 → Tree (AV × Mem)} (h : NcOne P f G) : McOne P f (ncG G) := by
  intro args mem r mem' hs F w bs vs hm hargs
  unfold ncG at hs
  simp only at hs
  split at hs
  · rename_i hcl
    obtain ⟨⟨r0, m0⟩, h1, h2⟩ := sel_bind hs
    simp only [Tree.sel, Option.some.injEq, Prod.mk.injEq] at h2
    obtain ⟨rfl, rfl⟩ := h2
    obtain ⟨F1, e1, m1, r1⟩ := frz1s_ok hm hargs
    have hvs' : All2 (A1.Rel F1 w []) (frz1s mem args).2 vs := by
      clear h1 hargs
      generalize (frz1s mem args).2 = l at r1 hcl
      induction r1 with
      | nil => exact .nil
      | cons ha _ ih =>
        simp only [List.all_cons, Bool.and_eq_true] at hcl
        exact .cons (ha.closed hcl.1) (ih hcl.2)
    refine (h _ _ _ h1 hcl F1 w vs hvs').mono fun e w2 ⟨v, F', bs', he, hx, hmm, hr⟩ => ?_
    have hlen : bs.length = (frz1s mem args).1.length := m1.len
    rw [← hlen]
    refine ⟨v, fun p => (p < w.heap.size ∧ F1 p) ∨ (w.heap.size ≤ p ∧ F' p), bs ++ bs', he, ?_, ?_, ?_⟩
    · have e2 : Ext bs.length F1 w bs (fun p => (p < w.heap.size ∧ F1 p) ∨ (w.heap.size ≤ p ∧ F' p)) w2 (bs ++ bs') :=
        ⟨hx.size, fun p hp h => h.elim (fun h => h.2) (fun h => by omega), fun p h hp _ => .inl ⟨hp, h⟩, fun p hp _ => hx.same p hp (.inr fun x hx => by cases hx), hx.os, hx.tape, hx.output, fun k x _ h => nth_append h, fun x hx' => by
          rcases List.mem_append.1 hx' with h | h
          · exact .inl ⟨x, h, rfl⟩
          · rcases hx.mem x h with ⟨y, hy, _⟩ | h
            · cases hy
            · exact .inr h⟩
      exact e1.trans e2 (Nat.le_refl _)
    · have hge : ∀ x ∈ bs', w.heap.size ≤ x.p := fun x h => by
        rcases hx.mem x h with ⟨y, hy, _⟩ | h
        · cases hy
        · exact h
      have hmA : MemRel P (fun p => (p < w.heap.size ∧ F1 p) ∨ (w.heap.size ≤ p ∧ F' p)) w2 bs (frz1s mem args).1 := by
        refine m1.move (F' := fun p => (p < w.heap.size ∧ F1 p) ∨ (w.heap.size ≤ p ∧ F' p)) ⟨hx.size, fun p hp h => h.elim (fun h => h.2) (fun h => by omega), fun p h hp _ => .inl ⟨hp, h⟩, fun p hp _ => hx.same p hp (.inr fun x hx => by cases hx), hx.os, hx.tape, hx.output, fun _ _ _ h => h, fun x h => .inl ⟨x, h, rfl⟩⟩ fun k x T cs hk hc hv => ?_
        have hl := m1.loc k x T cs hk hc hv
        exact ⟨.inl ⟨hl.2, hl.1⟩, hx.same _ hl.2 (.inr fun x hx => by cases hx)⟩
      have hmB : MemRel P (fun p => (p < w.heap.size ∧ F1 p) ∨ (w.heap.size ≤ p ∧ F' p)) w2 bs' m0 :=
        hmm.less (fun p h => h.elim (fun h => hx.F2 p h.2 h.1 (fun x hx => by cases hx)) (fun h => h.2)) fun x h hf => .inr ⟨hge x h, hf⟩
      refine hmA.join hmB fun k x T cs hk hc hv y hy e => ?_
      have hy' := hge y hy
      have := (m1.loc k x T cs hk hc hv).2
      omega
    · refine shA_ok (AV.Rel.grow (bs := bs') (bs' := bs') ⟨Nat.le_refl _, fun p _ h => h.elim (fun h => hx.F2 p h.2 h.1 (fun x hx => by cases hx)) (fun h => h.2), fun _ _ _ => rfl, fun _ _ h => h⟩ hr)
  · simp [Tree.sel] at hs

end Go.Sx
/-
  The evaluator in use (part Z): slices.Clone, at any type of elements.
-/
namespace Go.Sx
open Go Go.RowKit

variable {P : Program}

variable {D : List Deferred}

noncomputable abbrev HN : Hd := ⟨[], [], [], []⟩
theorem hn {P : Program} : HdOk P HN := HdOk.nil

/-- a row that reads the same -/
theorem MemRel.row2 {F w bs T es n} {ρ σ : Val} (h : MemRel P F w bs [none, some (T, [.row false es n ρ])]) (he : ∀ i f s, nth es f = some s → cellOf s ((ρ.at i).at f) = cellOf s ((σ.at i).at f)) : MemRel P F w bs [none, some (T, [.row false es n σ])] := by
  have key : ∀ k T' cs, nth [none, some (T, [CV.row false es n σ])] k = some (some (T', cs)) → k = 1 ∧ T' = T ∧ cs = [.row false es n σ] := by
    intro k T' cs hk
    match k, hk with
    | 0, hk => simp [nth] at hk
    | 1, hk => simp [nth] at hk; exact ⟨rfl, hk.1.symm, hk.2.symm⟩
    | k + 2, hk => simp [nth] at hk
  have old : nth [none, some (T, [CV.row false es n ρ])] 1 = some (some (T, [CV.row false es n ρ])) := rfl
  refine ⟨h.len, fun k x T' cs hk hc hv => ?_, fun k k' x x' T1 cs1 T2 cs2 _ _ h3 h4 _ _ _ => ?_, fun k T' cs x hc hr _ => ?_, fun k T' fz es' n' ρ' x hc hk => ?_, fun k T' f i st cs x hc _ => by have := (key k T' _ hc).2.2; simp at this⟩
  · obtain ⟨rfl, rfl, rfl⟩ := key k T' cs hc
    exact h.loc 1 x T' _ hk old hv
  · rw [(key k T1 cs1 h3).1, (key k' T2 cs2 h4).1]
  · obtain ⟨rfl, rfl, rfl⟩ := key k T' cs hc
    simp [isRowL] at hr
  · obtain ⟨rfl, rfl, hcs⟩ := key k T' _ hc
    simp only [List.cons.injEq, CV.row.injEq, and_true] at hcs
    obtain ⟨rfl, rfl, rfl, rfl⟩ := hcs
    have := h.row 1 T' false _ _ ρ x old hk
    refine ⟨this.len, this.le, this.mx, fun h0 => ?_, this.frz⟩
    obtain ⟨arr, a1, a2, val, a3, a4⟩ := this.blk h0
    exact ⟨arr, a1, a2, val, a3, fun i f s hi hs => he i f s hs ▸ a4 i f s hi hs⟩

theorem MemRel.row0' {F w bs mem} (hm : MemRel P F w bs mem) (T : TypeId) (es : List Sh) (ρ : Val) : MemRel P F w (bs ++ [⟨w.heap.size, 0, 0⟩]) (mem ++ [some (T, [.row false es 0 ρ])]) := by
  refine hm.push _ (fun h => ?_) (fun h => ?_) (fun h => ?_) (fun fz es' n ρ' h => ?_)
  · simp [liveL] at h
  · simp [liveL] at h
  · simp [isRowL] at h
  · simp only [List.cons.injEq, CV.row.injEq, and_true] at h
    obtain ⟨rfl, rfl, rfl, rfl⟩ := h
    exact ⟨rfl, Nat.le_refl _, Nat.zero_le _, fun h => by simp at h, fun h => by simp at h⟩

/-- how a function begins -/
theorem init_ok {F w bs} {args : List A1} {vs : List Value} {mem : Mem} {nt : Nat} (hm : MemRel P F w bs mem) (hargs : All2 (A1.Rel F w bs) args vs) (_ : args.length ≤ nt) :
    StRel P [] F w bs ⟨args.map (fun a => ⟨[], .one a⟩) ++ List.replicate (nt - args.length) ⟨[], .any⟩, mem⟩ { tmps := vs.toArray ++ Array.replicate (nt - vs.toArray.size) undef, defers := [] } := by
  have hl := hargs.length
  refine ⟨rfl, ?_, ?_, hm⟩
  · simp [hl]
  · intro i sl x hsl hx
    simp only [nth_eq] at hsl
    rcases Nat.lt_or_ge i args.length with hi | hi
    · rw [List.getElem?_append_left (by simpa using hi)] at hsl
      simp only [List.getElem?_map, Option.map_eq_some_iff] at hsl
      obtain ⟨b, hb', rfl⟩ := hsl
      rw [Array.getElem?_append_left (by simp; omega)] at hx
      obtain ⟨v, hv, hr⟩ := hargs.nth (by rw [nth_eq]; exact hb')
      simp only [List.getElem?_toArray] at hx
      rw [hv] at hx
      simp at hx; subst hx
      exact ⟨fun _ => hr, fun h => (h KH_nil).elim⟩
    · rw [List.getElem?_append_right (by simpa using hi)] at hsl
      rw [List.getElem?_replicate] at hsl
      split at hsl
      · simp at hsl; subst hsl
        exact ⟨fun _ => trivial, fun h => (h KH_nil).elim⟩
      · simp at hsl

/-- the copy of a slice: laid anew -/
def cloneG (E : TypeId) (es : List Sh) (sz bt : Nat) : List A1 → Tree (AV × Mem)
  | [.c (.sl es' n ρ)] => if shEq.shsEq es' es then .need (Nat.ble ((0 + n) * bt) 140737488355328) (.leaf (.one (.c (.os 1 sz)), [none, some (E, [.row false es n ρ])])) else .fail
  | _ => .fail

def stC (es : List Sh) (n : Nat) (ρ : Val) (b : Bool) : St := mkS 8 [(0, .one (.c (.sl es n ρ))), (2, .one (.c .nils)), (3, .one (.c (.sl es n ρ))), (4, .one (.c (.bool b)))] []

theorem clone_nc {P : Program} {f : Nat} {fn : Func} {R0 A B : Code} {i1 : Nat} {ops : Array Oper} {o1 o2 : Oper} {T T2 E : TypeId} {es : List Sh} {sz bt : Nat}
    (hf : P.funcs[f]? = some fn) (hb : fn.body = some (.seq R0 (.seq (.seq (.region i1 ops false) (.cond (.tmp 4) A .skip)) B)))
    (hops : ops.toList = [o1, o2]) (g1 : o1.guard = none) (p1 : o1.op = .move (.tmp 0)) (d1 : o1.dst = some 3) (g2 : o2.guard = none) (p2 : o2.op = .binOp .eql T (.tmp 3) (.const (.slice none 0 0)) T2) (d2 : o2.dst = some 4)
    (hT : P.underlying T = some (.slice E)) (hnt : fn.ntmps = 8)
    (e0 : ∀ n ρ, evCode P HN (evFn P HN 5) f 0 0 R0 (mkS 8 [(0, .one (.c (.sl es n ρ)))] []) = .leaf (.normal, mkS 8 [(0, .one (.c (.sl es n ρ))), (2, .one (.c .nils))] []))
    (sA sB : Nat → Val → St) (eA : ∀ n ρ, evCode P HN (evFn P HN 5) f 0 0 A (stC es n ρ true) = .leaf (.ret, sA n ρ)) (rA : ∀ n ρ, evResults P (sA n ρ) fn.results.toList = some [.c .nils]) (mA : ∀ n ρ, (sA n ρ).mem = [])
    (eB : ∀ n ρ, evCode P HN (evFn P HN 5) f 0 0 B (stC es n ρ false) = .need (Nat.ble ((0 + n) * bt) 140737488355328) (.leaf (.ret, sB n ρ))) (rB : ∀ n ρ, evResults P (sB n ρ) fn.results.toList = some [.c (.os 1 sz)])
    (mB : ∀ n ρ, (sB n ρ).mem = [none, some (E, [.row false es (0 + n) (Val.cat 0 (Val.ofFlat sz []) ρ)])]) : NcOne P f (cloneG E es sz bt) := by
  intro args r m hs hcl F w vs hargs
  unfold cloneG at hs
  split at hs
  · rename_i es' n ρ
    split at hs
    · rename_i hes
      have hes := shsEq_eq hes
      subst hes
      simp only [Tree.sel] at hs
      cases hn' : Nat.ble ((0 + n) * bt) 140737488355328
      · rw [hn'] at hs; simp at hs
      · rw [hn'] at hs
        simp only [cond_true, Option.some.injEq, Prod.mk.injEq] at hs
        obtain ⟨rfl, rfl⟩ := hs
        have noloop : ∀ (c : Code) (i : Nat) (b : Code) (h : Nat → St → Tree (XE × St)), nthLoop c i = some b → lookLh HN.lh f (0 + i) = some h → LoopOk P b h := fun c i b h _ hl => by simp [lookLh] at hl
        refine calls_of_wp hf hb ?_
        have hi := init_ok (P := P) (nt := fn.ntmps) MemRel.nil hargs (by rw [hnt]; simp)
        have es0 : (⟨([A1.c (CV.sl es' n ρ)] : List A1).map (fun a => ⟨[], .one a⟩) ++ List.replicate (fn.ntmps - ([A1.c (CV.sl es' n ρ)] : List A1).length) ⟨[], .any⟩, []⟩ : St) = mkS 8 [(0, .one (.c (.sl es' n ρ)))] [] := by rw [hnt]; rfl
        rw [es0] at hi
        refine wp_seq (evCode_wp hn.pc (evFn_ok hn 5) f 0 R0 0 _ (by rw [e0]; rfl) (fun i b h hl hk => noloop R0 i b h hl hk) (Nat.le_refl _) hi fun F1 w1 bs1 a1 x1 h1 => ?_)
        simp only [xe, Exit.then]
        refine wp_seq (wp_seq (wp_region_list ?_))
        rw [hops]
        -- the slice again
        have r0 : CV.Rel F1 w1 bs1 (.sl es' n ρ) (a1.eval (.tmp 0)) := opnd_ok (x := .tmp 0) (av := .one (.c (.sl es' n ρ))) h1 KH_nil rfl
        refine wpList_plain g1 fun K1 hK1 => wp_value (w' := w1) (v := a1.eval (.tmp 0)) (by unfold execOp; simp [p1]) (hK1 _ _ ?_)
        have h2 := StRel.put (dst := some 3) (ks := []) (v := .one (.c (.sl es' n ρ))) h1 (fun _ hp => by cases hp) (fun _ => r0) (fun h => (h KH_nil).elim)
        rw [d1]
        generalize hu : a1.eval (.tmp 0) = u at *
        have hsz : 3 < a1.tmps.size := by rw [← h1.len]; exact (by decide : 3 < 8)
        have e3 : (a1.put (some 3) u).eval (.tmp 3) = u := by simp [Act.put, Act.eval, hsz]
        obtain ⟨ba, bl, bc, rfl⟩ : ∃ ba bl bc, u = .slice ba bl bc := by cases r0 <;> exact ⟨_, _, _, rfl⟩
        refine wpList_plain g2 fun K2 hK2 => wp_value (w' := w1) (v := .bool ba.isNone) ?_ (hK2 _ _ (wpList_nil ?_))
        · unfold execOp
          simp only [p2]
          have g4 : ∀ w', (eqGuard .eql T (.tmp 3) (.const (.slice none 0 0)) (.slice ba bl bc) (.slice none 0 0)).run P w' = .ok () w' := fun w' => eqGuard_cell (by simp) (by simp) w'
          have e4 : ∀ w', (do eqGuard .eql T (.tmp 3) (.const (.slice none 0 0)) (.slice ba bl bc) (.slice none 0 0); binOp .eql T (.slice ba bl bc) (.slice none 0 0) : Sem Value).run P w' = .ok (.bool ba.isNone) w' := fun w' => by
            simp only [Sem.run_bind, g4, Result.andThen_ok]
            show (do pure (Value.bool (← Op.equal T (.slice ba bl bc) (.slice none 0 0))) : Sem Value).run P w' = _
            simp [run_equal_slice_nil w' T E ba bl bc hT]
          have e5 : (a1.put (some 3) (.slice ba bl bc)).eval (.const (.slice none 0 0)) = .slice none 0 0 := rfl
          simp only [e3, e5]
          have := e4 w1
          simp only [Sem.run_bind] at this ⊢
          rw [this]
          simp
        · rw [d2]
          have h3 := StRel.put (dst := some 4) (ks := []) (v := .one (.c (.bool ba.isNone))) h2 (fun _ hp => by cases hp) (fun _ => CV.Rel.bool _) (fun h => (h KH_nil).elim)
          have hst : (((mkS 8 [(0, .one (.c (.sl es' n ρ))), (2, .one (.c .nils))] []).put (some 3) [] (.one (.c (.sl es' n ρ)))).put (some 4) [] (.one (.c (.bool ba.isNone)))) = stC es' n ρ ba.isNone := rfl
          rw [hst] at h3
          simp only [Exit.then]
          have hc4 : ((a1.put (some 3) (.slice ba bl bc)).put (some 4) (.bool ba.isNone)).eval (.tmp 4) = .bool ba.isNone := by
            have hr := opnd_ok (x := .tmp 4) (av := .one (.c (.bool ba.isNone))) h3 KH_nil rfl
            generalize ((a1.put (some 3) (.slice ba bl bc)).put (some 4) (.bool ba.isNone)).eval (.tmp 4) = z at hr ⊢
            cases hr; rfl
          cases hba : ba.isNone
          · rw [hba] at h3 hc4
            refine wp_cond_false hc4 (wp_skip ?_)
            simp only [Exit.then]
            refine evCode_wp hn.pc (evFn_ok hn 5) f 0 B 0 _ (x := (.ret, sB n ρ)) (by rw [eB]; simp only [Tree.sel, hn', cond_true]) (fun i b h hl hk => noloop B i b h hl hk) (Nat.zero_le _) h3 fun F2 w2 bs2 a2 x2 h4 => ?_
            obtain ⟨z, hz, hrun⟩ := run_results h4 (rB n ρ)
            have hm2 := h4.mem
            rw [mB n ρ, Nat.zero_add] at hm2
            exact ⟨h4.defers, z, hrun, z, F2, bs2, rfl, (x1.weak (Nat.zero_le _)).trans x2 (Nat.zero_le _), hm2.row2 fun i f s _ => rfl, hz⟩
          · rw [hba] at h3 hc4
            obtain rfl : ba = none := by simpa using hba
            have hn0 : n = 0 := by cases r0; rfl
            subst hn0
            refine wp_cond_true hc4 (evCode_wp hn.pc (evFn_ok hn 5) f 0 A 0 _ (x := (.ret, sA 0 ρ)) (by rw [eA]; rfl) (fun i b h hl hk => noloop A i b h hl hk) (Nat.zero_le _) h3 fun F2 w2 bs2 a2 x2 h4 => ?_)
            simp only [xe, Exit.then]
            obtain ⟨z, hz, hrun⟩ := run_results h4 (rA 0 ρ)
            have hm2 := h4.mem
            rw [mA 0 ρ] at hm2
            have hbs : bs2 = [] := by
              have := hm2.len
              cases bs2 with
              | nil => rfl
              | cons _ _ => simp at this
            subst hbs
            have hz' : CV.Rel F2 w2 [] .nils z := hz
            have m3 := ((hm2.extend ⟨w2.heap.size, 0, 0⟩).row0' E es' ρ)
            have x3 : Ext 0 F w [] F2 w2 ([] ++ [⟨w2.heap.size, 0, 0⟩] ++ [⟨w2.heap.size, 0, 0⟩]) := by
              have x12 := (x1.weak (Nat.zero_le _)).trans x2 (Nat.zero_le _)
              exact (x12.push (.inr x12.size)).push (.inr x12.size)
            refine ⟨h4.defers, z, hrun, z, F2, _, rfl, x3, m3, ?_⟩
            cases hz'
            exact CV.Rel.os (F := F2) (w := w2) (b := 1) (sz := sz) (base := none) (x := ⟨w2.heap.size, 0, 0⟩) rfl (fun h => by simp at h)
    · simp [Tree.sel] at hs
  · simp [Tree.sel] at hs

end Go.Sx
/-
  The evaluator in use (part U): rounds that follow one another.
-/
namespace Go.Sx
open Go Go.RowKit

/-- the first one -/
def firstB (bad : Nat → Bool) : Nat → Nat
  | 0 => 0
  | n + 1 => bif anyB bad n then firstB bad n else n

theorem firstB_ok {bad : Nat → Bool} : ∀ {n : Nat}, anyB bad n = true → firstB bad n < n ∧ bad (firstB bad n) = true ∧ ∀ j, j < firstB bad n → bad j = false
  | 0, h => by simp [anyB] at h
  | n + 1, h => by
    unfold firstB
    cases hb : anyB bad n
    · simp only [anyB, hb, Bool.false_or] at h
      refine ⟨by simp, h, fun j hj => ?_⟩
      simp only [cond_false] at hj
      rw [← Bool.not_eq_true]
      intro hh
      have := anyB_iff.2 ⟨j, hj, hh⟩
      rw [hb] at this; cases this
    · obtain ⟨h1, h2, h3⟩ := firstB_ok hb
      exact ⟨by simp only [cond_true]; omega, h2, h3⟩

theorem firstB_eq {bad : Nat → Bool} {n i : Nat} (hi : i < n) (hb : bad i = true) (h : ∀ j, j < i → bad j = false) : anyB bad n = true ∧ firstB bad n = i := by
  have ha : anyB bad n = true := anyB_iff.2 ⟨i, hi, hb⟩
  obtain ⟨h1, h2, h3⟩ := firstB_ok ha
  refine ⟨ha, ?_⟩
  rcases Nat.lt_trichotomy (firstB bad n) i with hlt | heq | hgt
  · rw [h _ hlt] at h2; cases h2
  · exact heq
  · rw [h3 _ hgt] at hb; cases hb

/-- rounds that follow one another: the states 'st', the ways out at 'bad' ones 'sb' -/
structure Sq {X : Type} (TX : X → Tree (XE × X)) (μ : X → Nat) (st sb : Nat → X) (n : Nat) (bad : Nat → Bool) (e1 e0 : XE) : Prop where
  out : e0 ≠ .normal
  hit : e1 ≠ .normal
  meas : ∀ i, i ≤ n → μ (st i) = n - i
  round : ∀ i, i < n → (TX (st i)).All fun y => if bad i then y = (e1, sb i) else y = (.normal, st (i + 1))
  stop : (TX (st n)).All fun y => y = (e0, st n)

variable {X : Type} {TX : X → Tree (XE × X)} {μ : X → Nat} {st sb : Nat → X} {n : Nat} {bad : Nat → Bool} {e1 e0 : XE}

theorem Sq.rounds (h : Sq TX μ st sb n bad e1 e0) {inv : X → Prop} (hinv : ∀ x, inv x ↔ ∃ i, i ≤ n ∧ x = st i) : Rounds TX inv μ (fun y => (∃ i, i < n ∧ bad i = true ∧ y = (e1, sb i)) ∨ y = (e0, st n)) := by
  intro x hx
  obtain ⟨i, hi, rfl⟩ := (hinv x).1 hx
  rcases Nat.lt_or_eq_of_le hi with hlt | rfl
  · refine All.imp (fun y hy => ?_) (h.round i hlt)
    obtain ⟨e, z⟩ := y
    cases hb : bad i
    · rw [hb] at hy
      simp only [Bool.false_eq_true, if_false, Prod.mk.injEq] at hy
      obtain ⟨rfl, rfl⟩ := hy
      simp only
      rw [h.meas i hi, h.meas (i + 1) (by omega)]
      exact ⟨(hinv _).2 ⟨i + 1, by omega, rfl⟩, by omega⟩
    · rw [hb] at hy
      simp only [if_true, Prod.mk.injEq] at hy
      obtain ⟨rfl, rfl⟩ := hy
      cases hn : e with
      | normal => exact (h.hit hn).elim
      | exit k => subst hn; exact .inl ⟨i, hlt, hb, rfl⟩
      | ret => subst hn; exact .inl ⟨i, hlt, hb, rfl⟩
  · refine All.imp (fun y hy => ?_) h.stop
    obtain ⟨e, z⟩ := y
    simp only [Prod.mk.injEq] at hy
    obtain ⟨rfl, rfl⟩ := hy
    cases hn : e with
    | normal => exact (h.out hn).elim
    | exit k => subst hn; exact .inr rfl
    | ret => subst hn; exact .inr rfl

theorem Sq.fin_from (h : Sq TX μ st sb n bad e1 e0) : ∀ (d i : Nat), i + d = n → (∀ j, j < i → bad j = false) → fin TX μ (st i) = bif anyB bad n then (e1, sb (firstB bad n)) else (e0, st n) := by
  have hr := h.rounds (inv := fun x => ∃ i, i ≤ n ∧ x = st i) (fun _ => Iff.rfl)
  intro d
  induction d with
  | zero =>
    intro i hi hb
    have hi : i = n := by omega
    subst hi
    obtain ⟨y, hs, hy⟩ := all_sel (fin_step hr (x := st i) ⟨i, Nat.le_refl _, rfl⟩)
    obtain ⟨y', hs', hy'⟩ := all_sel h.stop
    rw [hs] at hs'
    simp at hs'; subst hs'
    rw [anyB_none hb]
    rcases hy with ⟨hn, _⟩ | ⟨_, hf⟩
    · rw [hy'] at hn; exact (h.out hn).elim
    · rw [hf, hy']; rfl
  | succ d ih =>
    intro i hi hb
    obtain ⟨y, hs, hy⟩ := all_sel (fin_step hr (x := st i) ⟨i, by omega, rfl⟩)
    obtain ⟨y', hs', hy'⟩ := all_sel (h.round i (by omega))
    rw [hs] at hs'
    simp at hs'; subst hs'
    cases hbi : bad i
    · rw [hbi] at hy'
      simp only [Bool.false_eq_true, if_false] at hy'
      rcases hy with ⟨_, _, _, hf⟩ | ⟨hn, _⟩
      · rw [← hf, hy']
        refine ih (i + 1) (by omega) fun j hj => ?_
        rcases Nat.lt_or_eq_of_le (Nat.le_of_lt_succ hj) with h1 | rfl
        · exact hb j h1
        · exact hbi
      · rw [hy'] at hn; exact (hn rfl).elim
    · rw [hbi] at hy'
      simp only [if_true] at hy'
      obtain ⟨ha, hf1⟩ := firstB_eq (show i < n by omega) hbi hb
      rw [ha, hf1]
      rcases hy with ⟨hn, _⟩ | ⟨_, hf⟩
      · rw [hy'] at hn; exact (h.hit hn).elim
      · rw [hf, hy']; rfl

theorem Sq.fin0 (h : Sq TX μ st sb n bad e1 e0) : fin TX μ (st 0) = bif anyB bad n then (e1, sb (firstB bad n)) else (e0, st n) := h.fin_from n 0 (by omega) fun j hj => by omega

/-- two ways to look for the same thing: they find it at the same place -/
theorem anyB_congr {b1 b2 : Nat → Bool} {n : Nat} (h : ∀ i, i < n → (∀ j, j < i → b1 j = false) → b1 i = b2 i) : anyB b1 n = anyB b2 n := by
  induction n with
  | zero => rfl
  | succ n ih =>
    have ih := ih fun i hi => h i (by omega)
    simp only [anyB]
    cases hb : anyB b1 n
    · rw [hb] at ih
      rw [← ih]
      simp only [Bool.false_or]
      refine h n (by omega) fun j hj => ?_
      rw [← Bool.not_eq_true]
      intro hh
      have := anyB_iff.2 ⟨j, hj, hh⟩
      rw [hb] at this; cases this
    · rw [hb] at ih
      rw [← ih]
      simp

end Go.Sx
/-
  The evaluator in use: summaries of functions that work on the memory, out of the evaluator; the keys of joined ways.
-/
namespace Go.Sx
open Go Go.RowKit

variable {P : Program}

variable {D : List Deferred}

/-- **A summary of a function that works on the memory, out of the evaluator.** -/
theorem mcOne_of_all {P : Program} {H : Hd} (hH : HdOk P H) (n f : Nat) {G : List A1 → Mem → Tree (AV × Mem)}
    (h : ∀ args mem r mem', (G args mem).sel = some (r, mem') → (evFn P H n f args mem).All (fun y => WkR P mem.length y (r, mem'))) (hf : f < 1000000000 := by decide) : McOne P f G := by
  intro args mem r mem' hG F w bs vs hm hargs
  obtain ⟨y, hsel, hw⟩ := all_sel (h args mem r mem' hG)
  refine ((evFn_ok hH n).fn f args mem y.1 y.2 hf hsel F w bs vs hm hargs).mono fun e w2 ⟨u, F', bs', he, hext, hm', hu⟩ => ?_
  obtain ⟨F2, bs2, e2, m2, r2⟩ := hw F' w2 bs' u (by have := hext.le; have := hm.len; omega) hm' hu
  rw [← hm.len] at e2
  exact ⟨u, F2, bs2, he, hext.trans e2 (Nat.le_refl _), m2, r2⟩

theorem mcOne_of_tree {P : Program} {H : Hd} (hH : HdOk P H) (n f : Nat) {G : List A1 → Mem → Tree (AV × Mem)} 
    (h : ∀ args mem r mem', (G args mem).sel = some (r, mem') → ∃ u, evFn P H n f args mem = u ∧ u.All (fun y => y = (r, mem'))) (hf : f < 1000000000 := by decide) : McOne P f G :=
  mcOne_of_all hH n f (fun args mem r mem' hG => by
    obtain ⟨u, hu, ha⟩ := h args mem r mem' hG
    rw [hu]
    exact All.imp (fun _ h => h ▸ WkR.refl) ha) hf

/-- the keys that say that a function's ways out, or the two ways of its conditions, are joined -/
def jF (f : Nat) : Nat × (List A1 → Tree AV) := (4294967296 + f, fun _ => .fail)
def jI (f : Nat) : Nat × (List A1 → Tree AV) := (8589934592 + f, fun _ => .fail)
theorem jF_ok {P : Program} (f : Nat) : TcOne P (4294967296 + f) (fun _ => .fail) := fun _ _ h => by simp [Tree.sel] at h
theorem jI_ok {P : Program} (f : Nat) : TcOne P (8589934592 + f) (fun _ => .fail) := fun _ _ h => by simp [Tree.sel] at h
theorem HdOk.jF {P : Program} {pc hc lh mc} (h : HdOk P ⟨pc, hc, lh, mc⟩) (f : Nat) : HdOk P ⟨Sx.jF f :: pc, hc, lh, mc⟩ := h.tcCons (jF_ok f)
theorem HdOk.jI {P : Program} {pc hc lh mc} (h : HdOk P ⟨pc, hc, lh, mc⟩) (f : Nat) : HdOk P ⟨Sx.jI f :: pc, hc, lh, mc⟩ := h.tcCons (jI_ok f)

/-- the key that says that tails of one's own slices are followed -/
def tailK : Nat × (List A1 → Tree AV) := (4294967293, fun _ => .fail)
theorem HdOk.tail {P : Program} {pc hc lh mc} (h : HdOk P ⟨pc, hc, lh, mc⟩) : HdOk P ⟨tailK :: pc, hc, lh, mc⟩ := h.tcCons (fun _ _ h => by simp [Tree.sel] at h)

/-- slices of the same elements -/
theorem leC_ext {es : List Sh} {n : Nat} {ρ σ : Val} (h : ∀ i f s, i < n → nth es f = some s → cellOf s ((ρ.at i).at f) = cellOf s ((σ.at i).at f)) : leC (.sl es n ρ) (.sl es n σ) := fun F w v hv => by
  cases hv with
  | slnil => exact .slnil
  | sl val hn h0 hc hr => exact .sl val hn h0 hc fun i f s hi hf => h i f s hi hf ▸ hr i f s hi hf

/-! ### a nil slice in the memory, as plain data without elements -/

def St.flatM (b o : Nat) (es : List Sh) (s : St) : St :=
  match nth s.mem b with
  | some (some (T, cs)) => if isRowL cs then s else match nth cs o with
    | some .nils => ⟨s.tmps, setN s.mem b (some (T, setN cs o (.sl es 0 Val.zero)))⟩
    | _ => s
  | _ => s

theorem StRel.flatM {F w bs s} {a : Act} (hs : StRel P D F w bs s a) (b o : Nat) (es : List Sh) : StRel P D F w bs (s.flatM b o es) a := by
  unfold St.flatM
  split
  · rename_i T cs hb
    split
    · exact hs
    rename_i hnr
    simp only [Bool.not_eq_true] at hnr
    split
    · rename_i ho
      have hnr' : isRowL (setN cs o (.sl es 0 Val.zero)) = false := setN_noRow hnr (fun _ => rfl) ho
      have wk : MemWk s.mem (setN s.mem b (some (T, setN cs o (.sl es 0 Val.zero)))) := by
        refine ⟨by rw [setN_length]; exact Nat.le_refl _, fun k T' cs' h => ?_⟩
        rcases nth_setN h with ⟨rfl, he⟩ | ⟨_, h⟩
        · cases he
          refine ⟨cs, hb, (fun hr => by rw [hnr] at hr; cases hr), fun _ => ⟨hnr', fun F w bs vs hv => ?_⟩⟩
          refine All2.of_nth (by rw [setN_length]; exact hv.length) fun i c v hc hv' => ?_
          rcases nth_setN hc with ⟨rfl, rfl⟩ | ⟨_, hc⟩
          · obtain ⟨v', hv2, hrel⟩ := hv.nth ho
            rw [nth_eq, hv2] at hv'
            simp at hv'; subst hv'
            cases hrel
            exact .slnil
          · obtain ⟨v', hv2, hrel⟩ := hv.nth hc
            rw [nth_eq, hv2] at hv'
            simp at hv'; subst hv'
            exact hrel
        · exact ⟨cs', h, fun _ => rfl, fun hr => ⟨hr, fun _ _ _ _ h => h⟩⟩
      have hm := hs.mem.weak wk
      have e : bs ++ List.replicate ((setN s.mem b (some (T, setN cs o (.sl es 0 Val.zero)))).length - s.mem.length) (⟨w.heap.size, 0, 0⟩ : BI) = bs := by
        rw [setN_length, Nat.sub_self]; simp
      rw [e] at hm
      exact ⟨hs.defers, hs.len, hs.slots, hm⟩
    · exact hs
  · exact hs

/-- a loop that begins so -/
def flatMH (b o : Nat) (es : List Sh) (h : Nat → St → Tree (XE × St)) (K : Nat) (s : St) : Tree (XE × St) := h K (s.flatM b o es)

theorem flatMH_ok {P : Program} {c : Code} {h : Nat → St → Tree (XE × St)} (b o : Nat) (es : List Sh) (hh : LoopOk P c h) : LoopOk P c (flatMH b o es h) :=
  fun K _ x hx lr nn D F w bs a hK hs Q hQ => hh K _ x hx lr nn D F w bs a hK (hs.flatM b o es) Q hQ

end Go.Sx
