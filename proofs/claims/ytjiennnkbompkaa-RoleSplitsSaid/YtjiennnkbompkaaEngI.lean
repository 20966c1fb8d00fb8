/-
  The evaluator in use (part I): summaries of functions whose result is a plain value.
-/
import Derived.Test.YtjiennnkbompkaaEngH
namespace Go.Sx
open Go Go.RowKit

/-- all that the road asks for -/
def Tree.needs {α : Type} : Tree α → Bool
  | .leaf _ => true
  | .br c t e => and' (imp' c t.needs) (imp' (!c) e.needs)
  | .need c t => and' c t.needs
  | .fail => false

/-- the results of all roads as one value -/
def Tree.res : Tree (AV × Mem) → AV
  | .leaf a => a.1
  | .br c t e => mergeA c t.res e.res
  | .need _ t => t.res
  | .fail => .any

def Tree.conds {α : Type} : Tree α → Tree Unit
  | .leaf _ => .leaf ()
  | .br c t e => .br c t.conds e.conds
  | .need c t => .need c t.conds
  | .fail => .fail

theorem needs_conds {α : Type} : ∀ (t : Tree α), t.conds.needs = t.needs
  | .leaf _ => rfl
  | .br c t e => by simp only [Tree.conds, Tree.needs, needs_conds t, needs_conds e]
  | .need c t => by simp only [Tree.conds, Tree.needs, needs_conds t]
  | .fail => rfl

theorem needs_sel {α : Type} : ∀ {t : Tree α}, t.needs = true → ∃ x, t.sel = some x
  | .leaf a, _ => ⟨a, rfl⟩
  | .br c t e, h => by
    simp only [Tree.needs] at h
    cases c
    · simp only [Tree.sel, cond_false]
      refine needs_sel ?_
      cases he : e.needs
      · rw [he] at h
        cases ht : t.needs <;> rw [ht] at h <;> cases h
      · rfl
    · simp only [Tree.sel, cond_true]
      refine needs_sel ?_
      cases ht : t.needs
      · rw [ht] at h
        cases h
      · rfl
  | .need c t, h => by
    simp only [Tree.needs] at h
    cases c
    · simp [and'] at h
    · simpa [Tree.sel] using needs_sel (t := t) h
  | .fail, h => by simp [Tree.needs] at h

def Tree.All {α : Type} (Q : α → Prop) : Tree α → Prop
  | .leaf a => Q a
  | .br c t e => (c = true → t.All Q) ∧ (c = false → e.All Q)
  | .need c t => c = true ∧ t.All Q
  | .fail => False

theorem all_sel {α : Type} {Q : α → Prop} : ∀ {t : Tree α}, t.All Q → ∃ x, t.sel = some x ∧ Q x
  | .leaf a, h => ⟨a, rfl, h⟩
  | .br c t e, h => by
    obtain ⟨h1, h2⟩ := h
    simp only [Tree.sel]
    cases c
    · exact all_sel (h2 rfl)
    · exact all_sel (h1 rfl)
  | .need c t, h => by
    obtain ⟨h1, h2⟩ := h
    simp only [Tree.sel, h1, cond_true]
    exact all_sel h2
  | .fail, h => h.elim

/-- what the road asks for is given -/
def Tree.Safe {α : Type} : Tree α → Prop
  | .leaf _ => True
  | .br c t e => (c = true → t.Safe) ∧ (c = false → e.Safe)
  | .need c t => c = true ∧ t.Safe
  | .fail => False

theorem needs_of_safe {α : Type} : ∀ {t : Tree α}, t.Safe → t.needs = true
  | .leaf _, _ => rfl
  | .br c t e, h => by
    obtain ⟨h1, h2⟩ := h
    simp only [Tree.needs]
    cases c
    · rw [needs_of_safe (h2 rfl)]
      cases t.needs <;> rfl
    · rw [needs_of_safe (h1 rfl)]
      cases e.needs <;> rfl
  | .need c t, h => by
    obtain ⟨h1, h2⟩ := h
    simp only [Tree.needs, h1, needs_of_safe h2]
    rfl
  | .fail, h => h.elim

theorem needs_of_conds {α : Type} {t : Tree α} {u : Tree Unit} (h : t.conds = u) (hs : u.Safe) : t.needs = true := by
  rw [← needs_conds, h]
  exact needs_of_safe hs

theorem res_rel {F w bs} {v : Value} : ∀ {t : Tree (AV × Mem)} {r m}, t.sel = some (r, m) → r.Rel F w bs v → t.res.Rel F w bs v
  | .leaf a, r, m, h, hr => by simp [Tree.sel] at h; subst h; exact hr
  | .br c t e, r, m, h, hr => by
    simp only [Tree.sel] at h
    refine mergeA_ok (fun hc => ?_) (fun hc => ?_)
    · subst hc; exact res_rel h hr
    · subst hc; exact res_rel h hr
  | .need c t, r, m, h, hr => by
    simp only [Tree.sel] at h
    cases c
    · simp at h
    · exact res_rel (t := t) h hr
  | .fail, r, m, h, _ => by simp [Tree.sel] at h

/-- the value of an abstract value that leaves nothing open -/
def denC : CV → Option Value
  | .bool b => some (.bool b)
  | .int k n => some (.int k n)
  | .str s => some (.string s)
  | .nilp => some (.pointer none)
  | .nils => some (.slice none 0 0)
  | .nilf => some .nilFunc
  | .nili => some .nilIface
  | _ => none

def denCs : List CV → Option (List Value)
  | [] => some []
  | c :: l => match denC c, denCs l with
    | some v, some r => some (v :: r)
    | _, _ => none

def den1 : A1 → Option Value
  | .c x => denC x
  | .agg l => match denCs l with
    | some r => some (.agg r.toArray)
    | none => none

def den1s : List A1 → Option (List Value)
  | [] => some []
  | c :: l => match den1 c, den1s l with
    | some v, some r => some (v :: r)
    | _, _ => none

def denA : AV → Option Value
  | .any => none
  | .one a => den1 a
  | .tup l => match den1s l with
    | some r => some (.tuple r.toArray)
    | none => none

theorem denC_ok {F w bs} {c : CV} {v u : Value} (h : denC c = some v) (hr : c.Rel F w bs u) : u = v := by
  unfold denC at h
  split at h <;> simp at h <;> subst h <;> cases hr <;> rfl

theorem denC_mk {F w bs} {c : CV} {v : Value} (h : denC c = some v) : c.Rel F w bs v := by
  unfold denC at h
  split at h <;> simp at h <;> subst h <;> constructor

theorem denCs_ok {F w bs} : ∀ {l : List CV} {r vs : List Value}, denCs l = some r → All2 (CV.Rel F w bs) l vs → vs = r
  | [], r, vs, h, hr => by cases hr; simp [denCs] at h; exact h.symm
  | c :: l, r, vs, h, hr => by
    simp only [denCs] at h
    split at h
    · rename_i v r' h1 h2
      simp at h; subst h
      cases hr with
      | cons ha hb => rw [denC_ok h1 ha, denCs_ok h2 hb]
    · simp at h

theorem denCs_mk {F w bs} : ∀ {l : List CV} {r : List Value}, denCs l = some r → All2 (CV.Rel F w bs) l r
  | [], r, h => by simp [denCs] at h; subst h; exact .nil
  | c :: l, r, h => by
    simp only [denCs] at h
    split at h
    · rename_i v r' h1 h2
      simp at h; subst h
      exact .cons (denC_mk h1) (denCs_mk h2)
    · simp at h

theorem den1_ok {F w bs} {c : A1} {v u : Value} (h : den1 c = some v) (hr : c.Rel F w bs u) : u = v := by
  cases c with
  | c x => exact denC_ok h hr
  | agg l =>
    simp only [den1] at h
    split at h
    · rename_i r hr'
      simp at h; subst h
      obtain ⟨vs, rfl, hv⟩ := hr
      rw [denCs_ok hr' hv]
    · simp at h

theorem den1_mk {F w bs} {c : A1} {v : Value} (h : den1 c = some v) : c.Rel F w bs v := by
  cases c with
  | c x => exact denC_mk h
  | agg l =>
    simp only [den1] at h
    split at h
    · rename_i r hr'
      simp at h; subst h
      exact ⟨r, rfl, denCs_mk hr'⟩
    · simp at h

theorem den1s_ok {F w bs} : ∀ {l : List A1} {r vs : List Value}, den1s l = some r → All2 (A1.Rel F w bs) l vs → vs = r
  | [], r, vs, h, hr => by cases hr; simp [den1s] at h; exact h.symm
  | c :: l, r, vs, h, hr => by
    simp only [den1s] at h
    split at h
    · rename_i v r' h1 h2
      simp at h; subst h
      cases hr with
      | cons ha hb => rw [den1_ok h1 ha, den1s_ok h2 hb]
    · simp at h

theorem den1s_mk {F w bs} : ∀ {l : List A1} {r : List Value}, den1s l = some r → All2 (A1.Rel F w bs) l r
  | [], r, h => by simp [den1s] at h; subst h; exact .nil
  | c :: l, r, h => by
    simp only [den1s] at h
    split at h
    · rename_i v r' h1 h2
      simp at h; subst h
      exact .cons (den1_mk h1) (den1s_mk h2)
    · simp at h

theorem denA_ok {F w bs} {c : AV} {v u : Value} (h : denA c = some v) (hr : c.Rel F w bs u) : u = v := by
  cases c with
  | any => simp [denA] at h
  | one x => exact den1_ok h hr
  | tup l =>
    simp only [denA] at h
    split at h
    · rename_i r hr'
      simp at h; subst h
      obtain ⟨vs, rfl, hv⟩ := hr
      rw [den1s_ok hr' hv]
    · simp at h

theorem denA_mk {F w bs} {c : AV} {v : Value} (h : denA c = some v) : c.Rel F w bs v := by
  cases c with
  | any => simp [denA] at h
  | one x => exact den1_mk h
  | tup l =>
    simp only [denA] at h
    split at h
    · rename_i r hr'
      simp at h; subst h
      exact ⟨r, rfl, den1s_mk hr'⟩
    · simp at h

/-- One summary is right. -/
def PcOne (P : Program) (f : Nat) (G : List A1 → Option AV) : Prop :=
  ∀ args r, G args = some r → args.all closedA = true → ∀ F w vs, All2 (A1.Rel F w []) args vs →
    ∃ v, AV.Rel F w [] r v ∧ ∀ w1, Below w.heap.size w w1 → Calls P f vs.toArray w1 (fun e w2 => e = .returned v ∧ Below w1.heap.size w1 w2)

/-- One summary with conditions is right. -/
def TcOne (P : Program) (f : Nat) (G : List A1 → Tree AV) : Prop :=
  ∀ args r, (G args).sel = some r → args.all closedA = true → ∀ F w vs, All2 (A1.Rel F w []) args vs →
    ∃ v, AV.Rel F w [] r v ∧ ∀ w1, Below w.heap.size w w1 → Calls P f vs.toArray w1 (fun e w2 => e = .returned v ∧ Below w1.heap.size w1 w2)

theorem PcOk.nil {P : Program} : PcOk P [] := by intro f G h; simp [lookPc] at h

theorem oG_sel {G : List A1 → Option AV} {args : List A1} {r : AV} (h : (oG G args).sel = some r) : G args = some r := by
  unfold oG at h
  split at h
  · rename_i x hx
    simp only [Tree.sel, Option.some.injEq] at h
    rw [hx, h]
  · simp [Tree.sel] at h

/-- the key that says that indices of arrays are known -/
def concK : Nat × (List A1 → Tree AV) := (4294967295, fun _ => .fail)

theorem concK_ok {P : Program} : TcOne P 4294967295 (fun _ => .fail) := fun _ _ h => by simp [Tree.sel] at h

theorem PcOne.tc {P : Program} {f : Nat} {G : List A1 → Option AV} (h : PcOne P f G) : TcOne P f (oG G) := fun args r hr => h args r (oG_sel hr)

theorem PcOk.cons {P : Program} {f : Nat} {G : List A1 → Tree AV} {pc} (h1 : TcOne P f G) (h2 : PcOk P pc) : PcOk P ((f, G) :: pc) := by
  intro f' G' h
  simp only [lookPc] at h
  split at h
  · rename_i e
    simp at h; subst h
    have : f = f' := by simpa using e
    subst this
    exact h1
  · exact h2 f' G' h

/-- One summary of a function that lays what it returns is right. -/
def HcOne (P : Program) (f : Nat) (G : List A1 → Option AV) : Prop :=
  ∀ args r, G args = some r → args.all closedA = true → ∀ F w vs, All2 (A1.Rel F w []) args vs →
    Calls P f vs.toArray w (fun e w2 => ∃ v, e = .returned v ∧ Below w.heap.size w w2 ∧ AV.Rel (fun p => F p ∧ p < w.heap.size) w2 [] r v)

/-- the same with conditions -/
def UcOne (P : Program) (f : Nat) (G : List A1 → Tree AV) : Prop :=
  ∀ args r, (G args).sel = some r → args.all closedA = true → ∀ F w vs, All2 (A1.Rel F w []) args vs →
    Calls P f vs.toArray w (fun e w2 => ∃ v, e = .returned v ∧ Below w.heap.size w w2 ∧ AV.Rel (fun p => F p ∧ p < w.heap.size) w2 [] r v)

theorem HcOk.nil {P : Program} : HcOk P [] := by intro f G h; simp [lookPc] at h

theorem HcOne.uc {P : Program} {f : Nat} {G : List A1 → Option AV} (h : HcOne P f G) : UcOne P f (oG G) := fun args r hr => h args r (oG_sel hr)

theorem HcOk.cons {P : Program} {f : Nat} {G : List A1 → Tree AV} {hc} (h1 : UcOne P f G) (h2 : HcOk P hc) : HcOk P ((f, G) :: hc) := by
  intro f' G' h
  simp only [lookPc] at h
  split at h
  · rename_i e
    simp at h; subst h
    have : f = f' := by simpa using e
    subst this
    exact h1
  · exact h2 f' G' h

/-- One summary of a function that works on the memory is right. -/
def McOne (P : Program) (f : Nat) (G : List A1 → Mem → Tree (AV × Mem)) : Prop :=
  ∀ args mem r mem', (G args mem).sel = some (r, mem') → ∀ F w bs vs, MemRel F w bs mem → All2 (A1.Rel F w bs) args vs →
    Calls P f vs.toArray w (fun e w' => ∃ v F' bs', e = .returned v ∧ Ext bs.length F w bs F' w' bs' ∧ MemRel F' w' bs' mem' ∧ AV.Rel F' w' bs' r v)

theorem McOk.nil {P : Program} : McOk P [] := by intro f G h; simp [lookMc] at h

theorem McOk.cons {P : Program} {f : Nat} {G : List A1 → Mem → Tree (AV × Mem)} {mc} (h1 : McOne P f G) (h2 : McOk P mc) : McOk P ((f, G) :: mc) := by
  intro f' G' h
  simp only [lookMc] at h
  split at h
  · rename_i e
    simp at h; subst h
    have : f = f' := by simpa using e
    subst this
    exact h1
  · exact h2 f' G' h

theorem HdOk.nil {P : Program} : HdOk P ⟨[], [], [], []⟩ := ⟨⟨PcOk.nil, HcOk.nil, McOk.nil⟩, by intro f fn c i b h _ _ _ hl; simp [lookLh] at hl⟩

theorem HdOk.tcCons {P : Program} {pc hc lh mc} {f : Nat} {G : List A1 → Tree AV} (h : HdOk P ⟨pc, hc, lh, mc⟩) (h1 : TcOne P f G) : HdOk P ⟨(f, G) :: pc, hc, lh, mc⟩ := ⟨⟨h.pc.pc.cons h1, h.pc.hc, h.pc.mc⟩, h.lh⟩

theorem HdOk.ucCons {P : Program} {pc hc lh mc} {f : Nat} {G : List A1 → Tree AV} (h : HdOk P ⟨pc, hc, lh, mc⟩) (h1 : UcOne P f G) : HdOk P ⟨pc, (f, G) :: hc, lh, mc⟩ := ⟨⟨h.pc.pc, h.pc.hc.cons h1, h.pc.mc⟩, h.lh⟩

theorem HdOk.mcCons {P : Program} {pc hc lh mc} {f : Nat} {G : List A1 → Mem → Tree (AV × Mem)} (h : HdOk P ⟨pc, hc, lh, mc⟩) (h1 : McOne P f G) : HdOk P ⟨pc, hc, lh, (f, G) :: mc⟩ := ⟨⟨h.pc.pc, h.pc.hc, h.pc.mc.cons h1⟩, h.lh⟩

theorem HdOk.pcCons {P : Program} {pc hc lh mc} {f : Nat} {G : List A1 → Option AV} (h : HdOk P ⟨pc, hc, lh, mc⟩) (h1 : PcOne P f G) : HdOk P ⟨(f, oG G) :: pc, hc, lh, mc⟩ := h.tcCons h1.tc

theorem HdOk.hcCons {P : Program} {pc hc lh mc} {f : Nat} {G : List A1 → Option AV} (h : HdOk P ⟨pc, hc, lh, mc⟩) (h1 : HcOne P f G) : HdOk P ⟨pc, (f, oG G) :: hc, lh, mc⟩ := h.ucCons h1.uc

theorem MemRel.nil {F w} : MemRel F w [] [] := ⟨rfl, fun k x T cs h => by simp [nth] at h, fun k k' x x' T cs T' cs' h => by simp [nth] at h, fun k T cs x h => by simp [nth] at h, fun k T fz es n ρ x h => by simp [nth] at h⟩

/-- **A summary out of the evaluator.** -/
theorem pcOne_of_ev {P : Program} {H : Hd} (hH : HdOk P H) (n f : Nat) {G : List A1 → Option AV}
    (h : ∀ args r, G args = some r → (denA r).isSome = true ∧ (evFn P H n f args []).needs = true ∧ (evFn P H n f args []).res = r) : PcOne P f G := by
  intro args r hG hcl F w vs hargs
  obtain ⟨hd, hn, hr⟩ := h args r hG
  obtain ⟨v, hv⟩ := Option.isSome_iff_exists.1 hd
  refine ⟨v, denA_mk hv, fun w1 hw1 => ?_⟩
  obtain ⟨⟨r', m⟩, hsel⟩ := needs_sel hn
  have hargs1 : All2 (A1.Rel F w1 []) args vs := hargs.imp fun _ _ hx => A1.Rel.grow (F := F) (F' := F) (bs := []) (bs' := []) ⟨hw1.size, fun _ _ h => h, fun p hp _ => hw1.block p hp, fun _ _ h => h⟩ hx
  refine (evFn_ok hH n f args [] r' m hsel F w1 [] vs MemRel.nil hargs1).mono fun e w2 ⟨u, F', bs', he, hext, hm, hu⟩ => ?_
  have := res_rel hsel hu
  rw [hr] at this
  have := denA_ok hv this
  subst this
  exact ⟨he, hext.below⟩

/-- the same, path by path -/
theorem pcOne_of_all {P : Program} {H : Hd} (hH : HdOk P H) (n f : Nat) {G : List A1 → Option AV}
    (h : ∀ args r, G args = some r → (denA r).isSome = true ∧ (evFn P H n f args []).All (fun y => y.1 = r)) : PcOne P f G := by
  intro args r hG hcl F w vs hargs
  obtain ⟨hd, ha⟩ := h args r hG
  obtain ⟨v, hv⟩ := Option.isSome_iff_exists.1 hd
  refine ⟨v, denA_mk hv, fun w1 hw1 => ?_⟩
  obtain ⟨⟨r', m⟩, hsel, hr⟩ := all_sel ha
  simp only at hr
  subst hr
  have hargs1 : All2 (A1.Rel F w1 []) args vs := hargs.imp fun _ _ hx => A1.Rel.grow (F := F) (F' := F) (bs := []) (bs' := []) ⟨hw1.size, fun _ _ h => h, fun p hp _ => hw1.block p hp, fun _ _ h => h⟩ hx
  refine (evFn_ok hH n f args [] r' m hsel F w1 [] vs MemRel.nil hargs1).mono fun e w2 ⟨u, F', bs', he, hext, hm, hu⟩ => ?_
  have := denA_ok hv hu
  subst this
  exact ⟨he, hext.below⟩

/-- a result, as plain data -/
def outA (mem : Mem) : AV → Option AV
  | .one a => let b := view1 mem a; if closedA b then some (.one b) else none
  | .tup l => let m := l.map (view1 mem); if m.all closedA then some (.tup m) else none
  | .any => none

def hcTree (P : Program) (H : Hd) (n f : Nat) (args : List A1) : Tree AV := (evFn P H n f args []).bind fun y => Tree.ofOpt (outA y.2 y.1)

theorem outA_ok {F w bs mem} (hm : MemRel F w bs mem) {x r : AV} {v : Value} (h : AV.Rel F w bs x v) (ho : outA mem x = some r) : AV.Rel (outF F bs) w [] r v := by
  cases x with
  | any => simp [outA] at ho
  | one a =>
    simp only [outA] at ho
    split at ho
    · rename_i hc
      simp at ho; subst ho
      exact view1_ok hm h hc
    · simp at ho
  | tup l =>
    obtain ⟨vs, rfl, h⟩ := h
    simp only [outA] at ho
    split at ho
    · rename_i hc
      simp at ho; subst ho
      refine ⟨vs, rfl, ?_⟩
      induction h with
      | nil => exact .nil
      | cons h _ ih =>
        simp only [List.map_cons, List.all_cons, Bool.and_eq_true] at hc
        exact .cons (view1_ok hm h hc.1) (ih hc.2)
    · simp at ho

/-- what holds of every value of the one holds of it as the other -/
def leA (x r : AV) : Prop := ∀ (F : Nat → Prop) (w : World) (v : Value), AV.Rel F w [] x v → AV.Rel F w [] r v

theorem leA.refl {x : AV} : leA x x := fun _ _ _ h => h

/-- **A summary of a function that lays what it returns, out of the evaluator.** -/
theorem hcOne_of_all {P : Program} {H : Hd} (hH : HdOk P H) (n f : Nat) {G : List A1 → Option AV}
    (h : ∀ args r, G args = some r → (hcTree P H n f args).All (fun x => leA x r)) : HcOne P f G := by
  intro args r hG hcl F w vs hargs
  obtain ⟨x, hsel, hle⟩ := all_sel (h args r hG)
  obtain ⟨⟨r', m⟩, h1, h2⟩ := sel_bind hsel
  have ho : outA m r' = some x := by
    cases hx : outA m r' with
    | none => rw [hx] at h2; simp [Tree.ofOpt, Tree.sel] at h2
    | some y => rw [hx] at h2; simpa [Tree.ofOpt, Tree.sel] using h2
  have hargs1 : All2 (A1.Rel (fun p => F p ∧ p < w.heap.size) w []) args vs := hargs.imp fun _ _ hx => A1.Rel.grow (bs := []) (bs' := []) ⟨Nat.le_refl _, fun _ _ h => h.1, fun _ _ _ => rfl, fun _ _ h => h⟩ hx
  refine (evFn_ok hH n f args [] r' m h1 _ w [] vs MemRel.nil hargs1).mono fun e w2 ⟨u, F', bs', he, hext, hm, hu⟩ => ?_
  refine ⟨u, he, hext.below, hle _ _ _ (AV.Rel.grow (bs := []) (bs' := []) ⟨Nat.le_refl _, fun p _ hp => ?_, fun _ _ _ => rfl, fun _ _ h => h⟩ (outA_ok hm hu ho))⟩
  refine ⟨hext.F2 p hp hp.2 (by simp), fun y hy e => ?_⟩
  rcases hext.mem y hy with ⟨z, hz, _⟩ | hs
  · cases hz
  · have := hp.2; omega

end Go.Sx
