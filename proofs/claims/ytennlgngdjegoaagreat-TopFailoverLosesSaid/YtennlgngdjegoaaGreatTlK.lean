/-
  Part TlK of the proof: EngI EngJ.
-/
import Derived.Test.YtennlgngdjegoaaGreatTlJ
import Derived.Deep.LoopGhost
import Derived.LoopN
import Derived.LoopNIn
import Derived.Sort.LoopGhostIn
namespace Go.Sx
open Go Go.RowKit
variable {P : Program}
def Tree.needs {α : Type} : Tree α → Bool
  | .leaf _ => true
  | .br c t e => and' (imp' c t.needs) (imp' (!c) e.needs)
  | .need c t => and' c t.needs
  | .fail => false
def Tree.res : Tree (AV × Mem) → AV
  | .leaf a => a.1
  | .br c t e => mergeA c t.res e.res
  | .need _ t => t.res
  | .fail => .any
theorem needs_sel {α : Type} : ∀ {t : Tree α}, t.needs = true → ∃ x, t.sel = some x
  | .leaf a, _ => ⟨a, rfl⟩
  | .br c t e, h => by
    simp only [Tree.needs] at h
    cases c
    · simp only [Tree.sel, cond_false]
      refine needs_sel ?_
      cases he : e.needs
      · rw [he] at h
        cases ht : t.needs <;> rw [ht] at h <;> cases h
      · rfl
    · simp only [Tree.sel, cond_true]
      refine needs_sel ?_
      cases ht : t.needs
      · rw [ht] at h
        cases h
      · rfl
  | .need c t, h => by
    simp only [Tree.needs] at h
    cases c
    · simp [and'] at h
    · simpa [Tree.sel] using needs_sel (t := t) h
  | .fail, h => by simp [Tree.needs] at h
def Tree.All {α : Type} (Q : α → Prop) : Tree α → Prop
  | .leaf a => Q a
  | .br c t e => (c = true → t.All Q) ∧ (c = false → e.All Q)
  | .need c t => c = true ∧ t.All Q
  | .fail => False
theorem all_sel {α : Type} {Q : α → Prop} : ∀ {t : Tree α}, t.All Q → ∃ x, t.sel = some x ∧ Q x
  | .leaf a, h => ⟨a, rfl, h⟩
  | .br c t e, h => by
    obtain ⟨h1, h2⟩ := h
    simp only [Tree.sel]
    cases c
    · exact all_sel (h2 rfl)
    · exact all_sel (h1 rfl)
  | .need c t, h => by
    obtain ⟨h1, h2⟩ := h
    simp only [Tree.sel, h1, cond_true]
    exact all_sel h2
  | .fail, h => h.elim
theorem res_rel {F w bs} {v : Value} : ∀ {t : Tree (AV × Mem)} {r m}, t.sel = some (r, m) → r.Rel F w bs v → t.res.Rel F w bs v
  | .leaf a, r, m, h, hr => by simp [Tree.sel] at h; subst h; exact hr
  | .br c t e, r, m, h, hr => by
    simp only [Tree.sel] at h
    refine mergeA_ok (fun hc => ?_) (fun hc => ?_)
    · subst hc; exact res_rel h hr
    · subst hc; exact res_rel h hr
  | .need c t, r, m, h, hr => by
    simp only [Tree.sel] at h
    cases c
    · simp at h
    · exact res_rel (t := t) h hr
  | .fail, r, m, h, _ => by simp [Tree.sel] at h
def denC : CV → Option Value
  | .bool b => some (.bool b)
  | .int k n => some (.int k n)
  | .str s => some (.string s)
  | .nilp => some (.pointer none)
  | .nils => some (.slice none 0 0)
  | .nilf => some .nilFunc
  | .nili => some .nilIface
  | _ => none
def denCs : List CV → Option (List Value)
  | [] => some []
  | c :: l => match denC c, denCs l with
    | some v, some r => some (v :: r)
    | _, _ => none
def den1 : A1 → Option Value
  | .c x => denC x
  | .agg l => match denCs l with
    | some r => some (.agg r.toArray)
    | none => none
def den1s : List A1 → Option (List Value)
  | [] => some []
  | c :: l => match den1 c, den1s l with
    | some v, some r => some (v :: r)
    | _, _ => none
def denA : AV → Option Value
  | .any => none
  | .one a => den1 a
  | .tup l => match den1s l with
    | some r => some (.tuple r.toArray)
    | none => none
theorem denC_ok {F w bs} {c : CV} {v u : Value} (h : denC c = some v) (hr : c.Rel F w bs u) : u = v := by
  unfold denC at h
  split at h <;> simp at h <;> subst h <;> cases hr <;> rfl
theorem denC_mk {F w bs} {c : CV} {v : Value} (h : denC c = some v) : c.Rel F w bs v := by
  unfold denC at h
  split at h <;> simp at h <;> subst h <;> constructor
theorem denCs_ok {F w bs} : ∀ {l : List CV} {r vs : List Value}, denCs l = some r → All2 (CV.Rel F w bs) l vs → vs = r
  | [], r, vs, h, hr => by cases hr; simp [denCs] at h; exact h.symm
  | c :: l, r, vs, h, hr => by
    simp only [denCs] at h
    split at h
    · rename_i v r' h1 h2
      simp at h; subst h
      cases hr with
      | cons ha hb => rw [denC_ok h1 ha, denCs_ok h2 hb]
    · simp at h
theorem denCs_mk {F w bs} : ∀ {l : List CV} {r : List Value}, denCs l = some r → All2 (CV.Rel F w bs) l r
  | [], r, h => by simp [denCs] at h; subst h; exact .nil
  | c :: l, r, h => by
    simp only [denCs] at h
    split at h
    · rename_i v r' h1 h2
      simp at h; subst h
      exact .cons (denC_mk h1) (denCs_mk h2)
    · simp at h
theorem den1_ok {F w bs} {c : A1} {v u : Value} (h : den1 c = some v) (hr : c.Rel F w bs u) : u = v := by
  cases c with
  | c x => exact denC_ok h hr
  | agg l =>
    simp only [den1] at h
    split at h
    · rename_i r hr'
      simp at h; subst h
      obtain ⟨vs, rfl, hv⟩ := hr
      rw [denCs_ok hr' hv]
    · simp at h
theorem den1_mk {F w bs} {c : A1} {v : Value} (h : den1 c = some v) : c.Rel F w bs v := by
  cases c with
  | c x => exact denC_mk h
  | agg l =>
    simp only [den1] at h
    split at h
    · rename_i r hr'
      simp at h; subst h
      exact ⟨r, rfl, denCs_mk hr'⟩
    · simp at h
theorem den1s_ok {F w bs} : ∀ {l : List A1} {r vs : List Value}, den1s l = some r → All2 (A1.Rel F w bs) l vs → vs = r
  | [], r, vs, h, hr => by cases hr; simp [den1s] at h; exact h.symm
  | c :: l, r, vs, h, hr => by
    simp only [den1s] at h
    split at h
    · rename_i v r' h1 h2
      simp at h; subst h
      cases hr with
      | cons ha hb => rw [den1_ok h1 ha, den1s_ok h2 hb]
    · simp at h
theorem den1s_mk {F w bs} : ∀ {l : List A1} {r : List Value}, den1s l = some r → All2 (A1.Rel F w bs) l r
  | [], r, h => by simp [den1s] at h; subst h; exact .nil
  | c :: l, r, h => by
    simp only [den1s] at h
    split at h
    · rename_i v r' h1 h2
      simp at h; subst h
      exact .cons (den1_mk h1) (den1s_mk h2)
    · simp at h
theorem denA_ok {F w bs} {c : AV} {v u : Value} (h : denA c = some v) (hr : c.Rel F w bs u) : u = v := by
  cases c with
  | any => simp [denA] at h
  | one x => exact den1_ok h hr
  | tup l =>
    simp only [denA] at h
    split at h
    · rename_i r hr'
      simp at h; subst h
      obtain ⟨vs, rfl, hv⟩ := hr
      rw [den1s_ok hr' hv]
    · simp at h
theorem denA_mk {F w bs} {c : AV} {v : Value} (h : denA c = some v) : c.Rel F w bs v := by
  cases c with
  | any => simp [denA] at h
  | one x => exact den1_mk h
  | tup l =>
    simp only [denA] at h
    split at h
    · rename_i r hr'
      simp at h; subst h
      exact ⟨r, rfl, den1s_mk hr'⟩
    · simp at h
def PcOne (P : Program) (f : Nat) (G : List A1 → Option AV) : Prop :=
  ∀ args r, G args = some r → args.all closedA = true → ∀ F w vs, All2 (A1.Rel F w []) args vs →
    ∃ v, AV.Rel F w [] r v ∧ ∀ w1, Below w.heap.size w w1 → Calls P f vs.toArray w1 (fun e w2 => e = .returned v ∧ Below w1.heap.size w1 w2)
def TcOne (P : Program) (f : Nat) (G : List A1 → Tree AV) : Prop :=
  ∀ args r, (G args).sel = some r → args.all closedA = true → ∀ F w vs, All2 (A1.Rel F w []) args vs →
    ∃ v, AV.Rel F w [] r v ∧ ∀ w1, Below w.heap.size w w1 → Calls P f vs.toArray w1 (fun e w2 => e = .returned v ∧ Below w1.heap.size w1 w2)
theorem PcOk.nil {P : Program} : PcOk P [] := by intro f G h; simp [lookPc] at h
theorem oG_sel {G : List A1 → Option AV} {args : List A1} {r : AV} (h : (oG G args).sel = some r) : G args = some r := by
  unfold oG at h
  split at h
  · rename_i x hx
    simp only [Tree.sel, Option.some.injEq] at h
    rw [hx, h]
  · simp [Tree.sel] at h
def concK : Nat × (List A1 → Tree AV) := (4294967295, fun _ => .fail)
theorem concK_ok {P : Program} : TcOne P 4294967295 (fun _ => .fail) := fun _ _ h => by simp [Tree.sel] at h
theorem PcOne.tc {P : Program} {f : Nat} {G : List A1 → Option AV} (h : PcOne P f G) : TcOne P f (oG G) := fun args r hr => h args r (oG_sel hr)
theorem PcOk.cons {P : Program} {f : Nat} {G : List A1 → Tree AV} {pc} (h1 : TcOne P f G) (h2 : PcOk P pc) : PcOk P ((f, G) :: pc) := by
  intro f' G' h
  simp only [lookPc] at h
  split at h
  · rename_i e
    simp at h; subst h
    have : f = f' := by simpa using e
    subst this
    exact h1
  · exact h2 f' G' h
def HcOne (P : Program) (f : Nat) (G : List A1 → Option AV) : Prop :=
  ∀ args r, G args = some r → args.all closedA = true → ∀ F w vs, All2 (A1.Rel F w []) args vs →
    Calls P f vs.toArray w (fun e w2 => ∃ v, e = .returned v ∧ Below w.heap.size w w2 ∧ AV.Rel (fun p => F p ∧ p < w.heap.size) w2 [] r v)
def UcOne (P : Program) (f : Nat) (G : List A1 → Tree AV) : Prop :=
  ∀ args r, (G args).sel = some r → args.all closedA = true → ∀ F w vs, All2 (A1.Rel F w []) args vs →
    Calls P f vs.toArray w (fun e w2 => ∃ v, e = .returned v ∧ Below w.heap.size w w2 ∧ AV.Rel (fun p => F p ∧ p < w.heap.size) w2 [] r v)
theorem HcOk.nil {P : Program} : HcOk P [] := by intro f G h; simp [lookPc] at h
theorem HcOk.cons {P : Program} {f : Nat} {G : List A1 → Tree AV} {hc} (h1 : UcOne P f G) (h2 : HcOk P hc) : HcOk P ((f, G) :: hc) := by
  intro f' G' h
  simp only [lookPc] at h
  split at h
  · rename_i e
    simp at h; subst h
    have : f = f' := by simpa using e
    subst this
    exact h1
  · exact h2 f' G' h
def McOne (P : Program) (f : Nat) (G : List A1 → Mem → Tree (AV × Mem)) : Prop :=
  ∀ args mem r mem', (G args mem).sel = some (r, mem') → ∀ F w bs vs, MemRel P F w bs mem → All2 (A1.Rel F w bs) args vs →
    Calls P f vs.toArray w (fun e w' => ∃ v F' bs', e = .returned v ∧ Ext bs.length F w bs F' w' bs' ∧ MemRel P F' w' bs' mem' ∧ AV.Rel F' w' bs' r v)
theorem McOk.nil {P : Program} : McOk P [] := by intro f G h; simp [lookMc] at h
theorem McOk.cons {P : Program} {f : Nat} {G : List A1 → Mem → Tree (AV × Mem)} {mc} (h1 : McOne P f G) (h2 : McOk P mc) : McOk P ((f, G) :: mc) := by
  intro f' G' h
  simp only [lookMc] at h
  split at h
  · rename_i e
    simp at h; subst h
    have : f = f' := by simpa using e
    subst this
    exact h1
  · exact h2 f' G' h
theorem HdOk.nil {P : Program} : HdOk P ⟨[], [], [], []⟩ := ⟨⟨PcOk.nil, HcOk.nil, McOk.nil⟩, by intro f fn c i b h _ _ _ hl; simp [lookLh] at hl⟩
theorem HdOk.tcCons {P : Program} {pc hc lh mc} {f : Nat} {G : List A1 → Tree AV} (h : HdOk P ⟨pc, hc, lh, mc⟩) (h1 : TcOne P f G) : HdOk P ⟨(f, G) :: pc, hc, lh, mc⟩ := ⟨⟨h.pc.pc.cons h1, h.pc.hc, h.pc.mc⟩, h.lh⟩
theorem HdOk.ucCons {P : Program} {pc hc lh mc} {f : Nat} {G : List A1 → Tree AV} (h : HdOk P ⟨pc, hc, lh, mc⟩) (h1 : UcOne P f G) : HdOk P ⟨pc, (f, G) :: hc, lh, mc⟩ := ⟨⟨h.pc.pc, h.pc.hc.cons h1, h.pc.mc⟩, h.lh⟩
theorem HdOk.mcCons {P : Program} {pc hc lh mc} {f : Nat} {G : List A1 → Mem → Tree (AV × Mem)} (h : HdOk P ⟨pc, hc, lh, mc⟩) (h1 : McOne P f G) : HdOk P ⟨pc, hc, lh, (f, G) :: mc⟩ := ⟨⟨h.pc.pc, h.pc.hc, h.pc.mc.cons h1⟩, h.lh⟩
theorem HdOk.pcCons {P : Program} {pc hc lh mc} {f : Nat} {G : List A1 → Option AV} (h : HdOk P ⟨pc, hc, lh, mc⟩) (h1 : PcOne P f G) : HdOk P ⟨(f, oG G) :: pc, hc, lh, mc⟩ := h.tcCons h1.tc
theorem MemRel.nil {F w} : MemRel P F w [] [] := ⟨rfl, fun k x T cs h => by simp [nth] at h, fun k k' x x' T cs T' cs' h => by simp [nth] at h, fun k T cs x h => by simp [nth] at h, fun k T fz es n ρ x h => by simp [nth] at h, fun k T f i st cs x h => by simp [nth] at h⟩
theorem pcOne_of_ev {P : Program} {H : Hd} (hH : HdOk P H) (n f : Nat) {G : List A1 → Option AV}
    (h : ∀ args r, G args = some r → (denA r).isSome = true ∧ (evFn P H n f args []).needs = true ∧ (evFn P H n f args []).res = r) : PcOne P f G := by
  intro args r hG hcl F w vs hargs
  obtain ⟨hd, hn, hr⟩ := h args r hG
  obtain ⟨v, hv⟩ := Option.isSome_iff_exists.1 hd
  refine ⟨v, denA_mk hv, fun w1 hw1 => ?_⟩
  obtain ⟨⟨r', m⟩, hsel⟩ := needs_sel hn
  have hargs1 : All2 (A1.Rel F w1 []) args vs := hargs.imp fun _ _ hx => A1.Rel.grow (F := F) (F' := F) (bs := []) (bs' := []) ⟨hw1.size, fun _ _ h => h, fun p hp _ => hw1.block p hp, fun _ _ h => h⟩ hx
  refine (evFn_ok0 hH n f args r' m hsel F w1 [] vs MemRel.nil hargs1).mono fun e w2 ⟨u, F', bs', he, hext, hm, hu⟩ => ?_
  have := res_rel hsel hu
  rw [hr] at this
  have := denA_ok hv this
  subst this
  exact ⟨he, hext.below⟩
theorem pcOne_of_all {P : Program} {H : Hd} (hH : HdOk P H) (n f : Nat) {G : List A1 → Option AV}
    (h : ∀ args r, G args = some r → (denA r).isSome = true ∧ (evFn P H n f args []).All (fun y => y.1 = r)) : PcOne P f G := by
  intro args r hG hcl F w vs hargs
  obtain ⟨hd, ha⟩ := h args r hG
  obtain ⟨v, hv⟩ := Option.isSome_iff_exists.1 hd
  refine ⟨v, denA_mk hv, fun w1 hw1 => ?_⟩
  obtain ⟨⟨r', m⟩, hsel, hr⟩ := all_sel ha
  simp only at hr
  subst hr
  have hargs1 : All2 (A1.Rel F w1 []) args vs := hargs.imp fun _ _ hx => A1.Rel.grow (F := F) (F' := F) (bs := []) (bs' := []) ⟨hw1.size, fun _ _ h => h, fun p hp _ => hw1.block p hp, fun _ _ h => h⟩ hx
  refine (evFn_ok0 hH n f args r' m hsel F w1 [] vs MemRel.nil hargs1).mono fun e w2 ⟨u, F', bs', he, hext, hm, hu⟩ => ?_
  have := denA_ok hv hu
  subst this
  exact ⟨he, hext.below⟩
def outA (mem : Mem) : AV → Option AV
  | .one a => let b := view1 mem a; if closedA b then some (.one b) else none
  | .tup l => let m := l.map (view1 mem); if m.all closedA then some (.tup m) else none
  | .any => none
def hcTree (P : Program) (H : Hd) (n f : Nat) (args : List A1) : Tree AV := (evFn P H n f args []).bind fun y => Tree.ofOpt (outA y.2 y.1)
theorem outA_ok {F w bs mem} (hm : MemRel P F w bs mem) {x r : AV} {v : Value} (h : AV.Rel F w bs x v) (ho : outA mem x = some r) : AV.Rel (outF F bs) w [] r v := by
  cases x with
  | any => simp [outA] at ho
  | one a =>
    simp only [outA] at ho
    split at ho
    · rename_i hc
      simp at ho; subst ho
      exact view1_ok hm h hc
    · simp at ho
  | tup l =>
    obtain ⟨vs, rfl, h⟩ := h
    simp only [outA] at ho
    split at ho
    · rename_i hc
      simp at ho; subst ho
      refine ⟨vs, rfl, ?_⟩
      induction h with
      | nil => exact .nil
      | cons h _ ih =>
        simp only [List.map_cons, List.all_cons, Bool.and_eq_true] at hc
        exact .cons (view1_ok hm h hc.1) (ih hc.2)
    · simp at ho
def leA (x r : AV) : Prop := ∀ (F : Nat → Prop) (w : World) (v : Value), AV.Rel F w [] x v → AV.Rel F w [] r v
theorem leA.refl {x : AV} : leA x x := fun _ _ _ h => h
theorem hcOne_of_all {P : Program} {H : Hd} (hH : HdOk P H) (n f : Nat) {G : List A1 → Option AV}
    (h : ∀ args r, G args = some r → (hcTree P H n f args).All (fun x => leA x r)) : HcOne P f G := by
  intro args r hG hcl F w vs hargs
  obtain ⟨x, hsel, hle⟩ := all_sel (h args r hG)
  obtain ⟨⟨r', m⟩, h1, h2⟩ := sel_bind hsel
  have ho : outA m r' = some x := by
    cases hx : outA m r' with
    | none => rw [hx] at h2; simp [Tree.ofOpt, Tree.sel] at h2
    | some y => rw [hx] at h2; simpa [Tree.ofOpt, Tree.sel] using h2
  have hargs1 : All2 (A1.Rel (fun p => F p ∧ p < w.heap.size) w []) args vs := hargs.imp fun _ _ hx => A1.Rel.grow (bs := []) (bs' := []) ⟨Nat.le_refl _, fun _ _ h => h.1, fun _ _ _ => rfl, fun _ _ h => h⟩ hx
  refine (evFn_ok0 hH n f args r' m h1 _ w [] vs MemRel.nil hargs1).mono fun e w2 ⟨u, F', bs', he, hext, hm, hu⟩ => ?_
  refine ⟨u, he, hext.below, hle _ _ _ (AV.Rel.grow (bs := []) (bs' := []) ⟨Nat.le_refl _, fun p _ hp => ?_, fun _ _ _ => rfl, fun _ _ h => h⟩ (outA_ok hm hu ho))⟩
  refine ⟨hext.F2 p hp hp.2 (by simp), fun y hy e => ?_⟩
  rcases hext.mem y hy with ⟨z, hz, _⟩ | hs
  · cases hz
  · have := hp.2; omega
end Go.Sx
namespace Go.Sx
open Go Go.RowKit
variable {P : Program}
variable {D : List Deferred}
theorem All2.map_left {α β γ : Type} {R : α → β → Prop} {S : γ → β → Prop} {f : α → γ} {l : List α} {r : List β} (h : All2 R l r) (hf : ∀ a b, R a b → S (f a) b) : All2 S (l.map f) r := by
  induction h with
  | nil => exact .nil
  | cons h _ ih => exact .cons (hf _ _ h) ih
def idx : List Nat → Nat → Option Nat
  | [], _ => none
  | a :: r, b => if a == b then some 0 else match idx r b with | some n => some (n + 1) | none => none
def renC (pm : List Nat) : CV → CV
  | .ptr b o => match idx pm b with | some b' => .ptr b' o | none => .any
  | .os b sz => match idx pm b with | some b' => .os b' sz | none => .any
  | .oc b m c => match idx pm b with | some b' => .oc b' m c | none => .any
  | .rowp b sz i off => match idx pm b with | some b' => .rowp b' sz i off | none => .any
  | .fn f a c => .fn f (renCs pm a) (renCs pm c)
  | .yld b => match idx pm b with | some b' => .yld b' | none => .any
  | .lp f i st => .lp f i st
  | .row fz es n ρ => .row fz es n ρ
  | x => if closedC x then x else .any
 where renCs (pm : List Nat) : List CV → List CV
  | [] => []
  | a :: l => renC pm a :: renCs pm l
def ren1 (pm : List Nat) : A1 → A1
  | .c x => .c (renC pm x)
  | .agg l => .agg (l.map (renC pm))
def renA (pm : List Nat) : AV → AV
  | .one a => .one (ren1 pm a)
  | _ => .any
def renE (pm : List Nat) (mem : Mem) (b : Nat) : Option (TypeId × List CV) :=
  match nth mem b with
  | some (some (T, cs)) => some (T, cs.map (renC pm))
  | _ => none
def idsC : CV → List Nat
  | .ptr b _ => [b]
  | .os b _ => [b]
  | .oc b _ _ => [b]
  | .rowp b _ _ _ => [b]
  | .yld b => [b]
  | .fn _ a c => idsCs a ++ idsCs c
  | _ => []
 where idsCs : List CV → List Nat
  | [] => []
  | a :: l => idsC a ++ idsCs l
def idsL : List CV → List Nat
  | [] => []
  | x :: r => idsC x ++ idsL r
def idsA : AV → List Nat
  | .one (.c x) => idsC x
  | .one (.agg l) => idsL l
  | _ => []
def idsE (mem : Mem) (b : Nat) : List Nat :=
  match nth mem b with
  | some (some (_, cs)) => idsL cs
  | _ => []
def gcGo (mem : Mem) (k0 : Nat) : Nat → List Nat → List Nat → List Nat
  | 0, _, done => done
  | _ + 1, [], done => done
  | n + 1, b :: r, done => if Nat.blt b k0 || anyN b done then gcGo mem k0 n r done else gcGo mem k0 n (r ++ idsE mem b) (done ++ [b])
def upto : Nat → List Nat
  | 0 => []
  | n + 1 => upto n ++ [n]
def idsKept (s : St) : List Nat → List Nat
  | [] => []
  | k :: r => (match nth s.tmps k with | some ⟨[], v⟩ => idsA v | _ => []) ++ idsKept s r
def idsMem (mem : Mem) : List Nat → List Nat
  | [] => []
  | k :: r => idsE mem k ++ idsMem mem r
def nodupN : List Nat → Bool
  | [] => true
  | a :: r => !anyN a r && nodupN r
def gcPerm (keep : List Nat) (k0 : Nat) (s : St) : List Nat := upto k0 ++ gcGo s.mem k0 300 (idsKept s keep ++ idsMem s.mem (upto k0)) []
def forgetL (keep : List Nat) (pm : List Nat) : Nat → List Slot → List Slot
  | _, [] => []
  | i, s :: r => (if keep.any (fun k => k == i) && s.keys.isEmpty then ⟨[], renA pm s.v⟩ else ⟨[], .any⟩) :: forgetL keep pm (i + 1) r
def St.gc (keep : List Nat) (k0 : Nat) (s : St) : Option St :=
  let pm := gcPerm keep k0 s
  if nodupN pm && pm.all (fun b => Nat.blt b s.mem.length) then some ⟨forgetL keep pm 0 s.tmps, pm.map (renE pm s.mem)⟩ else none
def gcT (keep : List Nat) (k0 : Nat) (y : XE × St) : Tree (XE × St) :=
  match y.2.gc keep k0 with
  | some s => .leaf (y.1, s)
  | none => .fail
def lookN {α : Type} : List (Nat × α) → Nat → Option α
  | [], _ => none
  | (k, v) :: r, i => if k == i then some v else lookN r i
def mkL (l : List (Nat × AV)) : Nat → Nat → List Slot
  | 0, _ => []
  | n + 1, i => (match lookN l i with | some v => ⟨[], v⟩ | none => ⟨[], .any⟩) :: mkL l n (i + 1)
def mkS (n : Nat) (l : List (Nat × AV)) (mem : Mem) : St := ⟨mkL l n 0, mem⟩
def getKept (s : St) : List Nat → Option (List (Nat × AV))
  | [] => some []
  | k :: r => match nth s.tmps k, getKept s r with
    | some ⟨[], v⟩, some l => some ((k, v) :: l)
    | _, _ => none
theorem forgetL_length (keep pm : List Nat) : ∀ (l : List Slot) (i : Nat), (forgetL keep pm i l).length = l.length
  | [], _ => rfl
  | _ :: l, i => by simp [forgetL, forgetL_length keep pm l (i + 1)]
theorem forgetL_nth (keep pm : List Nat) : ∀ (l : List Slot) (i n : Nat), nth (forgetL keep pm i l) n = (nth l n).map fun s => if keep.any (fun j => j == i + n) && s.keys.isEmpty then ⟨[], renA pm s.v⟩ else ⟨[], .any⟩
  | [], _, _ => rfl
  | s :: l, i, 0 => by simp [forgetL, nth]
  | s :: l, i, n + 1 => by
    simp only [forgetL, nth]
    rw [forgetL_nth keep pm l (i + 1) n, show i + 1 + n = i + (n + 1) by omega]
theorem idx_nth : ∀ {pm : List Nat} {b b' : Nat}, idx pm b = some b' → nth pm b' = some b
  | [], _, _, h => by simp [idx] at h
  | a :: r, b, b', h => by
    simp only [idx] at h
    split at h
    · rename_i e
      simp at h; subst h
      simpa [nth] using e
    · split at h
      · rename_i n hn
        simp at h; subst h
        simpa [nth] using idx_nth hn
      · simp at h
theorem nodupN_inj : ∀ {pm : List Nat}, nodupN pm = true → ∀ {i j b : Nat}, nth pm i = some b → nth pm j = some b → i = j
  | [], _, i, _, _, h, _ => by simp [nth] at h
  | a :: r, hn, i, j, b, hi, hj => by
    simp only [nodupN, Bool.and_eq_true, Bool.not_eq_true'] at hn
    have hno : ∀ k, nth r k ≠ some a := fun k hk => by
      have := anyN_iff.2 (nth_mem hk)
      rw [hn.1] at this
      cases this
    cases i with
    | zero =>
      simp [nth] at hi
      subst hi
      cases j with
      | zero => rfl
      | succ j => exact (hno j (by simpa [nth] using hj)).elim
    | succ i => cases j with
      | zero =>
        simp [nth] at hj
        subst hj
        exact (hno i (by simpa [nth] using hi)).elim
      | succ j =>
        have := nodupN_inj hn.2 (i := i) (j := j) (b := b) (by simpa [nth] using hi) (by simpa [nth] using hj)
        omega
theorem upto_length : ∀ k, (upto k).length = k
  | 0 => rfl
  | k + 1 => by simp [upto, upto_length k]
theorem upto_nth : ∀ {k i : Nat}, i < k → nth (upto k) i = some i
  | k + 1, i, h => by
    simp only [upto]
    rcases Nat.lt_or_eq_of_le (Nat.le_of_lt_succ h) with h' | rfl
    · exact nth_append (upto_nth h')
    · have := nth_append_last (upto i) i
      rwa [upto_length] at this
def renB (pm : List Nat) (bs : List BI) : List BI := pm.map fun b => match nth bs b with | some x => x | none => ⟨0, 0, 0⟩
theorem renB_nth {pm : List Nat} {bs : List BI} {b b' : Nat} {x : BI} (h : nth pm b' = some b) (hx : nth bs b = some x) : nth (renB pm bs) b' = some x := by
  rw [nth_eq] at h
  rw [renB, nth_eq, List.getElem?_map, h]
  simp [hx]
theorem renC_ok {F : Nat → Prop} {w : World} {bs : List BI} {pm : List Nat} {x : CV} {v : Value} (h : CV.Rel F w bs x v) : CV.Rel F w (renB pm bs) (renC pm x) v := by
  have hcs : ∀ (l : List CV) (i : Nat) (x : CV), nth (renC.renCs pm l) i = some x → ∃ y, nth l i = some y ∧ x = renC pm y := by
    intro l
    induction l with
    | nil => intro i x h; simp [renC.renCs, nth] at h
    | cons a l ih =>
      intro i x h
      cases i with
      | zero => simp [renC.renCs, nth] at h; exact ⟨a, rfl, h.symm⟩
      | succ n => exact ih n x (by simpa [renC.renCs, nth] using h)
  have hlen : ∀ l : List CV, (renC.renCs pm l).length = l.length := by
    intro l
    induction l with
    | nil => rfl
    | cons a l ih => simp [renC.renCs, ih]
  induction h with
  | any h => exact .any h
  | bool b => exact .bool b
  | int k n => exact .int k n
  | str s => exact .str s
  | nilp => exact .nilp
  | nils => exact .nils
  | nilf => exact .nilf
  | ost h hl => exact .any rfl
  | osh h hl h0 => exact .any rfl
  | nili => exact .nili
  | ptr h =>
    simp only [renC]
    split
    · rename_i hi; exact .ptr (renB_nth (idx_nth hi) h)
    · exact .any rfl
  | os h hb =>
    simp only [renC]
    split
    · rename_i hi; exact .os (renB_nth (idx_nth hi) h) hb
    · exact .any rfl
  | oc h hl =>
    simp only [renC]
    split
    · rename_i hi; exact .oc (renB_nth (idx_nth hi) h) hl
    · exact .any rfl
  | rowp h hi' =>
    simp only [renC]
    split
    · rename_i hi; exact .rowp (renB_nth (idx_nth hi) h) hi'
    · exact .any rfl
  | yld h =>
    simp only [renC]
    split
    · rename_i hi; exact .yld (renB_nth (idx_nth hi) h)
    · exact .any rfl
  | rop val hb hF hc hr _ => exact .rop val hb hF hc hr
  | slnil => exact .slnil
  | sl val hn h0 hc hr _ => exact .sl val hn h0 hc hr
  | fn l1 l2 r1 r2 ih1 ih2 =>
    refine .fn (by rw [hlen]; exact l1) (by rw [hlen]; exact l2) (fun i x v h1 h2 => ?_) (fun i x v h1 h2 => ?_)
    · obtain ⟨y, hy, rfl⟩ := hcs _ _ _ h1
      exact ih1 i y v hy h2
    · obtain ⟨y, hy, rfl⟩ := hcs _ _ _ h1
      exact ih2 i y v hy h2
  | iface h _ =>
    simp only [renC]
    split
    · rename_i hc
      exact .iface (h.closed (by simpa [closedC] using hc))
    · exact .any rfl
theorem renA_ok {F : Nat → Prop} {w : World} {bs : List BI} {pm : List Nat} {x : AV} {v : Value} (h : AV.Rel F w bs x v) : AV.Rel F w (renB pm bs) (renA pm x) v := by
  cases x with
  | any => trivial
  | tup l => trivial
  | one a => cases a with
    | c x => exact renC_ok h
    | agg l =>
      obtain ⟨vs, rfl, h⟩ := h
      exact ⟨vs, rfl, h.map_left fun _ _ h => renC_ok h⟩
theorem ren_row {pm : List Nat} {cs : List CV} {fz : Bool} {es : List Sh} {n : Nat} {ρ : Val} (h : cs.map (renC pm) = [.row fz es n ρ]) : cs = [.row fz es n ρ] := by
  match cs, h with
  | [c], h =>
    simp only [List.map_cons, List.map_nil, List.cons.injEq, and_true] at h
    cases c <;> simp only [renC] at h <;> first | exact congrArg (fun x => [x]) h | (split at h <;> cases h) | cases h
  | [], h => simp at h
  | _ :: _ :: _, h => simp at h
theorem ren_isRow {pm : List Nat} {cs : List CV} (h : isRowL (cs.map (renC pm)) = false) : isRowL cs = false := by
  cases hr : isRowL cs
  · rfl
  · unfold isRowL at hr
    split at hr
    · simp [renC, isRowL] at h
    · simp [renC, isRowL] at h
    · cases hr
theorem ren_lp {pm : List Nat} {cs cs' : List CV} {f i : Nat} {st : LpS} (h : cs.map (renC pm) = .lp f i st :: cs') : ∃ ds, cs = .lp f i st :: ds ∧ cs' = ds.map (renC pm) := by
  match cs, h with
  | c :: ds, h =>
    simp only [List.map_cons, List.cons.injEq] at h
    refine ⟨ds, ?_, h.2.symm⟩
    have h1 := h.1
    cases c <;> simp only [renC] at h1 <;> first | (rw [h1]; done) | (split at h1 <;> cases h1) | cases h1
  | [], h => simp at h
theorem ren_any {pm : List Nat} {c : CV} (h : isAny (renC pm c) = false) : isAny c = false := by
  cases c <;> first | rfl | simp [renC, closedC, isAny] at h
theorem ren_live {x : BI} {pm : List Nat} {cs : List CV} (h : liveL x (cs.map (renC pm))) : liveL x cs := by
  unfold liveL
  split
  · simpa [renC, liveL] using h
  · trivial
theorem MemRel.ren {F w bs mem} (hm : MemRel P F w bs mem) {pm : List Nat} (hn : nodupN pm = true) (hl : ∀ b ∈ pm, b < mem.length) : MemRel P F w (renB pm bs) (pm.map (renE pm mem)) := by
  have key : ∀ k T cs, nth (pm.map (renE pm mem)) k = some (some (T, cs)) → ∃ b cs0, nth pm k = some b ∧ nth mem b = some (some (T, cs0)) ∧ cs = cs0.map (renC pm) := by
    intro k T cs h
    rw [nth_eq, List.getElem?_map] at h
    simp only [Option.map_eq_some_iff] at h
    obtain ⟨b, hb, he⟩ := h
    unfold renE at he
    split at he
    · rename_i T' cs0 hmem
      simp at he
      obtain ⟨rfl, rfl⟩ := he
      exact ⟨b, cs0, by rw [nth_eq]; exact hb, hmem, rfl⟩
    · cases he
  have keyb : ∀ k b x, nth pm k = some b → nth (renB pm bs) k = some x → nth bs b = some x := by
    intro k b x hk hx
    have hlt : b < bs.length := by rw [hm.len]; exact hl b (nth_mem hk)
    have hb : nth bs b = some bs[b] := by rw [nth_eq]; exact List.getElem?_eq_getElem hlt
    rw [renB_nth hk hb] at hx
    simp at hx; subst hx
    exact hb
  refine ⟨by simp [renB], fun k x T cs hk hc hv => ?_, fun k k' x x' T cs T' cs' hk hk' hc hc' hv hv' hp => ?_, fun k T cs x hc hr hk => ?_, fun k T fz es n ρ x hc hk => ?_, fun k T f i st cs x hc hk => ?_⟩
  · obtain ⟨b, cs0, hb, hmem, rfl⟩ := key k T cs hc
    exact hm.loc b x T cs0 (keyb k b x hb hk) hmem (ren_live hv)
  · obtain ⟨b, cs0, hb, hmem, rfl⟩ := key k T cs hc
    obtain ⟨b', cs0', hb', hmem', rfl⟩ := key k' T' cs' hc'
    have := hm.inj b b' x x' T cs0 T' cs0' (keyb k b x hb hk) (keyb k' b' x' hb' hk') hmem hmem' (ren_live hv) (ren_live hv') hp
    subst this
    exact nodupN_inj hn hb hb'
  · obtain ⟨b, cs0, hb, hmem, rfl⟩ := key k T cs hc
    obtain ⟨vs, h1, h2⟩ := hm.cont b T cs0 x hmem (ren_isRow hr) (keyb k b x hb hk)
    exact ⟨vs, h1, h2.map_left fun _ _ h => renC_ok h⟩
  · obtain ⟨b, cs0, hb, hmem, he⟩ := key k T _ hc
    have := ren_row he.symm
    subst this
    exact hm.row b T fz es n ρ x hmem (keyb k b x hb hk)
  · obtain ⟨b, cs0, hb, hmem, he⟩ := key k T _ hc
    obtain ⟨ds, rfl, rfl⟩ := ren_lp he.symm
    obtain ⟨R, h1, h2, h4, h5, h6⟩ := hm.lp b T f i st ds x hmem (keyb k b x hb hk)
    refine ⟨R, h1, h2, h4, by simpa using h5, fun j c v hj hv ha => ?_⟩
    rw [nth_eq, List.getElem?_map] at hj
    simp only [Option.map_eq_some_iff] at hj
    obtain ⟨c0, hc0, rfl⟩ := hj
    exact renC_ok (h6 j c0 v (by rw [nth_eq]; exact hc0) hv (ren_any ha))
theorem mkL_nth (l : List (Nat × AV)) : ∀ (n i k : Nat), nth (mkL l n i) k = if k < n then some (match lookN l (i + k) with | some v => ⟨[], v⟩ | none => ⟨[], .any⟩) else none
  | 0, _, _ => by simp [mkL, nth]
  | n + 1, i, 0 => by simp [mkL, nth]
  | n + 1, i, k + 1 => by
    simp only [mkL, nth]
    rw [mkL_nth l n (i + 1) k, show i + 1 + k = i + (k + 1) by omega]
    simp
theorem getKept_look {s : St} : ∀ {keep : List Nat} {l : List (Nat × AV)}, getKept s keep = some l → ∀ i, (if keep.any (fun j => j == i) then ∃ v, nth s.tmps i = some ⟨[], v⟩ ∧ lookN l i = some v else lookN l i = none)
  | [], l, h, i => by simp [getKept] at h; subst h; simp [lookN]
  | k :: r, l, h, i => by
    simp only [getKept] at h
    split at h
    · rename_i v l' hk hl
      simp at h; subst h
      have ih := getKept_look hl i
      by_cases e : k = i
      · subst e
        simp [lookN, hk]
      · simp only [List.any_cons, lookN]
        have : (k == i) = false := by simpa using e
        simpa [this] using ih
    · simp at h
theorem gc_some {keep : List Nat} {k0 : Nat} {s s' : St} (h : s.gc keep k0 = some s') : ∃ pm, nodupN pm = true ∧ (∀ b ∈ pm, b < s.mem.length) ∧ (∀ i, i < k0 → nth pm i = some i) ∧ s' = ⟨forgetL keep pm 0 s.tmps, pm.map (renE pm s.mem)⟩ := by
  unfold St.gc at h
  simp only at h
  split at h
  · rename_i hc
    simp at h; subst h
    rw [Bool.and_eq_true, List.all_eq_true] at hc
    exact ⟨_, hc.1, fun b hb => Nat.blt_eq.mp (hc.2 b hb), fun i hi => nth_append (upto_nth hi), rfl⟩
  · cases h
theorem gc_eq {s s' : St} {keep : List Nat} {k0 : Nat} {l : List (Nat × AV)} (hg : s.gc keep k0 = some s') (h : getKept s' keep = some l) : s' = mkS s.tmps.length l s'.mem := by
  obtain ⟨pm, _, _, _, rfl⟩ := gc_some hg
  unfold mkS
  have ht : forgetL keep pm 0 s.tmps = mkL l s.tmps.length 0 := by
    apply List.ext_getElem?
    intro i
    rw [← nth_eq, ← nth_eq, mkL_nth]
    have := getKept_look h i
    simp only [Nat.zero_add]
    rcases Nat.lt_or_ge i s.tmps.length with hi | hi
    · rw [if_pos hi]
      by_cases hk : keep.any (fun j => j == i) = true
      · rw [if_pos hk] at this
        obtain ⟨v, hv, hl⟩ := this
        rw [hl]
        exact hv
      · rw [if_neg hk] at this
        rw [this]
        rw [forgetL_nth]
        have hn : nth s.tmps i = some s.tmps[i] := by rw [nth_eq]; exact List.getElem?_eq_getElem hi
        rw [hn]
        simp [hk]
    · rw [if_neg (by omega)]
      rw [nth_eq]
      exact List.getElem?_eq_none (by rw [forgetL_length]; exact hi)
  rw [ht]
theorem StRel.gc {F w bs s s'} {a : Act} (hs : StRel P D F w bs s a) {keep : List Nat} {k0 : Nat} (hg : s.gc keep k0 = some s') : ∃ bs', Ext k0 F w bs F w bs' ∧ k0 ≤ bs'.length ∧ StRel P D F w bs' s' a := by
  obtain ⟨pm, hn, hl, hk, rfl⟩ := gc_some hg
  have hlen : ∀ i, i < k0 → i < pm.length := fun i hi => nth_lt (hk i hi)
  refine ⟨renB pm bs, ⟨Nat.le_refl _, fun _ _ h => h, fun _ h _ _ => h, fun _ _ _ => rfl, rfl, rfl, rfl, fun k x hk' hx => renB_nth (hk k hk') hx, fun x hx => ?_⟩, ?_, hs.defers, by simp [forgetL_length, hs.len], fun i sl x h1 h2 => ?_, hs.mem.ren hn hl⟩
  · simp only [renB, List.mem_map] at hx
    obtain ⟨b, hb, rfl⟩ := hx
    have hlt : b < bs.length := by rw [hs.mem.len]; exact hl b hb
    have hb' : nth bs b = some bs[b] := by rw [nth_eq]; exact List.getElem?_eq_getElem hlt
    rw [hb']
    exact .inl ⟨_, nth_mem hb', rfl⟩
  · simp only [renB, List.length_map]
    rcases Nat.eq_zero_or_pos k0 with h | h
    · omega
    · have := hlen (k0 - 1) (by omega)
      omega
  · simp only at h1
    rw [forgetL_nth] at h1
    simp only [Option.map_eq_some_iff] at h1
    obtain ⟨s0, h0, rfl⟩ := h1
    split
    · rename_i hc
      simp only [Bool.and_eq_true, List.isEmpty_iff] at hc
      have := (hs.slots i s0 x h0 h2).1 (by rw [hc.2]; exact KH_nil)
      exact ⟨fun _ => renA_ok this, fun h => (h KH_nil).elim⟩
    · exact ⟨fun _ => trivial, fun h => (h KH_nil).elim⟩
def loopBody (P : Program) (f i : Nat) : Code :=
  match nth P.funcs.toList f with
  | some fn => match fn.body with
    | some c => match nthLoop c i with
      | some b => b
      | none => .skip
    | none => .skip
  | none => .skip
theorem nthLoop_in : ∀ {c : Code} {i : Nat} {b : Code}, nthLoop c i = some b → ∀ {j b'}, nthLoop b j = some b' → nthLoop c (i + 1 + j) = some b'
  | .skip, _, _, h, _, _, _ => by simp [nthLoop] at h
  | .region _ _ _, _, _, h, _, _, _ => by simp [nthLoop] at h
  | .seq x y, i, b, h, j, b', hj => by
    simp only [nthLoop] at h ⊢
    split at h
    · rename_i hi
      have h2 := nthLoop_in h hj
      have : i + 1 + j < nloops x := by
        rcases Nat.lt_or_ge (i + 1 + j) (nloops x) with h' | h'
        · exact h'
        · rw [evCode_ok.nthLoop_none x _ h'] at h2; simp at h2
      rw [if_pos this]; exact h2
    · rename_i hi
      rw [if_neg (by omega), show i + 1 + j - nloops x = i - nloops x + 1 + j by omega]
      exact nthLoop_in h hj
  | .cond _ x y, i, b, h, j, b', hj => by
    simp only [nthLoop] at h ⊢
    split at h
    · rename_i hi
      have h2 := nthLoop_in h hj
      have : i + 1 + j < nloops x := by
        rcases Nat.lt_or_ge (i + 1 + j) (nloops x) with h' | h'
        · exact h'
        · rw [evCode_ok.nthLoop_none x _ h'] at h2; simp at h2
      rw [if_pos this]; exact h2
    · rename_i hi
      rw [if_neg (by omega), show i + 1 + j - nloops x = i - nloops x + 1 + j by omega]
      exact nthLoop_in h hj
  | .block _ x, i, b, h, j, b', hj => by simp only [nthLoop] at h ⊢; exact nthLoop_in h hj
  | .loop x, 0, b, h, j, b', hj => by
    simp only [nthLoop] at h
    simp at h; subst h
    rw [show 0 + 1 + j = j + 1 by omega]
    simpa [nthLoop] using hj
  | .loop x, i + 1, b, h, j, b', hj => by
    simp only [nthLoop] at h
    rw [show i + 1 + 1 + j = (i + 1 + j) + 1 by omega]
    simp only [nthLoop]
    exact nthLoop_in h hj
  | .scope x, i, b, h, j, b', hj => by simp only [nthLoop] at h ⊢; exact nthLoop_in h hj
  | .rangeFunc _ _ x y, i, b, h, j, b', hj => by
    simp only [nthLoop] at h ⊢
    split at h
    · rename_i hi
      have h2 := nthLoop_in h hj
      have : i + 1 + j < nloops x := by
        rcases Nat.lt_or_ge (i + 1 + j) (nloops x) with h' | h'
        · exact h'
        · rw [evCode_ok.nthLoop_none x _ h'] at h2; simp at h2
      rw [if_pos this]; exact h2
    · rename_i hi
      rw [if_neg (by omega), show i + 1 + j - nloops x = i - nloops x + 1 + j by omega]
      exact nthLoop_in h hj
  | .exit _, _, _, h, _, _, _ => by simp [nthLoop] at h
  | .label _, _, _, h, _, _, _ => by simp [nthLoop] at h
  | .goto _, _, _, h, _, _, _ => by simp [nthLoop] at h
  | .ret, _, _, h, _, _, _ => by simp [nthLoop] at h
  | .refuse _, _, _, h, _, _, _ => by simp [nthLoop] at h
theorem loop_at {P : Program} {H : Hd} (hH : HdOk P H) (d f i : Nat) {fn : Func} {c b : Code} (hf : P.funcs[f]? = some fn) (hc : fn.body = some c) (hb : nthLoop c i = some b) {X : Type} (keep : List Nat) (k0 : Nat) (S : X → St) (T : X → Tree (XE × St))
    (hT : ∀ x, ((evCode P H (evFn P H d) f k0 (i + 1) b (S x)).bind fun y => gcT keep k0 y) = T x)
    (Inv : X → Prop) (μ : X → Nat) (fin : X → XE × St)
    (step : ∀ x, Inv x → ∃ e s, (T x).sel = some (e, s) ∧ ((e = .normal ∧ ∃ x', s = S x' ∧ Inv x' ∧ μ x' < μ x ∧ fin x' = fin x) ∨ (e ≠ .normal ∧ fin x = (e, s)))) :
    ∀ (lr : Option Nat) (nn : Nat) x, Inv x → ∀ F w bs a, k0 ≤ bs.length → StRel P D F w bs (S x) a → ∀ Q : Exit → Act → World → Prop,
      (∀ F' w' bs' a', Ext k0 F w bs F' w' bs' → StRel P D F' w' bs' (fin x).2 a' → Q (xe (fin x).1) a' w') → (Code.loop b).wpIn (FW lr) nn P Q a w := by
  intro lr nn x0 h0 F w bs a hlen hs Q hQ
  refine wpIn_loop_ghost (fun n a' w' => ∃ x F' bs', Inv x ∧ μ x = n ∧ fin x = fin x0 ∧ k0 ≤ bs'.length ∧ Ext k0 F w bs F' w' bs' ∧ StRel P D F' w' bs' (S x) a') (μ x0) ⟨x0, F, bs, h0, rfl, rfl, hlen, Ext.refl, hs⟩ ?_
  rintro n a' w' ⟨x, F', bs', hI, rfl, hfin, hlen', hext, hs'⟩
  obtain ⟨e, s, hsel, hcase⟩ := step x hI
  rw [← hT] at hsel
  obtain ⟨⟨e1, s1⟩, h1, h2⟩ := sel_bind hsel
  unfold gcT at h2
  simp only at h2
  split at h2
  · rename_i s2 hg
    simp only [Tree.sel, Option.some.injEq, Prod.mk.injEq] at h2
    obtain ⟨rfl, rfl⟩ := h2
    refine evCode_ok hH.pc (evFn_ok hH d) f k0 b (i + 1) (S x) h1 (fun j b' h hj hk => hH.lh f fn c (i + 1 + j) b' h hf hc (nthLoop_in hb hj) hk) hlen' hs' fun F'' w'' bs'' a'' he hs'' => ?_
    obtain ⟨bs3, e3, hl3, hs3⟩ := hs''.gc hg
    have het := (hext.trans he (Nat.le_refl _)).trans e3 (Nat.le_refl _)
    rcases hcase with ⟨he1, x', hx', hI', hlt, hf'⟩ | ⟨he1, hf'⟩
    · subst he1
      simp only [xe, Exit.then]
      exact ⟨μ x', hlt, x', F'', bs3, hI', rfl, hf'.trans hfin, hl3, het, hx' ▸ hs3⟩
    · have hq := hQ F'' w'' bs3 a'' het (by rw [← hfin, hf']; exact hs3)
      rw [← hfin, hf'] at hq
      cases e1 with
      | normal => exact (he1 rfl).elim
      | exit k => exact hq
      | ret => exact hq
  · simp [Tree.sel] at h2
theorem HdOk.lhCons {P : Program} {pc hc lh mc} {f i : Nat} {h : Nat → St → Tree (XE × St)} (hH : HdOk P ⟨pc, hc, lh, mc⟩) (h1 : ∀ fn c b, P.funcs[f]? = some fn → fn.body = some c → nthLoop c i = some b → LoopOk P b h) : HdOk P ⟨pc, hc, ((f, i), h) :: lh, mc⟩ := by
  refine ⟨⟨hH.pc.pc, hH.pc.hc, hH.pc.mc⟩, fun f' fn c j b h' hf hc hb hl => ?_⟩
  simp only [lookLh] at hl
  split at hl
  · rename_i e
    simp only [Bool.and_eq_true, beq_iff_eq] at e
    simp at hl; subst hl
    obtain ⟨e1, e2⟩ := e
    subst e1; subst e2
    exact h1 fn c b hf hc hb
  · exact hH.lh f' fn c j b h' hf hc hb hl
def iter {X : Type} (TX : X → Tree (XE × X)) : Nat → X → XE × X
  | 0, x => (.normal, x)
  | n + 1, x => match (TX x).sel with
    | some (.normal, x') => iter TX n x'
    | some (.exit k, x') => (.exit k, x')
    | some (.ret, x') => (.ret, x')
    | none => (.normal, x)
def fin {X : Type} (TX : X → Tree (XE × X)) (μ : X → Nat) (x : X) : XE × X := iter TX (μ x + 1) x
def Rounds {X : Type} (TX : X → Tree (XE × X)) (inv : X → Prop) (μ : X → Nat) (Q : XE × X → Prop) : Prop :=
  ∀ x, inv x → (TX x).All fun y => match y.1 with
    | .normal => inv y.2 ∧ μ y.2 < μ x
    | e => Q (e, y.2)
theorem iter_fuel {X : Type} {TX : X → Tree (XE × X)} {inv : X → Prop} {μ : X → Nat} {Q : XE × X → Prop} (h : Rounds TX inv μ Q) : ∀ (m : Nat) (x : X), μ x = m → inv x → ∀ n, m < n → iter TX n x = iter TX (m + 1) x := by
  intro m
  induction m using Nat.strongRecOn with
  | _ m ih =>
    intro x hm hi n hn
    obtain ⟨⟨e, x'⟩, hsel, hy⟩ := all_sel (h x hi)
    obtain ⟨n, rfl⟩ : ∃ k, n = k + 1 := ⟨n - 1, by omega⟩
    simp only [iter, hsel]
    cases e with
    | normal =>
      simp only at hy ⊢
      rw [ih (μ x') (by omega) x' rfl hy.1 n (by omega), ih (μ x') (by omega) x' rfl hy.1 m (by omega)]
    | exit k => rfl
    | ret => rfl
theorem fin_step {X : Type} {TX : X → Tree (XE × X)} {inv : X → Prop} {μ : X → Nat} {Q : XE × X → Prop} (h : Rounds TX inv μ Q) {x : X} (hi : inv x) :
    (TX x).All fun y => (y.1 = .normal ∧ inv y.2 ∧ μ y.2 < μ x ∧ fin TX μ y.2 = fin TX μ x) ∨ (y.1 ≠ .normal ∧ fin TX μ x = y) := by
  have h0 := h x hi
  have key : ∀ y, (TX x).sel = some y → fin TX μ x = match y.1 with | .normal => iter TX (μ x) y.2 | .exit k => (.exit k, y.2) | .ret => (.ret, y.2) := by
    rintro ⟨e, x'⟩ hsel
    unfold fin
    simp only [iter, hsel]
    cases e <;> rfl
  have gen : ∀ t : Tree (XE × X), (∀ y, t.sel = some y → fin TX μ x = match y.1 with | .normal => iter TX (μ x) y.2 | .exit k => (.exit k, y.2) | .ret => (.ret, y.2)) →
      (t.All fun y => match y.1 with | .normal => inv y.2 ∧ μ y.2 < μ x | e => Q (e, y.2)) → t.All fun y => (y.1 = .normal ∧ inv y.2 ∧ μ y.2 < μ x ∧ fin TX μ y.2 = fin TX μ x) ∨ (y.1 ≠ .normal ∧ fin TX μ x = y) := by
    intro t
    induction t with
    | leaf y =>
      intro hk hy
      obtain ⟨e, x'⟩ := y
      have hk := hk (e, x') rfl
      cases e with
      | normal =>
        simp only [Tree.All] at hy hk
        refine .inl ⟨rfl, hy.1, hy.2, ?_⟩
        show fin TX μ x' = _
        rw [hk, iter_fuel h (μ x') x' rfl hy.1 (μ x) hy.2]
        rfl
      | exit k => exact .inr ⟨by simp, hk⟩
      | ret => exact .inr ⟨by simp, hk⟩
    | br c t e iht ihe =>
      intro hk hy
      refine ⟨fun hc => iht (fun y hs => hk y ?_) (hy.1 hc), fun hc => ihe (fun y hs => hk y ?_) (hy.2 hc)⟩
      · simp only [Tree.sel, hc, cond_true]; exact hs
      · simp only [Tree.sel, hc, cond_false]; exact hs
    | need c t ih =>
      intro hk hy
      refine ⟨hy.1, ih (fun y hs => hk y ?_) hy.2⟩
      simp only [Tree.sel, hy.1, cond_true]; exact hs
    | fail => intro _ hy; exact hy
  exact gen (TX x) key h0
def eqXE : XE → XE → Bool
  | .normal, .normal => true
  | .ret, .ret => true
  | .exit a, .exit b => a == b
  | _, _ => false
theorem eqXE_iff {a b : XE} : eqXE a b = true ↔ a = b := by
  cases a <;> cases b <;> simp [eqXE]
def outT {X : Type} (S : X → St) (y : XE × X) : List XE → Tree (XE × St)
  | [] => .fail
  | [e] => .need (eqXE y.1 e) (.leaf (e, S y.2))
  | e :: r => .br (eqXE y.1 e) (.leaf (e, S y.2)) (outT S y r)
theorem outT_sel {X : Type} {S : X → St} {y : XE × X} : ∀ {es : List XE} {z : XE × St}, (outT S y es).sel = some z → z = (y.1, S y.2)
  | [], z, h => by simp [outT, Tree.sel] at h
  | [e], z, h => by
    simp only [outT, Tree.sel] at h
    cases he : eqXE y.1 e <;> simp [he] at h
    rw [eqXE_iff.1 he, ← h]
  | e :: e' :: r, z, h => by
    simp only [outT, Tree.sel] at h
    cases he : eqXE y.1 e
    · simp only [he, cond_false] at h
      exact outT_sel h
    · simp only [he, cond_true, Option.some.injEq] at h
      rw [eqXE_iff.1 he, ← h]
def loopH {C V : Type} (keep : List Nat) (k0 n : Nat) (get : List (Nat × AV) → Mem → Option (C × V)) (inv : C → V → Bool) (S : C → V → St) (f : C → V → XE × V) (es : List XE) (K : Nat) (s : St) : Tree (XE × St) :=
  if s.tmps.length == n && Nat.ble K k0 then
    match s.gc keep k0 with
    | some s' => match getKept s' keep with
      | some l => match get l s'.mem with
        | some (c, v) => .need (inv c v) (outT (S c) (f c v) es)
        | none => .fail
      | none => .fail
    | none => .fail
  else .fail
theorem loopOk_of {P : Program} {H : Hd} (hH : HdOk P H) (d f i : Nat) {fn : Func} {c b : Code} (hf : P.funcs[f]? = some fn) (hc : fn.body = some c) (hb : nthLoop c i = some b) {C V : Type} (keep : List Nat) (k0 n : Nat) (S : C → V → St) (TX : C → V → Tree (XE × V))
    (hT : ∀ c v, ((evCode P H (evFn P H d) f k0 (i + 1) (loopBody P f i) (S c v)).bind fun y => gcT keep k0 y) = (TX c v).bind fun y => .leaf (y.1, S c y.2))
    (get : List (Nat × AV) → Mem → Option (C × V)) (inv : C → V → Bool) (μ : C → V → Nat) (es : List XE) {Q : C → XE × V → Prop}
    (hget : ∀ l m c v, get l m = some (c, v) → mkS n l m = S c v)
    (step : ∀ c, Rounds (TX c) (fun v => inv c v = true) (μ c) (Q c)) :
    LoopOk P b (loopH keep k0 n get inv S (fun c => fin (TX c) (μ c)) es) := by
  have hlb : loopBody P f i = b := by
    unfold loopBody
    rw [nth_eq]
    simp only [Array.getElem?_toList, hf, hc, hb]
  rw [hlb] at hT
  intro K s y hy lr nn D F w bs a _ hs Q' hQ
  unfold loopH at hy
  split at hy
  · rename_i hlen
    rw [Bool.and_eq_true] at hlen
    have hKk := Nat.ble_eq.mp hlen.2
    have hlen : s.tmps.length = n := by simpa using hlen.1
    split at hy
    · rename_i s' hg
      split at hy
      · rename_i l hl
        split at hy
        · rename_i cc x hx
          simp only [Tree.sel] at hy
          cases hi : inv cc x <;> simp [hi] at hy
          have hy2 := outT_sel hy
          subst hy2
          have e := gc_eq hg hl
          rw [hlen, hget l _ cc x hx] at e
          obtain ⟨bs1, he1, hl1, hs2⟩ := hs.gc hg
          rw [e] at hs2
          refine loop_at hH d f i hf hc hb keep k0 (S cc) (fun x => (TX cc x).bind fun y => .leaf (y.1, S cc y.2)) (hT cc) (fun x => inv cc x = true) (μ cc) (fun x => ((fin (TX cc) (μ cc) x).1, S cc (fin (TX cc) (μ cc) x).2)) (fun x hx => ?_) lr nn x hi F w bs1 a hl1 hs2 Q' fun F' w' bs' a' he hs' => hQ F' w' bs' a' ((he1.trans he (Nat.le_refl _)).weak hKk) hs'
          obtain ⟨y, h1, h2⟩ := all_sel (fin_step (step cc) hx)
          refine ⟨y.1, S cc y.2, ?_, ?_⟩
          · have gen : ∀ t : Tree (XE × V), t.sel = some y → (t.bind fun y => Tree.leaf (y.1, S cc y.2)).sel = some (y.1, S cc y.2) := by
              intro t
              induction t with
              | leaf z => intro h; simp [Tree.sel] at h; subst h; rfl
              | br c t e iht ihe =>
                intro h
                simp only [Tree.bind, Tree.sel] at h ⊢
                cases c
                · exact ihe h
                · exact iht h
              | need c t ih =>
                intro h
                simp only [Tree.bind, Tree.sel] at h ⊢
                cases c
                · simp at h
                · exact ih h
              | fail => intro h; simp [Tree.sel] at h
            exact gen (TX cc x) h1
          · rcases h2 with ⟨he, hi2, hlt, hfe⟩ | ⟨he, hfe⟩
            · exact .inl ⟨he, y.2, rfl, hi2, hlt, by rw [hfe]⟩
            · exact .inr ⟨he, by rw [hfe]⟩
        · simp [Tree.sel] at hy
      · simp [Tree.sel] at hy
    · simp [Tree.sel] at hy
  · simp [Tree.sel] at hy
def unrollH (P : Program) (H : Hd) (d f i : Nat) : Nat → Nat → St → Tree (XE × St)
  | 0, _, _ => .fail
  | n + 1, K, s => (evCode P H (evFn P H d) f K (i + 1) (loopBody P f i) s).bind fun y => match y.1 with
    | .normal => unrollH P H d f i n K y.2
    | e => .leaf (e, y.2)
theorem unroll_ok {P : Program} {H : Hd} (hH : HdOk P H) (d f i : Nat) {fn : Func} {c b : Code} (hf : P.funcs[f]? = some fn) (hc : fn.body = some c) (hb : nthLoop c i = some b) (n : Nat) : LoopOk P b (unrollH P H d f i n) := by
  have hlb : loopBody P f i = b := by
    unfold loopBody
    rw [nth_eq]
    simp only [Array.getElem?_toList, hf, hc, hb]
  have key : ∀ (lr : Option Nat) (nn : Nat) (D : List Deferred) (n K : Nat) (s : St) (x : XE × St), (unrollH P H d f i n K s).sel = some x → ∀ (F : Nat → Prop) (w : World) (bs : List BI) (a : Act), K ≤ bs.length → StRel P D F w bs s a → ∀ Q : Exit → Act → World → Prop,
      (∀ F' w' bs' a', Ext K F w bs F' w' bs' → StRel P D F' w' bs' x.2 a' → Q (xe x.1) a' w') → Code.roundsIn (FW lr) nn P b Q n a w := by
    intro lr nn D n
    induction n with
    | zero => intro K s x h; simp [unrollH, Tree.sel] at h
    | succ n ih =>
      intro K s x h F w bs a hK hs Q hQ
      simp only [unrollH, hlb] at h
      obtain ⟨⟨e, s1⟩, h1, h2⟩ := sel_bind h
      unfold Code.roundsIn
      refine evCode_ok hH.pc (evFn_ok hH d) f K b (i + 1) s h1 (fun j b' h hj hk => hH.lh f fn c (i + 1 + j) b' h hf hc (nthLoop_in hb hj) hk) hK hs fun F' w' bs' a' he hs' => ?_
      cases e with
      | normal =>
        simp only [xe, Exit.then]
        exact ih K s1 x h2 F' w' bs' a' (he.le hK) hs' Q fun F'' w'' bs'' a'' he' hs'' => hQ F'' w'' bs'' a'' (he.trans he' (Nat.le_refl _)) hs''
      | exit k =>
        simp only [Tree.sel, Option.some.injEq] at h2
        subst h2
        exact hQ F' w' bs' a' he hs'
      | ret =>
        simp only [Tree.sel, Option.some.injEq] at h2
        subst h2
        exact hQ F' w' bs' a' he hs'
  intro K s x h lr nn D F w bs a hK hs Q hQ
  exact wpIn_loop_rounds n (key lr nn D n K s x h F w bs a hK hs Q hQ)
noncomputable def dec (p : Prop) : Bool := @decide p (Classical.propDecidable p)
theorem dec_iff {p : Prop} : dec p = true ↔ p := by
  unfold dec
  exact @decide_eq_true_iff p (Classical.propDecidable p)
end Go.Sx
