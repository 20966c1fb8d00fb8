/-
  The unplanned change of the primary: copies of slices, and of a history.
-/
import Derived.Test.YtennlgngdjegoaaGreatFoB
namespace Go.Proofs.YtennlgngdjegoaaGreat
open Go Go.Sx Go.RowKit Classical

set_option maxRecDepth 100000
set_option maxHeartbeats 4000000

namespace Fo

/-- the copy of a slice, as one slice of one's own -/
def cl1 (E : TypeId) (es : List Sh) (sz bt : Nat) : List A1 → Tree (AV × Mem)
  | [.c .nils] => .leaf (.one (.c (.os 0 sz)), [some (E, [.row false es 0 Val.zero])])
  | [.c (.sl es' n ρ)] => if shEq.shsEq es' es then .need (Nat.ble ((0 + n) * bt) 140737488355328) (.leaf (.one (.c (.os 0 sz)), [some (E, [.row false es n ρ])])) else .fail
  | _ => .fail

theorem nils_own {E : TypeId} {es : List Sh} {sz : Nat} {ρ : Val} : WkO (.ret (.one (.c .nils)), []) (.ret (.one (.c (.os 0 sz))), [some (E, [.row false es 0 ρ])]) := by
  intro P F w bs e hm he
  obtain ⟨v, rfl, hv⟩ := he
  have hbs : bs = [] := by
    have := hm.len
    cases bs with
    | nil => rfl
    | cons _ _ => simp at this
  subst hbs
  refine ⟨F, [] ++ [⟨w.heap.size, 0, 0⟩], (Ext.refl (K := 0)).push (.inr (Nat.le_refl _)), hm.row0' E es ρ, v, rfl, ?_⟩
  have hv : CV.Rel F w [] .nils v := hv
  cases hv
  exact CV.Rel.os (F := F) (w := w) (b := 0) (sz := sz) (base := none) (x := ⟨w.heap.size, 0, 0⟩) rfl (fun h => by simp at h)

theorem cl1_ok {f : Nat} {E : TypeId} {es : List Sh} {sz bt : Nat} (h : NcOne Tryz.prog f (cloneG E es sz bt)) (h0 : (evFn Tryz.prog HN 5 f [.c .nils] []).sel = some (.one (.c .nils), [])) : NcOne Tryz.prog f (cl1 E es sz bt) := by
  intro args r m hG hcl F w vs hargs
  unfold cl1 at hG
  split at hG
  · simp only [Tree.sel, Option.some.injEq, Prod.mk.injEq] at hG
    obtain ⟨rfl, rfl⟩ := hG
    refine (evFn_ok0 hn 5 f [.c .nils] (.one (.c .nils)) [] h0 F w [] vs MemRel.nil hargs).mono fun e w2 ⟨v, F', bs', he, hext, hm', hr⟩ => ?_
    subst he
    obtain ⟨F2, bs2, e2, m2, v2, hv2, r2⟩ := nils_own (E := E) (es := es) (sz := sz) (ρ := Val.zero) Tryz.prog F' w2 bs' (.returned v) hm' ⟨v, rfl, hr⟩
    simp only [Ending.returned.injEq] at hv2
    subst hv2
    exact ⟨v, F2, bs2, rfl, hext.trans e2 (Nat.le_refl _), m2, r2⟩
  · rename_i es' n ρ
    split at hG
    · rename_i hs
      simp only [Tree.sel] at hG
      cases hb : Nat.ble ((0 + n) * bt) 140737488355328
      · rw [hb] at hG; simp at hG
      · rw [hb] at hG
        simp only [cond_true, Option.some.injEq, Prod.mk.injEq] at hG
        obtain ⟨rfl, rfl⟩ := hG
        have := h [.c (.sl es' n ρ)] (.one (.c (.os 1 sz))) [none, some (E, [.row false es n ρ])] (by simp only [cloneG, hs, if_true, Tree.sel, hb, cond_true]) hcl F w vs hargs
        refine this.mono fun e w2 ⟨v, F', bs', he, hext, hm', hr⟩ => ?_
        subst he
        obtain ⟨F2, bs2, e2, m2, v2, hv2, r2⟩ := WkO.row (b := 1) (sz := sz) (σ := ρ) rfl (fun _ _ _ _ _ => rfl) Tryz.prog F' w2 bs' (.returned v) hm' ⟨v, rfl, hr⟩
        simp only [Ending.returned.injEq] at hv2
        subst hv2
        exact ⟨v, F2, bs2, rfl, hext.trans e2 (Nat.le_refl _), m2, r2⟩
    · simp [Tree.sel] at hG
  · simp [Tree.sel] at hG

abbrev inSh : List Sh := [.int .i64]
abbrev scSh : List Sh := [.int .u8, .int .u8, .int .u8, .int .u8, .int .u8, .int .u8, .int .u8, .int .u8]
abbrev evSh : List Sh := [.int .i64, .int .i64]

theorem c92 : NcOne Tryz.prog 92 (cloneG 3 inSh 1 8) := clone_nc Tryz.func92 rfl rfl rfl rfl rfl rfl rfl rfl (by kernel_rfl) rfl (fun n ρ => by kernel_rfl)
  (fun n ρ => stC inSh n ρ true) (fun n ρ => mkS 8 [(0, .one (.c (.sl inSh n ρ))), (2, .one (.c (.os 1 1))), (3, .one (.c (.sl inSh n ρ))), (4, .one (.c (.bool false))), (5, .one (.c (.os 0 1))), (6, .one (.c (.sl inSh n ρ))), (7, .one (.c (.os 1 1)))] [none, some (3, [.row false inSh (0 + n) (Val.cat 0 (Val.ofFlat 1 []) ρ)])])
  (fun n ρ => by kernel_rfl) (fun n ρ => by kernel_rfl) (fun n ρ => rfl) (fun n ρ => by kernel_rfl) (fun n ρ => by kernel_rfl) (fun n ρ => rfl)
theorem n92 : NcOne Tryz.prog 92 (cl1 3 inSh 1 8) := cl1_ok c92 (by kernel_rfl)
theorem c94 : NcOne Tryz.prog 94 (cloneG 93 scSh 8 8) := clone_nc Tryz.func94 rfl rfl rfl rfl rfl rfl rfl rfl (by kernel_rfl) rfl (fun n ρ => by kernel_rfl)
  (fun n ρ => stC scSh n ρ true) (fun n ρ => mkS 8 [(0, .one (.c (.sl scSh n ρ))), (2, .one (.c (.os 1 8))), (3, .one (.c (.sl scSh n ρ))), (4, .one (.c (.bool false))), (5, .one (.c (.os 0 8))), (6, .one (.c (.sl scSh n ρ))), (7, .one (.c (.os 1 8)))] [none, some (93, [.row false scSh (0 + n) (Val.cat 0 (Val.ofFlat 8 []) ρ)])])
  (fun n ρ => by kernel_rfl) (fun n ρ => by kernel_rfl) (fun n ρ => rfl) (fun n ρ => by kernel_rfl) (fun n ρ => by kernel_rfl) (fun n ρ => rfl)
theorem n94 : NcOne Tryz.prog 94 (cl1 93 scSh 8 8) := cl1_ok c94 (by kernel_rfl)
theorem c130 : NcOne Tryz.prog 130 (cloneG 135 evSh 2 16) := clone_nc Tryz.func130 rfl rfl rfl rfl rfl rfl rfl rfl (by kernel_rfl) rfl (fun n ρ => by kernel_rfl)
  (fun n ρ => stC evSh n ρ true) (fun n ρ => mkS 8 [(0, .one (.c (.sl evSh n ρ))), (2, .one (.c (.os 1 2))), (3, .one (.c (.sl evSh n ρ))), (4, .one (.c (.bool false))), (5, .one (.c (.os 0 2))), (6, .one (.c (.sl evSh n ρ))), (7, .one (.c (.os 1 2)))] [none, some (135, [.row false evSh (0 + n) (Val.cat 0 (Val.ofFlat 2 []) ρ)])])
  (fun n ρ => by kernel_rfl) (fun n ρ => by kernel_rfl) (fun n ρ => rfl) (fun n ρ => by kernel_rfl) (fun n ρ => by kernel_rfl) (fun n ρ => rfl)
theorem n130 : NcOne Tryz.prog 130 (cl1 135 evSh 2 16) := cl1_ok c130 (by kernel_rfl)

/-- what the evaluator with panics says of a function that lays memory of its own -/
def evNc (P : Program) (H : Hd) (X : HdP) (n f : Nat) (args : List A1) : Tree (AV × Mem) := (evFnP P H X n f args []).bind fun y => match y.1 with
  | .ret a => .leaf (a, y.2)
  | .pan _ => .fail

theorem evNc_ok {P : Program} {H : Hd} (hH : HdOk P H) {X : HdP} (hX : XOk P X) (n f : Nat) : NcOne P f (evNc P H X n f) := by
  intro args r m hG hcl F w vs hargs
  obtain ⟨⟨o, m1⟩, h1, h2⟩ := sel_bind hG
  simp only at h2
  split at h2
  · rename_i a
    simp only [Tree.sel, Option.some.injEq, Prod.mk.injEq] at h2
    obtain ⟨rfl, rfl⟩ := h2
    refine (evFnP_ok hH hX n f args [] _ _ h1 F w [] vs MemRel.nil hargs).mono fun e w2 ⟨F', bs', hext, hm', v, hv, hr⟩ => ⟨v, F', bs', hv, hext, hm', hr⟩
  · simp [Tree.sel] at h2

/-- loops, round by round -/
def lhsOf (P : Program) (H : Hd) (n : Nat) : List (Nat × Nat) → List ((Nat × Nat) × (Nat → St → Tree (XE × St)))
  | [] => []
  | p :: r => ((p.1, p.2), unrollH P H 30 p.1 p.2 n) :: lhsOf P H n r

theorem lhs_ok {P : Program} {pc hc mc} (hb : HdOk P ⟨pc, hc, [], mc⟩) {H : Hd} (hH : HdOk P H) (n : Nat) : ∀ fs : List (Nat × Nat), HdOk P ⟨pc, hc, lhsOf P H n fs, mc⟩
  | [] => hb
  | p :: r => HdOk.lhCons (lhs_ok hb hH n r) fun _ _ _ hf hc hb => unroll_ok hH 30 p.1 p.2 hf hc hb n

noncomputable abbrev mcA : List (Nat × (List A1 → Mem → Tree (AV × Mem))) := [(92, ncG (cl1 3 inSh 1 8)), (94, ncG (cl1 93 scSh 8 8)), (130, ncG (cl1 135 evSh 2 16))]
theorem hA0 : HdOk Tryz.prog ⟨[], [], [], mcA⟩ := ((HdOk.nil.mcCons n130.mc).mcCons n94.mc).mcCons n92.mc
noncomputable abbrev HA1 : Hd := ⟨[], [], lhsOf Tryz.prog ⟨[], [], [], mcA⟩ 5 [(87, 0)], mcA⟩
theorem hA1 : HdOk Tryz.prog HA1 := lhs_ok hA0 hA0 5 _
noncomputable abbrev XA : HdP := ⟨[], [], [(92, cl1 3 inSh 1 8), (130, cl1 135 evSh 2 16)]⟩
theorem xA : XOk Tryz.prog XA := (XOk.nil.ncCons n130).ncCons n92
/-- the copy of a history -/
theorem n87 : NcOne Tryz.prog 87 (evNc Tryz.prog HA1 XA 30 87) := evNc_ok hA1 xA 30 87

/-- literals of plain data, heads of slices -/
def litK : Nat × (List A1 → Tree AV) := (4294967292, fun _ => .fail)
def headK : Nat × (List A1 → Tree AV) := (4294967291, fun _ => .fail)

end Fo
end Go.Proofs.YtennlgngdjegoaaGreat
/-
  The unplanned change of the primary: summaries at arguments that read as given ones.
-/
namespace Go.Proofs.YtennlgngdjegoaaGreat
open Go Go.Sx Go.RowKit Classical

set_option maxRecDepth 100000
set_option maxHeartbeats 4000000

namespace Fo

def allB (p : Nat → Bool) : Nat → Bool
  | 0 => true
  | n + 1 => allB p n && p n
theorem allB_ok {p : Nat → Bool} : ∀ {n : Nat}, allB p n = true → ∀ i, i < n → p i = true
  | n + 1, h, i, hi => by
    simp only [allB, Bool.and_eq_true] at h
    rcases Nat.lt_or_eq_of_le (Nat.le_of_lt_succ hi) with h' | rfl
    · exact allB_ok h.1 i h'
    · exact h.2

/-- does the one read as the other? -/
def sameC : Nat → CV → CV → Bool
  | 0, _, _ => false
  | _ + 1, .bool a, .bool b => a == b
  | _ + 1, .int k a, .int k' b => k == k' && a == b
  | _ + 1, .nils, .nils => true
  | _ + 1, .nils, .sl _ 0 _ => true
  | m + 1, .sl es n ρ, .sl es' n' σ => shEq.shsEq es es' && n == n' && allB (fun i => allB (fun f => match nth es f with
      | some s => sameC m (cellOf s ((ρ.at i).at f)) (cellOf s ((σ.at i).at f))
      | none => true) es.length) n
  | _, _, _ => false

theorem sameC_le : ∀ {m : Nat} {x y : CV} (_ : sameC m x y = true) {F : Nat → Prop} {w : World} {bs : List BI} {v : Value} (_ : CV.Rel F w bs x v), CV.Rel F w bs y v
  | m + 1, x, y, h, F, w, bs, v, hv => by
    unfold sameC at h
    split at h
    · cases h
    · rename_i e1 e2 e3; have := eq_of_beq h; subst this; exact hv
    · simp only [Bool.and_eq_true, beq_iff_eq] at h
      obtain ⟨rfl, rfl⟩ := h
      exact hv
    · exact hv
    · cases hv; exact .slnil
    · rename_i es n ρ es' n' σ _ _
      simp only [Bool.and_eq_true, beq_iff_eq] at h
      obtain ⟨⟨h1, rfl⟩, h2⟩ := h
      have h1 := shsEq_eq h1
      subst h1
      cases hv with
      | slnil => exact .slnil
      | sl val hn h0 hc hr =>
        refine .sl val hn h0 hc fun i f s hi hf => ?_
        have h3 := allB_ok (allB_ok h2 i hi) f (nth_lt hf)
        simp only [hf] at h3
        exact sameC_le h3 (hr i f s hi hf)
    · cases h

def same1 : A1 → A1 → Bool
  | .c x, .c y => sameC 6 x y
  | .agg l, .agg r => sameL l r
  | _, _ => false
 where sameL : List CV → List CV → Bool
  | [], [] => true
  | x :: l, y :: r => sameC 6 x y && sameL l r
  | _, _ => false

theorem sameL_le {F w bs} : ∀ {l r : List CV} {vs : List Value}, same1.sameL l r = true → All2 (CV.Rel F w bs) l vs → All2 (CV.Rel F w bs) r vs
  | [], [], _, _, h => h
  | _ :: _, _ :: _, _, h, .cons a b => by
    simp only [same1.sameL, Bool.and_eq_true] at h
    exact .cons (sameC_le h.1 a) (sameL_le h.2 b)
  | [], _ :: _, _, h, _ => by simp [same1.sameL] at h
  | _ :: _, [], _, h, _ => by simp [same1.sameL] at h

theorem same1_le {F w bs} {x y : A1} {v : Value} (h : same1 x y = true) (hv : A1.Rel F w bs x v) : A1.Rel F w bs y v := by
  cases x with
  | c x => cases y with
    | c y => exact sameC_le (m := 6) h hv
    | agg _ => cases h
  | agg l => cases y with
    | c _ => cases h
    | agg r => obtain ⟨vs, rfl, hv⟩ := hv; exact ⟨vs, rfl, sameL_le h hv⟩

def sames : List A1 → List A1 → Bool
  | [], [] => true
  | x :: l, y :: r => same1 x y && sames l r
  | _, _ => false

theorem sames_le {F w bs} : ∀ {l r : List A1} {vs : List Value}, sames l r = true → All2 (A1.Rel F w bs) l vs → All2 (A1.Rel F w bs) r vs
  | [], [], _, _, h => h
  | _ :: _, _ :: _, _, h, .cons a b => by
    simp only [sames, Bool.and_eq_true] at h
    exact .cons (same1_le h.1 a) (sames_le h.2 b)
  | [], _ :: _, _, h, _ => by simp [sames] at h
  | _ :: _, [], _, h, _ => by simp [sames] at h

def sameA : AV → AV → Bool
  | .one x, .one y => same1 x y
  | .tup l, .tup r => sames l r
  | _, _ => false

theorem sameA_le {x y : AV} (h : sameA x y = true) : leA x y := by
  intro F w v hv
  cases x with
  | any => cases h
  | one x => cases y with
    | one y => exact same1_le (x := x) (y := y) h hv
    | _ => cases h
  | tup l => cases y with
    | tup r => obtain ⟨vs, rfl, hv⟩ := hv; exact ⟨vs, rfl, sames_le h hv⟩
    | _ => cases h

/-- a summary at arguments that read as given ones -/
def canG (canon : List A1) (r : AV) (args : List A1) : Tree AV := .need (sames args canon) (.leaf r)

theorem canG_ok {P : Program} {H : Hd} (hH : HdOk P H) (n f : Nat) {canon : List A1} {r : AV} (h : (match (hcTree P H n f canon).sel with | some x => sameA x r | none => false) = true) : UcOne P f (canG canon r) := by
  intro args r' hr _ F w vs ha
  unfold canG at hr
  simp only [Tree.sel] at hr
  cases hs : sames args canon
  · rw [hs] at hr; simp at hr
  · rw [hs] at hr
    simp only [cond_true, Option.some.injEq] at hr
    subst hr
    have hargs := sames_le hs ha
    split at h
    · rename_i x hsel
      obtain ⟨⟨r', m⟩, h1, h2⟩ := sel_bind hsel
      have ho : outA m r' = some x := by
        cases hx : outA m r' with
        | none => rw [hx] at h2; simp [Tree.ofOpt, Tree.sel] at h2
        | some y => rw [hx] at h2; simpa [Tree.ofOpt, Tree.sel] using h2
      have hargs1 : All2 (A1.Rel (fun p => F p ∧ p < w.heap.size) w []) canon vs := hargs.imp fun _ _ hx => A1.Rel.grow (bs := []) (bs' := []) ⟨Nat.le_refl _, fun _ _ h => h.1, fun _ _ _ => rfl, fun _ _ h => h⟩ hx
      refine (evFn_ok0 hH n f canon r' m h1 _ w [] vs MemRel.nil hargs1).mono fun e w2 ⟨u, F', bs', he, hext, hm, hu⟩ => ?_
      refine ⟨u, he, hext.below, sameA_le h _ _ _ (AV.Rel.grow (bs := []) (bs' := []) ⟨Nat.le_refl _, fun p _ hp => ?_, fun _ _ _ => rfl, fun _ _ h => h⟩ (outA_ok hm hu ho))⟩
      refine ⟨hext.F2 p hp hp.2 (by simp), fun y hy e => ?_⟩
      rcases hext.mem y hy with ⟨z, hz, _⟩ | hs
      · cases hz
      · have := hp.2; omega
    · cases h

end Fo
end Go.Proofs.YtennlgngdjegoaaGreat
/-
  The unplanned change of the primary: histories of the examples: Issue.
-/
namespace Go.Proofs.YtennlgngdjegoaaGreat
open Go Go.Sx Go.RowKit Classical

set_option maxRecDepth 100000
set_option maxHeartbeats 4000000

namespace Fo

/-- summaries at arguments that read as one of several -/
def canGs : List (List A1 × AV) → List A1 → Tree AV
  | [], _ => .fail
  | (c, r) :: l, args => match sames args c with
    | true => .leaf r
    | false => canGs l args

theorem canGs_ok {P : Program} {f : Nat} : ∀ {l : List (List A1 × AV)}, (∀ p ∈ l, UcOne P f (canG p.1 p.2)) → UcOne P f (canGs l)
  | [], _ => fun _ _ h => by simp [canGs, Tree.sel] at h
  | (c, r) :: l, h => fun args r' hr hc F w vs ha => by
    unfold canGs at hr
    cases hs : sames args c
    · rw [hs] at hr
      exact canGs_ok (fun p hp => h p (by simp [hp])) args r' hr hc F w vs ha
    · rw [hs] at hr
      simp only [Tree.sel, Option.some.injEq] at hr
      subst hr
      exact h (c, r) (by simp) args r (by unfold canG; simp only [Tree.sel, hs, cond_true]) hc F w vs ha

noncomputable abbrev mcH : List (Nat × (List A1 → Mem → Tree (AV × Mem))) := (87, ncG (evNc Tryz.prog HA1 XA 30 87)) :: mcA
def pcH : List (Nat × (List A1 → Tree AV)) := [tailK, litK, headK]
theorem hH0 : HdOk Tryz.prog ⟨pcH, [], [], mcH⟩ := by
  have h0 : HdOk Tryz.prog ⟨[], [], [], mcH⟩ := hA0.mcCons n87.mc
  have h3 := h0.tcCons (f := 4294967291) (G := fun _ => .fail) (fun _ _ h => by simp [Tree.sel] at h)
  have h4 := h3.tcCons (f := 4294967292) (G := fun _ => .fail) (fun _ _ h => by simp [Tree.sel] at h)
  exact h4.tail
def loopsH : List (Nat × Nat) := [(21, 0), (66, 0), (82, 0), (83, 0), (83, 1), (84, 0), (85, 0), (89, 0), (90, 0), (91, 0), (111, 0), (114, 0), (121, 0), (129, 0), (132, 0), (145, 0), (146, 0), (149, 0), (166, 0), (168, 0), (169, 0), (183, 0), (186, 0)]
noncomputable def lw0 : Hd := ⟨pcH, [], [], mcH⟩
noncomputable def lw1 : Hd := ⟨pcH, [], lhsOf Tryz.prog lw0 10 loopsH, mcH⟩
noncomputable def lw2 : Hd := ⟨pcH, [], lhsOf Tryz.prog lw1 10 loopsH, mcH⟩
noncomputable def lw3 : Hd := ⟨pcH, [], lhsOf Tryz.prog lw2 10 loopsH, mcH⟩
noncomputable def lw4 : Hd := ⟨pcH, [], lhsOf Tryz.prog lw3 10 loopsH, mcH⟩
noncomputable def lw5 : Hd := ⟨pcH, [], lhsOf Tryz.prog lw4 10 loopsH, mcH⟩
theorem lw0_ok : HdOk Tryz.prog lw0 := hH0
theorem lw1_ok : HdOk Tryz.prog lw1 := lhs_ok hH0 lw0_ok 10 loopsH
theorem lw2_ok : HdOk Tryz.prog lw2 := lhs_ok hH0 lw1_ok 10 loopsH
theorem lw3_ok : HdOk Tryz.prog lw3 := lhs_ok hH0 lw2_ok 10 loopsH
theorem lw4_ok : HdOk Tryz.prog lw4 := lhs_ok hH0 lw3_ok 10 loopsH
theorem lw5_ok : HdOk Tryz.prog lw5 := lhs_ok hH0 lw4_ok 10 loopsH

/-- a volume of four sectors; its first writes -/
def datV : Val := .byFst fun _ => Val.ofCs [.int .u8 1, .int .u8 0, .int .u8 0, .int .u8 0, .int .u8 0, .int .u8 0, .int .u8 0, .int .u8 0]
def roots : CV := .sl inSh 1 (.byFst fun _ => .byFst fun _ => Val.ofC (I 4))
def wrt (i : Int) : List CV := [I 0, I i, .sl scSh 1 datV]
def his : Nat → A1
  | 0 => .agg [roots, .nils, .nils]
  | k + 1 => .agg [roots, .sl [.int .i64, .int .i64, .sl scSh] (k + 1) (.byFst fun i => Val.ofCs (wrt i)), .sl evSh (k + 1) (.byFst fun i => Val.ofCs [I 0, I i])]
def issR (k : Nat) : AV := .tup [his (k + 1), .c (I k), .c (I 0)]

theorem iss0 : UcOne Tryz.prog 41 (canG [his 0, .agg (wrt 0)] (issR 0)) := canG_ok lw5_ok 30 41 (by kernel_rfl)
theorem iss1 : UcOne Tryz.prog 41 (canG [his 1, .agg (wrt 1)] (issR 1)) := canG_ok lw5_ok 30 41 (by kernel_rfl)
theorem iss2 : UcOne Tryz.prog 41 (canG [his 2, .agg (wrt 2)] (issR 2)) := canG_ok lw5_ok 30 41 (by kernel_rfl)
/-- Issue, three times -/
noncomputable def Kiss : List A1 → Tree AV := canGs [([his 0, .agg (wrt 0)], issR 0), ([his 1, .agg (wrt 1)], issR 1), ([his 2, .agg (wrt 2)], issR 2)]
theorem kIss : UcOne Tryz.prog 41 Kiss := canGs_ok fun p hp => by
  simp only [List.mem_cons, List.not_mem_nil, or_false] at hp
  rcases hp with rfl | rfl | rfl
  · exact iss0
  · exact iss1
  · exact iss2

end Fo
end Go.Proofs.YtennlgngdjegoaaGreat
/-
  The unplanned change of the primary: histories of the examples: Loss and Point.
-/
namespace Go.Proofs.YtennlgngdjegoaaGreat
open Go Go.Sx Go.RowKit Classical

set_option maxRecDepth 100000
set_option maxHeartbeats 4000000

namespace Fo

def ints (l : List Int) : CV := .sl inSh l.length (Val.ofFlat 1 (l.map I))
def losR : AV := .tup [.c (ints [1, 2]), .c (I 0)]
theorem los3 : UcOne Tryz.prog 21 (canG [his 3, .c (ints [0])] losR) := canG_ok lw5_ok 30 21 (by kernel_rfl)

noncomputable def lp0 : Hd := ⟨pcH, [(21, canG [his 3, .c (ints [0])] losR)], [], mcH⟩
theorem lp0_ok : HdOk Tryz.prog lp0 := by
  have h0 : HdOk Tryz.prog ⟨[], [], [], mcH⟩ := hA0.mcCons n87.mc
  have h1 := h0.ucCons los3
  have h3 := h1.tcCons (f := 4294967291) (G := fun _ => .fail) (fun _ _ h => by simp [Tree.sel] at h)
  have h4 := h3.tcCons (f := 4294967292) (G := fun _ => .fail) (fun _ _ h => by simp [Tree.sel] at h)
  exact h4.tail
noncomputable def lp1 : Hd := ⟨pcH, lp0.hc, lhsOf Tryz.prog lp0 10 loopsH, mcH⟩
theorem lp1_ok : HdOk Tryz.prog lp1 := lhs_ok lp0_ok lp0_ok 10 loopsH
noncomputable def lp2 : Hd := ⟨pcH, lp0.hc, lhsOf Tryz.prog lp1 10 loopsH, mcH⟩
theorem lp2_ok : HdOk Tryz.prog lp2 := lhs_ok lp0_ok lp1_ok 10 loopsH
def ptsR : AV := .tup [.c (I 7), .c (I 0)]
theorem pts3 : UcOne Tryz.prog 23 (canG [his 3, .c (ints [0]), .c (ints [3, 5, 8]), .c (I 12)] ptsR) := canG_ok lp2_ok 30 23 (by kernel_rfl)

end Fo
end Go.Proofs.YtennlgngdjegoaaGreat
/-
  The unplanned change of the primary: the examples of the chapter.
-/
namespace Go.Proofs.YtennlgngdjegoaaGreat
open Go Go.Sx Go.RowKit Classical

set_option maxRecDepth 100000
set_option maxHeartbeats 4000000

namespace Fo

/-- few sites of few spans, to be reckoned -/
def smallB (l : Ses) : Bool := Nat.ble l.n 10 && !anyB (fun i => !Nat.ble (l.at i).n 1000) l.n
theorem smallB_ok {l : Ses} (h : smallB l = true) : smallS l := by
  unfold smallB at h
  rw [Bool.and_eq_true] at h
  have hn := Nat.le_of_ble_eq_true h.1
  refine ⟨by omega, fun i hi => ?_⟩
  have h2 : anyB (fun i => !Nat.ble (l.at i).n 1000) l.n = false := by simpa using h.2
  have h3 : Nat.ble (l.at i).n 1000 = true := by
    cases hb : Nat.ble (l.at i).n 1000
    · have := (anyB_iff (bad := fun i => !Nat.ble (l.at i).n 1000)).2 ⟨i, hi, (by rw [hb]; rfl : (!Nat.ble (l.at i).n 1000) = true)⟩
      rw [h2] at this; cases this
    · rfl
  have := Nat.le_of_ble_eq_true h3
  unfold small; omega

/-- a summary under a condition that can be reckoned -/
def kG (G : List A1 → Option (Bool × AV)) (args : List A1) : Tree AV :=
  match G args with
  | some (c, r) => .need c (.leaf r)
  | none => .fail

theorem kG_sel {G : List A1 → Option (Bool × AV)} {args : List A1} {r : AV} (h : (kG G args).sel = some r) : G args = some (true, r) := nG_sel h

def Kcho : List A1 → Option (Bool × AV)
  | [.c (.sl [.int .i64, .int .i64, .int .i64, .int .i64, .sl [.int .i64, .int .i64, .int .i64], .int .i64, .bool, .bool] n ρ), .c (.sl [.bool] k σ)] => some (smallB ⟨n, ρ⟩, two (choI ⟨n, ρ⟩ ⟨k, σ⟩) (choE ⟨n, ρ⟩ ⟨k, σ⟩))
  | _ => none
def Kbeg : List A1 → Option (Bool × AV)
  | [.c (.sl [.int .i64, .int .i64, .int .i64, .int .i64, .sl [.int .i64, .int .i64, .int .i64], .int .i64, .bool, .bool] n ρ), .c (.sl [.bool] k σ), .c (.int .i64 t)] => some (smallB ⟨n, ρ⟩, prE (begP ⟨n, ρ⟩ ⟨k, σ⟩ t) (begE ⟨n, ρ⟩ ⟨k, σ⟩ t))
  | _ => none
def Kstp : List A1 → Option (Bool × AV)
  | [.agg [.int .i64 k, .int .i64 f, .int .i64 t, .int .i64 s, .int .i64 e, .int .i64 c, .bool d, .bool x], .c (.sl [.int .i64, .int .i64, .int .i64, .int .i64, .sl [.int .i64, .int .i64, .int .i64], .int .i64, .bool, .bool] n ρ), .c (.bool ok), .c (.int .i64 v)] =>
    some (smallB ⟨n, ρ⟩, thr (stpP ⟨k, f, t, s, e, c, d, x⟩ ⟨n, ρ⟩ ok v) (stpL ⟨k, f, t, s, e, c, d, x⟩ ⟨n, ρ⟩ ok v) (stpE ⟨k, f, t, s, e, c, d, x⟩ ⟨n, ρ⟩ ok v))
  | _ => none

theorem ucOne_imp {P : Program} {f : Nat} {G G' : List A1 → Tree AV} (h : UcOne P f G) (hw : ∀ args r, (G' args).sel = some r → (G args).sel = some r) : UcOne P f G' := fun args r hr hc F w vs ha => h args r (hw args r hr) hc F w vs ha
theorem tcOne_imp {P : Program} {f : Nat} {G G' : List A1 → Tree AV} (h : TcOne P f G) (hw : ∀ args r, (G' args).sel = some r → (G args).sel = some r) : TcOne P f G' := fun args r hr hc F w vs ha => h args r (hw args r hr) hc F w vs ha

theorem small_few {l : Ses} (h : smallB l = true) : fewS l := by
  obtain ⟨h1, h2⟩ := smallB_ok h
  exact ⟨by unfold fewN; omega, fun i hi => by have := h2 i hi; unfold small at this; unfold fewN; omega⟩

theorem kCho : TcOne Tryz.prog 11 (kG Kcho) := tcOne_imp pCho fun args r hr => by
  have h := kG_sel hr
  unfold Kcho at h; split at h
  · obtain ⟨hp, rfl⟩ := Prod.mk.inj (Option.some.inj h)
    unfold nG Gcho
    simp only [Tree.sel, dec_iff.2 (small_few hp), cond_true]
  · cases h
theorem kBeg : TcOne Tryz.prog 13 (kG Kbeg) := tcOne_imp pBeg fun args r hr => by
  have h := kG_sel hr
  unfold Kbeg at h; split at h
  · obtain ⟨hp, rfl⟩ := Prod.mk.inj (Option.some.inj h)
    unfold nG Gbeg
    simp only [Tree.sel, dec_iff.2 (small_few hp), cond_true]
  · cases h
theorem kStp : UcOne Tryz.prog 15 (kG Kstp) := ucOne_imp uStep fun args r hr => by
  have h := kG_sel hr
  unfold Kstp at h; split at h
  · obtain ⟨hp, rfl⟩ := Prod.mk.inj (Option.some.inj h)
    unfold nG Gstp
    simp only [Tree.sel, dec_iff.2 (smallB_ok hp), cond_true]
  · cases h

noncomputable abbrev pcW : List (Nat × (List A1 → Tree AV)) := [concK, tailK, litK, headK, (13, kG Kbeg), (11, kG Kcho)]
noncomputable abbrev hcW : List (Nat × (List A1 → Tree AV)) := [(23, canG [his 3, .c (ints [0]), .c (ints [3, 5, 8]), .c (I 12)] ptsR), (21, canG [his 3, .c (ints [0])] losR), (41, Kiss), (15, kG Kstp)]
theorem hW0 : HdOk Tryz.prog ⟨pcW, hcW, [], mcH⟩ := by
  have h0 : HdOk Tryz.prog ⟨[], [], [], mcH⟩ := hA0.mcCons n87.mc
  have h1 : HdOk Tryz.prog ⟨[], hcW, [], mcH⟩ := (((h0.ucCons kStp).ucCons kIss).ucCons los3).ucCons pts3
  have h2 := (h1.tcCons kCho).tcCons kBeg
  have h3 := h2.tcCons (f := 4294967291) (G := fun _ => .fail) (fun _ _ h => by simp [Tree.sel] at h)
  have h4 := h3.tcCons (f := 4294967292) (G := fun _ => .fail) (fun _ _ h => by simp [Tree.sel] at h)
  exact (h4.tail).tcCons concK_ok
def loopsW : List (Nat × Nat) := [(10, 0), (10, 1), (25, 0), (132, 0), (66, 0), (114, 0), (91, 0)]
noncomputable def lv1 : Hd := ⟨pcW, hcW, lhsOf Tryz.prog ⟨pcW, hcW, [], mcH⟩ 10 loopsW, mcH⟩
theorem lv1_ok : HdOk Tryz.prog lv1 := lhs_ok hW0 hW0 10 loopsW
noncomputable def lv2 : Hd := ⟨pcW, hcW, lhsOf Tryz.prog lv1 10 loopsW, mcH⟩
theorem lv2_ok : HdOk Tryz.prog lv2 := lhs_ok hW0 lv1_ok 10 loopsW

def Gawk : List A1 → Option AV
  | [] => some (.one (.c (.bool true)))
  | _ => none

/-- the examples hold -/
theorem pAwake : PcOne Tryz.prog 10 Gawk := pcOne_of_sel lv2_ok 30 10 fun args r h => by
  unfold Gawk at h; split at h
  · obtain rfl := Option.some.inj h
    exact ⟨rfl, by kernel_rfl⟩
  · cases h

end Fo
end Go.Proofs.YtennlgngdjegoaaGreat
/-
  The unplanned change of the primary: the laws' Few and SameAll; Choose, Begin and Step are the reference's.
-/
namespace Go.Proofs.YtennlgngdjegoaaGreat
open Go Go.Sx Go.RowKit Classical

set_option maxRecDepth 100000
set_option maxHeartbeats 800000

namespace Fo

def sameS (x y : Sit) : Bool := ((((((x.a == y.a && x.r == y.r) && x.e == y.e) && x.p == y.p) && eqL ⟨⟨x.n, x.ρ⟩, ⟨y.n, y.ρ⟩⟩) && x.s == y.s) && x.l == y.l) && x.c == y.c
structure C21 where
  l : Ses
  j : Ses
def S21 (c : C21) (v : Int) : St := mkS 27 [(0, .one (.c (.sl siSh c.l.n c.l.ρ))), (1, .one (.c (.sl siSh c.j.n c.j.ρ))), (4, .one (.c (.bool false))), (5, .one (.c (I v)))] []
noncomputable def TX21 (c : C21) (v : Int) : Tree (XE × Int) :=
  .br (lt v (toInt64 c.l.n)) (.need (inRange v c.l.n) (.need (inRange v c.j.n) (.need (dec (fewN (c.l.at v.toNat).n)) (.br (!sameS (c.l.at v.toNat) (c.j.at v.toNat)) (.leaf (.ret, v)) (.leaf (.normal, IntKind.i64.wrap (v + 1))))))) (.leaf (.exit 0, v))
theorem t21 (c : C21) (v : Int) : ((evCode Tryz.prog HJ (evFn Tryz.prog HJ 10) 19 0 1 (loopBody Tryz.prog 19 0) (S21 c v)).bind fun y => gcT [0, 1, 4, 5] 0 y) = (TX21 c v).bind fun y => .leaf (y.1, S21 c y.2) := by kernel_rfl
def difS (l j : Ses) (i : Nat) : Bool := !sameS (l.at i) (j.at i)
def good21 (c : C21) : Prop := fewS c.l ∧ c.l.n = c.j.n
theorem sq21 (c : C21) (h : good21 c) : Sq (TX21 c) (fun v => (c.l.n - v).toNat) (fun i => (i : Int)) (fun i => (i : Int)) c.l.n (difS c.l c.j) .ret (.exit 0) where
  out := by simp
  hit := by simp
  meas i hi := by show ((c.l.n : Int) - (i : Int)).toNat = _; omega
  round i hi := by
    obtain ⟨⟨hn, hs⟩, hj⟩ := h
    have hsi := hs i hi
    unfold fewN at hn
    have hw : IntKind.i64.wrap ((i : Int) + 1) = ((i + 1 : Nat) : Int) := by rw [w64_id (by omega) (by omega)]; omega
    refine ⟨fun _ => ⟨inR hi, inR (hj ▸ hi), dec_iff.2 hsi, fun hb => ?_, fun hb => ?_⟩, fun hlt => ?_⟩
    · have : difS c.l c.j i = true := hb
      simp only [Tree.All, this, if_true]
    · have : difS c.l c.j i = false := hb
      simp only [Tree.All, this, Bool.false_eq_true, if_false]
      rw [hw]
    · rw [ltF hi] at hlt; cases hlt
  stop := by
    refine ⟨fun hlt => ?_, fun _ => rfl⟩
    rw [ltS] at hlt; cases hlt
def get21 : List (Nat × AV) → Mem → Option (C21 × Int)
  | [(0, .one (.c (.sl [.int .i64, .int .i64, .int .i64, .int .i64, .sl [.int .i64, .int .i64, .int .i64], .int .i64, .bool, .bool] n ρ))), (1, .one (.c (.sl [.int .i64, .int .i64, .int .i64, .int .i64, .sl [.int .i64, .int .i64, .int .i64], .int .i64, .bool, .bool] m σ))), (4, .one (.c (.bool false))), (5, .one (.c (.int .i64 i)))], [] => some (⟨⟨n, ρ⟩, ⟨m, σ⟩⟩, i)
  | _, _ => none
noncomputable def L21 : Nat → St → Tree (XE × St) := lqH [0, 1, 4, 5] 0 27 get21 fun c v => lqT (S21 c) (good21 c ∧ v = ((0 : Nat) : Int)) (anyB (difS c.l c.j) c.l.n) .ret (.exit 0) (firstB (difS c.l c.j) c.l.n : Nat) (c.l.n : Int)
theorem l21 (fn : Func) (c b : Code) (hf : Tryz.prog.funcs[19]? = some fn) (hc : fn.body = some c) (hb : nthLoop c 0 = some b) : LoopOk Tryz.prog b L21 :=
  lq_ok hJ 10 19 0 hf hc hb [0, 1, 4, 5] 0 27 S21 TX21 t21 get21
    (fun l m c v h => by unfold get21 at h; split at h <;> simp at h; obtain ⟨rfl, rfl⟩ := h; rfl)
    good21 (fun c v => (c.l.n - v).toNat) (fun _ i => (i : Int)) (fun _ i => (i : Int)) (fun c => c.l.n) (fun c => difS c.l c.j) .ret (.exit 0)
    sq21 (fun c => (firstB (difS c.l c.j) c.l.n : Nat)) (fun c => (c.l.n : Int)) (fun _ _ _ => StWk.refl) (fun _ _ _ => StWk.refl)
noncomputable abbrev H21 : Hd := ⟨HJ.pc, HJ.hc, [((19, 0), L21)], HJ.mc⟩
theorem h21 : HdOk Tryz.prog H21 := HdOk.lhCons hJ l21

/-- are two lists of sites the same? -/
def sameAll (l j : Ses) : Bool := bif l.n == j.n then !anyB (difS l j) l.n else false
noncomputable def Gsame : List A1 → Option (Bool × AV)
  | [.c (.sl [.int .i64, .int .i64, .int .i64, .int .i64, .sl [.int .i64, .int .i64, .int .i64], .int .i64, .bool, .bool] n ρ), .c (.sl [.int .i64, .int .i64, .int .i64, .int .i64, .sl [.int .i64, .int .i64, .int .i64], .int .i64, .bool, .bool] m σ)] => some (dec (fewS ⟨n, ρ⟩), .one (.c (.bool (sameAll ⟨n, ρ⟩ ⟨m, σ⟩))))
  | _ => none

theorem pSame : TcOne Tryz.prog 19 (nG Gsame) := tcOne_of_tree h21 10 19 fun args r h => by
  unfold Gsame at h; split at h
  · rename_i n ρ m σ
    obtain ⟨hp, rfl⟩ := Prod.mk.inj (Option.some.inj h)
    have hf := dec_iff.1 hp
    refine ⟨rfl, .br (toInt64 n != toInt64 m) (.leaf (.one (.c (.bool false)))) (.need (dec (good21 ⟨⟨n, ρ⟩, ⟨m, σ⟩⟩ ∧ (0 : Int) = ((0 : Nat) : Int))) (.br (anyB (difS ⟨n, ρ⟩ ⟨m, σ⟩) n) (.leaf (.one (.c (.bool false)))) (.leaf (.one (.c (.bool true)))))), by kernel_rfl, all_of_sel ?_⟩
    unfold sameAll
    simp only [Tree.sel]
    by_cases hnm : n = m
    · subst hnm
      have h1 : (toInt64 n != toInt64 n) = false := by simp
      have h2 : dec (good21 ⟨⟨n, ρ⟩, ⟨n, σ⟩⟩ ∧ (0 : Int) = ((0 : Nat) : Int)) = true := dec_iff.2 ⟨⟨hf, rfl⟩, rfl⟩
      have h3 : (n == n) = true := by simp
      rw [h1, h2, h3]
      cases anyB (difS ⟨n, ρ⟩ ⟨n, σ⟩) n <;> rfl
    · have h1 : (toInt64 n != toInt64 m) = true := by
        have : (n : Int) ≠ (m : Int) := by omega
        simpa [toInt64, bne] using this
      have h3 : (n == m) = false := by simpa using hnm
      rw [h1, h3]; rfl
  · cases h

theorem eqL_refl (l : Ln) : eqL ⟨l, l⟩ = true := eqL_self l
theorem sameS_refl (x : Sit) : sameS x x = true := by
  unfold sameS
  rw [eqL_refl ⟨x.n, x.ρ⟩]
  simp
theorem sameAll_refl (l : Ses) : sameAll l l = true := by
  unfold sameAll
  have : anyB (difS l l) l.n = false := anyB_none fun i _ => by unfold difS; rw [sameS_refl]; rfl
  rw [this]; simp

/-! ### Few -/

def S11 (c : Ses) (v : Int) : St := mkS 24 [(0, .one (.c (.sl siSh c.n c.ρ))), (2, .one (.c (.bool false))), (3, .one (.c (I v)))] []
def lng (l : Ses) (i : Nat) : Bool := lt 20 (toInt64 (l.at i).n)
def TX11 (c : Ses) (v : Int) : Tree (XE × Int) := .br (lt v (toInt64 c.n) && lt v 20) (.need (inRange v c.n) (.br (lng c v.toNat) (.leaf (.ret, v)) (.leaf (.normal, IntKind.i64.wrap (v + 1))))) (.leaf (.exit 0, v))
theorem t11 (c : Ses) (v : Int) : ((evCode Tryz.prog HJ (evFn Tryz.prog HJ 10) 9 0 1 (loopBody Tryz.prog 9 0) (S11 c v)).bind fun y => gcT [0, 2, 3] 0 y) = (TX11 c v).bind fun y => .leaf (y.1, S11 c y.2) := by kernel_rfl
def min10 (n : Nat) : Nat := if n ≤ 20 then n else 20
theorem sq11 (c : Ses) (_ : True) : Sq (TX11 c) (fun v => (min10 c.n - v).toNat) (fun i => (i : Int)) (fun i => (i : Int)) (min10 c.n) (lng c) .ret (.exit 0) where
  out := by simp
  hit := by simp
  meas i hi := by show ((min10 c.n : Int) - (i : Int)).toNat = _; omega
  round i hi := by
    have hi1 : i < c.n ∧ i < 20 := by unfold min10 at hi; split at hi <;> omega
    have hw : IntKind.i64.wrap ((i : Int) + 1) = ((i + 1 : Nat) : Int) := by rw [w64_id (by omega) (by omega)]; omega
    refine ⟨fun _ => ⟨inR hi1.1, fun hb => ?_, fun hb => ?_⟩, fun hlt => ?_⟩
    · have : lng c i = true := hb
      simp only [Tree.All, this, if_true]
    · have : lng c i = false := hb
      simp only [Tree.All, this, Bool.false_eq_true, if_false]
      rw [hw]
    · rw [ltF hi1.1, (lt_iff (i : Int) 20).2 (by omega)] at hlt; cases hlt
  stop := by
    refine ⟨fun hlt => ?_, fun _ => rfl⟩
    rw [Bool.and_eq_true, lt_iff, lt_iff] at hlt
    have h1 : (min10 c.n : Int) < (c.n : Int) := hlt.1
    have h2 := hlt.2
    unfold min10 at h1 h2
    split at h1 <;> split at h2 <;> omega
def get11 : List (Nat × AV) → Mem → Option (Ses × Int)
  | [(0, .one (.c (.sl [.int .i64, .int .i64, .int .i64, .int .i64, .sl [.int .i64, .int .i64, .int .i64], .int .i64, .bool, .bool] n ρ))), (2, .one (.c (.bool false))), (3, .one (.c (.int .i64 i)))], [] => some (⟨n, ρ⟩, i)
  | _, _ => none
noncomputable def L11 : Nat → St → Tree (XE × St) := lqH [0, 2, 3] 0 24 get11 fun c v => lqT (S11 c) (True ∧ v = ((0 : Nat) : Int)) (anyB (lng c) (min10 c.n)) .ret (.exit 0) (firstB (lng c) (min10 c.n) : Nat) (min10 c.n : Int)
theorem l11 (fn : Func) (c b : Code) (hf : Tryz.prog.funcs[9]? = some fn) (hc : fn.body = some c) (hb : nthLoop c 0 = some b) : LoopOk Tryz.prog b L11 :=
  lq_ok hJ 10 9 0 hf hc hb [0, 2, 3] 0 24 S11 TX11 t11 get11
    (fun l m c v h => by unfold get11 at h; split at h <;> simp at h; obtain ⟨rfl, rfl⟩ := h; rfl)
    (fun _ => True) (fun c v => (min10 c.n - v).toNat) (fun _ i => (i : Int)) (fun _ i => (i : Int)) (fun c => min10 c.n) (fun c => lng c) .ret (.exit 0)
    sq11 (fun c => (firstB (lng c) (min10 c.n) : Nat)) (fun c => (min10 c.n : Int)) (fun _ _ _ => StWk.refl) (fun _ _ _ => StWk.refl)
noncomputable abbrev H11f : Hd := ⟨HJ.pc, HJ.hc, [((9, 0), L11)], HJ.mc⟩
theorem h11f : HdOk Tryz.prog H11f := HdOk.lhCons hJ l11

/-- few sites of few spans -/
def fewL (l : Ses) : Bool := bif anyB (lng l) (min10 l.n) then false else le (toInt64 l.n) 20
def Gfew : List A1 → Option AV
  | [.c (.sl [.int .i64, .int .i64, .int .i64, .int .i64, .sl [.int .i64, .int .i64, .int .i64], .int .i64, .bool, .bool] n ρ)] => some (.one (.c (.bool (fewL ⟨n, ρ⟩))))
  | _ => none

theorem pFew : PcOne Tryz.prog 9 Gfew := pcOne_of_tree h11f 10 9 fun args r h => by
  unfold Gfew at h; split at h
  · rename_i n ρ
    obtain rfl := Option.some.inj h
    refine ⟨rfl, .need (dec (True ∧ (0 : Int) = ((0 : Nat) : Int))) (.br (anyB (lng ⟨n, ρ⟩) (min10 n)) (.leaf (.one (.c (.bool false)))) (.leaf (.one (.c (.bool (le (toInt64 n) 20)))))), by kernel_rfl, all_of_sel ?_⟩
    have : dec (True ∧ (0 : Int) = ((0 : Nat) : Int)) = true := dec_iff.2 ⟨trivial, rfl⟩
    simp only [Tree.sel, this, cond_true]
    unfold fewL
    cases anyB (lng ⟨n, ρ⟩) (min10 n) <;> rfl
  · cases h

theorem fewL_small {l : Ses} (h : fewL l = true) : smallS l := by
  unfold fewL at h
  cases ha : anyB (lng l) (min10 l.n)
  · rw [ha] at h
    have h : le (toInt64 l.n) 20 = true := h
    rw [le_iff] at h
    have h : (l.n : Int) ≤ 20 := h
    refine ⟨by omega, fun i hi => ?_⟩
    have h1 : lng l i = false := by
      rw [← Bool.not_eq_true]
      intro hh
      rw [anyB_iff.2 ⟨i, by unfold min10; split <;> omega, hh⟩] at ha; cases ha
    unfold lng at h1
    rw [← Bool.not_eq_true, lt_iff] at h1
    have h1 : ¬ (20 : Int) < ((l.at i).n : Int) := h1
    unfold small; omega
  · rw [ha] at h; cases h


/-- what the laws stand on -/
noncomputable abbrev HL : Hd := ⟨(10, oG Gawk) :: (9, oG Gfew) :: (19, nG Gsame) :: HJ.pc, HJ.hc, [], HJ.mc⟩
theorem hL : HdOk Tryz.prog HL := ((hJ.tcCons pSame).pcCons pFew).pcCons pAwake

def bT (b : Bool) : AV := .one (.c (.bool b))
def eqP (p q : Prc) : Bool := p.k == q.k && (p.f == q.f && (p.t == q.t && (p.s == q.s && (p.e == q.e && (p.c == q.c && (p.d == q.d && (p.x == q.x && true)))))))
theorem eqP_self (p : Prc) : eqP p p = true := by unfold eqP; simp

end Fo
end Go.Proofs.YtennlgngdjegoaaGreat
/-
  The unplanned change of the primary: Choose, Begin and Step are the reference's.
-/
namespace Go.Proofs.YtennlgngdjegoaaGreat
open Go Go.Sx Go.RowKit Classical

set_option maxRecDepth 100000
set_option maxHeartbeats 4000000

namespace Fo

theorem law3 (l : Ses) (o : Los) {F : Nat → Prop} {W : World} {vs : List Value} (h : All2 (A1.Rel F W []) [.c (.sl siSh l.n l.ρ), .c (.sl [.bool] o.n o.ρ)] vs) :
    Calls Tryz.prog 3 vs.toArray W (fun e W' => e = .returned (.bool true) ∧ Below W.heap.size W W') := by
  refine law_of_tree hL 12 3 (u := .br (!fewL l || lt 20 (toInt64 o.n)) (.leaf (bT true)) (.need (dec (fewS l)) (.need (dec (fewS l)) (.leaf (bT (choI l o == choI l o && choE l o == choE l o)))))) (by kernel_rfl) ⟨fun _ => rfl, fun hf => ?_⟩ h
  rw [Bool.or_eq_false_iff] at hf
  have hf : fewL l = true := by simpa using hf.1
  have hs : dec (fewS l) = true := dec_iff.2 (small_fewS (fewL_small hf))
  refine ⟨hs, hs, ?_⟩
  show bT _ = _
  simp [bT]

theorem law4 (l : Ses) (o : Los) (t : Int) {F : Nat → Prop} {W : World} {vs : List Value} (h : All2 (A1.Rel F W []) [.c (.sl siSh l.n l.ρ), .c (.sl [.bool] o.n o.ρ), .c (I t)] vs) :
    Calls Tryz.prog 4 vs.toArray W (fun e W' => e = .returned (.bool true) ∧ Below W.heap.size W W') := by
  refine law_of_tree hL 12 4 (u := .br (!fewL l || lt 20 (toInt64 o.n)) (.leaf (bT true)) (.need (dec (fewS l)) (.need (dec (fewS l)) (.leaf (bT (eqP (begP l o t) (begP l o t) && begE l o t == begE l o t)))))) (by kernel_rfl) ⟨fun _ => rfl, fun hf => ?_⟩ h
  rw [Bool.or_eq_false_iff] at hf
  have hf : fewL l = true := by simpa using hf.1
  have hs : dec (fewS l) = true := dec_iff.2 (small_fewS (fewL_small hf))
  refine ⟨hs, hs, ?_⟩
  show bT _ = _
  rw [eqP_self]
  simp [bT]

noncomputable def sameT (c : Int) (p : Prc) (l : Ses) (e : Int) : Tree AV :=
  .need (!((c == c && eqP p p) == true && true) || dec (fewS l)) (.leaf (bT (((c == c && eqP p p) && sameAll l l) && e == e)))
theorem sameT_all {c : Int} {p : Prc} {l : Ses} {e : Int} (hl : fewS l) : (sameT c p l e).All (fun z => z = .one (.c (.bool true))) := by
  refine ⟨by rw [dec_iff.2 hl, Bool.or_true], ?_⟩
  show bT _ = _
  rw [eqP_self, sameAll_refl]
  simp [bT]

theorem law5 (p : Prc) (l : Ses) (g : Bool) (t : Int) (hst : smallS l → fewS (stpL p l g t)) {F : Nat → Prop} {W : World} {vs : List Value} (h : All2 (A1.Rel F W []) [p.cv, .c (.sl siSh l.n l.ρ), .agg [.bool g, I t]] vs) :
    Calls Tryz.prog 5 vs.toArray W (fun e W' => e = .returned (.bool true) ∧ Below W.heap.size W W') := by
  refine law_of_tree hL 12 5 (u := .br (!fewL l) (.leaf (bT true)) (.need (dec (smallS l)) (.need (dec (smallS l)) (sameT (chkF p) (stpP p l g t) (stpL p l g t) (stpE p l g t))))) (by kernel_rfl) ⟨fun _ => rfl, fun hf => ?_⟩ h
  have hf : fewL l = true := by simpa using hf
  have hs := fewL_small hf
  exact ⟨dec_iff.2 hs, dec_iff.2 hs, sameT_all (hst hs)⟩

/-! ### the laws' arguments -/

theorem argL_eq (ρ : Val) : argOf Tryz.prog 22 [.sl siSh] ρ = .c (.sl siSh ((ρ.at 0).L []) (ρ.at 0)) := by kernel_rfl
theorem argB_eq (ρ : Val) : argOf Tryz.prog 23 [.sl [.bool]] ρ = .c (.sl [.bool] ((ρ.at 0).L []) (ρ.at 0)) := by kernel_rfl
theorem argI_eq (ρ : Val) : argOf Tryz.prog 3 [.int .i64] ρ = .c (I ((ρ.at 0).N [])) := by kernel_rfl

end Fo
end Go.Proofs.YtennlgngdjegoaaGreat
/-
  The unplanned change of the primary: what the steps do to sites, in plain terms.
-/
namespace Go.Proofs.YtennlgngdjegoaaGreat
open Go Go.Sx Go.RowKit Classical

set_option maxRecDepth 100000

namespace Fo

/-! ### correct sites -/

structure SiteOk (x : Sit) : Prop where
  corr : corr x.ln = true
  ht : (hd x.ln).t = x.p
  he : (hd x.ln).e ≤ x.e
  e0 : 0 ≤ x.e
  e1 : x.e ≤ 1073741824
  p0 : 0 ≤ x.p
  p1 : x.p ≤ 1073741824
  num : sit x.a = true
  r0 : 0 ≤ x.r
  r1 : x.r ≤ 5
  er : x.e = 0 → x.r = 0
  src : rcv x.r = true → oth x.s x.a = true
  nsrc : rcv x.r = false → x.s = -1

theorem ok_of_chk {x : Sit} (h : chkS x = 0) : SiteOk x := by
  obtain ⟨a, b, c, d, e, f, g, h, i, j, k, l⟩ := chk_zero h
  exact ⟨a, b, c, d, e, f, g, h, i.1, i.2, j, k, l⟩

theorem tim_iff {a : Int} : tim a = true ↔ 0 ≤ a ∧ a ≤ 1073741824 := by
  unfold tim
  rw [Bool.and_eq_true, le_iff, le_iff]

theorem chk_of_ok {x : Sit} (h : SiteOk x) : chkS x = 0 := by
  unfold chkS chk
  have h1 := h.num
  have h2 : (le 0 x.r && le x.r 5) = true := by rw [Bool.and_eq_true, le_iff, le_iff]; exact ⟨h.r0, h.r1⟩
  have h3 : tim x.e = true := tim_iff.2 ⟨h.e0, h.e1⟩
  have h4 : tim x.p = true := tim_iff.2 ⟨h.p0, h.p1⟩
  have h5 : (x.e == 0 && x.r != 0) = false := by
    cases he : (x.e == 0)
    · rfl
    · have := h.er (by simpa using he)
      simp [this]
  have h6 : Proofs.YtennlgngdjegoaaGreat.corr ⟨x.n, x.ρ⟩ = true := h.corr
  have h7 : lt x.e (hd ⟨x.n, x.ρ⟩).e = false := by
    rw [← Bool.not_eq_true, lt_iff]
    have : (hd ⟨x.n, x.ρ⟩).e ≤ x.e := h.he
    omega
  have h8 : ((hd ⟨x.n, x.ρ⟩).t != x.p) = false := by
    have : (hd ⟨x.n, x.ρ⟩).t = x.p := h.ht
    simp [bne, this]
  rw [h1, h2, h3, h4, h5, h6, h7, h8]
  cases hr : rcv x.r
  · have := h.nsrc hr
    simp [this, bne]
  · have := h.src hr
    simp [this]

theorem chain0 {e : Int} {l : List (Bool × Int)} (hk : l.all (fun q => q.2 != 0) = true) (h : chain e l = 0) : e = 0 ∧ l.all Prod.fst = true := by
  rw [List.all_eq_true] at hk
  obtain ⟨a, b⟩ := le_chain0 (fun q hq => by have := hk q hq; simpa [bne] using this) h
  exact ⟨a, List.all_eq_true.2 b⟩

def Conj : List (Bool × Int) → Prop
  | [] => True
  | [q] => q.1 = true
  | q :: r => q.1 = true ∧ Conj r
theorem allL : ∀ {l : List (Bool × Int)}, l.all Prod.fst = true → Conj l
  | [], _ => trivial
  | [q], h => by
    have h : q.1 = true := by simpa using h
    exact h
  | q :: q' :: r, h => by
    rw [List.all_cons, Bool.and_eq_true] at h
    exact ⟨h.1, allL h.2⟩

theorem pro_ok {x : Sit} {y : Int} (h : proE x y = 0) : SiteOk (pro x y) ∧ SiteOk x ∧ x.l = true ∧ x.e < y ∧ (x.r = 0 ∨ x.r = 2 ∨ x.r = 3) := by
  obtain ⟨hc, hok⟩ := chain0 rfl h
  have o := ok_of_chk hc
  have hok := allL hok
  obtain ⟨b1, b2, b3, b4⟩ := hok
  have a1 : x.l = true := b1
  have a2 : ((x.r == 0 && toInt64 x.n == 0) || x.r == 2 || x.r == 3) = true := b2
  have a3 : lt x.e y = true := b3
  have a4 : le y 1073741824 = true := b4
  rw [lt_iff] at a3
  rw [le_iff] at a4
  have := o.e0
  have := o.he
  refine ⟨⟨o.corr, o.ht, by show (hd x.ln).e ≤ y; omega, by show 0 ≤ y; omega, a4, o.p0, o.p1, o.num, by show (0 : Int) ≤ 1; omega, by show (1 : Int) ≤ 5; omega, fun h => by have : y = 0 := h; omega, (fun h => by cases h), fun _ => rfl⟩, o, a1, a3, ?_⟩
  simp only [Bool.or_eq_true, Bool.and_eq_true, beq_iff_eq] at a2
  rcases a2 with (a | a) | a
  · exact .inl a.1
  · exact .inr (.inl a)
  · exact .inr (.inr a)

theorem demo_ok {x : Sit} {y src : Int} (h : demoE x y src = 0) : SiteOk (demo x y src) ∧ SiteOk x ∧ x.r = 1 ∧ x.e ≤ y ∧ ((demo x y src).r = 2 ∨ (demo x y src).r = 5) := by
  obtain ⟨hc, hok⟩ := chain0 rfl h
  have o := ok_of_chk hc
  have hok := allL hok
  obtain ⟨b1, b2, b3, b4⟩ := hok
  have a1 : (x.r == 1) = true := b1
  have a2 : le x.e y = true := b2
  have a3 : le y 1073741824 = true := b3
  have a4 : (src == -1 || oth src x.a) = true := b4
  have a1 : x.r = 1 := by simpa using a1
  rw [le_iff] at a2 a3
  have := o.e0
  have := o.he
  have hy : y ≠ 0 := fun h0 => by
    have := o.er (by omega)
    omega
  cases hs : (src == -1)
  · rw [hs] at a4
    have e : demo x y src = { x with r := 2, e := y, s := src } := by unfold demo; rw [hs]; rfl
    rw [e]
    exact ⟨⟨o.corr, o.ht, by show (hd x.ln).e ≤ y; omega, by show 0 ≤ y; omega, a3, o.p0, o.p1, o.num, by show (0 : Int) ≤ 2; omega, by show (2 : Int) ≤ 5; omega, fun h => (hy h).elim, fun _ => a4, (fun h => by cases h)⟩, o, a1, a2, .inl rfl⟩
  · have hs' : src = -1 := by simpa using hs
    have e : demo x y src = { x with r := 5, e := y, s := src } := by unfold demo; rw [hs]; rfl
    rw [e]
    exact ⟨⟨o.corr, o.ht, by show (hd x.ln).e ≤ y; omega, by show 0 ≤ y; omega, a3, o.p0, o.p1, o.num, by show (0 : Int) ≤ 5; omega, by show (5 : Int) ≤ 5; omega, fun h => (hy h).elim, (fun h => by cases h), fun _ => hs'⟩, o, a1, a2, .inr rfl⟩

theorem iso_ok {x : Sit} (h : isoE x = 0) : SiteOk (iso x) ∧ SiteOk x ∧ x.r = 2 := by
  obtain ⟨hc, hok⟩ := chain0 rfl h
  have o := ok_of_chk hc
  have hok := allL hok
  have a1 : (x.r == 2) = true := hok
  have a1 : x.r = 2 := by simpa using a1
  exact ⟨⟨o.corr, o.ht, o.he, o.e0, o.e1, o.p0, o.p1, o.num, by show (0 : Int) ≤ 3; omega, by show (3 : Int) ≤ 5; omega, fun h => by have := o.er h; omega, (fun h => by cases h), fun _ => rfl⟩, o, a1⟩

theorem rej_ok {x : Sit} {y src : Int} (h : rejE x y src = 0) : SiteOk (rej x y src) ∧ SiteOk x ∧ x.r ≠ 1 ∧ x.r ≠ 2 ∧ x.e ≤ y ∧ ((rej x y src).r = 4 ∨ ((rej x y src).r = 2 ∧ x.r = 3)) := by
  obtain ⟨hc, hok⟩ := chain0 rfl h
  have o := ok_of_chk hc
  have hok := allL hok
  obtain ⟨b1, b2, b3, b4⟩ := hok
  have a1 : (x.r != 1 && x.r != 2) = true := b1
  have a2 : (le x.e y && y != 0) = true := b2
  have a3 : le y 1073741824 = true := b3
  have a4 : oth src x.a = true := b4
  simp only [Bool.and_eq_true, bne_iff_ne, ne_eq, le_iff] at a1 a2
  rw [le_iff] at a3
  have := o.e0
  have := o.he
  cases hs : (x.r == 3 && y == x.e)
  · have e : rej x y src = { x with r := 4, e := y, s := src } := by unfold rej; rw [hs]; rfl
    rw [e]
    exact ⟨⟨o.corr, o.ht, by show (hd x.ln).e ≤ y; omega, by show 0 ≤ y; omega, a3, o.p0, o.p1, o.num, by show (0 : Int) ≤ 4; omega, by show (4 : Int) ≤ 5; omega, fun h => (a2.2 h).elim, fun _ => a4, (fun h => by cases h)⟩, o, a1.1, a1.2, a2.1, .inl rfl⟩
  · have e : rej x y src = { x with r := 2, e := y, s := src } := by unfold rej; rw [hs]; rfl
    rw [e]
    rw [Bool.and_eq_true] at hs
    exact ⟨⟨o.corr, o.ht, by show (hd x.ln).e ≤ y; omega, by show 0 ≤ y; omega, a3, o.p0, o.p1, o.num, by show (0 : Int) ≤ 2; omega, by show (2 : Int) ≤ 5; omega, fun h => (a2.2 h).elim, fun _ => a4, (fun h => by cases h)⟩, o, a1.1, a1.2, a2.1, .inr ⟨rfl, by simpa using hs.1⟩⟩


theorem iso_no {x : Sit} (h : chkS x = 0) (hr : x.r = 2) : isoE x = 0 := by
  unfold isoE; rw [h, hr]; rfl

/-! ### sites that are replaced -/

/-- the lineage is as long as it says -/
def okS (x : Sit) : Prop := x.ρ.L [] = x.n
theorem okS_at (l : Ses) (i : Nat) : okS (l.at i) := rfl

theorem siAt_cs {v : Val} {x : Sit} (hx : okS x) (h : ∀ f, f < 8 → v.at f = (match nth (cs x) f with | some c => .ofC c | none => Val.zero)) : siAt v = x := by
  obtain ⟨a, r, e, p, n, ρ, s, l, c⟩ := x
  have hx : ρ.L [] = n := hx
  subst hx
  unfold siAt
  rw [h 0 (by omega), h 1 (by omega), h 2 (by omega), h 3 (by omega), h 4 (by omega), h 5 (by omega), h 6 (by omega), h 7 (by omega)]
  show (⟨a, r, e, p, ρ.L [], Val.ofC (.sl spSh (ρ.L []) ρ), s, l, c⟩ : Sit) = _
  rw [ofC_sl]

theorem at_setS {l : Ses} {i : Nat} {x : Sit} (hx : okS x) (k : Nat) : (setS l i x).at k = if k = i then x else l.at k := by
  by_cases hk : k = i
  · subst hk
    rw [if_pos rfl]
    refine siAt_cs hx fun f hf => ?_
    show ((l.ρ.upds k 0 (cs x)).at k).at f = _
    rw [at_upds, if_pos ⟨rfl, Nat.zero_le _, by show f < 0 + 8; omega⟩, Nat.sub_zero]
    rfl
  · rw [if_neg hk]
    have g : ∀ f, ((l.ρ.upds i 0 (cs x)).at k).at f = (l.ρ.at k).at f := fun f => by rw [at_upds, if_neg fun h => hk h.1]
    show (⟨(((l.ρ.upds i 0 (cs x)).at k).at 0).N [], (((l.ρ.upds i 0 (cs x)).at k).at 1).N [], (((l.ρ.upds i 0 (cs x)).at k).at 2).N [], (((l.ρ.upds i 0 (cs x)).at k).at 3).N [], (((l.ρ.upds i 0 (cs x)).at k).at 4).L [], ((l.ρ.upds i 0 (cs x)).at k).at 4, (((l.ρ.upds i 0 (cs x)).at k).at 5).N [], (((l.ρ.upds i 0 (cs x)).at k).at 6).B [], (((l.ρ.upds i 0 (cs x)).at k).at 7).B []⟩ : Sit) = _
    rw [g 0, g 1, g 2, g 3, g 4, g 5, g 6, g 7]; rfl

theorem okS_jn (x : Sit) (e a : Int) (h : okS x) : okS (jnS x e a) := by
  unfold jnS
  cases x.r == 2 <;> exact h

theorem at_jn (t e a : Int) (l : Ses) : ∀ n k, (⟨l.n, jnV t e a l n⟩ : Ses).at k = if k < n ∧ skp t l k = false then jnS (l.at k) e a else l.at k
  | 0, k => by rw [if_neg (by omega)]; rfl
  | n + 1, k => by
    have ih := at_jn t e a l n k
    unfold jnV
    cases hs : skp t l n
    · show (setS ⟨l.n, jnV t e a l n⟩ n (jnS (l.at n) e a)).at k = _
      rw [at_setS (okS_jn _ _ _ (okS_at _ _)), ih]
      by_cases hk : k = n
      · subst hk
        rw [if_pos rfl, if_pos ⟨by omega, hs⟩]
      · rw [if_neg hk]
        by_cases h : k < n ∧ skp t l k = false
        · rw [if_pos h, if_pos ⟨by omega, h.2⟩]
        · rw [if_neg h, if_neg fun g => h ⟨by omega, g.2⟩]
    · show (⟨l.n, jnV t e a l n⟩ : Ses).at k = _
      rw [ih]
      by_cases h : k < n ∧ skp t l k = false
      · rw [if_pos h, if_pos ⟨by omega, h.2⟩]
      · rw [if_neg h, if_neg]
        rintro ⟨g1, g2⟩
        refine h ⟨?_, g2⟩
        by_cases hk : k = n
        · subst hk; rw [hs] at g2; cases g2
        · omega

/-- what is behind a step has as many spans as before -/
theorem actL_n (p : Prc) (l : Ses) : (actL p l).n = l.n ∧ ∀ k, ((actL p l).at k).n = (l.at k).n := by
  have hset : ∀ (i : Nat) (x : Sit), okS x → x.n = (l.at i).n → ∀ k, ((setS l i x).at k).n = (l.at k).n := fun i x hx hn k => by
    rw [at_setS hx]
    by_cases hk : k = i
    · subst hk; rw [if_pos rfl]; exact hn
    · rw [if_neg hk]
  unfold actL
  cases p.s == 0
  · cases p.s == 1
    · cases p.s == 2
      · refine ⟨rfl, fun k => ?_⟩
        show ((⟨l.n, jnV p.t p.e (numT p l) l l.n⟩ : Ses).at k).n = _
        rw [at_jn]
        split
        · unfold jnS; cases (l.at k).r == 2 <;> rfl
        · rfl
      · exact ⟨rfl, hset _ _ (okS_at l _) rfl⟩
    · cases nofP p l
      · exact ⟨rfl, hset _ _ (okS_at l _) rfl⟩
      · exact ⟨rfl, fun _ => rfl⟩
  · exact ⟨rfl, fun _ => rfl⟩

theorem stpL_small {p : Prc} {l : Ses} (g : Bool) (t : Int) (h : smallS l) : smallS (stpL p l g t) := by
  unfold stpL
  cases stpE p l g t == 0
  · exact ⟨by show 0 ≤ 1000; omega, fun i hi => by have hi : i < 0 := hi; omega⟩
  · obtain ⟨h1, h2⟩ := actL_n p l
    refine ⟨by show (actL p l).n ≤ 1000; rw [h1]; exact h.1, fun i hi => ?_⟩
    have hi : i < (actL p l).n := hi
    rw [h1] at hi
    show small ((actL p l).at i).n
    rw [h2]
    exact h.2 i hi

/-! ### sites that are in order -/

/-- sites that are in order, with different numbers, and no two primaries of one epoch -/
structure Ck (l : Ses) : Prop where
  n : l.n ≤ 4
  ok : ∀ i, i < l.n → SiteOk (l.at i)
  num : ∀ i j, i < l.n → j < l.n → i ≠ j → (l.at i).a ≠ (l.at j).a
  pri : ∀ i j, i < l.n → j < l.n → i ≠ j → (l.at i).r = 1 → (l.at j).r = 1 → (l.at i).e ≠ (l.at j).e

theorem ck_of {l : Ses} (h : Ck l) : ckE l = 0 := by
  have h4 : lt 4 (toInt64 l.n) = false := by
    rw [← Bool.not_eq_true, lt_iff]
    show ¬ (4 : Int) < (l.n : Int)
    have := h.n
    omega
  have hw : anyB (wrgS l) l.n = false := anyB_none fun i hi => by
    refine wrgS_0 ?_ (anyB_none fun j hj => ?_) (anyB_none fun j hj => ?_)
    · rw [chk_of_ok (h.ok i hi)]; rfl
    · unfold fndB
      rw [beq_eq_false_iff_ne]
      exact h.num j i (by omega) hi (by omega)
    · unfold fndD
      rw [← Bool.not_eq_true]
      intro hh
      rw [Bool.and_eq_true, Bool.and_eq_true, beq_iff_eq, beq_iff_eq, beq_iff_eq] at hh
      exact h.pri j i (by omega) hi (by omega) hh.1.1 hh.1.2 hh.2
  unfold ckE
  rw [h4, hw]; rfl

theorem ck_to {l : Ses} (h : ckE l = 0) : Ck l := by
  obtain ⟨h1, h2⟩ := ck_none h
  have hw : ∀ i, i < l.n → chkS (l.at i) = 0 ∧ (∀ j, j < i → (l.at j).a ≠ (l.at i).a) ∧ ∀ j, j < i → (l.at j).r = 1 → (l.at i).r = 1 → (l.at j).e ≠ (l.at i).e := fun i hi => by
    have := h2 i hi
    unfold wrgS at this
    rw [Bool.or_eq_false_iff, Bool.or_eq_false_iff] at this
    obtain ⟨⟨a, b⟩, c⟩ := this
    refine ⟨by simpa [bne] using a, fun j hj he => ?_, fun j hj r1 r2 he => ?_⟩
    · rw [anyB_iff.2 ⟨j, hj, by unfold fndB; rw [he]; simp⟩] at b; cases b
    · rw [anyB_iff.2 ⟨j, hj, by unfold fndD; rw [r1, r2, he]; simp⟩] at c; cases c
  refine ⟨h1, fun i hi => ok_of_chk (hw i hi).1, fun i j hi hj hne => ?_, fun i j hi hj hne r1 r2 => ?_⟩
  · rcases Nat.lt_or_gt_of_ne hne with h | h
    · exact (hw j hj).2.1 i h
    · exact fun g => (hw i hi).2.1 j h g.symm
  · rcases Nat.lt_or_gt_of_ne hne with h | h
    · exact (hw j hj).2.2 i h r1 r2
    · exact fun g => (hw i hi).2.2 j h r2 r1 g.symm

theorem ck_small {l : Ses} (h : Ck l) (hs : ∀ i, i < l.n → small (l.at i).n) : smallS l := ⟨by have := h.n; omega, hs⟩

theorem law5' (p : Prc) (l : Ses) (g : Bool) (t : Int) {F : Nat → Prop} {W : World} {vs : List Value} (h : All2 (A1.Rel F W []) [p.cv, .c (.sl siSh l.n l.ρ), .agg [.bool g, I t]] vs) :
    Calls Tryz.prog 5 vs.toArray W (fun e W' => e = .returned (.bool true) ∧ Below W.heap.size W W') :=
  law5 p l g t (fun hs => small_fewS (stpL_small g t hs)) h

theorem argP_eq (ρ : Val) : argOf Tryz.prog 33 [.int .i64, .int .i64, .int .i64, .int .i64, .int .i64, .int .i64, .bool, .bool] ρ = (⟨(ρ.at 0).N [], (ρ.at 1).N [], (ρ.at 2).N [], (ρ.at 3).N [], (ρ.at 4).N [], (ρ.at 5).N [], (ρ.at 6).B [], (ρ.at 7).B []⟩ : Prc).cv := by kernel_rfl
theorem argA_eq (ρ : Val) : argOf Tryz.prog 40 [.bool, .int .i64] ρ = .agg [.bool ((ρ.at 0).B []), I ((ρ.at 1).N [])] := by kernel_rfl

end Fo
end Go.Proofs.YtennlgngdjegoaaGreat
