/-
  The unplanned change of the primary: copies of slices, and of a history.
-/
import Derived.Test.YtennlgngdjegoaaFoB
namespace Go.Proofs.Ytennlgngdjegoaa
open Go Go.Sx Go.RowKit Classical

set_option maxRecDepth 100000
set_option maxHeartbeats 4000000

namespace Fo

/-- the copy of a slice, as one slice of one's own -/
def cl1 (E : TypeId) (es : List Sh) (sz bt : Nat) : List A1 → Tree (AV × Mem)
  | [.c .nils] => .leaf (.one (.c (.os 0 sz)), [some (E, [.row false es 0 Val.zero])])
  | [.c (.sl es' n ρ)] => if shEq.shsEq es' es then .need (Nat.ble ((0 + n) * bt) 140737488355328) (.leaf (.one (.c (.os 0 sz)), [some (E, [.row false es n ρ])])) else .fail
  | _ => .fail

theorem nils_own {E : TypeId} {es : List Sh} {sz : Nat} {ρ : Val} : WkO (.ret (.one (.c .nils)), []) (.ret (.one (.c (.os 0 sz))), [some (E, [.row false es 0 ρ])]) := by
  intro P F w bs e hm he
  obtain ⟨v, rfl, hv⟩ := he
  have hbs : bs = [] := by
    have := hm.len
    cases bs with
    | nil => rfl
    | cons _ _ => simp at this
  subst hbs
  refine ⟨F, [] ++ [⟨w.heap.size, 0, 0⟩], (Ext.refl (K := 0)).push (.inr (Nat.le_refl _)), hm.row0' E es ρ, v, rfl, ?_⟩
  have hv : CV.Rel F w [] .nils v := hv
  cases hv
  exact CV.Rel.os (F := F) (w := w) (b := 0) (sz := sz) (base := none) (x := ⟨w.heap.size, 0, 0⟩) rfl (fun h => by simp at h)

theorem cl1_ok {f : Nat} {E : TypeId} {es : List Sh} {sz bt : Nat} (h : NcOne Try.prog f (cloneG E es sz bt)) (h0 : (evFn Try.prog HN 5 f [.c .nils] []).sel = some (.one (.c .nils), [])) : NcOne Try.prog f (cl1 E es sz bt) := by
  intro args r m hG hcl F w vs hargs
  unfold cl1 at hG
  split at hG
  · simp only [Tree.sel, Option.some.injEq, Prod.mk.injEq] at hG
    obtain ⟨rfl, rfl⟩ := hG
    refine (evFn_ok0 hn 5 f [.c .nils] (.one (.c .nils)) [] h0 F w [] vs MemRel.nil hargs).mono fun e w2 ⟨v, F', bs', he, hext, hm', hr⟩ => ?_
    subst he
    obtain ⟨F2, bs2, e2, m2, v2, hv2, r2⟩ := nils_own (E := E) (es := es) (sz := sz) (ρ := Val.zero) Try.prog F' w2 bs' (.returned v) hm' ⟨v, rfl, hr⟩
    simp only [Ending.returned.injEq] at hv2
    subst hv2
    exact ⟨v, F2, bs2, rfl, hext.trans e2 (Nat.le_refl _), m2, r2⟩
  · rename_i es' n ρ
    split at hG
    · rename_i hs
      simp only [Tree.sel] at hG
      cases hb : Nat.ble ((0 + n) * bt) 140737488355328
      · rw [hb] at hG; simp at hG
      · rw [hb] at hG
        simp only [cond_true, Option.some.injEq, Prod.mk.injEq] at hG
        obtain ⟨rfl, rfl⟩ := hG
        have := h [.c (.sl es' n ρ)] (.one (.c (.os 1 sz))) [none, some (E, [.row false es n ρ])] (by simp only [cloneG, hs, if_true, Tree.sel, hb, cond_true]) hcl F w vs hargs
        refine this.mono fun e w2 ⟨v, F', bs', he, hext, hm', hr⟩ => ?_
        subst he
        obtain ⟨F2, bs2, e2, m2, v2, hv2, r2⟩ := WkO.row (b := 1) (sz := sz) (σ := ρ) rfl (fun _ _ _ _ _ => rfl) Try.prog F' w2 bs' (.returned v) hm' ⟨v, rfl, hr⟩
        simp only [Ending.returned.injEq] at hv2
        subst hv2
        exact ⟨v, F2, bs2, rfl, hext.trans e2 (Nat.le_refl _), m2, r2⟩
    · simp [Tree.sel] at hG
  · simp [Tree.sel] at hG

abbrev inSh : List Sh := [.int .i64]
abbrev scSh : List Sh := [.int .u8, .int .u8, .int .u8, .int .u8, .int .u8, .int .u8, .int .u8, .int .u8]
abbrev evSh : List Sh := [.int .i64, .int .i64]

theorem c92 : NcOne Try.prog 108 (cloneG 3 inSh 1 8) := clone_nc Try.func108 rfl rfl rfl rfl rfl rfl rfl rfl (by kernel_rfl) rfl (fun n ρ => by kernel_rfl)
  (fun n ρ => stC inSh n ρ true) (fun n ρ => mkS 8 [(0, .one (.c (.sl inSh n ρ))), (2, .one (.c (.os 1 1))), (3, .one (.c (.sl inSh n ρ))), (4, .one (.c (.bool false))), (5, .one (.c (.os 0 1))), (6, .one (.c (.sl inSh n ρ))), (7, .one (.c (.os 1 1)))] [none, some (3, [.row false inSh (0 + n) (Val.cat 0 (Val.ofFlat 1 []) ρ)])])
  (fun n ρ => by kernel_rfl) (fun n ρ => by kernel_rfl) (fun n ρ => rfl) (fun n ρ => by kernel_rfl) (fun n ρ => by kernel_rfl) (fun n ρ => rfl)
theorem n92 : NcOne Try.prog 108 (cl1 3 inSh 1 8) := cl1_ok c92 (by kernel_rfl)
theorem c94 : NcOne Try.prog 112 (cloneG 128 scSh 8 8) := clone_nc Try.func112 rfl rfl rfl rfl rfl rfl rfl rfl (by kernel_rfl) rfl (fun n ρ => by kernel_rfl)
  (fun n ρ => stC scSh n ρ true) (fun n ρ => mkS 8 [(0, .one (.c (.sl scSh n ρ))), (2, .one (.c (.os 1 8))), (3, .one (.c (.sl scSh n ρ))), (4, .one (.c (.bool false))), (5, .one (.c (.os 0 8))), (6, .one (.c (.sl scSh n ρ))), (7, .one (.c (.os 1 8)))] [none, some (128, [.row false scSh (0 + n) (Val.cat 0 (Val.ofFlat 8 []) ρ)])])
  (fun n ρ => by kernel_rfl) (fun n ρ => by kernel_rfl) (fun n ρ => rfl) (fun n ρ => by kernel_rfl) (fun n ρ => by kernel_rfl) (fun n ρ => rfl)
theorem n94 : NcOne Try.prog 112 (cl1 128 scSh 8 8) := cl1_ok c94 (by kernel_rfl)
theorem c130 : NcOne Try.prog 136 (cloneG 171 evSh 2 16) := clone_nc Try.func136 rfl rfl rfl rfl rfl rfl rfl rfl (by kernel_rfl) rfl (fun n ρ => by kernel_rfl)
  (fun n ρ => stC evSh n ρ true) (fun n ρ => mkS 8 [(0, .one (.c (.sl evSh n ρ))), (2, .one (.c (.os 1 2))), (3, .one (.c (.sl evSh n ρ))), (4, .one (.c (.bool false))), (5, .one (.c (.os 0 2))), (6, .one (.c (.sl evSh n ρ))), (7, .one (.c (.os 1 2)))] [none, some (171, [.row false evSh (0 + n) (Val.cat 0 (Val.ofFlat 2 []) ρ)])])
  (fun n ρ => by kernel_rfl) (fun n ρ => by kernel_rfl) (fun n ρ => rfl) (fun n ρ => by kernel_rfl) (fun n ρ => by kernel_rfl) (fun n ρ => rfl)
theorem n130 : NcOne Try.prog 136 (cl1 171 evSh 2 16) := cl1_ok c130 (by kernel_rfl)

/-- what the evaluator with panics says of a function that lays memory of its own -/
def evNc (P : Program) (H : Hd) (X : HdP) (n f : Nat) (args : List A1) : Tree (AV × Mem) := (evFnP P H X n f args []).bind fun y => match y.1 with
  | .ret a => .leaf (a, y.2)
  | .pan _ => .fail

theorem evNc_ok {P : Program} {H : Hd} (hH : HdOk P H) {X : HdP} (hX : XOk P X) (n f : Nat) : NcOne P f (evNc P H X n f) := by
  intro args r m hG hcl F w vs hargs
  obtain ⟨⟨o, m1⟩, h1, h2⟩ := sel_bind hG
  simp only at h2
  split at h2
  · rename_i a
    simp only [Tree.sel, Option.some.injEq, Prod.mk.injEq] at h2
    obtain ⟨rfl, rfl⟩ := h2
    refine (evFnP_ok hH hX n f args [] _ _ h1 F w [] vs MemRel.nil hargs).mono fun e w2 ⟨F', bs', hext, hm', v, hv, hr⟩ => ⟨v, F', bs', hv, hext, hm', hr⟩
  · simp [Tree.sel] at h2

/-- loops, round by round -/
def lhsOf (P : Program) (H : Hd) (n : Nat) : List (Nat × Nat) → List ((Nat × Nat) × (Nat → St → Tree (XE × St)))
  | [] => []
  | p :: r => ((p.1, p.2), unrollH P H 30 p.1 p.2 n) :: lhsOf P H n r

theorem lhs_ok {P : Program} {pc hc mc} (hb : HdOk P ⟨pc, hc, [], mc⟩) {H : Hd} (hH : HdOk P H) (n : Nat) : ∀ fs : List (Nat × Nat), HdOk P ⟨pc, hc, lhsOf P H n fs, mc⟩
  | [] => hb
  | p :: r => HdOk.lhCons (lhs_ok hb hH n r) fun _ _ _ hf hc hb => unroll_ok hH 30 p.1 p.2 hf hc hb n

noncomputable abbrev mcA : List (Nat × (List A1 → Mem → Tree (AV × Mem))) := [(108, ncG (cl1 3 inSh 1 8)), (112, ncG (cl1 128 scSh 8 8)), (136, ncG (cl1 171 evSh 2 16))]
theorem hA0 : HdOk Try.prog ⟨[], [], [], mcA⟩ := ((HdOk.nil.mcCons n130.mc).mcCons n94.mc).mcCons n92.mc
noncomputable abbrev HA1 : Hd := ⟨[], [], lhsOf Try.prog ⟨[], [], [], mcA⟩ 5 [(111, 0)], mcA⟩
theorem hA1 : HdOk Try.prog HA1 := lhs_ok hA0 hA0 5 _
noncomputable abbrev XA : HdP := ⟨[], [], [(108, cl1 3 inSh 1 8), (136, cl1 171 evSh 2 16)]⟩
theorem xA : XOk Try.prog XA := (XOk.nil.ncCons n130).ncCons n92
/-- the copy of a history -/
theorem n87 : NcOne Try.prog 111 (evNc Try.prog HA1 XA 30 111) := evNc_ok hA1 xA 30 111

/-- literals of plain data, heads of slices -/
def litK : Nat × (List A1 → Tree AV) := (4294967292, fun _ => .fail)
def headK : Nat × (List A1 → Tree AV) := (4294967291, fun _ => .fail)

end Fo
end Go.Proofs.Ytennlgngdjegoaa
/-
  The unplanned change of the primary: summaries at arguments that read as given ones.
-/
namespace Go.Proofs.Ytennlgngdjegoaa
open Go Go.Sx Go.RowKit Classical

set_option maxRecDepth 100000
set_option maxHeartbeats 4000000

namespace Fo

def allB (p : Nat → Bool) : Nat → Bool
  | 0 => true
  | n + 1 => allB p n && p n
theorem allB_ok {p : Nat → Bool} : ∀ {n : Nat}, allB p n = true → ∀ i, i < n → p i = true
  | n + 1, h, i, hi => by
    simp only [allB, Bool.and_eq_true] at h
    rcases Nat.lt_or_eq_of_le (Nat.le_of_lt_succ hi) with h' | rfl
    · exact allB_ok h.1 i h'
    · exact h.2

/-- does the one read as the other? -/
def sameC : Nat → CV → CV → Bool
  | 0, _, _ => false
  | _ + 1, .bool a, .bool b => a == b
  | _ + 1, .int k a, .int k' b => k == k' && a == b
  | _ + 1, .nils, .nils => true
  | _ + 1, .nils, .sl _ 0 _ => true
  | m + 1, .sl es n ρ, .sl es' n' σ => shEq.shsEq es es' && n == n' && allB (fun i => allB (fun f => match nth es f with
      | some s => sameC m (cellOf s ((ρ.at i).at f)) (cellOf s ((σ.at i).at f))
      | none => true) es.length) n
  | _, _, _ => false

theorem sameC_le : ∀ {m : Nat} {x y : CV} (_ : sameC m x y = true) {F : Nat → Prop} {w : World} {bs : List BI} {v : Value} (_ : CV.Rel F w bs x v), CV.Rel F w bs y v
  | m + 1, x, y, h, F, w, bs, v, hv => by
    unfold sameC at h
    split at h
    · cases h
    · rename_i e1 e2 e3; have := eq_of_beq h; subst this; exact hv
    · simp only [Bool.and_eq_true, beq_iff_eq] at h
      obtain ⟨rfl, rfl⟩ := h
      exact hv
    · exact hv
    · cases hv; exact .slnil
    · rename_i es n ρ es' n' σ _ _
      simp only [Bool.and_eq_true, beq_iff_eq] at h
      obtain ⟨⟨h1, rfl⟩, h2⟩ := h
      have h1 := shsEq_eq h1
      subst h1
      cases hv with
      | slnil => exact .slnil
      | sl val hn h0 hc hr =>
        refine .sl val hn h0 hc fun i f s hi hf => ?_
        have h3 := allB_ok (allB_ok h2 i hi) f (nth_lt hf)
        simp only [hf] at h3
        exact sameC_le h3 (hr i f s hi hf)
    · cases h

def same1 : A1 → A1 → Bool
  | .c x, .c y => sameC 6 x y
  | .agg l, .agg r => sameL l r
  | _, _ => false
 where sameL : List CV → List CV → Bool
  | [], [] => true
  | x :: l, y :: r => sameC 6 x y && sameL l r
  | _, _ => false

theorem sameL_le {F w bs} : ∀ {l r : List CV} {vs : List Value}, same1.sameL l r = true → All2 (CV.Rel F w bs) l vs → All2 (CV.Rel F w bs) r vs
  | [], [], _, _, h => h
  | _ :: _, _ :: _, _, h, .cons a b => by
    simp only [same1.sameL, Bool.and_eq_true] at h
    exact .cons (sameC_le h.1 a) (sameL_le h.2 b)
  | [], _ :: _, _, h, _ => by simp [same1.sameL] at h
  | _ :: _, [], _, h, _ => by simp [same1.sameL] at h

theorem same1_le {F w bs} {x y : A1} {v : Value} (h : same1 x y = true) (hv : A1.Rel F w bs x v) : A1.Rel F w bs y v := by
  cases x with
  | c x => cases y with
    | c y => exact sameC_le (m := 6) h hv
    | agg _ => cases h
  | agg l => cases y with
    | c _ => cases h
    | agg r => obtain ⟨vs, rfl, hv⟩ := hv; exact ⟨vs, rfl, sameL_le h hv⟩

def sames : List A1 → List A1 → Bool
  | [], [] => true
  | x :: l, y :: r => same1 x y && sames l r
  | _, _ => false

theorem sames_le {F w bs} : ∀ {l r : List A1} {vs : List Value}, sames l r = true → All2 (A1.Rel F w bs) l vs → All2 (A1.Rel F w bs) r vs
  | [], [], _, _, h => h
  | _ :: _, _ :: _, _, h, .cons a b => by
    simp only [sames, Bool.and_eq_true] at h
    exact .cons (same1_le h.1 a) (sames_le h.2 b)
  | [], _ :: _, _, h, _ => by simp [sames] at h
  | _ :: _, [], _, h, _ => by simp [sames] at h

def sameA : AV → AV → Bool
  | .one x, .one y => same1 x y
  | .tup l, .tup r => sames l r
  | _, _ => false

theorem sameA_le {x y : AV} (h : sameA x y = true) : leA x y := by
  intro F w v hv
  cases x with
  | any => cases h
  | one x => cases y with
    | one y => exact same1_le (x := x) (y := y) h hv
    | _ => cases h
  | tup l => cases y with
    | tup r => obtain ⟨vs, rfl, hv⟩ := hv; exact ⟨vs, rfl, sames_le h hv⟩
    | _ => cases h

/-- a summary at arguments that read as given ones -/
def canG (canon : List A1) (r : AV) (args : List A1) : Tree AV := .need (sames args canon) (.leaf r)

theorem canG_ok {P : Program} {H : Hd} (hH : HdOk P H) (n f : Nat) {canon : List A1} {r : AV} (h : (match (hcTree P H n f canon).sel with | some x => sameA x r | none => false) = true) : UcOne P f (canG canon r) := by
  intro args r' hr _ F w vs ha
  unfold canG at hr
  simp only [Tree.sel] at hr
  cases hs : sames args canon
  · rw [hs] at hr; simp at hr
  · rw [hs] at hr
    simp only [cond_true, Option.some.injEq] at hr
    subst hr
    have hargs := sames_le hs ha
    split at h
    · rename_i x hsel
      obtain ⟨⟨r', m⟩, h1, h2⟩ := sel_bind hsel
      have ho : outA m r' = some x := by
        cases hx : outA m r' with
        | none => rw [hx] at h2; simp [Tree.ofOpt, Tree.sel] at h2
        | some y => rw [hx] at h2; simpa [Tree.ofOpt, Tree.sel] using h2
      have hargs1 : All2 (A1.Rel (fun p => F p ∧ p < w.heap.size) w []) canon vs := hargs.imp fun _ _ hx => A1.Rel.grow (bs := []) (bs' := []) ⟨Nat.le_refl _, fun _ _ h => h.1, fun _ _ _ => rfl, fun _ _ h => h⟩ hx
      refine (evFn_ok0 hH n f canon r' m h1 _ w [] vs MemRel.nil hargs1).mono fun e w2 ⟨u, F', bs', he, hext, hm, hu⟩ => ?_
      refine ⟨u, he, hext.below, sameA_le h _ _ _ (AV.Rel.grow (bs := []) (bs' := []) ⟨Nat.le_refl _, fun p _ hp => ?_, fun _ _ _ => rfl, fun _ _ h => h⟩ (outA_ok hm hu ho))⟩
      refine ⟨hext.F2 p hp hp.2 (by simp), fun y hy e => ?_⟩
      rcases hext.mem y hy with ⟨z, hz, _⟩ | hs
      · cases hz
      · have := hp.2; omega
    · cases h

end Fo
end Go.Proofs.Ytennlgngdjegoaa
/-
  The unplanned change of the primary: histories of the examples: Issue.
-/
namespace Go.Proofs.Ytennlgngdjegoaa
open Go Go.Sx Go.RowKit Classical

set_option maxRecDepth 100000
set_option maxHeartbeats 4000000

namespace Fo

/-- summaries at arguments that read as one of several -/
def canGs : List (List A1 × AV) → List A1 → Tree AV
  | [], _ => .fail
  | (c, r) :: l, args => match sames args c with
    | true => .leaf r
    | false => canGs l args

theorem canGs_ok {P : Program} {f : Nat} : ∀ {l : List (List A1 × AV)}, (∀ p ∈ l, UcOne P f (canG p.1 p.2)) → UcOne P f (canGs l)
  | [], _ => fun _ _ h => by simp [canGs, Tree.sel] at h
  | (c, r) :: l, h => fun args r' hr hc F w vs ha => by
    unfold canGs at hr
    cases hs : sames args c
    · rw [hs] at hr
      exact canGs_ok (fun p hp => h p (by simp [hp])) args r' hr hc F w vs ha
    · rw [hs] at hr
      simp only [Tree.sel, Option.some.injEq] at hr
      subst hr
      exact h (c, r) (by simp) args r (by unfold canG; simp only [Tree.sel, hs, cond_true]) hc F w vs ha

noncomputable abbrev mcH : List (Nat × (List A1 → Mem → Tree (AV × Mem))) := (111, ncG (evNc Try.prog HA1 XA 30 111)) :: mcA
def pcH : List (Nat × (List A1 → Tree AV)) := [tailK, litK, headK]
theorem hH0 : HdOk Try.prog ⟨pcH, [], [], mcH⟩ := by
  have h0 : HdOk Try.prog ⟨[], [], [], mcH⟩ := hA0.mcCons n87.mc
  have h3 := h0.tcCons (f := 4294967291) (G := fun _ => .fail) (fun _ _ h => by simp [Tree.sel] at h)
  have h4 := h3.tcCons (f := 4294967292) (G := fun _ => .fail) (fun _ _ h => by simp [Tree.sel] at h)
  exact h4.tail
def loopsH : List (Nat × Nat) := [(32, 0), (80, 0), (114, 0), (109, 0), (109, 1), (113, 0), (116, 0), (131, 0), (137, 0), (138, 0), (141, 0), (146, 0), (147, 0), (150, 0), (153, 0)]
noncomputable def lw0 : Hd := ⟨pcH, [], [], mcH⟩
noncomputable def lw1 : Hd := ⟨pcH, [], lhsOf Try.prog lw0 10 loopsH, mcH⟩
noncomputable def lw2 : Hd := ⟨pcH, [], lhsOf Try.prog lw1 10 loopsH, mcH⟩
noncomputable def lw3 : Hd := ⟨pcH, [], lhsOf Try.prog lw2 10 loopsH, mcH⟩
noncomputable def lw4 : Hd := ⟨pcH, [], lhsOf Try.prog lw3 10 loopsH, mcH⟩
noncomputable def lw5 : Hd := ⟨pcH, [], lhsOf Try.prog lw4 10 loopsH, mcH⟩
theorem lw0_ok : HdOk Try.prog lw0 := hH0
theorem lw1_ok : HdOk Try.prog lw1 := lhs_ok hH0 lw0_ok 10 loopsH
theorem lw2_ok : HdOk Try.prog lw2 := lhs_ok hH0 lw1_ok 10 loopsH
theorem lw3_ok : HdOk Try.prog lw3 := lhs_ok hH0 lw2_ok 10 loopsH
theorem lw4_ok : HdOk Try.prog lw4 := lhs_ok hH0 lw3_ok 10 loopsH
theorem lw5_ok : HdOk Try.prog lw5 := lhs_ok hH0 lw4_ok 10 loopsH

/-- a volume of four sectors; its first writes -/
def datV : Val := .byFst fun _ => Val.ofCs [.int .u8 1, .int .u8 0, .int .u8 0, .int .u8 0, .int .u8 0, .int .u8 0, .int .u8 0, .int .u8 0]
def roots : CV := .sl inSh 1 (.byFst fun _ => .byFst fun _ => Val.ofC (I 4))
def wrt (i : Int) : List CV := [I 0, I i, .sl scSh 1 datV]
def his : Nat → A1
  | 0 => .agg [roots, .nils, .nils]
  | k + 1 => .agg [roots, .sl [.int .i64, .int .i64, .sl scSh] (k + 1) (.byFst fun i => Val.ofCs (wrt i)), .sl evSh (k + 1) (.byFst fun i => Val.ofCs [I 0, I i])]
def issR (k : Nat) : AV := .tup [his (k + 1), .c (I k), .c (I 0)]

theorem iss0 : UcOne Try.prog 75 (canG [his 0, .agg (wrt 0)] (issR 0)) := canG_ok lw5_ok 30 75 (by kernel_rfl)
theorem iss1 : UcOne Try.prog 75 (canG [his 1, .agg (wrt 1)] (issR 1)) := canG_ok lw5_ok 30 75 (by kernel_rfl)
theorem iss2 : UcOne Try.prog 75 (canG [his 2, .agg (wrt 2)] (issR 2)) := canG_ok lw5_ok 30 75 (by kernel_rfl)
/-- Issue, three times -/
noncomputable def Kiss : List A1 → Tree AV := canGs [([his 0, .agg (wrt 0)], issR 0), ([his 1, .agg (wrt 1)], issR 1), ([his 2, .agg (wrt 2)], issR 2)]
theorem kIss : UcOne Try.prog 75 Kiss := canGs_ok fun p hp => by
  simp only [List.mem_cons, List.not_mem_nil, or_false] at hp
  rcases hp with rfl | rfl | rfl
  · exact iss0
  · exact iss1
  · exact iss2

end Fo
end Go.Proofs.Ytennlgngdjegoaa
/-
  The unplanned change of the primary: histories of the examples: Loss and Point.
-/
namespace Go.Proofs.Ytennlgngdjegoaa
open Go Go.Sx Go.RowKit Classical

set_option maxRecDepth 100000
set_option maxHeartbeats 4000000

namespace Fo

def ints (l : List Int) : CV := .sl inSh l.length (Val.ofFlat 1 (l.map I))
def losR : AV := .tup [.c (ints [1, 2]), .c (I 0)]
theorem los3 : UcOne Try.prog 32 (canG [his 3, .c (ints [0])] losR) := canG_ok lw5_ok 30 32 (by kernel_rfl)

noncomputable def lp0 : Hd := ⟨pcH, [(32, canG [his 3, .c (ints [0])] losR)], [], mcH⟩
theorem lp0_ok : HdOk Try.prog lp0 := by
  have h0 : HdOk Try.prog ⟨[], [], [], mcH⟩ := hA0.mcCons n87.mc
  have h1 := h0.ucCons los3
  have h3 := h1.tcCons (f := 4294967291) (G := fun _ => .fail) (fun _ _ h => by simp [Tree.sel] at h)
  have h4 := h3.tcCons (f := 4294967292) (G := fun _ => .fail) (fun _ _ h => by simp [Tree.sel] at h)
  exact h4.tail
noncomputable def lp1 : Hd := ⟨pcH, lp0.hc, lhsOf Try.prog lp0 10 loopsH, mcH⟩
theorem lp1_ok : HdOk Try.prog lp1 := lhs_ok lp0_ok lp0_ok 10 loopsH
noncomputable def lp2 : Hd := ⟨pcH, lp0.hc, lhsOf Try.prog lp1 10 loopsH, mcH⟩
theorem lp2_ok : HdOk Try.prog lp2 := lhs_ok lp0_ok lp1_ok 10 loopsH
def ptsR : AV := .tup [.c (I 7), .c (I 0)]
theorem pts3 : UcOne Try.prog 33 (canG [his 3, .c (ints [0]), .c (ints [3, 5, 8]), .c (I 12)] ptsR) := canG_ok lp2_ok 30 33 (by kernel_rfl)

end Fo
end Go.Proofs.Ytennlgngdjegoaa
/-
  The unplanned change of the primary: the examples of the chapter.
-/
namespace Go.Proofs.Ytennlgngdjegoaa
open Go Go.Sx Go.RowKit Classical

set_option maxRecDepth 100000
set_option maxHeartbeats 4000000

namespace Fo

/-- few sites of few spans, to be reckoned -/
def smallB (l : Ses) : Bool := Nat.ble l.n 10 && !anyB (fun i => !Nat.ble (l.at i).n 1000) l.n
theorem smallB_ok {l : Ses} (h : smallB l = true) : smallS l := by
  unfold smallB at h
  rw [Bool.and_eq_true] at h
  have hn := Nat.le_of_ble_eq_true h.1
  refine ⟨by omega, fun i hi => ?_⟩
  have h2 : anyB (fun i => !Nat.ble (l.at i).n 1000) l.n = false := by simpa using h.2
  have h3 : Nat.ble (l.at i).n 1000 = true := by
    cases hb : Nat.ble (l.at i).n 1000
    · have := (anyB_iff (bad := fun i => !Nat.ble (l.at i).n 1000)).2 ⟨i, hi, (by rw [hb]; rfl : (!Nat.ble (l.at i).n 1000) = true)⟩
      rw [h2] at this; cases this
    · rfl
  have := Nat.le_of_ble_eq_true h3
  unfold small; omega

/-- a summary under a condition that can be reckoned -/
def kG (G : List A1 → Option (Bool × AV)) (args : List A1) : Tree AV :=
  match G args with
  | some (c, r) => .need c (.leaf r)
  | none => .fail

theorem kG_sel {G : List A1 → Option (Bool × AV)} {args : List A1} {r : AV} (h : (kG G args).sel = some r) : G args = some (true, r) := nG_sel h

def Kcho : List A1 → Option (Bool × AV)
  | [.c (.sl [.int .i64, .int .i64, .int .i64, .int .i64, .sl [.int .i64, .int .i64, .int .i64], .int .i64, .bool, .bool] n ρ), .c (.sl [.bool] k σ)] => some (smallB ⟨n, ρ⟩, two (choI ⟨n, ρ⟩ ⟨k, σ⟩) (choE ⟨n, ρ⟩ ⟨k, σ⟩))
  | _ => none
def Kbeg : List A1 → Option (Bool × AV)
  | [.c (.sl [.int .i64, .int .i64, .int .i64, .int .i64, .sl [.int .i64, .int .i64, .int .i64], .int .i64, .bool, .bool] n ρ), .c (.sl [.bool] k σ), .c (.int .i64 t)] => some (smallB ⟨n, ρ⟩, prE (begP ⟨n, ρ⟩ ⟨k, σ⟩ t) (begE ⟨n, ρ⟩ ⟨k, σ⟩ t))
  | _ => none
def Kstp : List A1 → Option (Bool × AV)
  | [.agg [.int .i64 k, .int .i64 f, .int .i64 t, .int .i64 s, .int .i64 e, .int .i64 c, .bool d, .bool x], .c (.sl [.int .i64, .int .i64, .int .i64, .int .i64, .sl [.int .i64, .int .i64, .int .i64], .int .i64, .bool, .bool] n ρ), .c (.bool ok), .c (.int .i64 v)] =>
    some (smallB ⟨n, ρ⟩, thr (stpP ⟨k, f, t, s, e, c, d, x⟩ ⟨n, ρ⟩ ok v) (stpL ⟨k, f, t, s, e, c, d, x⟩ ⟨n, ρ⟩ ok v) (stpE ⟨k, f, t, s, e, c, d, x⟩ ⟨n, ρ⟩ ok v))
  | _ => none

theorem ucOne_imp {P : Program} {f : Nat} {G G' : List A1 → Tree AV} (h : UcOne P f G) (hw : ∀ args r, (G' args).sel = some r → (G args).sel = some r) : UcOne P f G' := fun args r hr hc F w vs ha => h args r (hw args r hr) hc F w vs ha
theorem tcOne_imp {P : Program} {f : Nat} {G G' : List A1 → Tree AV} (h : TcOne P f G) (hw : ∀ args r, (G' args).sel = some r → (G args).sel = some r) : TcOne P f G' := fun args r hr hc F w vs ha => h args r (hw args r hr) hc F w vs ha

theorem small_few {l : Ses} (h : smallB l = true) : fewS l := by
  obtain ⟨h1, h2⟩ := smallB_ok h
  exact ⟨by unfold fewN; omega, fun i hi => by have := h2 i hi; unfold small at this; unfold fewN; omega⟩

theorem kCho : TcOne Try.prog 22 (kG Kcho) := tcOne_imp pCho fun args r hr => by
  have h := kG_sel hr
  unfold Kcho at h; split at h
  · obtain ⟨hp, rfl⟩ := Prod.mk.inj (Option.some.inj h)
    unfold nG Gcho
    simp only [Tree.sel, dec_iff.2 (small_few hp), cond_true]
  · cases h
theorem kBeg : TcOne Try.prog 23 (kG Kbeg) := tcOne_imp pBeg fun args r hr => by
  have h := kG_sel hr
  unfold Kbeg at h; split at h
  · obtain ⟨hp, rfl⟩ := Prod.mk.inj (Option.some.inj h)
    unfold nG Gbeg
    simp only [Tree.sel, dec_iff.2 (small_few hp), cond_true]
  · cases h
theorem kStp : UcOne Try.prog 24 (kG Kstp) := ucOne_imp uStep fun args r hr => by
  have h := kG_sel hr
  unfold Kstp at h; split at h
  · obtain ⟨hp, rfl⟩ := Prod.mk.inj (Option.some.inj h)
    unfold nG Gstp
    simp only [Tree.sel, dec_iff.2 (smallB_ok hp), cond_true]
  · cases h

noncomputable abbrev pcW : List (Nat × (List A1 → Tree AV)) := [concK, tailK, litK, headK, (23, kG Kbeg), (22, kG Kcho)]
noncomputable abbrev hcW : List (Nat × (List A1 → Tree AV)) := [(33, canG [his 3, .c (ints [0]), .c (ints [3, 5, 8]), .c (I 12)] ptsR), (32, canG [his 3, .c (ints [0])] losR), (75, Kiss), (24, kG Kstp)]
theorem hW0 : HdOk Try.prog ⟨pcW, hcW, [], mcH⟩ := by
  have h0 : HdOk Try.prog ⟨[], [], [], mcH⟩ := hA0.mcCons n87.mc
  have h1 : HdOk Try.prog ⟨[], hcW, [], mcH⟩ := (((h0.ucCons kStp).ucCons kIss).ucCons los3).ucCons pts3
  have h2 := (h1.tcCons kCho).tcCons kBeg
  have h3 := h2.tcCons (f := 4294967291) (G := fun _ => .fail) (fun _ _ h => by simp [Tree.sel] at h)
  have h4 := h3.tcCons (f := 4294967292) (G := fun _ => .fail) (fun _ _ h => by simp [Tree.sel] at h)
  exact (h4.tail).tcCons concK_ok
def loopsW : List (Nat × Nat) := [(28, 0), (28, 1), (76, 0), (131, 0), (80, 0), (116, 0)]
noncomputable def lv1 : Hd := ⟨pcW, hcW, lhsOf Try.prog ⟨pcW, hcW, [], mcH⟩ 10 loopsW, mcH⟩
theorem lv1_ok : HdOk Try.prog lv1 := lhs_ok hW0 hW0 10 loopsW
noncomputable def lv2 : Hd := ⟨pcW, hcW, lhsOf Try.prog lv1 10 loopsW, mcH⟩
theorem lv2_ok : HdOk Try.prog lv2 := lhs_ok hW0 lv1_ok 10 loopsW

def Gawk : List A1 → Option AV
  | [] => some (.one (.c (.bool true)))
  | _ => none

/-- the examples hold -/
theorem pAwake : PcOne Try.prog 28 Gawk := pcOne_of_sel lv2_ok 30 28 fun args r h => by
  unfold Gawk at h; split at h
  · obtain rfl := Option.some.inj h
    exact ⟨rfl, by kernel_rfl⟩
  · cases h

end Fo
end Go.Proofs.Ytennlgngdjegoaa
/-
  The unplanned change of the primary: the laws' Few and SameAll; Choose, Begin and Step are the reference's.
-/
namespace Go.Proofs.Ytennlgngdjegoaa
open Go Go.Sx Go.RowKit Classical

set_option maxRecDepth 100000
set_option maxHeartbeats 800000

namespace Fo

def sameS (x y : Sit) : Bool := ((((((x.a == y.a && x.r == y.r) && x.e == y.e) && x.p == y.p) && eqL ⟨⟨x.n, x.ρ⟩, ⟨y.n, y.ρ⟩⟩) && x.s == y.s) && x.l == y.l) && x.c == y.c
structure C21 where
  l : Ses
  j : Ses
def S21 (c : C21) (v : Int) : St := mkS 27 [(0, .one (.c (.sl siSh c.l.n c.l.ρ))), (1, .one (.c (.sl siSh c.j.n c.j.ρ))), (4, .one (.c (.bool false))), (5, .one (.c (I v)))] []
noncomputable def TX21 (c : C21) (v : Int) : Tree (XE × Int) :=
  .br (lt v (toInt64 c.l.n)) (.need (inRange v c.l.n) (.need (inRange v c.j.n) (.need (dec (fewN (c.l.at v.toNat).n)) (.br (!sameS (c.l.at v.toNat) (c.j.at v.toNat)) (.leaf (.ret, v)) (.leaf (.normal, IntKind.i64.wrap (v + 1))))))) (.leaf (.exit 0, v))
theorem t21 (c : C21) (v : Int) : ((evCode Try.prog HJ (evFn Try.prog HJ 10) 30 0 1 (loopBody Try.prog 30 0) (S21 c v)).bind fun y => gcT [0, 1, 4, 5] 0 y) = (TX21 c v).bind fun y => .leaf (y.1, S21 c y.2) := by kernel_rfl
def difS (l j : Ses) (i : Nat) : Bool := !sameS (l.at i) (j.at i)
def good21 (c : C21) : Prop := fewS c.l ∧ c.l.n = c.j.n
theorem sq21 (c : C21) (h : good21 c) : Sq (TX21 c) (fun v => (c.l.n - v).toNat) (fun i => (i : Int)) (fun i => (i : Int)) c.l.n (difS c.l c.j) .ret (.exit 0) where
  out := by simp
  hit := by simp
  meas i hi := by show ((c.l.n : Int) - (i : Int)).toNat = _; omega
  round i hi := by
    obtain ⟨⟨hn, hs⟩, hj⟩ := h
    have hsi := hs i hi
    unfold fewN at hn
    have hw : IntKind.i64.wrap ((i : Int) + 1) = ((i + 1 : Nat) : Int) := by rw [w64_id (by omega) (by omega)]; omega
    refine ⟨fun _ => ⟨inR hi, inR (hj ▸ hi), dec_iff.2 hsi, fun hb => ?_, fun hb => ?_⟩, fun hlt => ?_⟩
    · have : difS c.l c.j i = true := hb
      simp only [Tree.All, this, if_true]
    · have : difS c.l c.j i = false := hb
      simp only [Tree.All, this, Bool.false_eq_true, if_false]
      rw [hw]
    · rw [ltF hi] at hlt; cases hlt
  stop := by
    refine ⟨fun hlt => ?_, fun _ => rfl⟩
    rw [ltS] at hlt; cases hlt
def get21 : List (Nat × AV) → Mem → Option (C21 × Int)
  | [(0, .one (.c (.sl [.int .i64, .int .i64, .int .i64, .int .i64, .sl [.int .i64, .int .i64, .int .i64], .int .i64, .bool, .bool] n ρ))), (1, .one (.c (.sl [.int .i64, .int .i64, .int .i64, .int .i64, .sl [.int .i64, .int .i64, .int .i64], .int .i64, .bool, .bool] m σ))), (4, .one (.c (.bool false))), (5, .one (.c (.int .i64 i)))], [] => some (⟨⟨n, ρ⟩, ⟨m, σ⟩⟩, i)
  | _, _ => none
noncomputable def L21 : Nat → St → Tree (XE × St) := lqH [0, 1, 4, 5] 0 27 get21 fun c v => lqT (S21 c) (good21 c ∧ v = ((0 : Nat) : Int)) (anyB (difS c.l c.j) c.l.n) .ret (.exit 0) (firstB (difS c.l c.j) c.l.n : Nat) (c.l.n : Int)
theorem l21 (fn : Func) (c b : Code) (hf : Try.prog.funcs[30]? = some fn) (hc : fn.body = some c) (hb : nthLoop c 0 = some b) : LoopOk Try.prog b L21 :=
  lq_ok hJ 10 30 0 hf hc hb [0, 1, 4, 5] 0 27 S21 TX21 t21 get21
    (fun l m c v h => by unfold get21 at h; split at h <;> simp at h; obtain ⟨rfl, rfl⟩ := h; rfl)
    good21 (fun c v => (c.l.n - v).toNat) (fun _ i => (i : Int)) (fun _ i => (i : Int)) (fun c => c.l.n) (fun c => difS c.l c.j) .ret (.exit 0)
    sq21 (fun c => (firstB (difS c.l c.j) c.l.n : Nat)) (fun c => (c.l.n : Int)) (fun _ _ _ => StWk.refl) (fun _ _ _ => StWk.refl)
noncomputable abbrev H21 : Hd := ⟨HJ.pc, HJ.hc, [((30, 0), L21)], HJ.mc⟩
theorem h21 : HdOk Try.prog H21 := HdOk.lhCons hJ l21

/-- are two lists of sites the same? -/
def sameAll (l j : Ses) : Bool := bif l.n == j.n then !anyB (difS l j) l.n else false
noncomputable def Gsame : List A1 → Option (Bool × AV)
  | [.c (.sl [.int .i64, .int .i64, .int .i64, .int .i64, .sl [.int .i64, .int .i64, .int .i64], .int .i64, .bool, .bool] n ρ), .c (.sl [.int .i64, .int .i64, .int .i64, .int .i64, .sl [.int .i64, .int .i64, .int .i64], .int .i64, .bool, .bool] m σ)] => some (dec (fewS ⟨n, ρ⟩), .one (.c (.bool (sameAll ⟨n, ρ⟩ ⟨m, σ⟩))))
  | _ => none

theorem pSame : TcOne Try.prog 30 (nG Gsame) := tcOne_of_tree h21 10 30 fun args r h => by
  unfold Gsame at h; split at h
  · rename_i n ρ m σ
    obtain ⟨hp, rfl⟩ := Prod.mk.inj (Option.some.inj h)
    have hf := dec_iff.1 hp
    refine ⟨rfl, .br (toInt64 n != toInt64 m) (.leaf (.one (.c (.bool false)))) (.need (dec (good21 ⟨⟨n, ρ⟩, ⟨m, σ⟩⟩ ∧ (0 : Int) = ((0 : Nat) : Int))) (.br (anyB (difS ⟨n, ρ⟩ ⟨m, σ⟩) n) (.leaf (.one (.c (.bool false)))) (.leaf (.one (.c (.bool true)))))), by kernel_rfl, all_of_sel ?_⟩
    unfold sameAll
    simp only [Tree.sel]
    by_cases hnm : n = m
    · subst hnm
      have h1 : (toInt64 n != toInt64 n) = false := by simp
      have h2 : dec (good21 ⟨⟨n, ρ⟩, ⟨n, σ⟩⟩ ∧ (0 : Int) = ((0 : Nat) : Int)) = true := dec_iff.2 ⟨⟨hf, rfl⟩, rfl⟩
      have h3 : (n == n) = true := by simp
      rw [h1, h2, h3]
      cases anyB (difS ⟨n, ρ⟩ ⟨n, σ⟩) n <;> rfl
    · have h1 : (toInt64 n != toInt64 m) = true := by
        have : (n : Int) ≠ (m : Int) := by omega
        simpa [toInt64, bne] using this
      have h3 : (n == m) = false := by simpa using hnm
      rw [h1, h3]; rfl
  · cases h

theorem eqL_refl (l : Ln) : eqL ⟨l, l⟩ = true := eqL_self l
theorem sameS_refl (x : Sit) : sameS x x = true := by
  unfold sameS
  rw [eqL_refl ⟨x.n, x.ρ⟩]
  simp
theorem sameAll_refl (l : Ses) : sameAll l l = true := by
  unfold sameAll
  have : anyB (difS l l) l.n = false := anyB_none fun i _ => by unfold difS; rw [sameS_refl]; rfl
  rw [this]; simp

/-! ### Few -/

def S11 (c : Ses) (v : Int) : St := mkS 24 [(0, .one (.c (.sl siSh c.n c.ρ))), (2, .one (.c (.bool false))), (3, .one (.c (I v)))] []
def lng (l : Ses) (i : Nat) : Bool := lt 20 (toInt64 (l.at i).n)
def TX11 (c : Ses) (v : Int) : Tree (XE × Int) := .br (lt v (toInt64 c.n) && lt v 20) (.need (inRange v c.n) (.br (lng c v.toNat) (.leaf (.ret, v)) (.leaf (.normal, IntKind.i64.wrap (v + 1))))) (.leaf (.exit 0, v))
theorem t11 (c : Ses) (v : Int) : ((evCode Try.prog HJ (evFn Try.prog HJ 10) 27 0 1 (loopBody Try.prog 27 0) (S11 c v)).bind fun y => gcT [0, 2, 3] 0 y) = (TX11 c v).bind fun y => .leaf (y.1, S11 c y.2) := by kernel_rfl
def min10 (n : Nat) : Nat := if n ≤ 20 then n else 20
theorem sq11 (c : Ses) (_ : True) : Sq (TX11 c) (fun v => (min10 c.n - v).toNat) (fun i => (i : Int)) (fun i => (i : Int)) (min10 c.n) (lng c) .ret (.exit 0) where
  out := by simp
  hit := by simp
  meas i hi := by show ((min10 c.n : Int) - (i : Int)).toNat = _; omega
  round i hi := by
    have hi1 : i < c.n ∧ i < 20 := by unfold min10 at hi; split at hi <;> omega
    have hw : IntKind.i64.wrap ((i : Int) + 1) = ((i + 1 : Nat) : Int) := by rw [w64_id (by omega) (by omega)]; omega
    refine ⟨fun _ => ⟨inR hi1.1, fun hb => ?_, fun hb => ?_⟩, fun hlt => ?_⟩
    · have : lng c i = true := hb
      simp only [Tree.All, this, if_true]
    · have : lng c i = false := hb
      simp only [Tree.All, this, Bool.false_eq_true, if_false]
      rw [hw]
    · rw [ltF hi1.1, (lt_iff (i : Int) 20).2 (by omega)] at hlt; cases hlt
  stop := by
    refine ⟨fun hlt => ?_, fun _ => rfl⟩
    rw [Bool.and_eq_true, lt_iff, lt_iff] at hlt
    have h1 : (min10 c.n : Int) < (c.n : Int) := hlt.1
    have h2 := hlt.2
    unfold min10 at h1 h2
    split at h1 <;> split at h2 <;> omega
def get11 : List (Nat × AV) → Mem → Option (Ses × Int)
  | [(0, .one (.c (.sl [.int .i64, .int .i64, .int .i64, .int .i64, .sl [.int .i64, .int .i64, .int .i64], .int .i64, .bool, .bool] n ρ))), (2, .one (.c (.bool false))), (3, .one (.c (.int .i64 i)))], [] => some (⟨n, ρ⟩, i)
  | _, _ => none
noncomputable def L11 : Nat → St → Tree (XE × St) := lqH [0, 2, 3] 0 24 get11 fun c v => lqT (S11 c) (True ∧ v = ((0 : Nat) : Int)) (anyB (lng c) (min10 c.n)) .ret (.exit 0) (firstB (lng c) (min10 c.n) : Nat) (min10 c.n : Int)
theorem l11 (fn : Func) (c b : Code) (hf : Try.prog.funcs[27]? = some fn) (hc : fn.body = some c) (hb : nthLoop c 0 = some b) : LoopOk Try.prog b L11 :=
  lq_ok hJ 10 27 0 hf hc hb [0, 2, 3] 0 24 S11 TX11 t11 get11
    (fun l m c v h => by unfold get11 at h; split at h <;> simp at h; obtain ⟨rfl, rfl⟩ := h; rfl)
    (fun _ => True) (fun c v => (min10 c.n - v).toNat) (fun _ i => (i : Int)) (fun _ i => (i : Int)) (fun c => min10 c.n) (fun c => lng c) .ret (.exit 0)
    sq11 (fun c => (firstB (lng c) (min10 c.n) : Nat)) (fun c => (min10 c.n : Int)) (fun _ _ _ => StWk.refl) (fun _ _ _ => StWk.refl)
noncomputable abbrev H11f : Hd := ⟨HJ.pc, HJ.hc, [((27, 0), L11)], HJ.mc⟩
theorem h11f : HdOk Try.prog H11f := HdOk.lhCons hJ l11

/-- few sites of few spans -/
def fewL (l : Ses) : Bool := bif anyB (lng l) (min10 l.n) then false else le (toInt64 l.n) 20
def Gfew : List A1 → Option AV
  | [.c (.sl [.int .i64, .int .i64, .int .i64, .int .i64, .sl [.int .i64, .int .i64, .int .i64], .int .i64, .bool, .bool] n ρ)] => some (.one (.c (.bool (fewL ⟨n, ρ⟩))))
  | _ => none

theorem pFew : PcOne Try.prog 27 Gfew := pcOne_of_tree h11f 10 27 fun args r h => by
  unfold Gfew at h; split at h
  · rename_i n ρ
    obtain rfl := Option.some.inj h
    refine ⟨rfl, .need (dec (True ∧ (0 : Int) = ((0 : Nat) : Int))) (.br (anyB (lng ⟨n, ρ⟩) (min10 n)) (.leaf (.one (.c (.bool false)))) (.leaf (.one (.c (.bool (le (toInt64 n) 20)))))), by kernel_rfl, all_of_sel ?_⟩
    have : dec (True ∧ (0 : Int) = ((0 : Nat) : Int)) = true := dec_iff.2 ⟨trivial, rfl⟩
    simp only [Tree.sel, this, cond_true]
    unfold fewL
    cases anyB (lng ⟨n, ρ⟩) (min10 n) <;> rfl
  · cases h

theorem fewL_small {l : Ses} (h : fewL l = true) : smallS l := by
  unfold fewL at h
  cases ha : anyB (lng l) (min10 l.n)
  · rw [ha] at h
    have h : le (toInt64 l.n) 20 = true := h
    rw [le_iff] at h
    have h : (l.n : Int) ≤ 20 := h
    refine ⟨by omega, fun i hi => ?_⟩
    have h1 : lng l i = false := by
      rw [← Bool.not_eq_true]
      intro hh
      rw [anyB_iff.2 ⟨i, by unfold min10; split <;> omega, hh⟩] at ha; cases ha
    unfold lng at h1
    rw [← Bool.not_eq_true, lt_iff] at h1
    have h1 : ¬ (20 : Int) < ((l.at i).n : Int) := h1
    unfold small; omega
  · rw [ha] at h; cases h


/-- what the laws stand on -/
noncomputable abbrev HL : Hd := ⟨(28, oG Gawk) :: (27, oG Gfew) :: (30, nG Gsame) :: HJ.pc, HJ.hc, [], HJ.mc⟩
theorem hL : HdOk Try.prog HL := ((hJ.tcCons pSame).pcCons pFew).pcCons pAwake

def bT (b : Bool) : AV := .one (.c (.bool b))
def eqP (p q : Prc) : Bool := p.k == q.k && (p.f == q.f && (p.t == q.t && (p.s == q.s && (p.e == q.e && (p.c == q.c && (p.d == q.d && (p.x == q.x && true)))))))
theorem eqP_self (p : Prc) : eqP p p = true := by unfold eqP; simp

end Fo
end Go.Proofs.Ytennlgngdjegoaa
/-
  The unplanned change of the primary: what the steps do to sites, in plain terms.
-/
namespace Go.Proofs.Ytennlgngdjegoaa
open Go Go.Sx Go.RowKit Classical

set_option maxRecDepth 100000

namespace Fo

/-! ### correct sites -/

structure SiteOk (x : Sit) : Prop where
  corr : corr x.ln = true
  ht : (hd x.ln).t = x.p
  he : (hd x.ln).e ≤ x.e
  e0 : 0 ≤ x.e
  e1 : x.e ≤ 1073741824
  p0 : 0 ≤ x.p
  p1 : x.p ≤ 1073741824
  num : sit x.a = true
  r0 : 0 ≤ x.r
  r1 : x.r ≤ 5
  er : x.e = 0 → x.r = 0
  src : rcv x.r = true → oth x.s x.a = true
  nsrc : rcv x.r = false → x.s = -1

theorem ok_of_chk {x : Sit} (h : chkS x = 0) : SiteOk x := by
  obtain ⟨a, b, c, d, e, f, g, h, i, j, k, l⟩ := chk_zero h
  exact ⟨a, b, c, d, e, f, g, h, i.1, i.2, j, k, l⟩

theorem tim_iff {a : Int} : tim a = true ↔ 0 ≤ a ∧ a ≤ 1073741824 := by
  unfold tim
  rw [Bool.and_eq_true, le_iff, le_iff]

theorem chk_of_ok {x : Sit} (h : SiteOk x) : chkS x = 0 := by
  unfold chkS chk
  have h1 := h.num
  have h2 : (le 0 x.r && le x.r 5) = true := by rw [Bool.and_eq_true, le_iff, le_iff]; exact ⟨h.r0, h.r1⟩
  have h3 : tim x.e = true := tim_iff.2 ⟨h.e0, h.e1⟩
  have h4 : tim x.p = true := tim_iff.2 ⟨h.p0, h.p1⟩
  have h5 : (x.e == 0 && x.r != 0) = false := by
    cases he : (x.e == 0)
    · rfl
    · have := h.er (by simpa using he)
      simp [this]
  have h6 : Proofs.Ytennlgngdjegoaa.corr ⟨x.n, x.ρ⟩ = true := h.corr
  have h7 : lt x.e (hd ⟨x.n, x.ρ⟩).e = false := by
    rw [← Bool.not_eq_true, lt_iff]
    have : (hd ⟨x.n, x.ρ⟩).e ≤ x.e := h.he
    omega
  have h8 : ((hd ⟨x.n, x.ρ⟩).t != x.p) = false := by
    have : (hd ⟨x.n, x.ρ⟩).t = x.p := h.ht
    simp [bne, this]
  rw [h1, h2, h3, h4, h5, h6, h7, h8]
  cases hr : rcv x.r
  · have := h.nsrc hr
    simp [this, bne]
  · have := h.src hr
    simp [this]

theorem chain0 {e : Int} {l : List (Bool × Int)} (hk : l.all (fun q => q.2 != 0) = true) (h : chain e l = 0) : e = 0 ∧ l.all Prod.fst = true := by
  rw [List.all_eq_true] at hk
  obtain ⟨a, b⟩ := le_chain0 (fun q hq => by have := hk q hq; simpa [bne] using this) h
  exact ⟨a, List.all_eq_true.2 b⟩

def Conj : List (Bool × Int) → Prop
  | [] => True
  | [q] => q.1 = true
  | q :: r => q.1 = true ∧ Conj r
theorem allL : ∀ {l : List (Bool × Int)}, l.all Prod.fst = true → Conj l
  | [], _ => trivial
  | [q], h => by
    have h : q.1 = true := by simpa using h
    exact h
  | q :: q' :: r, h => by
    rw [List.all_cons, Bool.and_eq_true] at h
    exact ⟨h.1, allL h.2⟩

theorem pro_ok {x : Sit} {y : Int} (h : proE x y = 0) : SiteOk (pro x y) ∧ SiteOk x ∧ x.l = true ∧ x.e < y ∧ (x.r = 0 ∨ x.r = 2 ∨ x.r = 3) := by
  obtain ⟨hc, hok⟩ := chain0 rfl h
  have o := ok_of_chk hc
  have hok := allL hok
  obtain ⟨b1, b2, b3, b4⟩ := hok
  have a1 : x.l = true := b1
  have a2 : ((x.r == 0 && toInt64 x.n == 0) || x.r == 2 || x.r == 3) = true := b2
  have a3 : lt x.e y = true := b3
  have a4 : le y 1073741824 = true := b4
  rw [lt_iff] at a3
  rw [le_iff] at a4
  have := o.e0
  have := o.he
  refine ⟨⟨o.corr, o.ht, by show (hd x.ln).e ≤ y; omega, by show 0 ≤ y; omega, a4, o.p0, o.p1, o.num, by show (0 : Int) ≤ 1; omega, by show (1 : Int) ≤ 5; omega, fun h => by have : y = 0 := h; omega, (fun h => by cases h), fun _ => rfl⟩, o, a1, a3, ?_⟩
  simp only [Bool.or_eq_true, Bool.and_eq_true, beq_iff_eq] at a2
  rcases a2 with (a | a) | a
  · exact .inl a.1
  · exact .inr (.inl a)
  · exact .inr (.inr a)

theorem demo_ok {x : Sit} {y src : Int} (h : demoE x y src = 0) : SiteOk (demo x y src) ∧ SiteOk x ∧ x.r = 1 ∧ x.e ≤ y ∧ ((demo x y src).r = 2 ∨ (demo x y src).r = 5) := by
  obtain ⟨hc, hok⟩ := chain0 rfl h
  have o := ok_of_chk hc
  have hok := allL hok
  obtain ⟨b1, b2, b3, b4⟩ := hok
  have a1 : (x.r == 1) = true := b1
  have a2 : le x.e y = true := b2
  have a3 : le y 1073741824 = true := b3
  have a4 : (src == -1 || oth src x.a) = true := b4
  have a1 : x.r = 1 := by simpa using a1
  rw [le_iff] at a2 a3
  have := o.e0
  have := o.he
  have hy : y ≠ 0 := fun h0 => by
    have := o.er (by omega)
    omega
  cases hs : (src == -1)
  · rw [hs] at a4
    have e : demo x y src = { x with r := 2, e := y, s := src } := by unfold demo; rw [hs]; rfl
    rw [e]
    exact ⟨⟨o.corr, o.ht, by show (hd x.ln).e ≤ y; omega, by show 0 ≤ y; omega, a3, o.p0, o.p1, o.num, by show (0 : Int) ≤ 2; omega, by show (2 : Int) ≤ 5; omega, fun h => (hy h).elim, fun _ => a4, (fun h => by cases h)⟩, o, a1, a2, .inl rfl⟩
  · have hs' : src = -1 := by simpa using hs
    have e : demo x y src = { x with r := 5, e := y, s := src } := by unfold demo; rw [hs]; rfl
    rw [e]
    exact ⟨⟨o.corr, o.ht, by show (hd x.ln).e ≤ y; omega, by show 0 ≤ y; omega, a3, o.p0, o.p1, o.num, by show (0 : Int) ≤ 5; omega, by show (5 : Int) ≤ 5; omega, fun h => (hy h).elim, (fun h => by cases h), fun _ => hs'⟩, o, a1, a2, .inr rfl⟩

theorem iso_ok {x : Sit} (h : isoE x = 0) : SiteOk (iso x) ∧ SiteOk x ∧ x.r = 2 := by
  obtain ⟨hc, hok⟩ := chain0 rfl h
  have o := ok_of_chk hc
  have hok := allL hok
  have a1 : (x.r == 2) = true := hok
  have a1 : x.r = 2 := by simpa using a1
  exact ⟨⟨o.corr, o.ht, o.he, o.e0, o.e1, o.p0, o.p1, o.num, by show (0 : Int) ≤ 3; omega, by show (3 : Int) ≤ 5; omega, fun h => by have := o.er h; omega, (fun h => by cases h), fun _ => rfl⟩, o, a1⟩

theorem rej_ok {x : Sit} {y src : Int} (h : rejE x y src = 0) : SiteOk (rej x y src) ∧ SiteOk x ∧ x.r ≠ 1 ∧ x.r ≠ 2 ∧ x.e ≤ y ∧ ((rej x y src).r = 4 ∨ ((rej x y src).r = 2 ∧ x.r = 3)) := by
  obtain ⟨hc, hok⟩ := chain0 rfl h
  have o := ok_of_chk hc
  have hok := allL hok
  obtain ⟨b1, b2, b3, b4⟩ := hok
  have a1 : (x.r != 1 && x.r != 2) = true := b1
  have a2 : (le x.e y && y != 0) = true := b2
  have a3 : le y 1073741824 = true := b3
  have a4 : oth src x.a = true := b4
  simp only [Bool.and_eq_true, bne_iff_ne, ne_eq, le_iff] at a1 a2
  rw [le_iff] at a3
  have := o.e0
  have := o.he
  cases hs : (x.r == 3 && y == x.e)
  · have e : rej x y src = { x with r := 4, e := y, s := src } := by unfold rej; rw [hs]; rfl
    rw [e]
    exact ⟨⟨o.corr, o.ht, by show (hd x.ln).e ≤ y; omega, by show 0 ≤ y; omega, a3, o.p0, o.p1, o.num, by show (0 : Int) ≤ 4; omega, by show (4 : Int) ≤ 5; omega, fun h => (a2.2 h).elim, fun _ => a4, (fun h => by cases h)⟩, o, a1.1, a1.2, a2.1, .inl rfl⟩
  · have e : rej x y src = { x with r := 2, e := y, s := src } := by unfold rej; rw [hs]; rfl
    rw [e]
    rw [Bool.and_eq_true] at hs
    exact ⟨⟨o.corr, o.ht, by show (hd x.ln).e ≤ y; omega, by show 0 ≤ y; omega, a3, o.p0, o.p1, o.num, by show (0 : Int) ≤ 2; omega, by show (2 : Int) ≤ 5; omega, fun h => (a2.2 h).elim, fun _ => a4, (fun h => by cases h)⟩, o, a1.1, a1.2, a2.1, .inr ⟨rfl, by simpa using hs.1⟩⟩


theorem iso_no {x : Sit} (h : chkS x = 0) (hr : x.r = 2) : isoE x = 0 := by
  unfold isoE; rw [h, hr]; rfl

/-! ### sites that are replaced -/

/-- the lineage is as long as it says -/
def okS (x : Sit) : Prop := x.ρ.L [] = x.n
theorem okS_at (l : Ses) (i : Nat) : okS (l.at i) := rfl

theorem siAt_cs {v : Val} {x : Sit} (hx : okS x) (h : ∀ f, f < 8 → v.at f = (match nth (cs x) f with | some c => .ofC c | none => Val.zero)) : siAt v = x := by
  obtain ⟨a, r, e, p, n, ρ, s, l, c⟩ := x
  have hx : ρ.L [] = n := hx
  subst hx
  unfold siAt
  rw [h 0 (by omega), h 1 (by omega), h 2 (by omega), h 3 (by omega), h 4 (by omega), h 5 (by omega), h 6 (by omega), h 7 (by omega)]
  show (⟨a, r, e, p, ρ.L [], Val.ofC (.sl spSh (ρ.L []) ρ), s, l, c⟩ : Sit) = _
  rw [ofC_sl]

theorem at_setS {l : Ses} {i : Nat} {x : Sit} (hx : okS x) (k : Nat) : (setS l i x).at k = if k = i then x else l.at k := by
  by_cases hk : k = i
  · subst hk
    rw [if_pos rfl]
    refine siAt_cs hx fun f hf => ?_
    show ((l.ρ.upds k 0 (cs x)).at k).at f = _
    rw [at_upds, if_pos ⟨rfl, Nat.zero_le _, by show f < 0 + 8; omega⟩, Nat.sub_zero]
    rfl
  · rw [if_neg hk]
    have g : ∀ f, ((l.ρ.upds i 0 (cs x)).at k).at f = (l.ρ.at k).at f := fun f => by rw [at_upds, if_neg fun h => hk h.1]
    show (⟨(((l.ρ.upds i 0 (cs x)).at k).at 0).N [], (((l.ρ.upds i 0 (cs x)).at k).at 1).N [], (((l.ρ.upds i 0 (cs x)).at k).at 2).N [], (((l.ρ.upds i 0 (cs x)).at k).at 3).N [], (((l.ρ.upds i 0 (cs x)).at k).at 4).L [], ((l.ρ.upds i 0 (cs x)).at k).at 4, (((l.ρ.upds i 0 (cs x)).at k).at 5).N [], (((l.ρ.upds i 0 (cs x)).at k).at 6).B [], (((l.ρ.upds i 0 (cs x)).at k).at 7).B []⟩ : Sit) = _
    rw [g 0, g 1, g 2, g 3, g 4, g 5, g 6, g 7]; rfl

theorem okS_jn (x : Sit) (e a : Int) (h : okS x) : okS (jnS x e a) := by
  unfold jnS
  cases x.r == 2 <;> exact h

theorem at_jn (t e a : Int) (l : Ses) : ∀ n k, (⟨l.n, jnV t e a l n⟩ : Ses).at k = if k < n ∧ skp t l k = false then jnS (l.at k) e a else l.at k
  | 0, k => by rw [if_neg (by omega)]; rfl
  | n + 1, k => by
    have ih := at_jn t e a l n k
    unfold jnV
    cases hs : skp t l n
    · show (setS ⟨l.n, jnV t e a l n⟩ n (jnS (l.at n) e a)).at k = _
      rw [at_setS (okS_jn _ _ _ (okS_at _ _)), ih]
      by_cases hk : k = n
      · subst hk
        rw [if_pos rfl, if_pos ⟨by omega, hs⟩]
      · rw [if_neg hk]
        by_cases h : k < n ∧ skp t l k = false
        · rw [if_pos h, if_pos ⟨by omega, h.2⟩]
        · rw [if_neg h, if_neg fun g => h ⟨by omega, g.2⟩]
    · show (⟨l.n, jnV t e a l n⟩ : Ses).at k = _
      rw [ih]
      by_cases h : k < n ∧ skp t l k = false
      · rw [if_pos h, if_pos ⟨by omega, h.2⟩]
      · rw [if_neg h, if_neg]
        rintro ⟨g1, g2⟩
        refine h ⟨?_, g2⟩
        by_cases hk : k = n
        · subst hk; rw [hs] at g2; cases g2
        · omega

/-- what is behind a step has as many spans as before -/
theorem actL_n (p : Prc) (l : Ses) : (actL p l).n = l.n ∧ ∀ k, ((actL p l).at k).n = (l.at k).n := by
  have hset : ∀ (i : Nat) (x : Sit), okS x → x.n = (l.at i).n → ∀ k, ((setS l i x).at k).n = (l.at k).n := fun i x hx hn k => by
    rw [at_setS hx]
    by_cases hk : k = i
    · subst hk; rw [if_pos rfl]; exact hn
    · rw [if_neg hk]
  unfold actL
  cases p.s == 0
  · cases p.s == 1
    · cases p.s == 2
      · refine ⟨rfl, fun k => ?_⟩
        show ((⟨l.n, jnV p.t p.e (numT p l) l l.n⟩ : Ses).at k).n = _
        rw [at_jn]
        split
        · unfold jnS; cases (l.at k).r == 2 <;> rfl
        · rfl
      · exact ⟨rfl, hset _ _ (okS_at l _) rfl⟩
    · cases nofP p l
      · exact ⟨rfl, hset _ _ (okS_at l _) rfl⟩
      · exact ⟨rfl, fun _ => rfl⟩
  · exact ⟨rfl, fun _ => rfl⟩

theorem stpL_small {p : Prc} {l : Ses} (g : Bool) (t : Int) (h : smallS l) : smallS (stpL p l g t) := by
  unfold stpL
  cases stpE p l g t == 0
  · exact ⟨by show 0 ≤ 1000; omega, fun i hi => by have hi : i < 0 := hi; omega⟩
  · obtain ⟨h1, h2⟩ := actL_n p l
    refine ⟨by show (actL p l).n ≤ 1000; rw [h1]; exact h.1, fun i hi => ?_⟩
    have hi : i < (actL p l).n := hi
    rw [h1] at hi
    show small ((actL p l).at i).n
    rw [h2]
    exact h.2 i hi

/-! ### sites that are in order -/

/-- sites that are in order, with different numbers, and no two primaries of one epoch -/
structure Ck (l : Ses) : Prop where
  n : l.n ≤ 4
  ok : ∀ i, i < l.n → SiteOk (l.at i)
  num : ∀ i j, i < l.n → j < l.n → i ≠ j → (l.at i).a ≠ (l.at j).a
  pri : ∀ i j, i < l.n → j < l.n → i ≠ j → (l.at i).r = 1 → (l.at j).r = 1 → (l.at i).e ≠ (l.at j).e

theorem ck_of {l : Ses} (h : Ck l) : ckE l = 0 := by
  have h4 : lt 4 (toInt64 l.n) = false := by
    rw [← Bool.not_eq_true, lt_iff]
    show ¬ (4 : Int) < (l.n : Int)
    have := h.n
    omega
  have hw : anyB (wrgS l) l.n = false := anyB_none fun i hi => by
    refine wrgS_0 ?_ (anyB_none fun j hj => ?_) (anyB_none fun j hj => ?_)
    · rw [chk_of_ok (h.ok i hi)]; rfl
    · unfold fndB
      rw [beq_eq_false_iff_ne]
      exact h.num j i (by omega) hi (by omega)
    · unfold fndD
      rw [← Bool.not_eq_true]
      intro hh
      rw [Bool.and_eq_true, Bool.and_eq_true, beq_iff_eq, beq_iff_eq, beq_iff_eq] at hh
      exact h.pri j i (by omega) hi (by omega) hh.1.1 hh.1.2 hh.2
  unfold ckE
  rw [h4, hw]; rfl

theorem ck_to {l : Ses} (h : ckE l = 0) : Ck l := by
  obtain ⟨h1, h2⟩ := ck_none h
  have hw : ∀ i, i < l.n → chkS (l.at i) = 0 ∧ (∀ j, j < i → (l.at j).a ≠ (l.at i).a) ∧ ∀ j, j < i → (l.at j).r = 1 → (l.at i).r = 1 → (l.at j).e ≠ (l.at i).e := fun i hi => by
    have := h2 i hi
    unfold wrgS at this
    rw [Bool.or_eq_false_iff, Bool.or_eq_false_iff] at this
    obtain ⟨⟨a, b⟩, c⟩ := this
    refine ⟨by simpa [bne] using a, fun j hj he => ?_, fun j hj r1 r2 he => ?_⟩
    · rw [anyB_iff.2 ⟨j, hj, by unfold fndB; rw [he]; simp⟩] at b; cases b
    · rw [anyB_iff.2 ⟨j, hj, by unfold fndD; rw [r1, r2, he]; simp⟩] at c; cases c
  refine ⟨h1, fun i hi => ok_of_chk (hw i hi).1, fun i j hi hj hne => ?_, fun i j hi hj hne r1 r2 => ?_⟩
  · rcases Nat.lt_or_gt_of_ne hne with h | h
    · exact (hw j hj).2.1 i h
    · exact fun g => (hw i hi).2.1 j h g.symm
  · rcases Nat.lt_or_gt_of_ne hne with h | h
    · exact (hw j hj).2.2 i h r1 r2
    · exact fun g => (hw i hi).2.2 j h r2 r1 g.symm

theorem ck_small {l : Ses} (h : Ck l) (hs : ∀ i, i < l.n → small (l.at i).n) : smallS l := ⟨by have := h.n; omega, hs⟩

end Fo
end Go.Proofs.Ytennlgngdjegoaa
/-
  The unplanned change of the primary: a failover that begins goes on to its end.
-/
namespace Go.Proofs.Ytennlgngdjegoaa
open Go Go.Sx Go.RowKit Classical

set_option maxRecDepth 100000

namespace Fo

theorem cond_zero {b : Bool} {k x : Int} (hk : k ≠ 0) (h : (bif b then k else x) = 0) : b = false ∧ x = 0 := by
  cases b
  · exact ⟨rfl, h⟩
  · exact (hk h).elim
theorem cond_ne {k x : Int} (h : (bif k != 0 then k else x) = 0) : k = 0 ∧ x = 0 := by
  cases hb : k != 0
  · rw [hb] at h
    exact ⟨by simpa [bne] using hb, h⟩
  · rw [hb] at h
    have h : k = 0 := h
    rw [h] at hb; cases hb
theorem ltF' {a b : Int} (h : ¬ a < b) : lt a b = false := by rw [← Bool.not_eq_true, lt_iff]; exact h
theorem leF' {a b : Int} (h : ¬ a ≤ b) : le a b = false := by rw [← Bool.not_eq_true, le_iff]; exact h
theorem of_ltF {a b : Int} (h : lt a b = false) : ¬ a < b := by rw [← Bool.not_eq_true, lt_iff] at h; exact h
theorem of_leF {a b : Int} (h : le a b = false) : ¬ a ≤ b := by rw [← Bool.not_eq_true, le_iff] at h; exact h

/-- what a failover that begins finds -/
structure BegOk (l : Ses) (o : Los) (t : Int) (tn : Nat) : Prop where
  p : begP l o t = ⟨2, froI l, t, 0, mosE l + 1, (l.at tn).p, false, false⟩
  ck : Ck l
  n : o.n = l.n
  t : t = tn
  lt : tn < l.n
  live : ∀ i, i < l.n → (l.at i).r = 1 → (l.at i).l = true → o.at i = true
  lost : o.at tn = false
  al : (l.at tn).l = true
  fo : fol (l.at tn).r = true
  m0 : 0 ≤ mosE l
  m1 : mosE l < 1073741824
  me : ∀ i, i < l.n → (l.at i).e ≤ mosE l
  f0 : -1 ≤ froI l
  f1 : froI l < l.n
  fr : 0 ≤ froI l → (l.at (froI l).toNat).r = 1

theorem imax_le2 (a b : Int) : a ≤ imax a b ∧ b ≤ imax a b := by
  unfold imax
  cases h : lt a b
  · have := of_ltF h
    exact ⟨Int.le_refl _, by show b ≤ a; omega⟩
  · rw [lt_iff] at h
    exact ⟨by show a ≤ b; omega, Int.le_refl _⟩
theorem mxE_ge (l : Ses) : ∀ n i, i < n → (l.at i).e ≤ mxE l n
  | 0, _, h => by omega
  | n + 1, i, h => by
    unfold mxE
    obtain ⟨h1, h2⟩ := imax_le2 (mxE l n) (l.at n).e
    by_cases hi : i = n
    · subst hi; exact h2
    · exact Int.le_trans (mxE_ge l n i (by omega)) h1
theorem mxE_zero (l : Ses) : ∀ n, 0 ≤ mxE l n
  | 0 => Int.le_refl _
  | n + 1 => by
    unfold mxE
    exact Int.le_trans (mxE_zero l n) (imax_le2 _ _).1

theorem beg_ok {l : Ses} {o : Los} {t : Int} (h : begE l o t = 0) : BegOk l o t t.toNat := by
  have hp : begP l o t = ⟨2, froI l, t, 0, IntKind.i64.wrap (mosE l + 1), (l.at t.toNat).p, false, false⟩ := by unfold begP; rw [h]; rfl
  unfold begE at h
  obtain ⟨h1, h⟩ := cond_ne h
  obtain ⟨h2, h⟩ := cond_zero (by omega) h
  obtain ⟨h3, h⟩ := cond_zero (by omega) h
  obtain ⟨h4, h⟩ := cond_zero (by omega) h
  obtain ⟨h5, h⟩ := cond_zero (by omega) h
  obtain ⟨h6, h⟩ := cond_zero (by omega) h
  obtain ⟨h7, _⟩ := cond_zero (by omega) h
  obtain ⟨hck, hon⟩ := rgt_n (by rw [h1]; rfl : (rgtE l o != 0) = false)
  obtain ⟨_, htn⟩ := out_no h2
  unfold out at h2
  rw [Bool.or_eq_false_iff] at h2
  have ht0 := of_ltF h2.1
  rw [Bool.or_eq_false_iff] at h4
  have h7 := of_leF h7
  have hm := mosE_eq hck (Nat.lt_of_le_of_lt (Nat.zero_le _) htn)
  have hm0 : 0 ≤ mosE l := by rw [hm]; exact mxE_zero l _
  refine ⟨?_, ck_to hck, hon, by omega, htn, fun i hi hr hl => ?_, h4.1, by simpa using h4.2, by simpa using h5, hm0, by omega, fun i hi => by rw [hm]; exact mxE_ge l _ i hi, (bst_rng _ _ _).1, (bst_rng _ _ _).2, fun h0 => ?_⟩
  · rw [hp, w64_id (by omega) (by omega)]
  · cases ho : o.at i
    · rw [anyB_iff.2 ⟨i, hi, by unfold lvp prm; rw [hr, hl, ho]; rfl⟩] at h3; cases h3
    · rfl
  · have := bst_al (prm l) (epo l) l.n h0
    have : ((l.at (froI l).toNat).r == 1) = true := this
    simpa using this

/-! ### each step -/

theorem stp_ok {p : Prc} {l : Ses} {ok : Bool} {v : Int} (h1 : chkF p = 0) (h2 : ckE l = 0) (hd : p.d = false) (hx : p.x = false) (hf : p.f < l.n) (ht : p.t < l.n) (ha : actE p l ok v = 0) : stpE p l ok v = 0 ∧ stpP p l ok v = actP p ok v ∧ stpL p l ok v = actL p l := by
  have h7 : le (toInt64 l.n) (imax p.f p.t) = false := by
    refine leF' ?_
    show ¬ (l.n : Int) ≤ _
    unfold imax
    cases lt p.f p.t
    · show ¬ (l.n : Int) ≤ p.f; omega
    · show ¬ (l.n : Int) ≤ p.t; omega
  have hpre : preE p l = 0 := by
    unfold preE
    rw [h1, h2, hd, hx, h7]; rfl
  have he : stpE p l ok v = 0 := by
    unfold stpE
    rw [hpre, ha]; rfl
  unfold stpP stpL
  rw [he]
  exact ⟨rfl, rfl, rfl⟩

theorem chkF_of {f t s e c : Int} (hf : -1 ≤ f ∧ f < 4) (ht : 0 ≤ t ∧ t < 4) (hn : f ≠ t) (hs : 0 ≤ s ∧ s < 4) (he : 1 ≤ e ∧ e ≤ 1073741824) (hc : 0 ≤ c ∧ c ≤ 1073741824) : chkF ⟨2, f, t, s, e, c, false, false⟩ = 0 := by
  have a1 : rngA ⟨2, f, t, s, e, c, false, false⟩ = false := by
    show (Sx.lt f (-1) || le 4 f || Sx.lt t 0 || le 4 t || f == t) = false
    rw [ltF' (by omega), leF' (by omega), ltF' (by omega), leF' (by omega)]
    simpa using hn
  have a2 : rngB ⟨2, f, t, s, e, c, false, false⟩ = false := by
    show (Sx.lt s 0 || Sx.lt 4 s || Sx.lt e 1 || Sx.lt 1073741824 e || Sx.lt c 0 || Sx.lt 1073741824 c) = false
    rw [ltF' (by omega), ltF' (by omega), ltF' (by omega), ltF' (by omega), ltF' (by omega), ltF' (by omega)]; rfl
  have a3 : badS ⟨2, f, t, s, e, c, false, false⟩ = false := by
    show (!(false == (s == 4)) || (false && s != 0)) = false
    have : (s == 4) = false := by rw [beq_eq_false_iff_ne]; omega
    rw [this]; rfl
  unfold chkF
  rw [a1, a2, a3]; rfl

theorem okS_demo {x : Sit} (y s : Int) (h : okS x) : okS (demo x y s) := h
theorem okS_pro {x : Sit} (y : Int) (h : okS x) : okS (pro x y) := h

/-- one site of sites that are in order is replaced -/
theorem Ck.set {l : Ses} (h : Ck l) {i : Nat} (hi : i < l.n) {x : Sit} (hx : okS x) (ho : SiteOk x) (ha : x.a = (l.at i).a) (hp : x.r = 1 → ∀ j, j < l.n → j ≠ i → (l.at j).r = 1 → (l.at j).e ≠ x.e) : Ck (setS l i x) := by
  have hat := at_setS (l := l) (i := i) hx
  refine ⟨h.n, fun k hk => ?_, fun k j hk hj hne => ?_, fun k j hk hj hne r1 r2 => ?_⟩
  · have hk : k < l.n := hk
    rw [hat]
    split
    · exact ho
    · exact h.ok k hk
  · have hk : k < l.n := hk
    have hj : j < l.n := hj
    have e : ∀ k, k < l.n → ((setS l i x).at k).a = (l.at k).a := fun k _ => by
      rw [hat]
      by_cases hki : k = i
      · subst hki; rw [if_pos rfl, ha]
      · rw [if_neg hki]
    rw [e k hk, e j hj]
    exact h.num k j hk hj hne
  · have hk : k < l.n := hk
    have hj : j < l.n := hj
    rw [hat] at r1 r2 ⊢
    rw [hat]
    by_cases hki : k = i
    · by_cases hji : j = i
      · omega
      · rw [if_pos hki] at r1 ⊢
        rw [if_neg hji] at r2 ⊢
        exact fun e => hp r1 j hj hji r2 e.symm
    · rw [if_neg hki] at r1 ⊢
      by_cases hji : j = i
      · rw [if_pos hji] at r2 ⊢
        exact hp r2 k hk hki r1
      · rw [if_neg hji] at r2 ⊢
        exact h.pri k j hk hj hne r1 r2

/-! ### all of them -/

def rnP (l : Ses) (o : Los) (t : Int) : Nat → Prc × Ses
  | 0 => (begP l o t, l)
  | i + 1 => (stpP (rnP l o t i).1 (rnP l o t i).2 true (rnP l o t i).1.e, stpL (rnP l o t i).1 (rnP l o t i).2 true (rnP l o t i).1.e)
def rnE (l : Ses) (o : Los) (t : Int) (i : Nat) : Int := stpE (rnP l o t i).1 (rnP l o t i).2 true (rnP l o t i).1.e

/-- the procedure before a step -/
def prc (l : Ses) (t s : Int) : Prc := ⟨2, froI l, t, s, mosE l + 1, (l.at t.toNat).p, false, false⟩
/-- the sites, with the old primary fenced off -/
def ses1 (l : Ses) : Ses := bif lt (froI l) 0 then l else setS l (froI l).toNat (demo (l.at (froI l).toNat) (mosE l + 1) (-1))
/-- and the new one promoted -/
def ses2 (l : Ses) (tn : Nat) : Ses := setS (ses1 l) tn (pro (l.at tn) (mosE l + 1))
/-- and the others behind it -/
def ses3 (l : Ses) (tn : Nat) : Ses := ⟨l.n, jnV tn (mosE l + 1) (l.at tn).a (ses2 l tn) l.n⟩

section
variable {l : Ses} {o : Los} {t : Int} {tn : Nat}

theorem BegOk.fne (h : BegOk l o t tn) : froI l ≠ tn := fun he => by
  have h1 := h.fr (by omega)
  have : (froI l).toNat = tn := by omega
  rw [this] at h1
  have h2 := h.fo
  rw [h1] at h2; cases h2
theorem BegOk.chk (h : BegOk l o t tn) {s : Int} (hs : 0 ≤ s ∧ s < 4) : chkF (prc l t s) = 0 := by
  have o := h.ck.ok tn h.lt
  have e : t.toNat = tn := by have := h.t; omega
  have hn := h.ck.n
  have := h.lt
  unfold prc
  rw [e]
  refine chkF_of ⟨h.f0, by have := h.f1; omega⟩ ⟨by have := h.t; omega, by have := h.t; omega⟩ ?_ hs ⟨by have := h.m0; omega, by have := h.m1; omega⟩ ⟨o.p0, o.p1⟩
  have := h.fne
  have := h.t
  omega

theorem BegOk.at1 (_ : BegOk l o t tn) (i : Nat) : (ses1 l).at i = if (i : Int) = froI l then demo (l.at i) (mosE l + 1) (-1) else l.at i := by
  unfold ses1
  cases hf : Sx.lt (froI l) 0
  · have hf := of_ltF hf
    show (setS l (froI l).toNat _).at i = _
    rw [at_setS (okS_demo _ _ (okS_at l _))]
    by_cases hi : i = (froI l).toNat
    · subst hi
      rw [if_pos rfl, if_pos (by omega)]
    · rw [if_neg hi, if_neg (by omega)]
  · rw [lt_iff] at hf
    rw [if_neg (by omega)]; rfl
theorem BegOk.n1 (_ : BegOk l o t tn) : (ses1 l).n = l.n := by
  unfold ses1
  cases Sx.lt (froI l) 0 <;> rfl
theorem BegOk.dem (h : BegOk l o t tn) (h0 : 0 ≤ froI l) : demoE (l.at (froI l).toNat) (mosE l + 1) (-1) = 0 := by
  have h1 := h.fr h0
  have hlt : (froI l).toNat < l.n := by have := h.f1; omega
  have h2 := h.me _ hlt
  have h3 := h.m1
  unfold demoE
  rw [h1, chk_of_ok (h.ck.ok _ hlt), (le_iff _ _).2 (by omega : (l.at (froI l).toNat).e ≤ mosE l + 1), (le_iff _ _).2 (by omega : mosE l + 1 ≤ 1073741824)]
  rfl
theorem BegOk.ck1 (h : BegOk l o t tn) : Ck (ses1 l) := by
  unfold ses1
  cases hf : Sx.lt (froI l) 0
  · have hf := of_ltF hf
    have hlt : (froI l).toNat < l.n := by have := h.f1; omega
    obtain ⟨h1, _⟩ := demo_ok (h.dem (by omega))
    refine h.ck.set hlt (okS_at l _) h1 rfl fun hr => ?_
    have : (demo (l.at (froI l).toNat) (mosE l + 1) (-1)).r = 5 := rfl
    rw [this] at hr; omega
  · exact h.ck
theorem BegOk.at1t (h : BegOk l o t tn) : (ses1 l).at tn = l.at tn := by
  rw [h.at1, if_neg fun e => h.fne e.symm]
theorem fol_or {r : Int} (h : fol r = true) : r = 2 ∨ r = 3 := by
  unfold fol at h
  simpa using h
theorem BegOk.pro (h : BegOk l o t tn) : proE ((ses1 l).at tn) (mosE l + 1) = 0 := by
  have h2 := h.me _ h.lt
  have h3 := h.m1
  rw [h.at1t]
  unfold proE
  rw [chk_of_ok (h.ck.ok _ h.lt), h.al, (lt_iff _ _).2 (by omega : (l.at tn).e < mosE l + 1), (le_iff _ _).2 (by omega : mosE l + 1 ≤ 1073741824)]
  rcases fol_or h.fo with e | e
  · rw [e]; rfl
  · rw [e]; rfl
theorem BegOk.at2 (h : BegOk l o t tn) (i : Nat) : (ses2 l tn).at i = if i = tn then Go.Proofs.Ytennlgngdjegoaa.pro (l.at tn) (mosE l + 1) else if (i : Int) = froI l then demo (l.at i) (mosE l + 1) (-1) else l.at i := by
  unfold ses2
  rw [at_setS (okS_pro _ (okS_at l _))]
  split
  · rfl
  · exact h.at1 i
theorem BegOk.ck2 (h : BegOk l o t tn) : Ck (ses2 l tn) := by
  have hp := h.pro
  rw [h.at1t] at hp
  obtain ⟨h1, _⟩ := pro_ok hp
  refine h.ck1.set (by rw [h.n1]; exact h.lt) (okS_at l _) h1 (by rw [h.at1t]; rfl) fun _ j hj hne hr => ?_
  rw [h.n1] at hj
  have e : (Go.Proofs.Ytennlgngdjegoaa.pro (l.at tn) (mosE l + 1)).e = mosE l + 1 := rfl
  have hje := h.me j hj
  rw [h.at1] at hr ⊢
  rw [e]
  by_cases hjf : (j : Int) = froI l
  · rw [if_pos hjf] at hr
    have : (demo (l.at j) (mosE l + 1) (-1)).r = 5 := rfl
    rw [this] at hr; omega
  · rw [if_neg hjf]; omega

/-- who follows can -/
theorem BegOk.join (h : BegOk l o t tn) {i : Nat} (hi : i < l.n) (hs : skp tn (ses2 l tn) i = false) : jnE ((ses2 l tn).at i) (mosE l + 1) (l.at tn).a = 0 ∧ (ses2 l tn).at i = l.at i ∧ i ≠ tn ∧ (i : Int) ≠ froI l := by
  unfold skp at hs
  rw [Bool.or_eq_false_iff] at hs
  have hit : i ≠ tn := fun e => by rw [e] at hs; simp at hs
  have hfo : fol ((ses2 l tn).at i).r = true := by simpa using hs.2
  have hat := h.at2 i
  rw [if_neg hit] at hat
  have hif : (i : Int) ≠ froI l := fun e => by
    rw [if_pos e] at hat
    rw [hat] at hfo; cases hfo
  rw [if_neg hif] at hat
  rw [hat] at hfo ⊢
  have hi2 := h.me i hi
  have hm := h.m1
  have hm0 := h.m0
  have ok := h.ck.ok i hi
  have okt := h.ck.ok tn h.lt
  have hnum : oth (l.at tn).a (l.at i).a = true := by
    have := h.ck.num tn i h.lt hi (Ne.symm hit)
    have hn := okt.num
    unfold sit at hn
    rw [Bool.and_eq_true, le_iff, lt_iff] at hn
    unfold oth
    rw [(le_iff _ _).2 (by omega), (le_iff _ _).2 (by omega : (l.at tn).a ≤ 3)]
    simpa [bne] using this
  have g1 : le (l.at i).e (mosE l + 1) = true := (le_iff _ _).2 (by omega)
  have g2 : (mosE l + 1 != 0) = true := by
    have : mosE l + 1 ≠ 0 := by omega
    simpa [bne] using this
  have g3 : le (mosE l + 1) 1073741824 = true := (le_iff _ _).2 (by omega)
  refine ⟨?_, rfl, hit, hif⟩
  rcases fol_or hfo with e | e
  · have hiso := iso_no (chk_of_ok ok) e
    obtain ⟨h1, _⟩ := iso_ok hiso
    unfold jnE
    rw [e, hiso]
    show rejE (iso (l.at i)) (mosE l + 1) (l.at tn).a = 0
    unfold rejE
    rw [chk_of_ok h1]
    have e1 : (iso (l.at i)).e = (l.at i).e := rfl
    have e2 : (iso (l.at i)).a = (l.at i).a := rfl
    have e3 : (iso (l.at i)).r = 3 := rfl
    rw [e1, e2, e3, g1, g2, g3, hnum]; rfl
  · unfold jnE
    rw [e]
    show rejE (l.at i) (mosE l + 1) (l.at tn).a = 0
    unfold rejE
    rw [chk_of_ok ok, e, g1, g2, g3, hnum]; rfl

theorem BegOk.at3 (h : BegOk l o t tn) {i : Nat} (hi : i < l.n) : (ses3 l tn).at i = if i = tn then Go.Proofs.Ytennlgngdjegoaa.pro (l.at tn) (mosE l + 1) else if (i : Int) = froI l then demo (l.at i) (mosE l + 1) (-1) else if fol (l.at i).r = true then jnS (l.at i) (mosE l + 1) (l.at tn).a else l.at i := by
  have e : (ses3 l tn).at i = if i < l.n ∧ skp tn (ses2 l tn) i = false then jnS ((ses2 l tn).at i) (mosE l + 1) (l.at tn).a else (ses2 l tn).at i := by
    have hn : (ses2 l tn).n = l.n := h.n1
    have := at_jn tn (mosE l + 1) (l.at tn).a (ses2 l tn) l.n i
    rw [hn] at this
    exact this
  rw [e]
  cases hs : skp tn (ses2 l tn) i
  · obtain ⟨_, h1, h2, h3⟩ := h.join hi hs
    rw [if_pos ⟨hi, rfl⟩, if_neg h2, if_neg h3, h1]
    have : fol (l.at i).r = true := by
      unfold skp at hs
      rw [Bool.or_eq_false_iff, h1] at hs
      simpa using hs.2
    rw [if_pos this]
  · rw [if_neg (fun g => by cases g.2), h.at2]
    by_cases h1 : i = tn
    · rw [if_pos h1, if_pos h1]
    · rw [if_neg h1, if_neg h1]
      by_cases h2 : (i : Int) = froI l
      · rw [if_pos h2, if_pos h2]
      · rw [if_neg h2, if_neg h2]
        have hat := h.at2 i
        rw [if_neg h1, if_neg h2] at hat
        unfold skp at hs
        rw [hat, Bool.or_eq_true] at hs
        rcases hs with hs | hs
        · exact (h1 (by have : (i : Int) = tn := by simpa using hs
                        omega)).elim
        · rw [if_neg (by simpa using hs)]

/-- who followed is being resynchronized from the new primary -/
theorem BegOk.jn (h : BegOk l o t tn) {i : Nat} (hi : i < l.n) (hs : skp tn (ses2 l tn) i = false) : SiteOk (jnS (l.at i) (mosE l + 1) (l.at tn).a) ∧ jnS (l.at i) (mosE l + 1) (l.at tn).a = { l.at i with r := 4, e := mosE l + 1, s := (l.at tn).a } := by
  obtain ⟨h1, h2, h3, h4⟩ := h.join hi hs
  rw [h2] at h1
  have hme := h.me i hi
  unfold jnE at h1
  unfold jnS
  cases hr : (l.at i).r == 2
  · rw [hr] at h1
    have h1 : rejE (l.at i) (mosE l + 1) (l.at tn).a = 0 := h1
    obtain ⟨a, _⟩ := rej_ok h1
    refine ⟨a, ?_⟩
    show rej (l.at i) (mosE l + 1) (l.at tn).a = _
    unfold rej
    have : (mosE l + 1 == (l.at i).e) = false := by rw [beq_eq_false_iff_ne]; omega
    rw [this, Bool.and_false]; rfl
  · rw [hr] at h1
    obtain ⟨_, h1⟩ := cond_ne h1
    obtain ⟨a, _⟩ := rej_ok h1
    refine ⟨a, ?_⟩
    show rej (iso (l.at i)) (mosE l + 1) (l.at tn).a = _
    unfold rej
    have : (mosE l + 1 == (iso (l.at i)).e) = false := by rw [beq_eq_false_iff_ne]; show mosE l + 1 ≠ (l.at i).e; omega
    rw [this, Bool.and_false]; rfl

theorem BegOk.ck3 (h : BegOk l o t tn) : Ck (ses3 l tn) := by
  have hn : (ses2 l tn).n = l.n := h.n1
  have e : ∀ i, i < l.n → (ses3 l tn).at i = if skp tn (ses2 l tn) i = false then jnS ((ses2 l tn).at i) (mosE l + 1) (l.at tn).a else (ses2 l tn).at i := fun i hi => by
    have := at_jn tn (mosE l + 1) (l.at tn).a (ses2 l tn) l.n i
    rw [hn] at this
    refine Eq.trans this ?_
    by_cases hs : skp tn (ses2 l tn) i = false
    · rw [if_pos hs, if_pos ⟨hi, hs⟩]
    · rw [if_neg hs, if_neg fun g => hs g.2]
  have c := h.ck2
  have key : ∀ i, i < l.n → SiteOk ((ses3 l tn).at i) ∧ ((ses3 l tn).at i).a = ((ses2 l tn).at i).a ∧ (((ses3 l tn).at i).r = 1 → (ses3 l tn).at i = (ses2 l tn).at i) := fun i hi => by
    rw [e i hi]
    by_cases hs : skp tn (ses2 l tn) i = false
    · rw [if_pos hs]
      obtain ⟨_, h2, _, _⟩ := h.join hi hs
      obtain ⟨a, b⟩ := h.jn hi hs
      rw [h2, b]
      rw [b] at a
      exact ⟨a, rfl, fun g => by have g : (4 : Int) = 1 := g
                                 omega⟩
    · rw [if_neg hs]
      exact ⟨c.ok i (by rw [hn]; exact hi), rfl, fun _ => rfl⟩
  refine ⟨by show l.n ≤ 4; exact h.ck.n, fun i hi => (key i hi).1, fun i j hi hj hne => ?_, fun i j hi hj hne r1 r2 => ?_⟩
  · rw [(key i hi).2.1, (key j hj).2.1]
    exact c.num i j (by rw [hn]; exact hi) (by rw [hn]; exact hj) hne
  · have e1 := (key i hi).2.2 r1
    have e2 := (key j hj).2.2 r2
    rw [e1] at r1 ⊢
    rw [e2] at r2 ⊢
    exact c.pri i j (by rw [hn]; exact hi) (by rw [hn]; exact hj) hne r1 r2

theorem BegOk.rn0 (h : BegOk l o t tn) : rnP l o t 0 = (prc l t 0, l) := by
  show (begP l o t, l) = _
  rw [h.p]
  have e : t.toNat = tn := by have := h.t; omega
  unfold prc
  rw [e]

theorem BegOk.step0 (h : BegOk l o t tn) : rnE l o t 0 = 0 ∧ rnP l o t 1 = (prc l t 1, l) := by
  have ha : actE (prc l t 0) l true (mosE l + 1) = 0 := by
    show askE l true (mosE l + 1) = 0
    unfold askE
    have h0 := h.m0
    have h1 := h.m1
    rw [ltF' (by omega), ltF' (by omega)]
    rw [anyB_none fun i hi => by unfold olde; exact leF' (by have := h.me i hi; omega)]; rfl
  obtain ⟨a, b, c⟩ := stp_ok (ok := true) (v := mosE l + 1) (h.chk (s := 0) (by omega)) (ck_of h.ck) rfl rfl h.f1 (by have := h.t; have := h.lt; show t < _; omega) ha
  unfold rnE
  refine ⟨by rw [h.rn0]; exact a, ?_⟩
  show (stpP (rnP l o t 0).1 (rnP l o t 0).2 true (rnP l o t 0).1.e, stpL (rnP l o t 0).1 (rnP l o t 0).2 true (rnP l o t 0).1.e) = _
  rw [h.rn0]
  show (stpP (prc l t 0) l true (mosE l + 1), stpL (prc l t 0) l true (mosE l + 1)) = _
  rw [b, c]; rfl

theorem BegOk.step1 (h : BegOk l o t tn) : rnE l o t 1 = 0 ∧ rnP l o t 2 = (prc l t 2, ses1 l) := by
  have hnof : nofP (prc l t 1) l = Sx.lt (froI l) 0 := by
    show (Sx.lt (froI l) 0 || (l.at (froI l).toNat).r != 1) = _
    cases hf : Sx.lt (froI l) 0
    · rw [h.fr (by have := of_ltF hf; omega)]; rfl
    · rfl
  have ha : actE (prc l t 1) l true (mosE l + 1) = 0 := by
    show fenE (prc l t 1) l = 0
    unfold fenE
    rw [hnof]
    cases hf : Sx.lt (froI l) 0
    · exact h.dem (by have := of_ltF hf; omega)
    · rfl
  have hL : actL (prc l t 1) l = ses1 l := by
    show (bif nofP (prc l t 1) l then l else setS l (froI l).toNat (demo (l.at (froI l).toNat) (mosE l + 1) (-1))) = _
    rw [hnof]; rfl
  obtain ⟨a, b, c⟩ := stp_ok (ok := true) (v := mosE l + 1) (h.chk (s := 1) (by omega)) (ck_of h.ck) rfl rfl h.f1 (by have := h.t; have := h.lt; show t < _; omega) ha
  unfold rnE
  have e1 := h.step0.2
  refine ⟨by rw [e1]; exact a, ?_⟩
  show (stpP (rnP l o t 1).1 (rnP l o t 1).2 true (rnP l o t 1).1.e, stpL (rnP l o t 1).1 (rnP l o t 1).2 true (rnP l o t 1).1.e) = _
  rw [e1]
  show (stpP (prc l t 1) l true (mosE l + 1), stpL (prc l t 1) l true (mosE l + 1)) = _
  rw [b, c, hL]; rfl

theorem BegOk.step2 (h : BegOk l o t tn) : rnE l o t 2 = 0 ∧ rnP l o t 3 = (prc l t 3, ses2 l tn) := by
  have e : t.toNat = tn := by have := h.t; omega
  have ha : actE (prc l t 2) (ses1 l) true (mosE l + 1) = 0 := by
    show proE ((ses1 l).at t.toNat) (mosE l + 1) = 0
    rw [e]
    exact h.pro
  have hL : actL (prc l t 2) (ses1 l) = ses2 l tn := by
    show setS (ses1 l) t.toNat (Go.Proofs.Ytennlgngdjegoaa.pro ((ses1 l).at t.toNat) (mosE l + 1)) = _
    rw [e, h.at1t]; rfl
  obtain ⟨a, b, c⟩ := stp_ok (ok := true) (v := mosE l + 1) (h.chk (s := 2) (by omega)) (ck_of h.ck1) rfl rfl (by rw [h.n1]; exact h.f1) (by rw [h.n1]; have := h.t; have := h.lt; show t < _; omega) ha
  unfold rnE
  have e1 := h.step1.2
  refine ⟨by rw [e1]; exact a, ?_⟩
  show (stpP (rnP l o t 2).1 (rnP l o t 2).2 true (rnP l o t 2).1.e, stpL (rnP l o t 2).1 (rnP l o t 2).2 true (rnP l o t 2).1.e) = _
  rw [e1]
  show (stpP (prc l t 2) (ses1 l) true (mosE l + 1), stpL (prc l t 2) (ses1 l) true (mosE l + 1)) = _
  rw [b, c, hL]; rfl

theorem BegOk.step3 (h : BegOk l o t tn) : rnE l o t 3 = 0 ∧ rnP l o t 4 = ({ prc l t 4 with d := true }, ses3 l tn) := by
  have e : t.toNat = tn := by have := h.t; omega
  have hn : (ses2 l tn).n = l.n := h.n1
  have hnum : numT (prc l t 3) (ses2 l tn) = (l.at tn).a := by
    show ((ses2 l tn).at t.toNat).a = _
    rw [e, h.at2, if_pos rfl]; rfl
  have hj : anyB (jb (prc l t 3) (ses2 l tn)) (ses2 l tn).n = false := anyB_none fun i hi => by
    rw [hn] at hi
    unfold jb jbad
    rw [hnum]
    have et : (prc l t 3).t = tn := h.t
    rw [et]
    cases hs : skp tn (ses2 l tn) i
    · have := (h.join hi hs).1
      show (!false && jnE ((ses2 l tn).at i) (mosE l + 1) (l.at tn).a != 0) = false
      rw [this]; rfl
    · rfl
  have ha : actE (prc l t 3) (ses2 l tn) true (mosE l + 1) = 0 := by
    show joiE (prc l t 3) (ses2 l tn) = 0
    unfold joiE
    rw [hj]; rfl
  have hL : actL (prc l t 3) (ses2 l tn) = ses3 l tn := by
    show (⟨(ses2 l tn).n, jnV t (mosE l + 1) (numT (prc l t 3) (ses2 l tn)) (ses2 l tn) (ses2 l tn).n⟩ : Ses) = _
    rw [hnum, hn, h.t]; rfl
  obtain ⟨a, b, c⟩ := stp_ok (ok := true) (v := mosE l + 1) (h.chk (s := 3) (by omega)) (ck_of h.ck2) rfl rfl (by rw [hn]; exact h.f1) (by rw [hn]; have := h.t; have := h.lt; show t < _; omega) ha
  unfold rnE
  have e1 := h.step2.2
  refine ⟨by rw [e1]; exact a, ?_⟩
  show (stpP (rnP l o t 3).1 (rnP l o t 3).2 true (rnP l o t 3).1.e, stpL (rnP l o t 3).1 (rnP l o t 3).2 true (rnP l o t 3).1.e) = _
  rw [e1]
  show (stpP (prc l t 3) (ses2 l tn) true (mosE l + 1), stpL (prc l t 3) (ses2 l tn) true (mosE l + 1)) = _
  rw [b, c, hL]; rfl
end

end Fo
end Go.Proofs.Ytennlgngdjegoaa
/-
  The unplanned change of the primary: a site that is chosen is the best; a lease that is refused.
-/
namespace Go.Proofs.Ytennlgngdjegoaa
open Go Go.Sx Go.RowKit Classical

set_option maxRecDepth 100000
set_option maxHeartbeats 4000000

namespace Fo

noncomputable def Gepc : List A1 → Option (Bool × AV)
  | [.agg [.int .i64 a, .int .i64 r, .int .i64 e, .int .i64 p, .sl [.int .i64, .int .i64, .int .i64] n ρ, .int .i64 s, .bool l, .bool c]] => some (dec (fewN n), .one (.c (I (age ⟨a, r, e, p, n, ρ, s, l, c⟩))))
  | _ => none
theorem pEpc : TcOne Try.prog 29 (nG Gepc) := tcOne_of_tree hL 10 29 fun args r h => by
  unfold Gepc at h; split at h
  · rename_i a r e p n ρ s l c
    obtain ⟨hp, rfl⟩ := Prod.mk.inj (Option.some.inj h)
    have hp := dec_iff.1 hp
    refine ⟨rfl, .br (toInt64 n == 0) (.leaf (.one (.c (I 0)))) (.need (inRange (IntKind.i64.wrap (toInt64 n - 1)) n) (.leaf (.one (.c (I (spn ρ (IntKind.i64.wrap (toInt64 n - 1)).toNat).e))))), by kernel_rfl, fun h0 => ?_, fun h0 => ?_⟩
    · have h0 : (n : Int) = 0 := by simpa [toInt64] using h0
      have : hd ⟨n, ρ⟩ = ⟨0, 0, 0⟩ := hd_none (l := ⟨n, ρ⟩) (by rw [← Bool.not_eq_true, lt_iff]; show ¬ (0 : Int) < (n : Int); omega)
      show _ = AV.one (.c (I (hd ⟨n, ρ⟩).e))
      rw [this]
    · have h0 : (n : Int) ≠ 0 := by simpa [toInt64] using h0
      obtain ⟨a, b⟩ := hd_some (l := ⟨n, ρ⟩) hp (by rw [lt_iff]; show (0 : Int) < (n : Int); omega)
      simp only at a b
      refine ⟨a, ?_⟩
      show _ = AV.one (.c (I (hd ⟨n, ρ⟩).e))
      rw [b]
  · cases h

noncomputable abbrev HBs0 : Hd := ⟨(29, nG Gepc) :: HL.pc, HL.hc, [], HL.mc⟩
theorem hBs0 : HdOk Try.prog HBs0 := hL.tcCons pEpc

/-! ### the loop of the best -/

/-- several needs -/
def needs {α : Type} : List Bool → Tree α → Tree α
  | [], t => t
  | b :: l, t => .need b (needs l t)
theorem needs_all {α : Type} {p : α → Prop} : ∀ {l : List Bool} {t : Tree α}, l.all id = true → t.All p → (needs l t).All p
  | [], _, _, h => h
  | b :: l, t, hl, h => by
    rw [List.all_cons, Bool.and_eq_true] at hl
    exact ⟨hl.1, needs_all hl.2 h⟩

/-- a primary that is there, or the greatest epoch -/
def thB (l : Ses) (o : Los) (i : Nat) : Bool := (((l.at i).r == 1 && (l.at i).l) && !o.at i) || (l.at i).e == 1073741824

namespace Lb6
structure C where
  l : Ses
  o : Los
  b : Int
structure V where
  th : Bool
  i : Int
def S (c : C) (v : V) : St := mkS 179 [(0, .one (.c (.sl siSh c.l.n c.l.ρ))), (1, .one (.c (.sl [.bool] c.o.n c.o.ρ))), (4, .one (.c (.bool false))), (5, .one (.c (I c.b))), (7, .one (.c (.fn (.func 29) [] []))), (8, .one (.c (.bool v.th))), (9, .one (.c (I v.i)))] []
noncomputable def TX (c : C) (v : V) : Tree (XE × V) :=
  let n := c.l.n
  let k := c.o.n
  let i := v.i
  let x := c.l.at i.toNat
  let y := c.l.at c.b.toNat
  let q := c.o.at i.toNat
  let th := v.th
  let th' := (th || ((x.r == 1 && x.l) && !q)) || x.e == 1073741824
  let A := lt (age y) (age x)
  let E := age x == age y
  .br (lt i (toInt64 n)) (needs [!(th == false && true) || inRange i n, !((x.r == 1) == true && (th == false && true)) || inRange i n, !((x.r == 1 && x.l) == true && (th == false && true)) || inRange i k,
      !((th || ((x.r == 1 && x.l) && !q)) == false && true) || inRange i n, inRange i k, !(q == false && true) || inRange i n, !((q || !x.l) == false && true) || inRange i n, !((x.r != 2) == true && ((q || !x.l) == false && true)) || inRange i n]
    (.br ((q || !x.l) || (x.r != 2 && x.r != 3)) (.leaf (.normal, ⟨th', IntKind.i64.wrap (i + 1)⟩))
      (needs [inRange i n, dec (fewN x.n), inRange c.b n, dec (fewN y.n), !(A == false && true) || inRange i n, !(A == false && true) || dec (fewN x.n), !(A == false && true) || inRange c.b n, !(A == false && true) || dec (fewN y.n),
        !(E == true && (A == false && true)) || inRange i n, !(E == true && (A == false && true)) || inRange c.b n]
        (.br (A || (E && lt y.p x.p)) (.leaf (.ret, ⟨th', i⟩)) (.leaf (.normal, ⟨th', IntKind.i64.wrap (i + 1)⟩)))))) (.leaf (.exit 0, v))
theorem t (c : C) (v : V) : ((evCode Try.prog HBs0 (evFn Try.prog HBs0 10) 6 0 1 (loopBody Try.prog 6 0) (S c v)).bind fun y => gcT [0, 1, 4, 5, 7, 8, 9] 0 y) = (TX c v).bind fun y => .leaf (y.1, S c y.2) := by kernel_rfl
def st (c : C) (i : Nat) : V := ⟨anyB (thB c.l c.o) i, i⟩
def good (c : C) : Prop := c.o.n = c.l.n ∧ fewS c.l ∧ (inRange c.b c.l.n = true ∧ c.b.toNat < c.l.n) ∧ ∀ i, i < c.l.n → cand c.l c.o i = true → newr (c.l.at i) (c.l.at c.b.toNat) = false
theorem sq (c : C) (h : good c) : Sq (TX c) (fun v => (c.l.n - v.i).toNat) (st c) (st c) c.l.n (fun _ => false) .ret (.exit 0) where
  out := by simp
  hit := by simp
  meas i hi := by show ((c.l.n : Int) - (i : Int)).toNat = _; omega
  round i hi := by
    obtain ⟨ho, hf, ⟨hb, hb2⟩, hnew⟩ := h
    have hn := hf.1
    unfold fewN at hn
    have hw : IntKind.i64.wrap ((i : Int) + 1) = ((i + 1 : Nat) : Int) := by rw [w64_id (by omega) (by omega)]; omega
    have g1 : inRange (i : Int) c.l.n = true := inR hi
    have g2 : inRange (i : Int) c.o.n = true := inR (ho ▸ hi)
    have g3 : dec (fewN (c.l.at i).n) = true := dec_iff.2 (hf.2 i hi)
    have g4 : dec (fewN (c.l.at c.b.toNat).n) = true := dec_iff.2 (hf.2 _ hb2)
    have hst : (⟨((st c i).th || (((c.l.at i).r == 1 && (c.l.at i).l) && !c.o.at i)) || (c.l.at i).e == 1073741824, IntKind.i64.wrap ((i : Int) + 1)⟩ : V) = st c (i + 1) := by
      rw [hw]
      show _ = (⟨anyB (thB c.l c.o) i || thB c.l c.o i, ((i + 1 : Nat) : Int)⟩ : V)
      unfold thB
      rw [← Bool.or_assoc]; rfl
    have hi2 : (st c i).i = i := rfl
    unfold TX
    simp only [hi2, Int.toNat_natCast]
    refine ⟨fun _ => needs_all (by simp [g1, g2]) ⟨fun h1 => ?_, fun h1 => needs_all (by simp [g1, g3, g4, hb]) ⟨fun h2 => ?_, fun h2 => ?_⟩⟩, fun hlt => ?_⟩
    · show (XE.normal, _) = _
      rw [hst]
    · have hc : cand c.l c.o i = true := by
        rw [Bool.or_eq_false_iff, Bool.or_eq_false_iff] at h1
        unfold cand fol
        have a := h1.1.1
        have b := h1.1.2
        have d := h1.2
        rw [a]
        have b : (c.l.at i).l = true := by simpa using b
        rw [b]
        have d : ((c.l.at i).r == 2 || (c.l.at i).r == 3) = true := by
          rw [← Bool.not_eq_true] at d
          simp only [bne, Bool.and_eq_true, Bool.not_eq_true', not_and] at d
          cases e : (c.l.at i).r == 2
          · have := d e
            simpa using this
          · rfl
        rw [d]; rfl
      have := hnew i hi hc
      rw [newr_eq, h2] at this
      cases this
    · show (XE.normal, _) = _
      rw [hst]
    · rw [ltF hi] at hlt; cases hlt
  stop := by
    refine ⟨fun hlt => ?_, fun _ => rfl⟩
    have : lt (c.l.n : Int) (toInt64 c.l.n) = true := hlt
    rw [ltS] at this; cases this
def get : List (Nat × AV) → Mem → Option (C × V)
  | [(0, .one (.c (.sl [.int .i64, .int .i64, .int .i64, .int .i64, .sl [.int .i64, .int .i64, .int .i64], .int .i64, .bool, .bool] n ρ))), (1, .one (.c (.sl [.bool] k σ))), (4, .one (.c (.bool false))), (5, .one (.c (.int .i64 b))), (7, .one (.c (.fn (.func 29) [] []))), (8, .one (.c (.bool th))), (9, .one (.c (.int .i64 i)))], [] => some (⟨⟨n, ρ⟩, ⟨k, σ⟩, b⟩, ⟨th, i⟩)
  | _, _ => none
noncomputable def L : Nat → St → Tree (XE × St) := lqH [0, 1, 4, 5, 7, 8, 9] 0 179 get fun c v => lq1 (S c) (good c ∧ v = st c 0) (.exit 0) (st c c.l.n)
theorem ok (fn : Func) (c b : Code) (hf : Try.prog.funcs[6]? = some fn) (hc : fn.body = some c) (hb : nthLoop c 0 = some b) : LoopOk Try.prog b L :=
  lq1_ok hBs0 10 6 0 hf hc hb [0, 1, 4, 5, 7, 8, 9] 0 179 S TX t get (fun l m c v h => by unfold get at h; split at h <;> simp at h; obtain ⟨rfl, rfl⟩ := h; rfl)
    good (fun c v => (c.l.n - v.i).toNat) st (fun c => c.l.n) (.exit 0) sq (fun c => st c c.l.n) (fun _ _ => StWk.refl)
end Lb6

noncomputable abbrev HBs : Hd := ⟨HBs0.pc, HBs0.hc, [((6, 0), Lb6.L)], HBs0.mc⟩
theorem hBs : HdOk Try.prog HBs := HdOk.lhCons hBs0 Lb6.ok

/-! ### the best is the best -/

theorem bst_max {al : Nat → Bool} {gr : Nat → Nat → Bool} (irr : ∀ i, gr i i = false) (tr : ∀ i j k, gr i j = true → gr j k = true → gr i k = true) : ∀ n, 0 ≤ bstI al gr n → ∀ i, i < n → al i = true → gr i (bstI al gr n).toNat = false
  | 0, _, i, hi, _ => by omega
  | n + 1, h, i, hi, ha => by
    have ih := bst_max (al := al) irr tr n
    have hr := bst_rng al gr n
    unfold bstI at h ⊢
    cases hb : (al n && (lt (bstI al gr n) 0 || gr n (bstI al gr n).toNat))
    · rw [hb] at h
      simp only [cond_false] at h ⊢
      by_cases hin : i = n
      · subst hin
        rw [ha, Bool.true_and, Bool.or_eq_false_iff] at hb
        exact hb.2
      · exact ih h i (by omega) ha
    · simp only [cond_true, Int.toNat_natCast]
      by_cases hin : i = n
      · subst hin; exact irr i
      · rw [Bool.and_eq_true, Bool.or_eq_true] at hb
        cases hg : gr i n
        · rfl
        · rcases hb.2 with h0 | h0
          · rw [lt_iff] at h0
            have := bst_none (al := al) (gr := gr) n h0 i (by omega)
            rw [ha] at this; cases this
          · rw [← hg, ← Bool.not_eq_true]
            intro h2
            by_cases h3 : 0 ≤ bstI al gr n
            · have := ih h3 i (by omega) ha
              rw [tr _ _ _ h2 h0] at this; cases this
            · have := bst_none (al := al) (gr := gr) n (by omega) i (by omega)
              rw [ha] at this; cases this

theorem newr_iff (x y : Sit) : newr x y = true ↔ age y < age x ∨ age x = age y ∧ y.p < x.p := by
  rw [newr_eq, Bool.or_eq_true, Bool.and_eq_true, lt_iff, lt_iff, beq_iff_eq]
theorem newr_irr (x : Sit) : newr x x = false := by
  rw [← Bool.not_eq_true, newr_iff]; omega
theorem newr_tr {x y z : Sit} (h1 : newr x y = true) (h2 : newr y z = true) : newr x z = true := by
  rw [newr_iff] at h1 h2 ⊢; omega

theorem cho_ok {l : Ses} {o : Los} (h : choE l o = 0) : Ck l ∧ o.n = l.n ∧ choI l o = newI l o ∧ (inRange (newI l o) l.n = true ∧ (newI l o).toNat < l.n) ∧ (0 ≤ newI l o ∧ newI l o < l.n) ∧ cand l o (newI l o).toNat = true ∧ rgtE l o = 0 := by
  have hI : choI l o = newI l o := by unfold choI; rw [h]; rfl
  unfold choE at h
  obtain ⟨h1, h⟩ := cond_ne h
  obtain ⟨h2, _⟩ := cond_zero (by omega) h
  obtain ⟨a, b⟩ := rgt_n (by rw [h1]; rfl : (rgtE l o != 0) = false)
  have h2 := of_ltF h2
  have h3 := bst_rng (cand l o) (nwr l) l.n
  have h4 := bst_al (cand l o) (nwr l) l.n (by show 0 ≤ newI l o; omega)
  have h3 : -1 ≤ newI l o ∧ newI l o < l.n := h3
  refine ⟨ck_to a, b, hI, inI (by omega) h3.2, ⟨by omega, h3.2⟩, h4, h1⟩

theorem good6 {l : Ses} {o : Los} (hf : fewS l) (h : choE l o = 0) : Lb6.good ⟨l, o, choI l o⟩ := by
  obtain ⟨_, h2, h3, h4, h5, _⟩ := cho_ok h
  refine ⟨h2, hf, by rw [h3]; exact h4, fun i hi hc => ?_⟩
  show newr (l.at i) (l.at (choI l o).toNat) = false
  rw [h3]
  exact bst_max (al := cand l o) (gr := nwr l) (fun i => newr_irr _) (fun i j k => newr_tr) l.n h5.1 i hi hc

theorem begE_best {l : Ses} {o : Los} (h : choE l o = 0) : (begE l o (choI l o) == 0) = !anyB (thB l o) l.n := by
  obtain ⟨hck, hn, h3, h4, h5, h6, h7⟩ := cho_ok h
  unfold cand at h6
  rw [Bool.and_eq_true, Bool.and_eq_true] at h6
  have hl : 0 < l.n := by have := h4.2; omega
  have hm := mosE_eq (ck_of hck) hl
  unfold begE
  have e2 : out l (choI l o) = false := by
    unfold out
    rw [h3, ltF' (by omega), leF' (by show ¬ (l.n : Int) ≤ newI l o; omega)]; rfl
  have e4 : (o.at (newI l o).toNat || !(l.at (newI l o).toNat).l) = false := by
    rw [h6.1.1]
    simpa using h6.1.2
  rw [h7, e2, h3, e4, h6.2, newr_irr]
  have key : anyB (thB l o) l.n = (anyB (lvp l o) l.n || le 1073741824 (mosE l)) := by
    rw [Bool.eq_iff_iff, Bool.or_eq_true, anyB_iff, anyB_iff, le_iff]
    constructor
    · rintro ⟨i, hi, hb⟩
      unfold thB at hb
      rw [Bool.or_eq_true] at hb
      rcases hb with hb | hb
      · exact .inl ⟨i, hi, hb⟩
      · have := mxE_ge l l.n i hi
        have hb : (l.at i).e = 1073741824 := by simpa using hb
        right; omega
    · rintro (⟨i, hi, hb⟩ | hb)
      · exact ⟨i, hi, by unfold thB; have hb : (((l.at i).r == 1 && (l.at i).l) && !o.at i) = true := hb
                         rw [hb]; rfl⟩
      · have h1 := mos_in hl
        unfold inRange at h1
        rw [Bool.and_eq_true, le_iff, lt_iff] at h1
        have h1 : 0 ≤ mosI l ∧ mosI l < (l.n : Int) := h1
        have hi : (mosI l).toNat < l.n := by omega
        refine ⟨_, hi, ?_⟩
        have := (hck.ok _ hi).e1
        unfold thB
        have : (l.at (mosI l).toNat).e = 1073741824 := by
          have hb : 1073741824 ≤ (l.at (mosI l).toNat).e := hb
          omega
        rw [this]; simp
  rw [key]
  cases anyB (lvp l o) l.n
  · cases le 1073741824 (mosE l) <;> rfl
  · rfl

/-! ### the laws -/

theorem lawBest (l : Ses) (o : Los) {F : Nat → Prop} {W : World} {vs : List Value} (h : All2 (A1.Rel F W []) [.c (.sl siSh l.n l.ρ), .c (.sl [.bool] o.n o.ρ)] vs) :
    Calls Try.prog 6 vs.toArray W (fun e W' => e = .returned (.bool true) ∧ Below W.heap.size W W') := by
  let b := choI l o
  let e1 := (Sx.lt b 0 || le (toInt64 l.n) b) || toInt64 o.n != toInt64 l.n
  let e2 := e1 || o.at b.toNat
  let e3 := e2 || !(l.at b.toNat).l
  refine law_of_tree hBs 12 6 (u := .br (!fewL l || Sx.lt 20 (toInt64 o.n)) (.leaf (bT true)) (.need (dec (fewS l)) (.br (choE l o != 0) (.leaf (bT true)) (.need (!(e1 == false && true) || inRange b o.n) (.need (!(e2 == false && true) || inRange b l.n) (.br e3 (.leaf (bT false))
    (.need (dec (Lb6.good ⟨l, o, b⟩ ∧ (⟨false, ((0 : Nat) : Int)⟩ : Lb6.V) = Lb6.st ⟨l, o, b⟩ 0)) (.need (dec (fewS l)) (.leaf (bT ((begE l o b == 0) != anyB (thB l o) l.n)))))))))) ) (by kernel_rfl) ⟨fun _ => rfl, fun hf => ?_⟩ h
  rw [Bool.or_eq_false_iff] at hf
  have hf : fewL l = true := by simpa using hf.1
  have hs0 := small_fewS (fewL_small hf)
  have hs : dec (fewS l) = true := dec_iff.2 hs0
  refine ⟨hs, fun _ => rfl, fun hc => ?_⟩
  have hc : choE l o = 0 := by simpa [bne] using hc
  obtain ⟨_, h2, h3, h4, h5, h6, _⟩ := cho_ok hc
  have hb : b = newI l o := h3
  unfold cand at h6
  rw [Bool.and_eq_true, Bool.and_eq_true] at h6
  have h61 : (l.at b.toNat).l = true := by rw [hb]; exact h6.1.1
  have h62 : o.at b.toNat = false := by rw [hb]; simpa using h6.1.2
  have g1 : inRange b l.n = true := by rw [hb]; exact h4.1
  have g2 : inRange b o.n = true := by rw [h2]; exact g1
  have he1 : e1 = false := by
    show ((Sx.lt b 0 || le (toInt64 l.n) b) || toInt64 o.n != toInt64 l.n) = false
    rw [h2, hb, ltF' (by omega), leF' (by show ¬ (l.n : Int) ≤ newI l o; omega)]
    simp
  have he2 : e2 = false := by show (e1 || o.at b.toNat) = false; rw [he1, h62]; rfl
  have he3 : e3 = false := by show (e2 || !(l.at b.toNat).l) = false; rw [he2, h61]; rfl
  refine ⟨by rw [g2, Bool.or_true], by rw [g1, Bool.or_true], fun h => (by rw [he3] at h; cases h), fun _ => ⟨dec_iff.2 ⟨good6 hs0 hc, rfl⟩, hs, ?_⟩⟩
  show bT ((begE l o (choI l o) == 0) != anyB (thB l o) l.n) = _
  rw [begE_best hc]
  cases anyB (thB l o) l.n <;> rfl

theorem refused {l : Ses} {o : Los} {t : Int} (h : begE l o t = 0) :
    let p := begP l o t
    stpE p l false p.e = 0 ∧ (stpP p l false p.e).x = true ∧ (stpP p l false p.e).d = false ∧ stpL p l false p.e = l ∧ stpE (stpP p l false p.e) l true p.e = 12 := by
  have hb := beg_ok h
  obtain ⟨htn, hlt⟩ : t = t.toNat ∧ t.toNat < l.n := ⟨hb.t, hb.lt⟩
  intro p
  have hp : p = prc l t 0 := by
    have := hb.rn0
    exact congrArg Prod.fst this
  rw [hp]
  have hc := hb.chk (s := 0) (by omega)
  have hck := ck_of hb.ck
  have ht : (prc l t 0).t < l.n := by show t < _; omega
  obtain ⟨h1, h2, h3⟩ := stp_ok (p := prc l t 0) (l := l) (ok := false) (v := (prc l t 0).e) hc hck rfl rfl hb.f1 ht rfl
  have e2 : actP (prc l t 0) false (prc l t 0).e = { prc l t 0 with x := true } := rfl
  rw [e2] at h2
  rw [h2, h3, h1]
  refine ⟨rfl, rfl, rfl, rfl, ?_⟩
  have hc2 : chkF { prc l t 0 with x := true } = 0 := hc
  unfold stpE preE
  rw [hc2, hck]; rfl

theorem lawRefused (l : Ses) (o : Los) (t : Int) {F : Nat → Prop} {W : World} {vs : List Value} (h : All2 (A1.Rel F W []) [.c (.sl siSh l.n l.ρ), .c (.sl [.bool] o.n o.ρ), .c (I t)] vs) :
    Calls Try.prog 7 vs.toArray W (fun e W' => e = .returned (.bool true) ∧ Below W.heap.size W W') := by
  let p := begP l o t
  let k := stpE p l false p.e
  let q := stpP p l false p.e
  let m := stpL p l false p.e
  let e1 := (k != 0 || !q.x) || q.d
  refine law_of_tree hL 12 7 (u := .br (!fewL l || Sx.lt 20 (toInt64 o.n)) (.leaf (bT true)) (.need (dec (fewS l)) (.br (begE l o t != 0) (.leaf (bT true)) (.need (dec (smallS l)) (.need (!(e1 == false && true) || dec (fewS l)) (.br (e1 || !sameAll l m) (.leaf (bT false)) (.need (dec (smallS m)) (.leaf (bT (stpE q m true p.e == 12)))))))))) (by kernel_rfl) ⟨fun _ => rfl, fun hf => ?_⟩ h
  rw [Bool.or_eq_false_iff] at hf
  have hf : fewL l = true := by simpa using hf.1
  have hsm := fewL_small hf
  have hs : dec (fewS l) = true := dec_iff.2 (small_fewS hsm)
  refine ⟨hs, fun _ => rfl, fun hc => ?_⟩
  have hc : begE l o t = 0 := by simpa [bne] using hc
  obtain ⟨h1, h2, h3, h4, h5⟩ := refused hc
  have h1 : k = 0 := h1
  have h2 : q.x = true := h2
  have h3 : q.d = false := h3
  have h4 : m = l := h4
  have he1 : e1 = false := by
    show ((k != 0 || !q.x) || q.d) = false
    rw [h1, h2, h3]; rfl
  refine ⟨dec_iff.2 hsm, by rw [hs, Bool.or_true], fun h => ?_, fun _ => ⟨dec_iff.2 (by rw [h4]; exact hsm), ?_⟩⟩
  · rw [he1, h4, sameAll_refl] at h; cases h
  · show bT (stpE q m true p.e == 12) = _
    rw [h4]
    have h5 : stpE q l true p.e = 12 := h5
    rw [h5]; rfl

/-! ### the laws' arguments -/

theorem argL_eq (ρ : Val) : argOf Try.prog 23 [.sl siSh] ρ = .c (.sl siSh ((ρ.at 0).L []) (ρ.at 0)) := by kernel_rfl
theorem argB_eq (ρ : Val) : argOf Try.prog 55 [.sl [.bool]] ρ = .c (.sl [.bool] ((ρ.at 0).L []) (ρ.at 0)) := by kernel_rfl
theorem argI_eq (ρ : Val) : argOf Try.prog 3 [.int .i64] ρ = .c (I ((ρ.at 0).N [])) := by kernel_rfl

end Fo
end Go.Proofs.Ytennlgngdjegoaa
