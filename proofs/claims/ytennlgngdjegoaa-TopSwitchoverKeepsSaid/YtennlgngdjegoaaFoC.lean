/-
  The unplanned change of the primary: copies of slices, and of a history.
-/
import Derived.Test.YtennlgngdjegoaaFoB
namespace Go.Proofs.Ytennlgngdjegoaa
open Go Go.Sx Go.RowKit Classical

set_option maxRecDepth 100000
set_option maxHeartbeats 4000000

namespace Fo

/-- the copy of a slice, as one slice of one's own -/
def cl1 (E : TypeId) (es : List Sh) (sz bt : Nat) : List A1 → Tree (AV × Mem)
  | [.c .nils] => .leaf (.one (.c (.os 0 sz)), [some (E, [.row false es 0 Val.zero])])
  | [.c (.sl es' n ρ)] => if shEq.shsEq es' es then .need (Nat.ble ((0 + n) * bt) 140737488355328) (.leaf (.one (.c (.os 0 sz)), [some (E, [.row false es n ρ])])) else .fail
  | _ => .fail

theorem nils_own {E : TypeId} {es : List Sh} {sz : Nat} {ρ : Val} : WkO (.ret (.one (.c .nils)), []) (.ret (.one (.c (.os 0 sz))), [some (E, [.row false es 0 ρ])]) := by
  intro P F w bs e hm he
  obtain ⟨v, rfl, hv⟩ := he
  have hbs : bs = [] := by
    have := hm.len
    cases bs with
    | nil => rfl
    | cons _ _ => simp at this
  subst hbs
  refine ⟨F, [] ++ [⟨w.heap.size, 0, 0⟩], (Ext.refl (K := 0)).push (.inr (Nat.le_refl _)), hm.row0' E es ρ, v, rfl, ?_⟩
  have hv : CV.Rel F w [] .nils v := hv
  cases hv
  exact CV.Rel.os (F := F) (w := w) (b := 0) (sz := sz) (base := none) (x := ⟨w.heap.size, 0, 0⟩) rfl (fun h => by simp at h)

theorem cl1_ok {f : Nat} {E : TypeId} {es : List Sh} {sz bt : Nat} (h : NcOne Try.prog f (cloneG E es sz bt)) (h0 : (evFn Try.prog HN 5 f [.c .nils] []).sel = some (.one (.c .nils), [])) : NcOne Try.prog f (cl1 E es sz bt) := by
  intro args r m hG hcl F w vs hargs
  unfold cl1 at hG
  split at hG
  · simp only [Tree.sel, Option.some.injEq, Prod.mk.injEq] at hG
    obtain ⟨rfl, rfl⟩ := hG
    refine (evFn_ok0 hn 5 f [.c .nils] (.one (.c .nils)) [] h0 F w [] vs MemRel.nil hargs).mono fun e w2 ⟨v, F', bs', he, hext, hm', hr⟩ => ?_
    subst he
    obtain ⟨F2, bs2, e2, m2, v2, hv2, r2⟩ := nils_own (E := E) (es := es) (sz := sz) (ρ := Val.zero) Try.prog F' w2 bs' (.returned v) hm' ⟨v, rfl, hr⟩
    simp only [Ending.returned.injEq] at hv2
    subst hv2
    exact ⟨v, F2, bs2, rfl, hext.trans e2 (Nat.le_refl _), m2, r2⟩
  · rename_i es' n ρ
    split at hG
    · rename_i hs
      simp only [Tree.sel] at hG
      cases hb : Nat.ble ((0 + n) * bt) 140737488355328
      · rw [hb] at hG; simp at hG
      · rw [hb] at hG
        simp only [cond_true, Option.some.injEq, Prod.mk.injEq] at hG
        obtain ⟨rfl, rfl⟩ := hG
        have := h [.c (.sl es' n ρ)] (.one (.c (.os 1 sz))) [none, some (E, [.row false es n ρ])] (by simp only [cloneG, hs, if_true, Tree.sel, hb, cond_true]) hcl F w vs hargs
        refine this.mono fun e w2 ⟨v, F', bs', he, hext, hm', hr⟩ => ?_
        subst he
        obtain ⟨F2, bs2, e2, m2, v2, hv2, r2⟩ := WkO.row (b := 1) (sz := sz) (σ := ρ) rfl (fun _ _ _ _ _ => rfl) Try.prog F' w2 bs' (.returned v) hm' ⟨v, rfl, hr⟩
        simp only [Ending.returned.injEq] at hv2
        subst hv2
        exact ⟨v, F2, bs2, rfl, hext.trans e2 (Nat.le_refl _), m2, r2⟩
    · simp [Tree.sel] at hG
  · simp [Tree.sel] at hG

abbrev inSh : List Sh := [.int .i64]
abbrev scSh : List Sh := [.int .u8, .int .u8, .int .u8, .int .u8, .int .u8, .int .u8, .int .u8, .int .u8]
abbrev evSh : List Sh := [.int .i64, .int .i64]

theorem c92 : NcOne Try.prog 108 (cloneG 3 inSh 1 8) := clone_nc Try.func108 rfl rfl rfl rfl rfl rfl rfl rfl (by kernel_rfl) rfl (fun n ρ => by kernel_rfl)
  (fun n ρ => stC inSh n ρ true) (fun n ρ => mkS 8 [(0, .one (.c (.sl inSh n ρ))), (2, .one (.c (.os 1 1))), (3, .one (.c (.sl inSh n ρ))), (4, .one (.c (.bool false))), (5, .one (.c (.os 0 1))), (6, .one (.c (.sl inSh n ρ))), (7, .one (.c (.os 1 1)))] [none, some (3, [.row false inSh (0 + n) (Val.cat 0 (Val.ofFlat 1 []) ρ)])])
  (fun n ρ => by kernel_rfl) (fun n ρ => by kernel_rfl) (fun n ρ => rfl) (fun n ρ => by kernel_rfl) (fun n ρ => by kernel_rfl) (fun n ρ => rfl)
theorem n92 : NcOne Try.prog 108 (cl1 3 inSh 1 8) := cl1_ok c92 (by kernel_rfl)
theorem c94 : NcOne Try.prog 112 (cloneG 128 scSh 8 8) := clone_nc Try.func112 rfl rfl rfl rfl rfl rfl rfl rfl (by kernel_rfl) rfl (fun n ρ => by kernel_rfl)
  (fun n ρ => stC scSh n ρ true) (fun n ρ => mkS 8 [(0, .one (.c (.sl scSh n ρ))), (2, .one (.c (.os 1 8))), (3, .one (.c (.sl scSh n ρ))), (4, .one (.c (.bool false))), (5, .one (.c (.os 0 8))), (6, .one (.c (.sl scSh n ρ))), (7, .one (.c (.os 1 8)))] [none, some (128, [.row false scSh (0 + n) (Val.cat 0 (Val.ofFlat 8 []) ρ)])])
  (fun n ρ => by kernel_rfl) (fun n ρ => by kernel_rfl) (fun n ρ => rfl) (fun n ρ => by kernel_rfl) (fun n ρ => by kernel_rfl) (fun n ρ => rfl)
theorem n94 : NcOne Try.prog 112 (cl1 128 scSh 8 8) := cl1_ok c94 (by kernel_rfl)
theorem c130 : NcOne Try.prog 136 (cloneG 171 evSh 2 16) := clone_nc Try.func136 rfl rfl rfl rfl rfl rfl rfl rfl (by kernel_rfl) rfl (fun n ρ => by kernel_rfl)
  (fun n ρ => stC evSh n ρ true) (fun n ρ => mkS 8 [(0, .one (.c (.sl evSh n ρ))), (2, .one (.c (.os 1 2))), (3, .one (.c (.sl evSh n ρ))), (4, .one (.c (.bool false))), (5, .one (.c (.os 0 2))), (6, .one (.c (.sl evSh n ρ))), (7, .one (.c (.os 1 2)))] [none, some (171, [.row false evSh (0 + n) (Val.cat 0 (Val.ofFlat 2 []) ρ)])])
  (fun n ρ => by kernel_rfl) (fun n ρ => by kernel_rfl) (fun n ρ => rfl) (fun n ρ => by kernel_rfl) (fun n ρ => by kernel_rfl) (fun n ρ => rfl)
theorem n130 : NcOne Try.prog 136 (cl1 171 evSh 2 16) := cl1_ok c130 (by kernel_rfl)

/-- what the evaluator with panics says of a function that lays memory of its own -/
def evNc (P : Program) (H : Hd) (X : HdP) (n f : Nat) (args : List A1) : Tree (AV × Mem) := (evFnP P H X n f args []).bind fun y => match y.1 with
  | .ret a => .leaf (a, y.2)
  | .pan _ => .fail

theorem evNc_ok {P : Program} {H : Hd} (hH : HdOk P H) {X : HdP} (hX : XOk P X) (n f : Nat) : NcOne P f (evNc P H X n f) := by
  intro args r m hG hcl F w vs hargs
  obtain ⟨⟨o, m1⟩, h1, h2⟩ := sel_bind hG
  simp only at h2
  split at h2
  · rename_i a
    simp only [Tree.sel, Option.some.injEq, Prod.mk.injEq] at h2
    obtain ⟨rfl, rfl⟩ := h2
    refine (evFnP_ok hH hX n f args [] _ _ h1 F w [] vs MemRel.nil hargs).mono fun e w2 ⟨F', bs', hext, hm', v, hv, hr⟩ => ⟨v, F', bs', hv, hext, hm', hr⟩
  · simp [Tree.sel] at h2

/-- loops, round by round -/
def lhsOf (P : Program) (H : Hd) (n : Nat) : List (Nat × Nat) → List ((Nat × Nat) × (Nat → St → Tree (XE × St)))
  | [] => []
  | p :: r => ((p.1, p.2), unrollH P H 30 p.1 p.2 n) :: lhsOf P H n r

theorem lhs_ok {P : Program} {pc hc mc} (hb : HdOk P ⟨pc, hc, [], mc⟩) {H : Hd} (hH : HdOk P H) (n : Nat) : ∀ fs : List (Nat × Nat), HdOk P ⟨pc, hc, lhsOf P H n fs, mc⟩
  | [] => hb
  | p :: r => HdOk.lhCons (lhs_ok hb hH n r) fun _ _ _ hf hc hb => unroll_ok hH 30 p.1 p.2 hf hc hb n

noncomputable abbrev mcA : List (Nat × (List A1 → Mem → Tree (AV × Mem))) := [(108, ncG (cl1 3 inSh 1 8)), (112, ncG (cl1 128 scSh 8 8)), (136, ncG (cl1 171 evSh 2 16))]
theorem hA0 : HdOk Try.prog ⟨[], [], [], mcA⟩ := ((HdOk.nil.mcCons n130.mc).mcCons n94.mc).mcCons n92.mc
noncomputable abbrev HA1 : Hd := ⟨[], [], lhsOf Try.prog ⟨[], [], [], mcA⟩ 5 [(111, 0)], mcA⟩
theorem hA1 : HdOk Try.prog HA1 := lhs_ok hA0 hA0 5 _
noncomputable abbrev XA : HdP := ⟨[], [], [(108, cl1 3 inSh 1 8), (136, cl1 171 evSh 2 16)]⟩
theorem xA : XOk Try.prog XA := (XOk.nil.ncCons n130).ncCons n92
/-- the copy of a history -/
theorem n87 : NcOne Try.prog 111 (evNc Try.prog HA1 XA 30 111) := evNc_ok hA1 xA 30 111

/-- literals of plain data, heads of slices -/
def litK : Nat × (List A1 → Tree AV) := (4294967292, fun _ => .fail)
def headK : Nat × (List A1 → Tree AV) := (4294967291, fun _ => .fail)

end Fo
end Go.Proofs.Ytennlgngdjegoaa
/-
  The unplanned change of the primary: summaries at arguments that read as given ones.
-/
namespace Go.Proofs.Ytennlgngdjegoaa
open Go Go.Sx Go.RowKit Classical

set_option maxRecDepth 100000
set_option maxHeartbeats 4000000

namespace Fo

def allB (p : Nat → Bool) : Nat → Bool
  | 0 => true
  | n + 1 => allB p n && p n
theorem allB_ok {p : Nat → Bool} : ∀ {n : Nat}, allB p n = true → ∀ i, i < n → p i = true
  | n + 1, h, i, hi => by
    simp only [allB, Bool.and_eq_true] at h
    rcases Nat.lt_or_eq_of_le (Nat.le_of_lt_succ hi) with h' | rfl
    · exact allB_ok h.1 i h'
    · exact h.2

/-- does the one read as the other? -/
def sameC : Nat → CV → CV → Bool
  | 0, _, _ => false
  | _ + 1, .bool a, .bool b => a == b
  | _ + 1, .int k a, .int k' b => k == k' && a == b
  | _ + 1, .nils, .nils => true
  | _ + 1, .nils, .sl _ 0 _ => true
  | m + 1, .sl es n ρ, .sl es' n' σ => shEq.shsEq es es' && n == n' && allB (fun i => allB (fun f => match nth es f with
      | some s => sameC m (cellOf s ((ρ.at i).at f)) (cellOf s ((σ.at i).at f))
      | none => true) es.length) n
  | _, _, _ => false

theorem sameC_le : ∀ {m : Nat} {x y : CV} (_ : sameC m x y = true) {F : Nat → Prop} {w : World} {bs : List BI} {v : Value} (_ : CV.Rel F w bs x v), CV.Rel F w bs y v
  | m + 1, x, y, h, F, w, bs, v, hv => by
    unfold sameC at h
    split at h
    · cases h
    · rename_i e1 e2 e3; have := eq_of_beq h; subst this; exact hv
    · simp only [Bool.and_eq_true, beq_iff_eq] at h
      obtain ⟨rfl, rfl⟩ := h
      exact hv
    · exact hv
    · cases hv; exact .slnil
    · rename_i es n ρ es' n' σ _ _
      simp only [Bool.and_eq_true, beq_iff_eq] at h
      obtain ⟨⟨h1, rfl⟩, h2⟩ := h
      have h1 := shsEq_eq h1
      subst h1
      cases hv with
      | slnil => exact .slnil
      | sl val hn h0 hc hr =>
        refine .sl val hn h0 hc fun i f s hi hf => ?_
        have h3 := allB_ok (allB_ok h2 i hi) f (nth_lt hf)
        simp only [hf] at h3
        exact sameC_le h3 (hr i f s hi hf)
    · cases h

def same1 : A1 → A1 → Bool
  | .c x, .c y => sameC 6 x y
  | .agg l, .agg r => sameL l r
  | _, _ => false
 where sameL : List CV → List CV → Bool
  | [], [] => true
  | x :: l, y :: r => sameC 6 x y && sameL l r
  | _, _ => false

theorem sameL_le {F w bs} : ∀ {l r : List CV} {vs : List Value}, same1.sameL l r = true → All2 (CV.Rel F w bs) l vs → All2 (CV.Rel F w bs) r vs
  | [], [], _, _, h => h
  | _ :: _, _ :: _, _, h, .cons a b => by
    simp only [same1.sameL, Bool.and_eq_true] at h
    exact .cons (sameC_le h.1 a) (sameL_le h.2 b)
  | [], _ :: _, _, h, _ => by simp [same1.sameL] at h
  | _ :: _, [], _, h, _ => by simp [same1.sameL] at h

theorem same1_le {F w bs} {x y : A1} {v : Value} (h : same1 x y = true) (hv : A1.Rel F w bs x v) : A1.Rel F w bs y v := by
  cases x with
  | c x => cases y with
    | c y => exact sameC_le (m := 6) h hv
    | agg _ => cases h
  | agg l => cases y with
    | c _ => cases h
    | agg r => obtain ⟨vs, rfl, hv⟩ := hv; exact ⟨vs, rfl, sameL_le h hv⟩

def sames : List A1 → List A1 → Bool
  | [], [] => true
  | x :: l, y :: r => same1 x y && sames l r
  | _, _ => false

theorem sames_le {F w bs} : ∀ {l r : List A1} {vs : List Value}, sames l r = true → All2 (A1.Rel F w bs) l vs → All2 (A1.Rel F w bs) r vs
  | [], [], _, _, h => h
  | _ :: _, _ :: _, _, h, .cons a b => by
    simp only [sames, Bool.and_eq_true] at h
    exact .cons (same1_le h.1 a) (sames_le h.2 b)
  | [], _ :: _, _, h, _ => by simp [sames] at h
  | _ :: _, [], _, h, _ => by simp [sames] at h

def sameA : AV → AV → Bool
  | .one x, .one y => same1 x y
  | .tup l, .tup r => sames l r
  | _, _ => false

theorem sameA_le {x y : AV} (h : sameA x y = true) : leA x y := by
  intro F w v hv
  cases x with
  | any => cases h
  | one x => cases y with
    | one y => exact same1_le (x := x) (y := y) h hv
    | _ => cases h
  | tup l => cases y with
    | tup r => obtain ⟨vs, rfl, hv⟩ := hv; exact ⟨vs, rfl, sames_le h hv⟩
    | _ => cases h

/-- a summary at arguments that read as given ones -/
def canG (canon : List A1) (r : AV) (args : List A1) : Tree AV := .need (sames args canon) (.leaf r)

theorem canG_ok {P : Program} {H : Hd} (hH : HdOk P H) (n f : Nat) {canon : List A1} {r : AV} (h : (match (hcTree P H n f canon).sel with | some x => sameA x r | none => false) = true) : UcOne P f (canG canon r) := by
  intro args r' hr _ F w vs ha
  unfold canG at hr
  simp only [Tree.sel] at hr
  cases hs : sames args canon
  · rw [hs] at hr; simp at hr
  · rw [hs] at hr
    simp only [cond_true, Option.some.injEq] at hr
    subst hr
    have hargs := sames_le hs ha
    split at h
    · rename_i x hsel
      obtain ⟨⟨r', m⟩, h1, h2⟩ := sel_bind hsel
      have ho : outA m r' = some x := by
        cases hx : outA m r' with
        | none => rw [hx] at h2; simp [Tree.ofOpt, Tree.sel] at h2
        | some y => rw [hx] at h2; simpa [Tree.ofOpt, Tree.sel] using h2
      have hargs1 : All2 (A1.Rel (fun p => F p ∧ p < w.heap.size) w []) canon vs := hargs.imp fun _ _ hx => A1.Rel.grow (bs := []) (bs' := []) ⟨Nat.le_refl _, fun _ _ h => h.1, fun _ _ _ => rfl, fun _ _ h => h⟩ hx
      refine (evFn_ok0 hH n f canon r' m h1 _ w [] vs MemRel.nil hargs1).mono fun e w2 ⟨u, F', bs', he, hext, hm, hu⟩ => ?_
      refine ⟨u, he, hext.below, sameA_le h _ _ _ (AV.Rel.grow (bs := []) (bs' := []) ⟨Nat.le_refl _, fun p _ hp => ?_, fun _ _ _ => rfl, fun _ _ h => h⟩ (outA_ok hm hu ho))⟩
      refine ⟨hext.F2 p hp hp.2 (by simp), fun y hy e => ?_⟩
      rcases hext.mem y hy with ⟨z, hz, _⟩ | hs
      · cases hz
      · have := hp.2; omega
    · cases h

end Fo
end Go.Proofs.Ytennlgngdjegoaa
/-
  The unplanned change of the primary: histories of the examples: Issue.
-/
namespace Go.Proofs.Ytennlgngdjegoaa
open Go Go.Sx Go.RowKit Classical

set_option maxRecDepth 100000
set_option maxHeartbeats 4000000

namespace Fo

/-- summaries at arguments that read as one of several -/
def canGs : List (List A1 × AV) → List A1 → Tree AV
  | [], _ => .fail
  | (c, r) :: l, args => match sames args c with
    | true => .leaf r
    | false => canGs l args

theorem canGs_ok {P : Program} {f : Nat} : ∀ {l : List (List A1 × AV)}, (∀ p ∈ l, UcOne P f (canG p.1 p.2)) → UcOne P f (canGs l)
  | [], _ => fun _ _ h => by simp [canGs, Tree.sel] at h
  | (c, r) :: l, h => fun args r' hr hc F w vs ha => by
    unfold canGs at hr
    cases hs : sames args c
    · rw [hs] at hr
      exact canGs_ok (fun p hp => h p (by simp [hp])) args r' hr hc F w vs ha
    · rw [hs] at hr
      simp only [Tree.sel, Option.some.injEq] at hr
      subst hr
      exact h (c, r) (by simp) args r (by unfold canG; simp only [Tree.sel, hs, cond_true]) hc F w vs ha

noncomputable abbrev mcH : List (Nat × (List A1 → Mem → Tree (AV × Mem))) := (111, ncG (evNc Try.prog HA1 XA 30 111)) :: mcA
def pcH : List (Nat × (List A1 → Tree AV)) := [tailK, litK, headK]
theorem hH0 : HdOk Try.prog ⟨pcH, [], [], mcH⟩ := by
  have h0 : HdOk Try.prog ⟨[], [], [], mcH⟩ := hA0.mcCons n87.mc
  have h3 := h0.tcCons (f := 4294967291) (G := fun _ => .fail) (fun _ _ h => by simp [Tree.sel] at h)
  have h4 := h3.tcCons (f := 4294967292) (G := fun _ => .fail) (fun _ _ h => by simp [Tree.sel] at h)
  exact h4.tail
def loopsH : List (Nat × Nat) := [(32, 0), (80, 0), (114, 0), (109, 0), (109, 1), (113, 0), (116, 0), (131, 0), (137, 0), (138, 0), (141, 0), (146, 0), (147, 0), (150, 0), (153, 0)]
noncomputable def lw0 : Hd := ⟨pcH, [], [], mcH⟩
noncomputable def lw1 : Hd := ⟨pcH, [], lhsOf Try.prog lw0 10 loopsH, mcH⟩
noncomputable def lw2 : Hd := ⟨pcH, [], lhsOf Try.prog lw1 10 loopsH, mcH⟩
noncomputable def lw3 : Hd := ⟨pcH, [], lhsOf Try.prog lw2 10 loopsH, mcH⟩
noncomputable def lw4 : Hd := ⟨pcH, [], lhsOf Try.prog lw3 10 loopsH, mcH⟩
noncomputable def lw5 : Hd := ⟨pcH, [], lhsOf Try.prog lw4 10 loopsH, mcH⟩
theorem lw0_ok : HdOk Try.prog lw0 := hH0
theorem lw1_ok : HdOk Try.prog lw1 := lhs_ok hH0 lw0_ok 10 loopsH
theorem lw2_ok : HdOk Try.prog lw2 := lhs_ok hH0 lw1_ok 10 loopsH
theorem lw3_ok : HdOk Try.prog lw3 := lhs_ok hH0 lw2_ok 10 loopsH
theorem lw4_ok : HdOk Try.prog lw4 := lhs_ok hH0 lw3_ok 10 loopsH
theorem lw5_ok : HdOk Try.prog lw5 := lhs_ok hH0 lw4_ok 10 loopsH

/-- a volume of four sectors; its first writes -/
def datV : Val := .byFst fun _ => Val.ofCs [.int .u8 1, .int .u8 0, .int .u8 0, .int .u8 0, .int .u8 0, .int .u8 0, .int .u8 0, .int .u8 0]
def roots : CV := .sl inSh 1 (.byFst fun _ => .byFst fun _ => Val.ofC (I 4))
def wrt (i : Int) : List CV := [I 0, I i, .sl scSh 1 datV]
def his : Nat → A1
  | 0 => .agg [roots, .nils, .nils]
  | k + 1 => .agg [roots, .sl [.int .i64, .int .i64, .sl scSh] (k + 1) (.byFst fun i => Val.ofCs (wrt i)), .sl evSh (k + 1) (.byFst fun i => Val.ofCs [I 0, I i])]
def issR (k : Nat) : AV := .tup [his (k + 1), .c (I k), .c (I 0)]

theorem iss0 : UcOne Try.prog 75 (canG [his 0, .agg (wrt 0)] (issR 0)) := canG_ok lw5_ok 30 75 (by kernel_rfl)
theorem iss1 : UcOne Try.prog 75 (canG [his 1, .agg (wrt 1)] (issR 1)) := canG_ok lw5_ok 30 75 (by kernel_rfl)
theorem iss2 : UcOne Try.prog 75 (canG [his 2, .agg (wrt 2)] (issR 2)) := canG_ok lw5_ok 30 75 (by kernel_rfl)
/-- Issue, three times -/
noncomputable def Kiss : List A1 → Tree AV := canGs [([his 0, .agg (wrt 0)], issR 0), ([his 1, .agg (wrt 1)], issR 1), ([his 2, .agg (wrt 2)], issR 2)]
theorem kIss : UcOne Try.prog 75 Kiss := canGs_ok fun p hp => by
  simp only [List.mem_cons, List.not_mem_nil, or_false] at hp
  rcases hp with rfl | rfl | rfl
  · exact iss0
  · exact iss1
  · exact iss2

end Fo
end Go.Proofs.Ytennlgngdjegoaa
