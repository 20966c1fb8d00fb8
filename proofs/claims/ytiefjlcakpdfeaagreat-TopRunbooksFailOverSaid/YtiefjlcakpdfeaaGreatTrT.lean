/-
 Part TrT of the proof: EngPd EngPe EngPg EngQa FaiA.
-/
import Derived.Test.YtiefjlcakpdfeaaGreatTrS
import Derived.LoopN
import Derived.ScopeJumps
import Derived.Recover
import Derived.Test.YtiefjlcakpdfeaaGreatTrP
namespace Go.Sx
open Go Go.RowKit
variable {P : Program}
theorem toP_rel {F w bs} (e : XE) : XRel F w bs e.toP (xe e) := by cases e <;> rfl
theorem PRel.unkey {F w bs s} {a : Act} (hs : PRel P F w bs s a) : PRel P F w bs ⟨{ s.s with tmps := s.s.tmps.map Sx.unkey }, s.dl⟩ a := ⟨hs.st.unkey, hs.ds⟩
def LoopPOk (P : Program) (b : Code) (h : Nat → St → Tree (XP × St)) : Prop :=
 ∀ K s x, (h K s).sel = some x → ∃ N, ∀ (F : Nat → Prop) (w : World) (bs : List BI) (a : Act), K ≤ bs.length → PRel P F w bs ⟨s, []⟩ a → ∀ Q : Exit → Act → World → Prop,
  (∀ F' w' bs' a' e, Ext K F w bs F' w' bs' → PRel P F' w' bs' ⟨x.2, []⟩ a' → XRel F' w' bs' x.1 e → Q e a' w') → Code.rounds P b Q N a w
def ScopeOk (P : Program) (c : Code) (h : Nat → St → Tree (XP × St)) : Prop :=
 ∀ K s x, (h K s).sel = some x → ∀ (F : Nat → Prop) (w : World) (bs : List BI) (a : Act), K ≤ bs.length → PRel P F w bs ⟨s, []⟩ a → ∀ Q : Exit → Act → World → Prop,
  (∀ F' w' bs' a' e, Ext K F w bs F' w' bs' → PRel P F' w' bs' ⟨x.2, []⟩ a' → XRel F' w' bs' x.1 e → Q e a' w') → (Code.scope c).wp P Q a w
def passN (P : Program) (l : Nat) (rest : Code) (Q : Exit → Act → World → Prop) : Nat → Act → World → Prop
 | 0, _, _ => False
 | n + 1, a, w => rest.wp P (Exit.jump l (passN P l rest Q n) Q) a w
theorem scope_of {c rest : Code} {l : Nat} (hf : findLabel c l = some rest) {Q : Exit → Act → World → Prop} {N : Nat} {a : Act} {w : World} (h : c.wp P (Exit.jump l (passN P l rest Q N) Q) a w) : (Code.scope c).wp P Q a w := by
 intro b k cs
 have hg : gotoIn l (.inScope c :: k) = some (.code rest :: .inScope c :: k) := by simp [gotoIn, hf]
 have key : ∀ n a w, passN P l rest Q n a w → ∃ e a' w', Q e a' w' ∧ Arrives P (lone (b.at a (.code rest :: .inScope c :: k)) cs w) b k cs e a' w' := by
  intro n
  induction n with
  | zero => intro a w h; exact h.elim
  | succ n ih =>
    intro a w hJ
    obtain ⟨e, a₁, w₁, hq, harr⟩ := hJ b (.inScope c :: k) cs
    cases e with
   | normal => exact ⟨.normal, a₁, w₁, hq, Steps.trans harr (.one step_inScope)⟩
   | exit id => exact ⟨.exit id, a₁, w₁, hq, fun k' hk => harr k' (by simp [exitTo, hk])⟩
   | goto l' =>
     obtain ⟨rfl, hJ'⟩ := hq
     obtain ⟨e₂, a₂, w₂, hq₂, harr₂⟩ := ih a₁ w₁ hJ'
     exact ⟨e₂, a₂, w₂, hq₂, .of_steps (harr _ hg) harr₂⟩
   | ret => exact ⟨_, a₁, w₁, hq, harr⟩
   | panic ch => exact ⟨_, a₁, w₁, hq, harr⟩
   | outgrown => exact ⟨_, a₁, w₁, hq, harr⟩
 obtain ⟨e, a₁, w₁, hq, harr⟩ := h b (.inScope c :: k) cs
 cases e with
 | normal => exact ⟨.normal, a₁, w₁, hq, .head step_scope (Steps.trans harr (.one step_inScope))⟩
 | exit id => exact ⟨.exit id, a₁, w₁, hq, fun k' hk => .head step_scope (harr k' (by simp [exitTo, hk]))⟩
 | goto l' =>
   obtain ⟨rfl, hJ'⟩ := hq
   obtain ⟨e₂, a₂, w₂, hq₂, harr₂⟩ := key _ a₁ w₁ hJ'
   exact ⟨e₂, a₂, w₂, hq₂, .of_steps (.head step_scope (harr _ hg)) harr₂⟩
 | ret => exact ⟨_, a₁, w₁, hq, .of_steps (.one step_scope) harr⟩
 | panic ch => exact ⟨_, a₁, w₁, hq, .of_steps (.one step_scope) harr⟩
 | outgrown => exact ⟨_, a₁, w₁, hq, .of_steps (.one step_scope) harr⟩
theorem scope_plain {c : Code} {Q : Exit → Act → World → Prop} {a : Act} {w : World} (h : c.wp P (fun e a w => (∀ l, e ≠ .goto l) ∧ Q e a w) a w) : (Code.scope c).wp P Q a w := by
 intro b k cs
 obtain ⟨e, a₁, w₁, ⟨hn, hq⟩, harr⟩ := h b (.inScope c :: k) cs
 cases e with
 | normal => exact ⟨.normal, a₁, w₁, hq, .head step_scope (Steps.trans harr (.one step_inScope))⟩
 | exit id => exact ⟨.exit id, a₁, w₁, hq, fun k' hk => .head step_scope (harr k' (by simp [exitTo, hk]))⟩
 | goto l' => exact (hn l' rfl).elim
 | ret => exact ⟨_, a₁, w₁, hq, .of_steps (.one step_scope) harr⟩
 | panic ch => exact ⟨_, a₁, w₁, hq, .of_steps (.one step_scope) harr⟩
 | outgrown => exact ⟨_, a₁, w₁, hq, .of_steps (.one step_scope) harr⟩
def LxOk (P : Program) (lx : List ((Nat × Nat) × (Nat → St → Tree (XP × St)))) : Prop :=
 ∀ f fn c i b h, P.funcs[f]? = some fn → fn.body = some c → nthLoop c i = some b → lookLx lx f i = some h → LoopPOk P b h
def SxOk (P : Program) (sx : List (Nat × (Nat → St → Tree (XP × St)))) : Prop :=
 ∀ f fn c b h, P.funcs[f]? = some fn → fn.body = some c → b ∈ scopesOf c → lookSx sx f = some h → ScopeOk P b h
theorem defers_nil {F w bs} {s : StP} {a : Act} (hs : PRel P F w bs s a) (h : s.dl.isEmpty = true) : a.defers = [] ∧ s = ⟨s.s, []⟩ := by
 obtain ⟨s, dl⟩ := s
 have hd := List.isEmpty_iff.1 h
 simp only at hd
 subst hd
 have := hs.ds
 cases hD : a.defers with
 | nil => exact ⟨rfl, rfl⟩
 | cons d r => rw [hD] at this; cases this
theorem evCodeP_ok {H : Hd} (hpc : SumOk P H) {X : HdP} (hrx : RxOk P X.rx) (hnc : NcsOk P X.nc) {call : CallH} (hcall : CallOk P call) {callP : CallP} (hcallP : CallPOk P X callP) (f K : Nat) : ∀ (c : Code) (n : Nat) (s : StP) {x : XP × StP},
  (evCodeP P H X call callP f K n c s).sel = some x → (∀ i b h, nthLoop c i = some b → lookLh H.lh f (n + i) = some h → LoopOk P b h) →
  (∀ i b h, nthLoop c i = some b → lookLx X.lx f (n + i) = some h → LoopPOk P b h) → (∀ b h, b ∈ scopesOf c → lookSx X.sx f = some h → ScopeOk P b h) → ∀ {F : Nat → Prop} {w : World} {bs : List BI} {a : Act}, K ≤ bs.length → PRel P F w bs s a → ∀ {Q : Exit → Act → World → Prop},
  (∀ F' w' bs' a' e, Ext K F w bs F' w' bs' → PRel P F' w' bs' x.2 a' → XRel F' w' bs' x.1 e → Q e a' w') → c.wp P Q a w := by
 intro c
 induction c with
 | skip =>
   intro n s x h _ _ _ F w bs a hK hs Q hQ
   simp only [evCodeP, Tree.sel, Option.some.injEq] at h
   subst h
   exact wp_skip (hQ F w bs a _ Ext.refl hs rfl)
 | region id ops draw =>
   intro n s x h _ _ _ F w bs a hK hs Q hQ
   simp only [evCodeP] at h
   cases draw
   ·simp only [Bool.false_eq_true, if_false] at h
    obtain ⟨⟨y, s'⟩, h1, h2⟩ := sel_bind h
    simp only [Tree.sel, Option.some.injEq] at h2
    subst h2
    exact wp_region_list (evOpsP_ok hpc hrx hcall hcallP _ _ h1 hs fun F' w' bs' a' e he hs' hx => hQ F' w' bs' a' e (he.weak hK) hs'.unkey hx)
   ·simp only [if_true] at h
    obtain ⟨y, s'⟩ := x
    split at h
    ·exact evRegL_ok hpc hnc hcall h hs fun F' w' bs' a' e he hs' hx => hQ F' w' bs' a' e (he.weak hK) hs' hx
    exact evRegP_ok hpc hrx hcall hcallP h hs fun F' w' bs' a' e he hs' hx => hQ F' w' bs' a' e (he.weak hK) hs' hx
 | seq a b iha ihb =>
   intro n s x h hl hlx hsx F w bs a' hK hs Q hQ
   simp only [evCodeP] at h
   obtain ⟨y, h1, h2⟩ := sel_bind h
   refine wp_seq (iha n s h1 (fun i bb hh hi hk => hl i bb hh (by
    simp only [nthLoop]
    have : i < nloops a := by
     rcases Nat.lt_or_ge i (nloops a) with h' | h'
     ·exact h'
     ·exact absurd hi (by rw [evCode_ok.nthLoop_none a i h']; simp)
    rw [if_pos this]; exact hi) hk) (fun i bb hh hi hk => hlx i bb hh (by
    simp only [nthLoop]
    have : i < nloops a := by
     rcases Nat.lt_or_ge i (nloops a) with h' | h'
     ·exact h'
     ·exact absurd hi (by rw [evCode_ok.nthLoop_none a i h']; simp)
    rw [if_pos this]; exact hi) hk) (fun bb hh hi hk => hsx bb hh (by simp only [scopesOf, List.mem_append]; exact .inl hi) hk) hK hs fun F' w' bs' a'' e he hs' hx => ?_)
   obtain ⟨xp, s'⟩ := y
   cases xp with
  | normal =>
    cases hx
    simp only [Exit.then]
    refine ihb (n + nloops a) s' h2 (fun i bb hh hi hk => hl (nloops a + i) bb hh (by
     simp only [nthLoop]
     rw [if_neg (by omega)]
     rw [show nloops a + i - nloops a = i by omega]; exact hi) (by rw [← Nat.add_assoc]; exact hk)) (fun i bb hh hi hk => hlx (nloops a + i) bb hh (by
     simp only [nthLoop]
     rw [if_neg (by omega)]
     rw [show nloops a + i - nloops a = i by omega]; exact hi) (by rw [← Nat.add_assoc]; exact hk)) (fun bb hh hi hk => hsx bb hh (by simp only [scopesOf, List.mem_append]; exact .inr hi) hk) (he.le hK) hs' fun F'' w'' bs'' a3 e' he' hs'' hx' => hQ _ _ _ _ _ (he.trans he' (Nat.le_refl _)) hs'' hx'
  | exit k =>
    cases hx
    simp only [Tree.sel, Option.some.injEq] at h2
    subst h2
    exact hQ _ _ _ _ _ he hs' rfl
  | ret =>
    cases hx
    simp only [Tree.sel, Option.some.injEq] at h2
    subst h2
    exact hQ _ _ _ _ _ he hs' rfl
  | pan z =>
    obtain ⟨v, rfl, hv⟩ := hx
    simp only [Tree.sel, Option.some.injEq] at h2
    subst h2
    exact hQ _ _ _ _ _ he hs' ⟨v, rfl, hv⟩
  | goto l =>
    cases hx
    simp only [Tree.sel, Option.some.injEq] at h2
    subst h2
    exact hQ _ _ _ _ _ he hs' rfl
 | cond c a b iha ihb =>
   intro n s x h hl hlx hsx F w bs a' hK hs Q hQ
   simp only [evCodeP] at h
   split at h
   ·rename_i t ht
    have hr := opnd_ok hs.st KH_nil ht
    have hc : a'.eval c = .bool t := by
     generalize a'.eval c = z at hr ⊢
     cases hr; rfl
    simp only [Tree.sel] at h
    cases t
    ·simp only [cond_false] at h
     refine wp_cond_false hc (ihb (n + nloops a) s h (fun i bb hh hi hk => hl (nloops a + i) bb hh (by
      simp only [nthLoop]
      rw [if_neg (by omega)]
      rw [show nloops a + i - nloops a = i by omega]; exact hi) (by rw [← Nat.add_assoc]; exact hk)) (fun i bb hh hi hk => hlx (nloops a + i) bb hh (by
      simp only [nthLoop]
      rw [if_neg (by omega)]
      rw [show nloops a + i - nloops a = i by omega]; exact hi) (by rw [← Nat.add_assoc]; exact hk)) (fun bb hh hi hk => hsx bb hh (by simp only [scopesOf, List.mem_append]; exact .inr hi) hk) hK hs hQ)
    ·simp only [cond_true] at h
     refine wp_cond_true hc (iha n s h (fun i bb hh hi hk => hl i bb hh (by
      simp only [nthLoop]
      have : i < nloops a := by
       rcases Nat.lt_or_ge i (nloops a) with h' | h'
       ·exact h'
       ·exact absurd hi (by rw [evCode_ok.nthLoop_none a i h']; simp)
      rw [if_pos this]; exact hi) hk) (fun i bb hh hi hk => hlx i bb hh (by
      simp only [nthLoop]
      have : i < nloops a := by
       rcases Nat.lt_or_ge i (nloops a) with h' | h'
       ·exact h'
       ·exact absurd hi (by rw [evCode_ok.nthLoop_none a i h']; simp)
      rw [if_pos this]; exact hi) hk) (fun bb hh hi hk => hsx bb hh (by simp only [scopesOf, List.mem_append]; exact .inl hi) hk) hK hs hQ)
   ·simp [Tree.sel] at h
 | block id b ih =>
   intro n s x h hl hlx hsx F w bs a' hK hs Q hQ
   simp only [evCodeP] at h
   obtain ⟨y, h1, h2⟩ := sel_bind h
   refine wp_block (ih n s h1 (fun i bb hh hi hk => hl i bb hh hi hk) (fun i bb hh hi hk => hlx i bb hh hi hk) (fun bb hh hi hk => hsx bb hh hi hk) hK hs fun F' w' bs' a'' e he hs' hx => ?_)
   obtain ⟨xp, s'⟩ := y
   cases xp with
  | normal =>
    cases hx
    simp only [Tree.sel, Option.some.injEq] at h2
    subst h2
    exact hQ _ _ _ _ _ he hs' rfl
  | exit k =>
    cases hx
    simp only [Tree.sel, Option.some.injEq] at h2
    subst h2
    simp only [Exit.inBlock]
    by_cases hk : k = id
    ·simp only [hk, if_true] at hQ ⊢
     exact hQ _ _ _ _ _ he hs' rfl
    ·simp only [hk, if_false] at hQ ⊢
     exact hQ _ _ _ _ _ he hs' rfl
  | ret =>
    cases hx
    simp only [Tree.sel, Option.some.injEq] at h2
    subst h2
    exact hQ _ _ _ _ _ he hs' rfl
  | pan z =>
    obtain ⟨v, rfl, hv⟩ := hx
    simp only [Tree.sel, Option.some.injEq] at h2
    subst h2
    exact hQ _ _ _ _ _ he hs' ⟨v, rfl, hv⟩
  | goto l =>
    cases hx
    simp only [Tree.sel, Option.some.injEq] at h2
    subst h2
    exact hQ _ _ _ _ _ he hs' rfl
 | loop b ih =>
   intro n s x h hl hlx hsx F w bs a' hK hs Q hQ
   simp only [evCodeP] at h
   split at h
   ·rename_i hh hk
    split at h
    ·rename_i hdl
     obtain ⟨⟨y, s'⟩, h1, h2⟩ := sel_bind h
     simp only [Tree.sel, Option.some.injEq] at h2
     subst h2
     obtain ⟨_, he⟩ := defers_nil hs hdl
     rw [he] at hs
     obtain ⟨N, hN⟩ := hlx 0 b hh rfl (by simpa using hk) K s.s (y, s') h1
     exact wp_loop_rounds N (hN F w bs a' hK hs Q hQ)
    ·simp [Tree.sel] at h
   ·split at h
    ·rename_i hh hk
     split at h
     ·rename_i hdl
      obtain ⟨⟨y, s'⟩, h1, h2⟩ := sel_bind h
      simp only [Tree.sel, Option.some.injEq] at h2
      subst h2
      obtain ⟨hd0, _⟩ := defers_nil hs hdl
      exact (wpIn_wide (n := 0)).1 (hl 0 b hh rfl (by simpa using hk) K s.s (y, s') h1 none 0 _ F w bs a' hK hs.st Q fun F' w' bs' a'' he hs' => hQ F' w' bs' a'' _ he (hs'.toP (by rw [hd0]; exact .nil)) (toP_rel _))
     ·simp [Tree.sel] at h
    ·have key : ∀ (r : Nat) (s : StP), (roundsU (fun s' => evCodeP P H X call callP f K (n + 1) b s') r s).sel = some x → ∀ {F : Nat → Prop} {w : World} {bs : List BI} {a : Act}, K ≤ bs.length → PRel P F w bs s a →
       (∀ F' w' bs' a' e, Ext K F w bs F' w' bs' → PRel P F' w' bs' x.2 a' → XRel F' w' bs' x.1 e → Q e a' w') → Code.rounds P b Q r a w := by
      intro r
      induction r with
      | zero => intro s h; simp [roundsU, Tree.sel] at h
      | succ r ihr =>
        intro s h F w bs a hK hs hQ
        simp only [roundsU] at h
        obtain ⟨⟨y, s'⟩, h1, h2⟩ := sel_bind h
        rw [rounds_succ]
        refine ih (n + 1) s h1 (fun i bb hh hi hk => hl (i + 1) bb hh (by simpa only [nthLoop] using hi) (by rw [← hk]; congr 1; omega)) (fun i bb hh hi hk => hlx (i + 1) bb hh (by simpa only [nthLoop] using hi) (by rw [← hk]; congr 1; omega)) (fun bb hh hi hk => hsx bb hh hi hk) hK hs fun F' w' bs' a'' e he hs' hx => ?_
        cases y with
       | normal =>
         cases hx
         exact ihr s' h2 (he.le hK) hs' fun F'' w'' bs'' a3 e' he' hs'' hx' => hQ _ _ _ _ _ (he.trans he' (Nat.le_refl _)) hs'' hx'
       | exit k =>
         cases hx
         simp only [Tree.sel, Option.some.injEq] at h2
         subst h2
         exact hQ _ _ _ _ _ he hs' rfl
       | ret =>
         cases hx
         simp only [Tree.sel, Option.some.injEq] at h2
         subst h2
         exact hQ _ _ _ _ _ he hs' rfl
       | pan z =>
         obtain ⟨v, rfl, hv⟩ := hx
         simp only [Tree.sel, Option.some.injEq] at h2
         subst h2
         exact hQ _ _ _ _ _ he hs' ⟨v, rfl, hv⟩
       | goto l =>
         cases hx
         simp only [Tree.sel, Option.some.injEq] at h2
         subst h2
         exact hQ _ _ _ _ _ he hs' rfl
     exact wp_loop_rounds X.rounds (key X.rounds s h hK hs hQ)
 | exit id =>
   intro n s x h _ _ _ F w bs a hK hs Q hQ
   simp only [evCodeP, Tree.sel, Option.some.injEq] at h
   subst h
   exact wp_exit (hQ F w bs a _ Ext.refl hs rfl)
 | ret =>
   intro n s x h _ _ _ F w bs a hK hs Q hQ
   simp only [evCodeP, Tree.sel, Option.some.injEq] at h
   subst h
   exact wp_ret (hQ F w bs a _ Ext.refl hs rfl)
 | rangeFunc _ _ _ _ _ _ => intro n s x h; simp [evCodeP, Tree.sel] at h
 | scope b ih =>
   intro n s x h hl hlx hsx F w bs a' hK hs Q hQ
   simp only [evCodeP] at h
   split at h
   ·rename_i hh hk
    split at h
    ·rename_i hdl
     obtain ⟨⟨y, s'⟩, h1, h2⟩ := sel_bind h
     simp only [Tree.sel, Option.some.injEq] at h2
     subst h2
     obtain ⟨_, he⟩ := defers_nil hs hdl
     rw [he] at hs
     exact hsx b hh (by simp [scopesOf]) hk K s.s (y, s') h1 F w bs a' hK hs Q hQ
    ·simp [Tree.sel] at h
   ·obtain ⟨⟨y, s'⟩, h1, h2⟩ := sel_bind h
    have hx : x = (y, s') ∧ ∀ l, y ≠ .goto l := by
     cases y with
     | goto l => simp [Tree.sel] at h2
     | normal => simp only [Tree.sel, Option.some.injEq] at h2; exact ⟨h2.symm, fun _ e => by cases e⟩
     | exit _ => simp only [Tree.sel, Option.some.injEq] at h2; exact ⟨h2.symm, fun _ e => by cases e⟩
     | ret => simp only [Tree.sel, Option.some.injEq] at h2; exact ⟨h2.symm, fun _ e => by cases e⟩
     | pan _ => simp only [Tree.sel, Option.some.injEq] at h2; exact ⟨h2.symm, fun _ e => by cases e⟩
    obtain ⟨rfl, hng⟩ := hx
    refine scope_plain (ih n s h1 (fun i b' hh hi hk => hl i b' hh (by simpa [nthLoop] using hi) hk) (fun i b' hh hi hk => hlx i b' hh (by simpa [nthLoop] using hi) hk) (fun b' hh hi hk => hsx b' hh (by simp only [scopesOf, List.mem_cons]; exact .inr hi) hk) hK hs fun F' w' bs' a2 e he hs' hx' => ⟨fun l hl' => ?_, hQ F' w' bs' a2 e he hs' hx'⟩)
    subst hl'
    cases y with
    | goto k => exact hng k rfl
    | normal => cases hx'
    | exit _ => cases hx'
    | ret => cases hx'
    | pan _ => obtain ⟨_, h3, _⟩ := hx'; cases h3
 | label l =>
   intro n s x h _ _ _ F w bs a hK hs Q hQ
   simp only [evCodeP, Tree.sel, Option.some.injEq] at h
   subst h
   exact wp_label (hQ F w bs a _ Ext.refl hs rfl)
 | goto l =>
   intro n s x h _ _ _ F w bs a hK hs Q hQ
   simp only [evCodeP, Tree.sel, Option.some.injEq] at h
   subst h
   exact wp_goto (hQ F w bs a _ Ext.refl hs rfl)
 | refuse _ => intro n s x h; simp [evCodeP, Tree.sel] at h
def recV : FrameMode → Value × FrameMode
 | .panicking ({ v, recovered := false, goexit := false } :: older) => (v, .panicking ({ v, recovered := true } :: older))
 | m => (.nilIface, m)
theorem recoverD_eq (c : Frame) (cs : List Frame) : (match recoverD (c :: cs) with | some p => p | none => (.nilIface, c :: cs)) = ((recV c.mode).1, { c with mode := (recV c.mode).2 } :: cs) := by
 obtain ⟨fn, kind, mode, d⟩ := c
 unfold recoverD recV
 simp only
 split
 ·rename_i p h
  split at h
  ·rename_i e; simp at h; subst h; rfl
  ·cases h
 ·rename_i h
  split at h
  ·cases h
  ·rename_i hne
   split
   ·rename_i e
    exact (hne _ _ rfl).elim
   ·rfl
theorem wpS_rec {id : Nat} {ops : Array Oper} {o : Oper} {r : List Oper} {c : Go.Call} (ho : ops.toList = o :: r) (hg : o.guard = none) (hop : o.op = .call c) (hcal : c.callee = .builtin .recover) {Q : Exit → Act → List Frame → World → Prop} {a : Act} {c0 : Frame} {cs : List Frame} {w : World}
  (h : wpList P ops (fun e a' w' => Q e a' ({ c0 with mode := (recV c0.mode).2 } :: cs) w') r (a.put o.dst (recV c0.mode).1) w) : (Code.region id ops false).wpS P Q a (c0 :: cs) w := by
 intro b k hb hro
 have hsz : ops.size = r.length + 1 := by rw [← Array.length_toList, ho]; rfl
 have h0 : ops[0]? = some o := by rw [← Array.getElem?_toList, ho]; rfl
 have hlist : List.range ops.size = 0 :: List.range' 1 r.length := by
  rw [hsz, List.range_eq_range', List.range'_succ]
 have hs0 : step P (lone (b.at a (.code (.region id ops false) :: k)) (c0 :: cs) w) = .next (lone (b.at a (.inRegion ops (0 :: List.range' 1 r.length) :: k)) (c0 :: cs) w) := by
  rw [← hlist]; exact step_region
 have hw : Region.wanted o (yielded ops a.tmps) = true := by simp [Region.wanted, hg]
 have hrun : (execOp a.eval o).run P w = .ok .recover w := by
  unfold execOp
  rw [hop]
  simp only [resolve, hcal, Sem.run_bind, Sem.run_pure, Result.andThen_ok, invoke, builtin]
 have hgg := stepG_op (P := P) (b := b) (k := k) (cs := c0 :: cs) (w := w) (rest := List.range' 1 r.length) h0 hw
 have hfin : ∀ v, (b.at a (.inRegion ops (0 :: List.range' 1 r.length) :: k)).finish v = b.at (a.put o.dst v) (.inRegion ops (List.range' 1 r.length) :: k) := by
  intro v; rw [Frame.finish_at, h0]; rfl
 have hk : (b.at a (.inRegion ops (0 :: List.range' 1 r.length) :: k)).kind = .deferred := hb
 have htr := tryRecover_deferred hk (c0 :: cs)
 have hre := recoverD_eq c0 cs
 have hs1 : step P (lone (b.at a (.inRegion ops (0 :: List.range' 1 r.length) :: k)) (c0 :: cs) w) = .next (lone (b.at (a.put o.dst (recV c0.mode).1) (.inRegion ops (List.range' 1 r.length) :: k)) ({ c0 with mode := (recV c0.mode).2 } :: cs) w) := by
  refine step_lone_go ?_
  rw [hgg, ← hfin]
  simp only [Frame.at] at htr ⊢
  cases hrec : recoverD (c0 :: cs) with
  | some p =>
    rw [hrec] at hre
    simp only at hre
    subst hre
    simp [stepG.apply, hrun, htr, hrec]
  | none =>
    rw [hrec] at hre
    simp only at hre
    rw [Prod.mk.injEq] at hre
    rw [← hre.1, ← hre.2]
    simp [stepG.apply, hrun, htr, hrec]
 have hwp : wpOps P ops (fun e a' w' => Q e a' ({ c0 with mode := (recV c0.mode).2 } :: cs) w') (List.range' 1 r.length) (a.put o.dst (recV c0.mode).1) w := by
  rw [wpOps_eq_wpList r 1 (fun j => by rw [← Array.getElem?_toList, ho, Nat.add_comm]; rfl)]
  exact h
 obtain ⟨e, a', w', q, harr⟩ := wp_ops _ _ _ hwp b k ({ c0 with mode := (recV c0.mode).2 } :: cs)
 exact ⟨e, a', _, w', q, .of_steps (.head hs0 (.one hs1)) harr⟩
def UMode (F : Nat → Prop) (w : World) (bs : List BI) : Option CV → FrameMode → Prop
 | none, u => u = .returning
 | some y, u => ∃ v, u = .panicking [{ v, recovered := false }] ∧ y.Rel F w bs v
theorem UMode.rec {F w bs pan u} (h : UMode F w bs pan u) : settle (recV u).2 = .returning ∧ (recC pan).Rel F w bs (recV u).1 ∧ u ≠ .run := by
 cases pan with
 | none => cases h; exact ⟨rfl, .nili, by simp⟩
 | some y => obtain ⟨v, rfl, hv⟩ := h; exact ⟨rfl, hv, by simp⟩
structure XsOk (P : Program) (X : HdP) : Prop where
 rx : RxOk P X.rx
 nc : NcsOk P X.nc
 lx : LxOk P X.lx
 sx : SxOk P X.sx
theorem evDef_ok {H : Hd} (hH : HdOk P H) {X : HdP} (hX : XsOk P X) {call : CallH} (hcall : CallOk P call) {callP : CallP} (hcallP : CallPOk P X callP) {g : Nat} {cap : List CV} {pan : Option CV} {mem : Mem} {res : Option CV} {mem2 : Mem}
  (h : (evDef P H X call callP g cap pan mem).sel = some (res, mem2)) {F : Nat → Prop} {w : World} {bs : List BI} (hm : MemRel P F w bs mem) {vs : List Value} (hcap : All2 (CV.Rel F w bs) cap vs) {u : FrameMode} (hu : UMode F w bs pan u) :
  callable P g = true ∧ CallsD P g vs.toArray u w (fun e u' w' => ∃ v, e = .returned v ∧ settle u' = .returning ∧ res = none ∧ ∃ F' bs', Ext bs.length F w bs F' w' bs' ∧ MemRel P F' w' bs' mem2) := by
 obtain ⟨hset, hrv, hrun⟩ := hu.rec
 unfold evDef at h
 split at h
 rotate_left
 ·simp [Tree.sel] at h
 rename_i fn hfn
 split at h
 rotate_left
 ·simp [Tree.sel] at h
 rename_i c hb
 split at h
 rotate_left
 ·simp [Tree.sel] at h
 rename_i o' r x hrh
 split at h
 rotate_left
 ·simp [Tree.sel] at h
 rename_i hle
 rw [Bool.and_eq_true] at hle
 obtain ⟨hle, hcb⟩ := hle
 refine ⟨hcb, ?_⟩
 rw [nth_eq, Array.getElem?_toList] at hfn
 obtain ⟨y, h1, h2⟩ := sel_bind h
 refine callsD_of_wpS hfn hb fun c0 cs hc0 => ?_
 unfold recHead at hrh
 split at hrh
 rotate_left
 ·simp at hrh
 rename_i id ops x0
 split at hrh
 rotate_left
 ·simp at hrh
 rename_i o r0 hops
 split at hrh
 rotate_left
 ·simp at hrh
 rename_i c1 hg hop
 split at hrh
 rotate_left
 ·simp at hrh
 rename_i hcal
 simp only [Option.some.injEq, Prod.mk.injEq] at hrh
 obtain ⟨rfl, rfl, rfl⟩ := hrh
 have hargs : All2 (A1.Rel F w bs) (cap.map .c) vs := hcap.map_left fun _ _ h => h
 have hst := init_ok (nt := fn.ntmps) hm hargs (by simpa using hle)
 simp only [List.length_map, List.map_map] at hst
 subst hc0
 have hst1 := StRel.put (dst := o.dst) (ks := []) (v := .one (.c (recC pan))) (x := (recV c0.mode).1) hst (fun _ hp => by cases hp) (fun _ => hrv) (fun h => (h KH_nil).elim)
 refine wpS_seq (wpS_rec hops hg hop hcal ?_)
 rw [← hops] at h1
 refine evOpsP_ok hH.pc hX.rx hcall hcallP (x := y.1) (s' := y.2) _ _ h1 (hst1.toP .nil) fun F1 w1 bs1 a1 e1 he1 hs1 hx1 => ?_
 obtain ⟨xp, s1⟩ := y
 cases xp with
 | normal =>
   cases hx1
   simp only at h2
   obtain ⟨z, h3, h4⟩ := sel_bind h2
   refine wpS_of_wp (evCodeP_ok hH.pc hX.rx hX.nc hcall hcallP g mem.length _ 0 _ h3 (fun i b hh hi hk => hH.lh g fn _ i b hh hfn hb (by simpa [nthLoop, nloops] using hi) (by simpa using hk)) (fun i b hh hi hk => hX.lx g fn _ i b hh hfn hb (by simpa [nthLoop, nloops] using hi) (by simpa using hk)) (fun b hh hi hk => hX.sx g fn _ b hh hfn hb (by simpa [scopesOf] using hi) hk) (by have := he1.le; have := hm.len; omega) hs1.unkey fun F2 w2 bs2 a2 e2 he2 hs2 hx2 => ?_)
   obtain ⟨zx, zs, zd⟩ := z
   have fin : zd = [] → (evResults P zs fn.results.toList).isSome = true → res = none → mem2 = zs.mem → a2.defers = [] ∧ ∃ u', ({ c0 with mode := (recV c0.mode).2 } :: cs : List Frame) = { c0 with mode := u' } :: cs ∧ ∃ v, (results fn a2.tmps).run P w2 = .ok v w2 ∧
     ∃ v', Ending.returned v = Ending.returned v' ∧ settle u' = .returning ∧ res = none ∧ ∃ F' bs', Ext bs.length F w bs F' w2 bs' ∧ MemRel P F' w2 bs' mem2 := by
    intro hz hr hres hmm
    subst hz
    have hd0 : a2.defers = [] := by
     have := hs2.ds
     cases hD : a2.defers with
     | nil => rfl
     | cons d r => rw [hD] at this; cases this
    obtain ⟨l, hl⟩ := Option.isSome_iff_exists.1 hr
    obtain ⟨v, _, hrun⟩ := run_results hs2.st hl
    refine ⟨hd0, _, rfl, v, hrun, v, rfl, hset, hres, F2, bs2, ?_, hmm ▸ hs2.st.mem⟩
    have e3 := he1.trans he2 (Nat.le_of_eq hm.len)
    exact e3
   cases zx with
  | normal =>
    cases hx2
    simp only at h4
    split at h4
    ·rename_i hz; cases hz
     split at h4
     ·rename_i hr
      simp only [Tree.sel, Option.some.injEq, Prod.mk.injEq] at h4
      exact fin rfl hr h4.1.symm h4.2.symm
     ·simp [Tree.sel] at h4
    ·rename_i hz; cases hz
    ·simp [Tree.sel] at h4
  | ret =>
    cases hx2
    simp only at h4
    split at h4
    ·rename_i hz; cases hz
    ·rename_i hz; cases hz
     split at h4
     ·rename_i hr
      simp only [Tree.sel, Option.some.injEq, Prod.mk.injEq] at h4
      exact fin rfl hr h4.1.symm h4.2.symm
     ·simp [Tree.sel] at h4
    ·simp [Tree.sel] at h4
  | exit k => simp [Tree.sel] at h4
  | goto k => simp [Tree.sel] at h4
  | pan q => simp [Tree.sel] at h4
 | exit k => simp [Tree.sel] at h2
 | goto k => simp [Tree.sel] at h2
 | ret => simp [Tree.sel] at h2
 | pan q => simp [Tree.sel] at h2
theorem invoke_func {g : Nat} {vs : List Value} (hc : callable P g = true) (w : World) : (invoke (.fn (.func g) vs.toArray) #[]).run P w = .ok (.enter g vs.toArray) w := by
 unfold callable at hc
 split at hc
 ·rename_i fn hfn
  simp only [Bool.and_eq_true, bne_iff_ne, ne_eq] at hc
  obtain ⟨⟨hn, hb⟩, _⟩ := hc
  rw [nth_eq] at hfn
  simp only [Array.getElem?_toList] at hfn
  have hb' : fn.body.isNone = false := by cases hh : fn.body <;> simp [hh] at hb ⊢
  have hn' : (fn.name == "runtime.NumGoroutine") = false := by simpa using hn
  simp only [invoke, callFunc, Sem.run_bind, run_program, Result.andThen_ok, hfn, hn', Bool.false_eq_true, if_false, hb', Sem.run_pure]
  congr 2
  apply Array.ext'
  simp
 ·simp at hc
theorem leaveP_ok {H : Hd} (hH : HdOk P H) {X : HdP} (hX : XsOk P X) {call : CallH} (hcall : CallOk P call) {callP : CallP} (hcallP : CallPOk P X callP) {fn : Func} {s : St} : ∀ (dl : List CV) (pan : Option CV) (mem : Mem) {out : Out} {mem2 : Mem} {D : List Deferred} {D0 : List Deferred} {F : Nat → Prop} {w : World} {bs : List BI} {a : Act} {u : FrameMode},
  (leaveP P H X call callP fn s dl pan mem).sel = some (out, mem2) → StRel P D0 F w bs { s with mem := mem } a → DsRel F w bs dl D → UMode F w bs pan u →
  Leaves P fn a.tmps (fun e w' => ∃ F' bs', Ext bs.length F w bs F' w' bs' ∧ MemRel P F' w' bs' mem2 ∧ out.Ends F' w' bs' e) D u w
 | [], none, mem, out, mem2, D, D0, F, w, bs, a, u, h, hs, hd, hu => by
   cases hd
   cases hu
   simp only [leaveP] at h
   split at h
   ·rename_i l hl
    simp only [Tree.sel, Option.some.injEq, Prod.mk.injEq] at h
    obtain ⟨rfl, rfl⟩ := h
    obtain ⟨v, hv, hrun⟩ := run_results hs hl
    exact ⟨v, hrun, F, bs, Ext.refl, hs.mem, v, rfl, hv⟩
   ·simp [Tree.sel] at h
 | [], some y, mem, out, mem2, D, D0, F, w, bs, a, u, h, hs, hd, hu => by
   cases hd
   obtain ⟨v, rfl, hv⟩ := hu
   simp only [leaveP, Tree.sel, Option.some.injEq, Prod.mk.injEq] at h
   obtain ⟨rfl, rfl⟩ := h
   exact ⟨F, bs, Ext.refl, hs.mem, v, rfl, hv⟩
 | d :: dl, pan, mem, out, mem2, D, D0, F, w, bs, a, u, h, hs, hd, hu => by
   cases hd with
  | cons hd1 hdr =>
    rename_i d0 D1
    obtain ⟨g, cap, vs, rfl, rfl, hcap⟩ := hd1
    simp only [leaveP] at h
    obtain ⟨⟨res, m1⟩, h1, h2⟩ := sel_bind h
    obtain ⟨hcb, hcd⟩ := evDef_ok hH hX hcall hcallP h1 hs.mem hcap hu
    refine leaves_cons hu.rec.2.2 (invoke_func hcb w) (hcd.mono fun e u' w' ⟨v, he, hset, hres, F', bs', hext, hm'⟩ => ?_)
    subst he
    subst hres
    simp only
    rw [hset]
    have hs' : StRel P D0 F' w' bs' { s with mem := m1 } a := hs.ext hext hm'
    have := leaveP_ok hH hX hcall hcallP dl none m1 h2 hs' (DsRel.grow hext.grow hdr) rfl
    refine leaves_mono (fun e w2 ⟨F2, bs2, he2, hm2, hr2⟩ => ⟨F2, bs2, hext.trans he2 hext.le, hm2, hr2⟩) _ _ _ this
 where
 leaves_mono {fn : Func} {tmps : Array Value} {R R' : Ending → World → Prop} (hr : ∀ e w, R e w → R' e w) : ∀ (D : List Deferred) (u : FrameMode) (w : World), Leaves P fn tmps R D u w → Leaves P fn tmps R' D u w
  | [], .returning, _, h => let ⟨v, h1, h2⟩ := h; ⟨v, h1, hr _ _ h2⟩
  | [], .panicking _, _, h => hr _ _ h
  | [], .run, _, h => h
  | d :: ds, u, w, h => by
    obtain ⟨h1, fv, cap, f, args, h2, h3, h4⟩ := h
    refine ⟨h1, fv, cap, f, args, h2, h3, h4.mono fun e u' w' he => ?_⟩
    cases e with
   | returned v => exact leaves_mono hr ds _ _ he
   | panicked c => exact leaves_mono hr ds _ _ he
   | outgrown => exact hr _ _ he
def PxOk (P : Program) (px : List (Nat × (List A1 → Mem → Tree (Out × Mem)))) : Prop :=
 ∀ f G, lookPx px f = some G → ∀ args mem r mem', (G args mem).sel = some (r, mem') → ∀ F w bs vs, MemRel P F w bs mem → All2 (A1.Rel F w bs) args vs →
  Calls P f vs.toArray w (fun e w' => ∃ F' bs', Ext bs.length F w bs F' w' bs' ∧ MemRel P F' w' bs' mem' ∧ r.Ends F' w' bs' e)
structure XOk (P : Program) (X : HdP) : Prop where
 px : PxOk P X.px
 rx : RxOk P X.rx
 nc : NcsOk P X.nc
 lx : LxOk P X.lx
 sx : SxOk P X.sx
 loc : ∀ f, anyN f X.lo = true → ∃ G, lookPx X.px f = some G ∧ LocFn G
theorem XOk.xs {X : HdP} (h : XOk P X) : XsOk P X := ⟨h.rx, h.nc, h.lx, h.sx⟩
theorem evFnP_ok {H : Hd} (hH : HdOk P H) {X : HdP} (hX : XOk P X) : ∀ n, CallPOk P X (evFnP P H X n)
 | 0 => ⟨by intro f args mem r mem' h; simp [evFnP, Tree.sel] at h, fun f _ b rest M r M' h => by simp [evFnP, Tree.sel] at h⟩
 | n + 1 => by
   refine ⟨?_, fun f hf => ?_⟩
   rotate_left
   ·obtain ⟨G, h1, h2⟩ := hX.loc f hf
    have e : evFnP P H X (n + 1) f = G := by
     funext args mem
     simp only [evFnP, h1]
    rw [e]
    exact h2
   intro f args mem r mem' h F w bs vs hm hargs
   simp only [evFnP] at h
   split at h
   ·rename_i G hG
    exact hX.px f G hG args mem r mem' h F w bs vs hm hargs
   ·split at h
    rotate_left
    ·simp [Tree.sel] at h
    rename_i fn hfn
    split at h
    rotate_left
    ·simp [Tree.sel] at h
    rename_i c hb
    split at h
    rotate_left
    ·simp [Tree.sel] at h
    rename_i hle
    obtain ⟨⟨x, s1⟩, h1, h2⟩ := sel_bind h
    rw [nth_eq, Array.getElem?_toList] at hfn
    have hst := init_ok (nt := fn.ntmps) hm hargs (by simpa using hle)
    refine calls_of_wp_defers hfn hb (evCodeP_ok hH.pc hX.rx hX.nc (evFn_ok hH n) (evFnP_ok hH hX n) f mem.length c 0 _ h1 (fun i b hh hi hk => hH.lh f fn c i b hh hfn hb hi (by simpa using hk)) (fun i b hh hi hk => hX.lx f fn c i b hh hfn hb hi (by simpa using hk)) (fun b hh hi hk => hX.sx f fn c b hh hfn hb hi hk) (Nat.le_of_eq hm.len.symm) (hst.toP .nil) fun F' w' bs' a' e he hs' hx => ?_)
    have hext : Ext bs.length F w bs F' w' bs' := he.weak (Nat.le_of_eq hm.len)
    have key : ∀ (pan : Option CV) (u : FrameMode), (leaveP P H X (evFn P H n) (evFnP P H X n) fn s1.s s1.dl pan s1.s.mem).sel = some (r, mem') → UMode F' w' bs' pan u → Leaves P fn a'.tmps (fun e w' => ∃ F' bs', Ext bs.length F w bs F' w' bs' ∧ MemRel P F' w' bs' mem' ∧ r.Ends F' w' bs' e) a'.defers u w' := by
     intro pan u hl hu
     have := leaveP_ok hH hX.xs (evFn_ok hH n) (evFnP_ok hH hX n) s1.dl pan s1.s.mem hl hs'.st hs'.ds hu
     exact leaveP_ok.leaves_mono (fun e w2 ⟨F2, bs2, he2, hm2, hr2⟩ => ⟨F2, bs2, hext.trans he2 hext.le, hm2, hr2⟩) _ _ _ this
    cases x with
    | normal => cases hx; exact key none .returning h2 rfl
    | ret => cases hx; exact key none .returning h2 rfl
    | pan y => obtain ⟨v, rfl, hv⟩ := hx; exact key (some y) _ h2 ⟨v, rfl, hv⟩
    | exit k => simp [Tree.sel] at h2
    | goto k => simp [Tree.sel] at h2
theorem XOk.nil {r : Nat} : XOk P ⟨[], [], [], [], [], r, []⟩ := ⟨fun f G h => by simp [lookPx] at h, fun f G h => by simp [lookRx] at h, fun f G h => by simp [lookNc] at h, fun _ _ _ _ _ _ _ _ _ h => by simp [lookLx] at h, fun _ _ _ _ _ _ _ _ h => by simp [lookSx] at h, fun f h => by simp [anyN] at h⟩
def PxOne (P : Program) (f : Nat) (G : List A1 → Mem → Tree (Out × Mem)) : Prop :=
 ∀ args mem r mem', (G args mem).sel = some (r, mem') → ∀ F w bs vs, MemRel P F w bs mem → All2 (A1.Rel F w bs) args vs →
  Calls P f vs.toArray w (fun e w' => ∃ F' bs', Ext bs.length F w bs F' w' bs' ∧ MemRel P F' w' bs' mem' ∧ r.Ends F' w' bs' e)
theorem XOk.loCons {px rx nc lx sx r lo} {f : Nat} {G : List A1 → Mem → Tree (Out × Mem)} (h : XOk P ⟨px, rx, nc, lx, sx, r, lo⟩) (h1 : PxOne P f G) (hl : LocFn G) : XOk P ⟨(f, G) :: px, rx, nc, lx, sx, r, f :: lo⟩ := by
 refine ⟨fun g G' hl => ?_, h.rx, h.nc, h.lx, h.sx, fun g hg => ?_⟩
 ·simp only [lookPx] at hl
  split at hl
  ·rename_i e
   simp at hl; subst hl
   rw [← eq_of_beq e]; exact h1
  ·exact h.px g G' hl
 ·by_cases e : f = g
  ·subst e
   exact ⟨G, by simp [lookPx], hl⟩
  ·have hg' : anyN g lo = true := by
    simp only [anyN, Bool.or_eq_true, beq_iff_eq] at hg
    exact hg.resolve_left fun h => e h.symm
   obtain ⟨G', h2, h3⟩ := h.loc g hg'
   exact ⟨G', by simp only [lookPx]; rw [if_neg (by simpa using e)]; exact h2, h3⟩
theorem HdOk.pF {pc hc lh mc} (h : HdOk P ⟨pc, hc, lh, mc⟩) (f : Nat) : HdOk P ⟨Sx.pF f :: pc, hc, lh, mc⟩ := h.tcCons (fun _ _ h => by simp [Tree.sel] at h)
theorem sel_all {α : Type} {Q : α → Prop} : ∀ {t : Tree α} {r : α}, t.sel = some r → Q r → t.All Q
 | .leaf a, r, h, hq => by simp only [Tree.sel, Option.some.injEq] at h; subst h; exact hq
 | .br c t e, r, h, hq => by
   simp only [Tree.sel] at h
   cases c
   ·exact ⟨(fun h2 => by cases h2), fun _ => sel_all h hq⟩
   ·exact ⟨fun _ => sel_all h hq, (fun h2 => by cases h2)⟩
 | .need c t, r, h, hq => by
   simp only [Tree.sel] at h
   cases c
   ·cases h
   ·exact ⟨rfl, sel_all h hq⟩
 | .fail, r, h, hq => by cases h
def hcTreeP (P : Program) (H : Hd) (X : HdP) (n f : Nat) (args : List A1) : Tree AV := (evFnP P H X n f args []).bind fun y => match y.1 with
 | .ret a => Tree.ofOpt (outA y.2 a)
 | .pan _ => .fail
theorem ucOneP_of_all {H : Hd} (hH : HdOk P H) {X : HdP} (hX : XOk P X) (n f : Nat) {G : List A1 → Option (Bool × AV)}
  (h : ∀ args r, G args = some (true, r) → (hcTreeP P H X n f args).All (fun x => leA x r)) : UcOne P f (nG G) := by
 intro args r hG hcl F w vs hargs
 have hG := nG_sel hG
 obtain ⟨x, hsel, hle⟩ := all_sel (h args r hG)
 obtain ⟨⟨r', m⟩, h1, h2⟩ := sel_bind hsel
 cases r' with
 | pan _ => simp [Tree.sel] at h2
 | ret a =>
   have ho : outA m a = some x := by
    cases hx : outA m a with
    | none => simp only at h2; rw [hx] at h2; simp [Tree.ofOpt, Tree.sel] at h2
    | some y => simp only at h2; rw [hx] at h2; simpa [Tree.ofOpt, Tree.sel] using h2
   have hargs1 : All2 (A1.Rel (fun p => F p ∧ p < w.heap.size) w []) args vs := hargs.imp fun _ _ hx => A1.Rel.grow (bs := []) (bs' := []) ⟨Nat.le_refl _, fun _ _ h => h.1, fun _ _ _ => rfl, fun _ _ h => h⟩ hx
   refine ((evFnP_ok hH hX n).ok f args [] _ m h1 _ w [] vs MemRel.nil hargs1).mono fun e w2 ⟨F', bs', hext, hm, u, he, hu⟩ => ?_
   refine ⟨u, he, hext.below, hle _ _ _ (AV.Rel.grow (bs := []) (bs' := []) ⟨Nat.le_refl _, fun p _ hp => ?_, fun _ _ _ => rfl, fun _ _ h => h⟩ (outA_ok hm hu ho))⟩
   refine ⟨hext.F2 p hp hp.2 (by simp), fun y hy e => ?_⟩
   rcases hext.mem y hy with ⟨z, hz, _⟩ | hs
   ·cases hz
   ·have := hp.2; omega
def WkO (x y : Out × Mem) : Prop := ∀ (P : Program) F w bs e, MemRel P F w bs x.2 → x.1.Ends F w bs e → ∃ F' bs', Ext 0 F w bs F' w bs' ∧ MemRel P F' w bs' y.2 ∧ y.1.Ends F' w bs' e
theorem WkO.refl {x : Out × Mem} : WkO x x := fun _ F _ bs _ hm he => ⟨F, bs, Ext.refl, hm, he⟩
theorem MemRel.rowEq {F w bs mem} (h : MemRel P F w bs mem) {b : Nat} {T : TypeId} {fz : Bool} {es : List Sh} {n : Nat} {ρ σ : Val} (hb : nth mem b = some (some (T, [.row fz es n ρ])))
  (he : ∀ i f s, i < n → nth es f = some s → cellOf s ((ρ.at i).at f) = cellOf s ((σ.at i).at f)) : MemRel P F w bs (setN mem b (some (T, [.row fz es n σ]))) := by
 have key : ∀ k T' cs, nth (setN mem b (some (T, [CV.row fz es n σ]))) k = some (some (T', cs)) → (k = b ∧ T' = T ∧ cs = [.row fz es n σ]) ∨ (k ≠ b ∧ nth mem k = some (some (T', cs))) := by
  intro k T' cs hk
  rcases nth_setN hk with ⟨rfl, e⟩ | ⟨hne, hk⟩
  ·simp at e; exact .inl ⟨rfl, e.1, e.2⟩
  ·exact .inr ⟨hne, hk⟩
 have live : ∀ k T' cs, nth (setN mem b (some (T, [CV.row fz es n σ]))) k = some (some (T', cs)) → ∀ x : BI, liveL x cs → ∃ T1 cs1, nth mem k = some (some (T1, cs1)) ∧ liveL x cs1 ∧ T' = T1 := by
  intro k T' cs hk x hv
  rcases key k T' cs hk with ⟨rfl, rfl, rfl⟩ | ⟨hne, hk⟩
  ·exact ⟨_, _, hb, hv, rfl⟩
  ·exact ⟨_, _, hk, hv, rfl⟩
 refine ⟨by rw [setN_length]; exact h.len, fun k x T' cs hk hc hv => ?_, fun k k' x x' T1 cs1 T2 cs2 h1 h2 h3 h4 h5 h6 h7 => ?_, fun k T' cs x hc hr hk => ?_, fun k T' fz' es' n' ρ' x hc hk => ?_, fun k T' f i st cs x hc hk => ?_⟩
 ·obtain ⟨T1, cs1, g1, g2, rfl⟩ := live k T' cs hc x hv
  exact h.loc k x _ cs1 hk g1 g2
 ·obtain ⟨_, _, g1, g2, _⟩ := live k T1 cs1 h3 x h5
  obtain ⟨_, _, g3, g4, _⟩ := live k' T2 cs2 h4 x' h6
  exact h.inj k k' x x' _ _ _ _ h1 h2 g1 g3 g2 g4 h7
 ·rcases key k T' cs hc with ⟨rfl, rfl, rfl⟩ | ⟨_, hk'⟩
  ·simp [isRowL] at hr
  ·exact h.cont k T' cs x hk' hr hk
 ·rcases key k T' _ hc with ⟨rfl, rfl, hcs⟩ | ⟨_, hk'⟩
  ·simp only [List.cons.injEq, CV.row.injEq, and_true] at hcs
   obtain ⟨rfl, rfl, rfl, rfl⟩ := hcs
   have := h.row k T' fz' _ _ ρ x hb hk
   refine ⟨this.len, this.le, this.mx, fun h0 => ?_, this.frz⟩
   obtain ⟨arr, a1, a2, val, a3, a4⟩ := this.blk h0
   exact ⟨arr, a1, a2, val, a3, fun i f s hi hs => he i f s hi hs ▸ a4 i f s hi hs⟩
  ·exact h.row k T' fz' es' n' ρ' x hk' hk
 ·rcases key k T' _ hc with ⟨_, _, hcs⟩ | ⟨_, hk'⟩
  ·simp at hcs
  ·exact h.lp k T' f i st cs x hk' hk
def StWk (s1 s2 : St) : Prop := ∀ (P : Program) D F w bs a, StRel P D F w bs s1 a → StRel P D F w bs s2 a
theorem StWk.refl {s : St} : StWk s s := fun _ _ _ _ _ _ h => h
theorem StWk.row {tmps : List Slot} {mem : Mem} {b : Nat} {T : TypeId} {fz : Bool} {es : List Sh} {n : Nat} {ρ σ : Val} (hb : nth mem b = some (some (T, [.row fz es n ρ])))
  (he : ∀ i f s, i < n → nth es f = some s → cellOf s ((ρ.at i).at f) = cellOf s ((σ.at i).at f)) : StWk ⟨tmps, mem⟩ ⟨tmps, setN mem b (some (T, [.row fz es n σ]))⟩ :=
 fun _ _ _ _ _ _ h => ⟨h.defers, h.len, h.slots, h.mem.rowEq hb he⟩
theorem LoopOk.wk {b : Code} {h h' : Nat → St → Tree (XE × St)} (hh : LoopOk P b h) (hw : ∀ K s x, (h' K s).sel = some x → ∃ s1, (h K s).sel = some (x.1, s1) ∧ StWk s1 x.2) : LoopOk P b h' := by
 intro K s x hx lr nn D F w bs a hK hs Q hQ
 obtain ⟨s1, h1, h2⟩ := hw K s x hx
 exact hh K s (x.1, s1) h1 lr nn D F w bs a hK hs Q fun F' w' bs' a' he hs' => hQ F' w' bs' a' he (h2 _ _ _ _ _ _ hs')
end Go.Sx
namespace Go.Sx
open Go Go.RowKit Classical
variable {P : Program}
theorem outT_mem {X : Type} {S : X → St} {y : XE × X} : ∀ {es : List XE}, y.1 ∈ es → (outT S y es).sel = some (y.1, S y.2)
 | [], h => by cases h
 | [e], h => by
   have h : y.1 = e := by simpa using h
   simp only [outT, Tree.sel, h]
   rw [eqXE_iff.2 rfl]; rfl
 | e :: e' :: r, h => by
   simp only [outT, Tree.sel]
   cases he : eqXE y.1 e
   ·simp only [cond_false]
    refine outT_mem ?_
    rcases List.mem_cons.1 h with h | h
    ·rw [eqXE_iff.2 h] at he; cases he
    ·exact h
   ·simp only [cond_true]
    rw [eqXE_iff.1 he]
noncomputable def lqT {V : Type} (S : V → St) (ok : Prop) (b : Bool) (e1 e0 : XE) (v1 v0 : V) : Tree (XE × St) := .need (dec ok) (.br b (.leaf (e1, S v1)) (.leaf (e0, S v0)))
noncomputable def lq1 {V : Type} (S : V → St) (ok : Prop) (e0 : XE) (v0 : V) : Tree (XE × St) := .need (dec ok) (.leaf (e0, S v0))
def lqH {C V : Type} (keep : List Nat) (k0 nt : Nat) (get : List (Nat × AV) → Mem → Option (C × V)) (T : C → V → Tree (XE × St)) (K : Nat) (s : St) : Tree (XE × St) :=
 if s.tmps.length == nt && Nat.ble K k0 then
  match s.gc keep k0 with
  | some s' => match getKept s' keep with
   | some l => match get l s'.mem with
    | some (c, v) => T c v
    | none => .fail
   | none => .fail
  | none => .fail
 else .fail
theorem lq_gen {H : Hd} (hH : HdOk P H) (d f i : Nat) {fn : Func} {c b : Code} (hf : P.funcs[f]? = some fn) (hc : fn.body = some c) (hb : nthLoop c i = some b) {C V : Type} (keep : List Nat) (k0 nt : Nat) (S : C → V → St) (TX : C → V → Tree (XE × V))
  (hT : ∀ c v, ((evCode P H (evFn P H d) f k0 (i + 1) (loopBody P f i) (S c v)).bind fun y => gcT keep k0 y) = (TX c v).bind fun y => .leaf (y.1, S c y.2))
  (get : List (Nat × AV) → Mem → Option (C × V)) (hget : ∀ l m c v, get l m = some (c, v) → mkS nt l m = S c v)
  (good : C → Prop) (μ : C → V → Nat) (st sb : C → Nat → V) (n : C → Nat) (bad : C → Nat → Bool) (e1 e0 : XE)
  (hsq : ∀ c, good c → Sq (TX c) (μ c) (st c) (sb c) (n c) (bad c) e1 e0) (T : C → V → Tree (XE × St))
  (hw : ∀ c v x, (T c v).sel = some x → good c ∧ v = st c 0 ∧ ∃ s1, (x.1, s1) = (bif anyB (bad c) (n c) then (e1, S c (sb c (firstB (bad c) (n c)))) else (e0, S c (st c (n c)))) ∧ StWk s1 x.2) :
  LoopOk P b (lqH keep k0 nt get T) := by
 have hl := loopOk_of hH d f i hf hc hb keep k0 nt S TX hT get (fun c v => dec (good c ∧ ∃ i, i ≤ n c ∧ v = st c i)) μ [e1, e0] (Q := fun c y => (∃ i, i < n c ∧ bad c i = true ∧ y = (e1, sb c i)) ∨ y = (e0, st c (n c))) hget
  (fun c v hv => by
   have hg := (dec_iff.1 hv).1
   exact (hsq c hg).rounds (inv := fun v => dec (good c ∧ ∃ i, i ≤ n c ∧ v = st c i) = true) (fun x => by rw [dec_iff]; exact ⟨fun h => h.2, fun k => ⟨hg, k⟩⟩) v hv)
 refine hl.wk fun K s x hx => ?_
 unfold lqH at hx
 unfold loopH
 split at hx
 ·rename_i hlen
  rw [if_pos hlen]
  cases hg : s.gc keep k0 with
  | none => rw [hg] at hx; simp [Tree.sel] at hx
  | some s' =>
    rw [hg] at hx
    simp only at hx ⊢
    cases hl : getKept s' keep with
   | none => rw [hl] at hx; simp [Tree.sel] at hx
   | some l =>
     rw [hl] at hx
     simp only at hx ⊢
     cases hgt : get l s'.mem with
    | none => rw [hgt] at hx; simp [Tree.sel] at hx
    | some p =>
      obtain ⟨cc, v⟩ := p
      rw [hgt] at hx
      simp only at hx ⊢
      obtain ⟨hgood, rfl, s1, h1, h2⟩ := hw cc v x hx
      have hfin := (hsq cc hgood).fin0
      refine ⟨s1, ?_, h2⟩
      simp only [Tree.sel, dec_iff.2 (show good cc ∧ ∃ i, i ≤ n cc ∧ st cc 0 = st cc i from ⟨hgood, 0, Nat.zero_le _, rfl⟩), cond_true]
      rw [hfin]
      cases hany : anyB (bad cc) (n cc)
      ·rw [hany] at h1
       simp only [cond_false, Prod.mk.injEq] at h1 ⊢
       rw [outT_mem (by simp), h1.1, h1.2]
      ·rw [hany] at h1
       simp only [cond_true, Prod.mk.injEq] at h1 ⊢
       rw [outT_mem (by simp), h1.1, h1.2]
 ·simp [Tree.sel] at hx
theorem lq_ok {H : Hd} (hH : HdOk P H) (d f i : Nat) {fn : Func} {c b : Code} (hf : P.funcs[f]? = some fn) (hc : fn.body = some c) (hb : nthLoop c i = some b) {C V : Type} (keep : List Nat) (k0 nt : Nat) (S : C → V → St) (TX : C → V → Tree (XE × V))
  (hT : ∀ c v, ((evCode P H (evFn P H d) f k0 (i + 1) (loopBody P f i) (S c v)).bind fun y => gcT keep k0 y) = (TX c v).bind fun y => .leaf (y.1, S c y.2))
  (get : List (Nat × AV) → Mem → Option (C × V)) (hget : ∀ l m c v, get l m = some (c, v) → mkS nt l m = S c v)
  (good : C → Prop) (μ : C → V → Nat) (st sb : C → Nat → V) (n : C → Nat) (bad : C → Nat → Bool) (e1 e0 : XE)
  (hsq : ∀ c, good c → Sq (TX c) (μ c) (st c) (sb c) (n c) (bad c) e1 e0) (v1 v0 : C → V)
  (h1 : ∀ c, good c → anyB (bad c) (n c) = true → StWk (S c (sb c (firstB (bad c) (n c)))) (S c (v1 c))) (h0 : ∀ c, good c → anyB (bad c) (n c) = false → StWk (S c (st c (n c))) (S c (v0 c))) :
  LoopOk P b (lqH keep k0 nt get fun c v => lqT (S c) (good c ∧ v = st c 0) (anyB (bad c) (n c)) e1 e0 (v1 c) (v0 c)) :=
 lq_gen hH d f i hf hc hb keep k0 nt S TX hT get hget good μ st sb n bad e1 e0 hsq _ fun c v x hx => by
  unfold lqT at hx
  simp only [Tree.sel] at hx
  cases hd : dec (good c ∧ v = st c 0)
  ·rw [hd] at hx; simp at hx
  ·rw [hd] at hx
   obtain ⟨hg, hv⟩ := dec_iff.1 hd
   refine ⟨hg, hv, ?_⟩
   cases hany : anyB (bad c) (n c)
   ·rw [hany] at hx
    simp only [cond_true, cond_false, Option.some.injEq] at hx
    subst hx
    exact ⟨_, rfl, h0 c hg hany⟩
   ·rw [hany] at hx
    simp only [cond_true, Option.some.injEq] at hx
    subst hx
    exact ⟨_, rfl, h1 c hg hany⟩
theorem lq1_ok {H : Hd} (hH : HdOk P H) (d f i : Nat) {fn : Func} {c b : Code} (hf : P.funcs[f]? = some fn) (hc : fn.body = some c) (hb : nthLoop c i = some b) {C V : Type} (keep : List Nat) (k0 nt : Nat) (S : C → V → St) (TX : C → V → Tree (XE × V))
  (hT : ∀ c v, ((evCode P H (evFn P H d) f k0 (i + 1) (loopBody P f i) (S c v)).bind fun y => gcT keep k0 y) = (TX c v).bind fun y => .leaf (y.1, S c y.2))
  (get : List (Nat × AV) → Mem → Option (C × V)) (hget : ∀ l m c v, get l m = some (c, v) → mkS nt l m = S c v)
  (good : C → Prop) (μ : C → V → Nat) (st : C → Nat → V) (n : C → Nat) (e0 : XE)
  (hsq : ∀ c, good c → Sq (TX c) (μ c) (st c) (st c) (n c) (fun _ => false) .ret e0) (v0 : C → V)
  (h0 : ∀ c, good c → StWk (S c (st c (n c))) (S c (v0 c))) :
  LoopOk P b (lqH keep k0 nt get fun c v => lq1 (S c) (good c ∧ v = st c 0) e0 (v0 c)) :=
 lq_gen hH d f i hf hc hb keep k0 nt S TX hT get hget good μ st st n (fun _ _ => false) .ret e0 hsq _ fun c v x hx => by
  unfold lq1 at hx
  simp only [Tree.sel] at hx
  cases hd : dec (good c ∧ v = st c 0)
  ·rw [hd] at hx; simp at hx
  ·rw [hd] at hx
   obtain ⟨hg, hv⟩ := dec_iff.1 hd
   simp only [cond_true, Option.some.injEq] at hx
   subst hx
   have hno : anyB (fun _ => false) (n c) = false := anyB_none fun _ _ => rfl
   exact ⟨hg, hv, _, by rw [hno]; rfl, h0 c hg⟩
end Go.Sx
namespace Go.Proofs.YtiefjlcakpdfeaaGreat.Ro
open Go Go.Sx Go.RowKit Classical
set_option maxRecDepth 100000
namespace Fo
def age (x : Sit) : Int := (hd x.ln).e
def cmpI (a b : Int) : Int := bif lt a b then -1 else bif lt b a then 1 else 0
def cmp2 (a p b q : Int) : Int := bif cmpI a b != 0 then cmpI a b else cmpI p q
def Gcmp : List A1 → Option AV
 | [.c (.int .i64 a), .c (.int .i64 b)] => some (.one (.c (I (cmpI a b))))
 | _ => none
theorem ne_self (a : Int) : (a != a) = false := by simp
theorem pCmp : PcOne Tryz.prog 68 Gcmp := pcOne_of_tree h37 10 68 fun args r h => by
 unfold Gcmp at h; split at h
 ·rename_i a b
  obtain rfl := Option.some.inj h
  refine ⟨rfl, .br (a != a) (.br (b != b) (.leaf (.one (.c (I 0)))) (.leaf (.one (.c (I (-1)))))) (.br (b != b) (.leaf (.one (.c (I 1)))) (.br (lt a b) (.leaf (.one (.c (I (-1))))) (.br (lt b a) (.leaf (.one (.c (I 1)))) (.leaf (.one (.c (I 0))))))), by kernel_rfl, all_of_sel ?_⟩
  simp only [Tree.sel, ne_self, cond_false]
  unfold cmpI
  cases lt a b
  ·cases lt b a <;> rfl
  ·rfl
 ·cases h
noncomputable abbrev HO0 : Hd := ⟨(68, oG Gcmp) :: H37.pc, H37.hc, [], H37.mc⟩
theorem hO0 : HdOk Tryz.prog HO0 := h37.pcCons pCmp
noncomputable def lhO : List ((Nat × Nat) × (Nat → St → Tree (XE × St))) := [((118, 0), unrollH Tryz.prog HO0 10 118 0 3)]
noncomputable abbrev HO : Hd := ⟨HO0.pc, HO0.hc, lhO, HO0.mc⟩
theorem hO : HdOk Tryz.prog HO := HdOk.lhCons hO0 fun _ _ _ hf hc hb => unroll_ok hO0 10 118 0 hf hc hb 3
def v2 (ρ : Val) (i : Nat) : Int := ((ρ.at i).at 0).N []
def Gor : List A1 → Option AV
 | [.c (.sl [.int .i64] 2 ρ)] => some (.one (.c (I (bif v2 ρ 0 != 0 then v2 ρ 0 else v2 ρ 1))))
 | _ => none
theorem pOr : PcOne Tryz.prog 118 Gor := pcOne_of_tree hO 10 118 fun args r h => by
 unfold Gor at h; split at h
 ·rename_i ρ
  obtain rfl := Option.some.inj h
  let k (i : Nat) : Tree AV := .leaf (.one (.c (I (v2 ρ i))))
  let z : Tree AV := .leaf (.one (.c (I 0)))
  refine ⟨rfl, .br true (.need true (.br (v2 ρ 0 != 0) (k 0) (.br true (.need true (.br (v2 ρ 1 != 0) (k 1) (.br false (.need false (.br (v2 ρ 2 != 0) (k 2) .fail)) z))) z))) z, by kernel_rfl, all_of_sel ?_⟩
  simp only [Tree.sel, cond_true, cond_false, k, z]
  cases h0 : v2 ρ 0 != 0
  ·cases h1 : v2 ρ 1 != 0
   ·have h1 : v2 ρ 1 = 0 := by simpa [bne] using h1
    rw [h1]; rfl
   ·rfl
  ·rfl
 ·cases h
noncomputable abbrev HFa : Hd := ⟨(118, oG Gor) :: (68, oG Gcmp) :: H37.pc, H37.hc, [], H37.mc⟩
theorem hFa : HdOk Tryz.prog HFa := (h37.pcCons pCmp).pcCons pOr
def Gcp2 : List A1 → Option AV
 | [.agg [.int .i64 a, .int .i64 p], .agg [.int .i64 b, .int .i64 q]] => some (.one (.c (I (cmp2 a p b q))))
 | _ => none
theorem pCp2 : PcOne Tryz.prog 71 Gcp2 := pcOne_of_ev hFa 10 71 fun args r h => by
 unfold Gcp2 at h; split at h
 ·obtain rfl := Option.some.inj h
  exact ⟨rfl, by kernel_rfl, by kernel_rfl⟩
 ·cases h
noncomputable def Gof : List A1 → Option (Bool × AV)
 | [.agg [.int .i64 a, .int .i64 r, .int .i64 e, .int .i64 p, .sl [.int .i64, .int .i64, .int .i64] n ρ, .int .i64 s, .bool l, .bool c]] => some (dec (fewN n), .one (.agg [I (age ⟨a, r, e, p, n, ρ, s, l, c⟩), I p]))
 | _ => none
theorem hd_some {l : Ln} (hn : fewN l.n) (h : lt 0 (toInt64 l.n) = true) : inRange (IntKind.i64.wrap (toInt64 l.n - 1)) l.n = true ∧ spn l.ρ (IntKind.i64.wrap (toInt64 l.n - 1)).toNat = hd l := by
 refine last_ok hn ?_
 rw [lt_iff] at h
 have h : (0 : Int) < (l.n : Int) := h
 have : (l.n : Int) ≠ 0 := by omega
 simpa [toInt64] using this
theorem hd_none {l : Ln} (h : lt 0 (toInt64 l.n) = false) : hd l = ⟨0, 0, 0⟩ := by
 refine hd_zero ?_
 rw [← Bool.not_eq_true, lt_iff] at h
 have h : ¬ (0 : Int) < (l.n : Int) := h
 have : (l.n : Int) = 0 := by omega
 simpa [toInt64] using this
theorem pOf : TcOne Tryz.prog 72 (nG Gof) := tcOne_of_tree hFa 10 72 fun args r h => by
 unfold Gof at h; split at h
 ·rename_i a r e p n ρ s l c
  obtain ⟨hp, rfl⟩ := Prod.mk.inj (Option.some.inj h)
  have hp := dec_iff.1 hp
  refine ⟨rfl, .br (lt 0 (toInt64 n)) (.need (inRange (IntKind.i64.wrap (toInt64 n - 1)) n) (.leaf (.one (.agg [I (spn ρ (IntKind.i64.wrap (toInt64 n - 1)).toNat).e, I p])))) (.leaf (.one (.agg [I 0, I p]))), by kernel_rfl, fun h0 => ?_, fun h0 => ?_⟩
  ·obtain ⟨a, b⟩ := hd_some (l := ⟨n, ρ⟩) hp h0
   simp only at a b
   exact ⟨a, by rw [b]; rfl⟩
  ·have := hd_none (l := ⟨n, ρ⟩) h0
   show _ = AV.one (.agg [I (hd ⟨n, ρ⟩).e, I p])
   rw [this]
 ·cases h
def fol (r : Int) : Bool := r == 2 || r == 3
def Gfol : List A1 → Option AV
 | [.agg [.int .i64 _, .int .i64 r, .int .i64 _, .int .i64 _, .sl [.int .i64, .int .i64, .int .i64] _ _, .int .i64 _, .bool _, .bool _]] => some (.one (.c (.bool (fol r))))
 | _ => none
theorem pFol : PcOne Tryz.prog 70 Gfol := pcOne_of_ev hFa 10 70 fun args r h => by
 unfold Gfol at h; split at h
 ·obtain rfl := Option.some.inj h
  exact ⟨rfl, by kernel_rfl, by kernel_rfl⟩
 ·cases h
noncomputable abbrev HFb : Hd := ⟨(71, oG Gcp2) :: (72, nG Gof) :: (70, oG Gfol) :: HFa.pc, HFa.hc, [], HFa.mc⟩
theorem hFb : HdOk Tryz.prog HFb := ((hFa.pcCons pFol).tcCons pOf).pcCons pCp2
end Fo
end Go.Proofs.YtiefjlcakpdfeaaGreat.Ro
