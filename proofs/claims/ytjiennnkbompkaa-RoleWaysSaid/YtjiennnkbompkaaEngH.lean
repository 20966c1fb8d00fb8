/-
  The evaluator's soundness (part H): regions, code, functions.
-/
import Derived.Test.YtjiennnkbompkaaEngJa
namespace Go.Sx
open Go Go.RowKit

section
variable {P : Program}

theorem gdec_ok {F w bs s} {a : Act} (hs : StRel F w bs s a) : ∀ {K : List (Nat × Bool)} {g : Bool}, gdec s K = some g → (g = true ↔ KH a K)
  | [], g, h => by simp [gdec] at h; subst h; exact ⟨fun _ => KH_nil, fun _ => rfl⟩
  | (d, b) :: r, g, h => by
    simp only [gdec] at h
    split at h
    · rename_i ks c gr hn hgr
      split at h
      · rename_i hall
        simp at h; subst h
        have ih := gdec_ok hs hgr
        cases gr
        · refine ⟨fun h => by simp [and'] at h, fun hk => ?_⟩
          have := ih.2 fun p hp => hk p (by simp [hp])
          cases this
        · have hr := ih.1 rfl
          have hks : KH a ks := fun p hp => by
            rw [List.all_eq_true] at hall
            exact hr p (keyIn_ok (hall p hp))
          obtain ⟨x, hx⟩ : ∃ x, a.tmps[d]? = some x := by
            have hlt : d < s.tmps.length := nth_lt hn
            rw [hs.len] at hlt
            exact ⟨a.tmps[d], by simp [hlt]⟩
          have hv := (hs.slots d _ x hn hx).1 hks
          have hx' : x = .bool c := by cases hv; rfl
          subst hx'
          simp only [and']
          refine ⟨fun hcb => ?_, fun hk => ?_⟩
          · have hcb : c = b := by simpa using hcb
            subst hcb
            intro p hp
            simp only [List.mem_cons] at hp
            rcases hp with rfl | hp
            · exact hx
            · exact hr p hp
          · have := hk (d, b) (by simp)
            simp only [hx, Option.some.injEq, Value.bool.injEq] at this
            simp [this]
      · simp at h
    · simp at h

theorem evOps_ok {H : Hd} (hpc : SumOk P H) {call : CallH} (hcall : CallOk P call) {ops : Array Oper} {Q : Exit → Act → World → Prop} {s' : St} : ∀ (l : List Oper) (s : St) {F : Nat → Prop} {w : World} {bs : List BI} {a : Act},
    (evOps P H call false ops.toList l s).sel = some s' → StRel F w bs s a → (∀ F' w' bs' a', Ext bs.length F w bs F' w' bs' → StRel F' w' bs' s' a' → Q .normal a' w') → wpList P ops Q l a w
  | [], s, F, w, bs, a, h, hs, hQ => by
    simp only [evOps, Tree.sel, Option.some.injEq] at h
    subst h
    exact wpList_nil (hQ F w bs a Ext.refl hs)
  | o :: r, s, F, w, bs, a, h, hs, hQ => by
    simp only [evOps] at h
    split at h
    · rename_i hg
      simp only [Bool.false_and, Bool.false_eq_true, if_false] at h
      obtain ⟨⟨rv, mem'⟩, h1, h2⟩ := sel_bind h
      refine wpList_plain hg fun K hK => evOp_ok hpc hcall hs h1 fun F' w' bs' v hext hm hr => hK _ _ ?_
      refine evOps_ok hpc hcall r _ h2 (StRel.put (hs.ext hext hm) (fun _ hp => by cases hp) (fun _ => hr) (fun h => (h KH_nil).elim)) fun F'' w'' bs'' a'' he hs'' => hQ _ _ _ _ (hext.trans he hext.le) hs''
    · rename_i j b hg
      split at h
      · rename_i K hkeys
        split at h
        · simp [Tree.sel] at h
        rename_i hdst
        simp only [Bool.not_eq_true] at hdst
        have hkd : ∀ p ∈ K, some p.1 ≠ o.dst := by
          intro p hp e
          rw [List.any_eq_false] at hdst
          exact hdst p hp (by simp [e])
        have hiff := keys_ok hs hkeys
        split at h
        · rename_i hq
          obtain ⟨⟨rv, mem'⟩, h1, h2⟩ := sel_bind h
          refine wpList_step fun KK hKK => ?_
          by_cases hk : KH a K
          · have hw : Region.wanted o (yielded ops a.tmps) = true := (wanted_iff hg _).2 (hiff.1 hk)
            rw [if_pos hw]
            have h1' := toNeed_sel h1 (gterm_ok hs hk)
            have hρ : ∀ K' x av, KH a K' → opnd s (K' ++ K) x = some av → av.Rel F w bs (a.eval x) := fun K' x av hk' hh => opnd_ok hs (fun p hp => (List.mem_append.1 hp).elim (hk' p) (hk p)) hh
            have hme := still_mem (ρ := fun K' => opnd s (K' ++ K)) hpc hs.mem hρ hq h1'
            subst hme
            refine evOp_at hpc hcall hs.mem hρ h1' fun F' w' bs' v hext hm hr => hKK _ _ ?_
            exact evOps_ok hpc hcall r _ h2 (StRel.put (hs.ext hext hm) hkd (fun _ => hr) (fun h => (h hk).elim)) fun F'' w'' bs'' a'' he hs'' => hQ _ _ _ _ (hext.trans he hext.le) hs''
          · have hw : ¬ Region.wanted o (yielded ops a.tmps) = true := fun h => hk (hiff.2 ((wanted_iff hg _).1 h))
            rw [if_neg hw]
            exact hKK _ _ (evOps_ok hpc hcall r _ h2 (StRel.put hs hkd (fun h => (hk h).elim) (fun _ => rfl)) hQ)
        · simp only [Bool.false_eq_true, if_false] at h
          split at h
          · rename_i g hgd
            have hgk := gdec_ok hs hgd
            simp only [Tree.sel] at h
            refine wpList_step fun KK hKK => ?_
            by_cases hk : KH a K
            · have hw : Region.wanted o (yielded ops a.tmps) = true := (wanted_iff hg _).2 (hiff.1 hk)
              rw [if_pos hw]
              rw [hgk.2 hk, cond_true] at h
              obtain ⟨⟨rv, mem'⟩, h1, h2⟩ := sel_bind h
              have hρ : ∀ K' x av, KH a K' → opnd s (K' ++ K) x = some av → av.Rel F w bs (a.eval x) := fun K' x av hk' hh => opnd_ok hs (fun p hp => (List.mem_append.1 hp).elim (hk' p) (hk p)) hh
              refine evOp_at hpc hcall hs.mem hρ h1 fun F' w' bs' v hext hm hr => hKK _ _ ?_
              exact evOps_ok hpc hcall r _ h2 (StRel.put (hs.ext hext hm) (fun _ hp => by cases hp) (fun _ => hr) (fun h => (h KH_nil).elim)) fun F'' w'' bs'' a'' he hs'' => hQ _ _ _ _ (hext.trans he hext.le) hs''
            · have hw : ¬ Region.wanted o (yielded ops a.tmps) = true := fun h => hk (hiff.2 ((wanted_iff hg _).1 h))
              rw [if_neg hw]
              have hg0 : g = false := by cases hgv : g; rfl; exact (hk (hgk.1 hgv)).elim
              rw [hg0, cond_false] at h
              exact hKK _ _ (evOps_ok hpc hcall r _ h (StRel.put hs hkd (fun h => (hk h).elim) (fun _ => rfl)) hQ)
          · simp [Tree.sel] at h
      · simp [Tree.sel] at h

def xe : XE → Exit
  | .normal => .normal
  | .exit k => .exit k
  | .ret => .ret

/-- what is known of a loop's summary -/
def LoopOk (P : Program) (b : Code) (h : Nat → St → Tree (XE × St)) : Prop :=
  ∀ K s x, (h K s).sel = some x → ∀ F w bs a, K ≤ bs.length → StRel F w bs s a → ∀ Q : Exit → Act → World → Prop,
    (∀ F' w' bs' a', Ext K F w bs F' w' bs' → StRel F' w' bs' x.2 a' → Q (xe x.1) a' w') → (Code.loop b).wp P Q a w

theorem StRel.unkey {F w bs s} {a : Act} (hs : StRel F w bs s a) : StRel F w bs { s with tmps := s.tmps.map Sx.unkey } a := by
  refine ⟨hs.defers, by simp [hs.len], fun i sl x h1 h2 => ?_, hs.mem⟩
  rw [nth_eq, List.getElem?_map] at h1
  simp only [Option.map_eq_some_iff] at h1
  obtain ⟨s0, h0, rfl⟩ := h1
  have := hs.slots i s0 x (by rw [nth_eq]; exact h0) h2
  unfold Sx.unkey
  split
  · exact this
  · exact ⟨fun _ => trivial, fun h => (h KH_nil).elim⟩

theorem evCode_ok {H : Hd} (hpc : SumOk P H) {call : CallH} (hcall : CallOk P call) (f K : Nat) : ∀ (c : Code) (n : Nat) (s : St) {x : XE × St},
    (evCode P H call f K n c s).sel = some x → (∀ i b h, nthLoop c i = some b → lookLh H.lh f (n + i) = some h → LoopOk P b h) → ∀ {F : Nat → Prop} {w : World} {bs : List BI} {a : Act}, K ≤ bs.length → StRel F w bs s a → ∀ {Q : Exit → Act → World → Prop},
    (∀ F' w' bs' a', Ext K F w bs F' w' bs' → StRel F' w' bs' x.2 a' → Q (xe x.1) a' w') → c.wp P Q a w := by
  intro c
  induction c with
  | skip =>
    intro n s x h _ F w bs a hK hs Q hQ
    simp only [evCode, Tree.sel, Option.some.injEq] at h
    subst h
    exact wp_skip (hQ F w bs a Ext.refl hs)
  | region id ops draw =>
    intro n s x h _ F w bs a hK hs Q hQ
    simp only [evCode] at h
    cases draw
    · simp only [Bool.false_eq_true, if_false] at h
      obtain ⟨s', h1, h2⟩ := sel_bind h
      simp only [Tree.sel, Option.some.injEq] at h2
      subst h2
      exact wp_region_list (evOps_ok hpc hcall _ _ h1 hs fun F' w' bs' a' he hs' => hQ F' w' bs' a' (he.weak hK) hs'.unkey)
    · simp only [if_true] at h
      split at h
      · rename_i hm
        obtain ⟨⟨s', is⟩, h1, h2⟩ := sel_bind h
        simp only at h2
        split at h2
        · rename_i hd
          simp only [Tree.sel, Option.some.injEq] at h2
          subst h2
          refine draw_ok hpc hcall hm h1 hd (fun sl hsl => ?_) hs.unkey fun F' w' bs' a' he hs' => hQ F' w' bs' a' (he.weak hK) hs'.unkey
          simp only [List.mem_map] at hsl
          obtain ⟨s0, _, rfl⟩ := hsl
          unfold Sx.unkey
          split
          · rename_i hk; simpa using hk
          · rfl
        · simp [Tree.sel] at h2
      · simp [Tree.sel] at h
  | seq a b iha ihb =>
    intro n s x h hl F w bs a' hK hs Q hQ
    simp only [evCode] at h
    obtain ⟨y, h1, h2⟩ := sel_bind h
    refine wp_seq (iha n s h1 (fun i bb hh hi hk => hl i bb hh (by
      simp only [nthLoop]
      have : i < nloops a := by
        rcases Nat.lt_or_ge i (nloops a) with h' | h'
        · exact h'
        · exact absurd hi (by rw [nthLoop_none a i h']; simp)
      rw [if_pos this]; exact hi) hk) hK hs fun F' w' bs' a'' he hs' => ?_)
    obtain ⟨e, s'⟩ := y
    cases e with
    | normal =>
      simp only [xe, Exit.then]
      refine ihb (n + nloops a) s' h2 (fun i bb hh hi hk => hl (nloops a + i) bb hh (by
        simp only [nthLoop]
        rw [if_neg (by omega)]
        rw [show nloops a + i - nloops a = i by omega]; exact hi) (by rw [← Nat.add_assoc]; exact hk)) (he.le hK) hs' fun F'' w'' bs'' a3 he' hs'' => hQ _ _ _ _ (he.trans he' (Nat.le_refl _)) hs''
    | exit k =>
      simp only [Tree.sel, Option.some.injEq] at h2
      subst h2
      exact hQ _ _ _ _ he hs'
    | ret =>
      simp only [Tree.sel, Option.some.injEq] at h2
      subst h2
      exact hQ _ _ _ _ he hs'
  | cond c a b iha ihb =>
    intro n s x h hl F w bs a' hK hs Q hQ
    simp only [evCode] at h
    split at h
    · rename_i t ht
      have hr := opnd_ok hs KH_nil ht
      have hc : a'.eval c = .bool t := by
        generalize a'.eval c = z at hr ⊢
        cases hr; rfl
      obtain ⟨y, hy, hxe, hwk⟩ := joinC_ok h
      have hQ' : ∀ F' w' bs' a', Ext K F w bs F' w' bs' → StRel F' w' bs' y.2 a' → Q (xe y.1) a' w' := fun F' w' bs' a' he hs' => by
        obtain ⟨d, hd⟩ := hwk hs'
        rw [← hxe]
        exact hQ F' w' _ a' (he.trans (Ext.dummies (K := K) d) (Nat.le_refl _)) hd
      cases t
      · simp only [cond_false] at hy
        refine wp_cond_false hc (ihb (n + nloops a) s hy (fun i bb hh hi hk => hl (nloops a + i) bb hh (by
          simp only [nthLoop]
          rw [if_neg (by omega)]
          rw [show nloops a + i - nloops a = i by omega]; exact hi) (by rw [← Nat.add_assoc]; exact hk)) hK hs hQ')
      · simp only [cond_true] at hy
        refine wp_cond_true hc (iha n s hy (fun i bb hh hi hk => hl i bb hh (by
          simp only [nthLoop]
          have : i < nloops a := by
            rcases Nat.lt_or_ge i (nloops a) with h' | h'
            · exact h'
            · exact absurd hi (by rw [nthLoop_none a i h']; simp)
          rw [if_pos this]; exact hi) hk) hK hs hQ')
    · simp [Tree.sel] at h
  | block id b ih =>
    intro n s x h hl F w bs a' hK hs Q hQ
    simp only [evCode] at h
    obtain ⟨y, h1, h2⟩ := sel_bind h
    refine wp_block (ih n s h1 (fun i bb hh hi hk => hl i bb hh hi hk) hK hs fun F' w' bs' a'' he hs' => ?_)
    obtain ⟨e, s'⟩ := y
    cases e with
    | normal =>
      simp only [Tree.sel, Option.some.injEq] at h2
      subst h2
      exact hQ _ _ _ _ he hs'
    | exit k =>
      simp only [Tree.sel, Option.some.injEq] at h2
      subst h2
      simp only [xe, Exit.inBlock]
      have := hQ _ _ _ _ he hs'
      by_cases hk : k = id
      · simpa [hk, xe] using this
      · simpa [hk, xe] using this
    | ret =>
      simp only [Tree.sel, Option.some.injEq] at h2
      subst h2
      exact hQ _ _ _ _ he hs'
  | loop b _ =>
    intro n s x h hl F w bs a' hK hs Q hQ
    simp only [evCode] at h
    split at h
    · rename_i hh hk
      exact hl 0 b hh rfl (by simpa using hk) K s x h F w bs a' hK hs Q hQ
    · simp [Tree.sel] at h
  | exit id =>
    intro n s x h _ F w bs a hK hs Q hQ
    simp only [evCode, Tree.sel, Option.some.injEq] at h
    subst h
    exact wp_exit (hQ F w bs a Ext.refl hs)
  | ret =>
    intro n s x h _ F w bs a hK hs Q hQ
    simp only [evCode, Tree.sel, Option.some.injEq] at h
    subst h
    exact wp_ret (hQ F w bs a Ext.refl hs)
  | rangeFunc _ _ _ _ _ _ => intro n s x h; simp [evCode, Tree.sel] at h
  | scope _ _ => intro n s x h; simp [evCode, Tree.sel] at h
  | label _ => intro n s x h; simp [evCode, Tree.sel] at h
  | goto _ => intro n s x h; simp [evCode, Tree.sel] at h
  | refuse _ => intro n s x h; simp [evCode, Tree.sel] at h
 where nthLoop_none : ∀ (c : Code) (i : Nat), nloops c ≤ i → nthLoop c i = none
  | .skip, _, _ => rfl
  | .region _ _ _, _, _ => rfl
  | .seq a b, i, h => by
    simp only [nloops] at h
    simp only [nthLoop]
    rw [if_neg (by omega)]
    exact nthLoop_none b _ (by omega)
  | .cond _ a b, i, h => by
    simp only [nloops] at h
    simp only [nthLoop]
    rw [if_neg (by omega)]
    exact nthLoop_none b _ (by omega)
  | .block _ b, i, h => by simpa [nthLoop] using nthLoop_none b i h
  | .loop b, i, h => by
    simp only [nloops] at h
    cases i with
    | zero => omega
    | succ i => simpa [nthLoop] using nthLoop_none b i (by omega)
  | .rangeFunc _ _ _ _, _, _ => rfl
  | .exit _, _, _ => rfl
  | .scope b, i, h => by simpa [nthLoop] using nthLoop_none b i h
  | .label _, _, _ => rfl
  | .goto _, _, _ => rfl
  | .ret, _, _ => rfl
  | .refuse _, _, _ => rfl

/-- what is known of the summaries -/
structure HdOk (P : Program) (H : Hd) : Prop where
  pc : SumOk P H
  lh : ∀ f fn c i b h, P.funcs[f]? = some fn → fn.body = some c → nthLoop c i = some b → lookLh H.lh f i = some h → LoopOk P b h

def resSem (tmps : Array Value) : ResultVar → Sem Value
  | .tmp t => pure (tmps.getD t undef)
  | .cell p t => do loadVar t (← asAddr (tmps.getD p undef))

theorem run_result {F w bs s} {a : Act} (hs : StRel F w bs s a) {x : ResultVar} {r : A1} (h : evResult P s x = some r) :
    ∃ z, r.Rel F w bs z ∧ (resSem a.tmps x).run P w = .ok z w := by
  have slot : ∀ {t : Nat} {v : AV}, nth s.tmps t = some ⟨[], v⟩ → v.Rel F w bs (a.tmps.getD t undef) := by
    intro t v hn
    have := opnd_ok (x := .tmp t) (av := v) hs KH_nil (by simp [opnd, hn])
    simpa [Act.eval] using this
  unfold evResult at h
  cases x with
  | tmp t =>
    simp only at h
    split at h
    · rename_i b hn
      simp at h; subst h
      exact ⟨_, slot hn, rfl⟩
    · simp at h
  | cell p t =>
    simp only at h
    split at h
    · rename_i v hn
      split at h
      · rename_i b hb
        simp at h; subst h
        obtain ⟨b', q, o, z, he, hv, hz, hrun⟩ := evLoad_ok hb hs.mem (slot hn)
        simp at he; subst he
        refine ⟨z, hz, ?_⟩
        simp only [resSem, Sem.run_bind, hv, asAddr, Sem.run_pure, Result.andThen_ok, hrun w (Below.refl _ _)]
      · simp at h
    · simp at h

theorem run_results {F w bs s} {a : Act} (hs : StRel F w bs s a) {fn : Func} {l : List A1} (h : evResults P s fn.results.toList = some l) :
    ∃ z, (resOf l).Rel F w bs z ∧ (results fn a.tmps).run P w = .ok z w := by
  have key : ∀ (rs : List ResultVar) (l : List A1), evResults P s rs = some l → ∃ zs : List Value, All2 (A1.Rel F w bs) l zs ∧
      (rs.mapM (resSem a.tmps)).run P w = .ok zs w := by
    intro rs
    induction rs with
    | nil => intro l h; simp [evResults] at h; subst h; exact ⟨[], .nil, by simp⟩
    | cons x rs ih =>
      intro l h
      simp only [evResults] at h
      split at h
      · rename_i b l' hb hl
        simp at h; subst h
        obtain ⟨zs, h1, h2⟩ := ih l' hl
        obtain ⟨z, hz, hrun⟩ := run_result hs hb
        exact ⟨z :: zs, .cons hz h1, by simp only [List.mapM_cons, Sem.run_bind, hrun, Result.andThen_ok, h2, Sem.run_pure]⟩
      · simp at h
  obtain ⟨zs, h1, h2⟩ := key _ _ h
  have hres : (results fn a.tmps).run P w = .ok (if h : zs.toArray.size = 1 then zs.toArray[0] else .tuple zs.toArray) w := by
    have hu : results fn a.tmps = (do let vs ← fn.results.mapM (resSem a.tmps); pure (if h : vs.size = 1 then vs[0] else .tuple vs)) := rfl
    rw [hu, Array.mapM_eq_mapM_toList]
    simp only [Sem.run_bind, Sem.run_map, h2, Result.andThen_ok, Sem.run_pure]
  rw [hres]
  refine ⟨_, ?_, rfl⟩
  unfold resOf
  split
  · rename_i b
    cases h1 with
    | cons hb hr => cases hr; simpa [AV.Rel] using hb
  · rename_i hne
    have : ¬ zs.toArray.size = 1 := by
      intro e
      have hl := h1.length
      simp at e
      match l, hl with
      | [], hl => simp [e] at hl
      | [x], _ => exact hne x rfl
      | _ :: _ :: _, hl => simp [e] at hl
    rw [dif_neg this]
    exact ⟨zs, rfl, h1⟩

theorem evFn_ok {H : Hd} (hH : HdOk P H) : ∀ n, CallOk P (evFn P H n)
  | 0 => by intro f args mem r mem' h; simp [evFn, Tree.sel] at h
  | n + 1 => by
    intro f args mem r mem' h F w bs vs hm hargs
    simp only [evFn] at h
    split at h
    · rename_i G hG
      exact hH.pc.mc f G hG args mem r mem' h F w bs vs hm hargs
    · split at h
      rotate_left
      · simp [Tree.sel] at h
      rename_i fn hfn
      split at h
      · rename_i c hb
        split at h
        · rename_i hle
          obtain ⟨y0, h0, hwk⟩ := joined_ok h
          obtain ⟨y, h1, h2⟩ := sel_bind h0
          rw [nth_eq] at hfn
          simp only [Array.getElem?_toList] at hfn
          have hl := hargs.length
          have hle' : args.length ≤ fn.ntmps := by simpa using hle
          refine calls_of_wp hfn hb ?_
          refine evCode_ok hH.pc (evFn_ok hH n) f mem.length c 0 _ h1 (fun i b hh hi hk => hH.lh f fn c i b hh hfn hb hi (by simpa using hk)) (F := F) (bs := bs) (Nat.le_of_eq hm.len.symm) ⟨rfl, ?_, ?_, hm⟩ fun F' w' bs' a' he hs' => ?_
          · simp [hl]
          · intro i sl x hsl hx
            simp only [nth_eq] at hsl
            rcases Nat.lt_or_ge i args.length with hi | hi
            · rw [List.getElem?_append_left (by simpa using hi)] at hsl
              simp only [List.getElem?_map, Option.map_eq_some_iff] at hsl
              obtain ⟨b, hb', rfl⟩ := hsl
              rw [Array.getElem?_append_left (by simp; omega)] at hx
              obtain ⟨v, hv, hr⟩ := hargs.nth (by rw [nth_eq]; exact hb')
              simp only [List.getElem?_toArray] at hx
              rw [hv] at hx
              simp at hx; subst hx
              exact ⟨fun _ => hr, fun h => (h KH_nil).elim⟩
            · rw [List.getElem?_append_right (by simpa using hi)] at hsl
              rw [List.getElem?_replicate] at hsl
              split at hsl
              · simp at hsl; subst hsl
                exact ⟨fun _ => trivial, fun h => (h KH_nil).elim⟩
              · simp at hsl
          · obtain ⟨e, s'⟩ := y
            have fin : ∀ z, evResults P s' fn.results.toList = some z → resOf z = y0.1 → s'.mem = y0.2 → a'.defers = [] ∧ ∃ v, (results fn a'.tmps).run P w' = .ok v w' ∧ (fun e w' => ∃ v F' bs', e = Ending.returned v ∧ Ext bs.length F w bs F' w' bs' ∧ MemRel F' w' bs' mem' ∧ AV.Rel F' w' bs' r v) (.returned v) w' := by
              intro z hz hr hme
              obtain ⟨v, hv, hrun⟩ := run_results hs' hz
              rw [hr] at hv
              obtain ⟨F2, bs2, e2, m2, r2⟩ := hwk F' w' bs' v (he.le (Nat.le_of_eq hm.len.symm)) (hme ▸ hs'.mem) hv
              refine ⟨hs'.defers, v, hrun, v, F2, bs2, rfl, ?_, m2, r2⟩
              have e3 := he.trans e2 (Nat.le_refl _)
              rw [← hm.len] at e3
              exact e3
            cases e with
            | normal =>
              simp only at h2
              split at h2
              · rename_i z hz
                simp only [Tree.sel, Option.some.injEq] at h2
                exact fin z hz (by rw [← h2]) (by rw [← h2])
              · simp [Tree.sel] at h2
            | exit k => simp [Tree.sel] at h2
            | ret =>
              simp only at h2
              split at h2
              · rename_i z hz
                simp only [Tree.sel, Option.some.injEq] at h2
                exact fin z hz (by rw [← h2]) (by rw [← h2])
              · simp [Tree.sel] at h2
        · simp [Tree.sel] at h
      · simp [Tree.sel] at h

end
end Go.Sx
