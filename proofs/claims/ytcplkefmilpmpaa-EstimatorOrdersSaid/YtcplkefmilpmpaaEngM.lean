/-
  The evaluator's soundness (part M): a statement whose order is open, with operations that write memory.
-/
import Derived.Test.YtcplkefmilpmpaaEngG
namespace Go.Sx
open Go Go.RowKit

/-- what a memory says at a place: 0 is the number of blocks, b + 1 the block b -/
def obs (m : Mem) : Nat → Nat ⊕ Option (Option (TypeId × List CV))
  | 0 => .inl m.length
  | b + 1 => .inr (nth m b)

theorem obs_ext {m m' : Mem} (h : ∀ l, obs m l = obs m' l) : m = m' := by
  apply List.ext_getElem?
  intro i
  have := h (i + 1)
  simpa [obs, nth_eq] using this

def Touch.at : Touch → Nat → Prop
  | none, _ => True
  | some t, l => ∃ x, (l, x) ∈ t

def Touch.wr : Touch → Nat → Prop
  | none, _ => True
  | some t, l => (l, true) ∈ t

theorem Touch.wr_at {t : Touch} {l : Nat} (h : t.wr l) : t.at l := by
  cases t
  · trivial
  · exact ⟨true, h⟩

theorem bind_sel {α β : Type} {t : Tree α} {f : α → Tree β} {a : α} (h : t.sel = some a) : (t.bind f).sel = (f a).sel := by
  induction t with
  | leaf b => simp only [Tree.sel, Option.some.injEq] at h; subst h; rfl
  | br c t e iht ihe =>
    simp only [Tree.bind, Tree.sel] at h ⊢
    cases c
    · exact ihe h
    · exact iht h
  | need c t ih =>
    simp only [Tree.bind, Tree.sel] at h ⊢
    cases c
    · simp at h
    · exact ih h
  | fail => simp [Tree.sel] at h

theorem anyN_iff {t : Nat} {ts : List Nat} : anyN t ts = true ↔ t ∈ ts := by
  induction ts with
  | nil => simp [anyN]
  | cons u r ih => simp [anyN, ih]

theorem limit_le {ts : List Nat} {ρ : Operand → Option AV} {x : Operand} {av : AV} (h : limit ts ρ x = some av) : ρ x = some av := by
  unfold limit at h
  split at h
  · split at h
    · exact h
    · simp at h
  · exact h

theorem limit_congr {ts : List Nat} {ρ ρ' : Operand → Option AV} (h : ∀ t ∈ ts, ρ (.tmp t) = ρ' (.tmp t)) (h' : ∀ x, (∀ t, x ≠ .tmp t) → ρ x = ρ' x) : limit ts ρ = limit ts ρ' := by
  funext x
  cases x with
  | tmp t =>
    simp only [limit]
    split
    · rename_i ha
      exact h t (anyN_iff.1 ha)
    · rfl
  | _ => exact h' _ (by simp)

theorem lim_congr {o : Oper} {s s' : St} {K : List (Nat × Bool)} (h : ∀ t ∈ tmpsIn o.op.operands.toList, nth s.tmps t = nth s'.tmps t) : lim o s K = lim o s' K := by
  unfold lim
  refine limit_congr (fun t ht => ?_) (fun x hx => ?_)
  · simp only [opnd, h t ht]
  · unfold opnd
    split
    · exact absurd rfl (hx _)
    · rfl
    · rfl
    · rfl

section
variable {P : Program}

theorem evOp_mem {H : Hd} {call : CallH} {M M' mem : Mem} {ρ : List (Nat × Bool) → Operand → Option AV} {op : Op} {r : AV} (h : (evOp P H call M ρ op).sel = some (r, M'))
    (hat : ∀ l, (touchOf H (ρ []) M.length op).at l → obs mem l = obs M l) :
    ∃ mem', (evOp P H call mem ρ op).sel = some (r, mem') ∧ ∀ l, ((touchOf H (ρ []) M.length op).wr l → obs mem' l = obs M' l) ∧ (¬ (touchOf H (ρ []) M.length op).wr l → obs mem' l = obs mem l ∧ obs M' l = obs M l) := by
  cases hT : touchOf H (ρ []) M.length op with
  | none =>
    rw [hT] at hat
    obtain rfl : mem = M := obs_ext fun l => hat l trivial
    exact ⟨M', h, fun l => ⟨fun _ => rfl, fun hn => (hn trivial).elim⟩⟩
  | some t =>
    rw [hT] at hat
    have pure_case : ∀ e : Tree AV, (e.bind fun v => Tree.leaf (v, M)).sel = some (r, M') → t = [] → ∃ mem', (e.bind fun v => Tree.leaf (v, mem)).sel = some (r, mem') ∧ ∀ l, (Touch.wr (some t) l → obs mem' l = obs M' l) ∧ (¬ Touch.wr (some t) l → obs mem' l = obs mem l ∧ obs M' l = obs M l) := by
      intro e he ht
      obtain ⟨v, hv, h2⟩ := sel_bind he
      simp only [Tree.sel, Option.some.injEq, Prod.mk.injEq] at h2
      obtain ⟨rfl, rfl⟩ := h2
      subst ht
      exact ⟨mem, by rw [bind_sel hv]; rfl, fun l => ⟨fun hw => by simp [Touch.wr] at hw, fun _ => ⟨rfl, rfl⟩⟩⟩
    have grow : ∀ b : Option (TypeId × List CV), t = [(0, true), (M.length + 1, true)] → ∀ l, (Touch.wr (some t) l → obs (mem ++ [b]) l = obs (M ++ [b]) l) ∧ (¬ Touch.wr (some t) l → obs (mem ++ [b]) l = obs mem l ∧ obs (M ++ [b]) l = obs M l) := by
      intro b ht l
      subst ht
      have hlen : mem.length = M.length := by simpa [obs] using hat 0 ⟨true, by simp⟩
      refine ⟨fun hw => ?_, fun hn => ?_⟩
      · simp only [Touch.wr, List.mem_cons, Prod.mk.injEq, and_true, List.not_mem_nil, or_false] at hw
        rcases hw with rfl | rfl
        · simp [obs, hlen]
        · simp only [obs, nth_append_last]
          rw [← hlen, nth_append_last]
      · simp only [Touch.wr, List.mem_cons, Prod.mk.injEq, and_true, List.not_mem_nil, or_false, not_or] at hn
        cases l with
        | zero => exact (hn.1 rfl).elim
        | succ k =>
          have hk : k ≠ M.length := fun e => hn.2 (by rw [e])
          have key : ∀ m : Mem, m.length = M.length → nth (m ++ [b]) k = nth m k := by
            intro m hm
            rw [nth_eq, nth_eq]
            rcases Nat.lt_or_ge k m.length with h' | h'
            · rw [List.getElem?_append_left h']
            · rw [List.getElem?_eq_none h', List.getElem?_eq_none (by simp; omega)]
          exact ⟨by simp [obs, key mem hlen], by simp [obs, key M rfl]⟩
    cases op with
    | alloc e =>
      simp only [touchOf, Option.some.injEq] at hT
      simp only [evOp] at h ⊢
      split at h
      · rename_i z hz
        simp only [Tree.sel, Option.some.injEq, Prod.mk.injEq] at h
        obtain ⟨rfl, rfl⟩ := h
        have hlen : mem.length = M.length := by simpa [obs] using hat 0 ⟨true, by rw [← hT]; simp⟩
        exact ⟨_, by simp only [Tree.sel, hlen], grow _ hT.symm⟩
      · simp [Tree.sel] at h
    | box e x =>
      simp only [touchOf, Option.some.injEq] at hT
      simp only [evOp] at h ⊢
      split at h
      · rename_i z hz
        simp only [Tree.sel, Option.some.injEq, Prod.mk.injEq] at h
        obtain ⟨rfl, rfl⟩ := h
        have hlen : mem.length = M.length := by simpa [obs] using hat 0 ⟨true, by rw [← hT]; simp⟩
        exact ⟨_, by simp only [Tree.sel, hlen], grow _ hT.symm⟩
      · simp [Tree.sel] at h
    | load ty x =>
      simp only [touchOf] at hT
      simp only [evOp] at h ⊢
      split at h
      · rename_i u hu
        split at h
        · rename_i v hv
          simp only [Tree.sel, Option.some.injEq, Prod.mk.injEq] at h
          obtain ⟨rfl, rfl⟩ := h
          refine ⟨mem, ?_, fun l => ⟨fun hw => ?_, fun _ => ⟨rfl, rfl⟩⟩⟩
          · have : evLoad P mem ty u = evLoad P M ty u := by
              unfold evLoad
              split
              · rename_i b o
                rw [hu] at hT
                simp only [Option.some.injEq] at hT
                have := hat (b + 1) ⟨false, by rw [← hT]; simp⟩
                simp only [obs, Sum.inr.injEq] at this
                rw [this]
              · rfl
              · rfl
            rw [this, hv]; rfl
          · rw [hu] at hT
            split at hT <;> simp at hT <;> subst hT <;> simp [Touch.wr] at hw
        · simp [Tree.sel] at h
      · simp [Tree.sel] at h
    | store ty x y =>
      simp only [touchOf] at hT
      simp only [evOp] at h ⊢
      split at h
      · rename_i b off v hx hy
        rw [hx] at hT
        simp only [Option.some.injEq] at hT
        have hb := hat (b + 1) ⟨true, by rw [← hT]; simp⟩
        simp only [obs, Sum.inr.injEq] at hb
        rw [hb]
        split at h
        · rename_i T cs i hmem hi
          split at h
          · rename_i hcond
            simp only [Tree.sel, Option.some.injEq, Prod.mk.injEq] at h
            obtain ⟨rfl, rfl⟩ := h
            refine ⟨setN mem b (some (T, putCells cs off v.cells)), by rw [if_pos hcond]; rfl, fun l => ⟨fun hw => ?_, fun hn => ?_⟩⟩
            · rw [← hT] at hw
              simp only [Touch.wr, List.mem_cons, Prod.mk.injEq, and_true, List.not_mem_nil, or_false] at hw
              subst hw
              simp only [obs, Sum.inr.injEq]
              rw [nth_eq] at hmem hb
              have h1 : b < M.length := by
                rcases Nat.lt_or_ge b M.length with h' | h'
                · exact h'
                · simp [List.getElem?_eq_none h'] at hmem
              have h2 : b < mem.length := by
                rcases Nat.lt_or_ge b mem.length with h' | h'
                · exact h'
                · rw [List.getElem?_eq_none h', nth_eq, hmem] at hb; simp at hb
              rw [setN_eq, setN_eq, nth_eq, nth_eq, List.getElem?_set_self h1, List.getElem?_set_self h2]
            · rw [← hT] at hn
              simp only [Touch.wr, List.mem_cons, Prod.mk.injEq, and_true, List.not_mem_nil, or_false] at hn
              cases l with
              | zero => simp [obs, setN_eq]
              | succ k =>
                have hk : b ≠ k := fun e => hn (by rw [e])
                simp [obs, setN_eq, nth_eq, List.getElem?_set_ne hk]
          · simp [Tree.sel] at h
        · simp [Tree.sel] at h
      · simp [Tree.sel] at h
    | call c =>
      simp only [touchOf] at hT
      split at hT
      · rename_i hq
        simp only [Option.some.injEq] at hT
        simp only [evOp] at h ⊢
        split at h
        · rename_i x hcal
          simp only [quietOp, hcal] at hq
          split at h
          · rename_i f args ht
            simp only [ht] at hq
            split at h
            · rename_i hcl
              split at h
              · rename_i G hG
                split at h
                · split at h
                  · rename_i rr hr
                    simp only [Tree.sel, Option.some.injEq, Prod.mk.injEq] at h
                    obtain ⟨rfl, rfl⟩ := h
                    subst hT
                    exact ⟨mem, by rename_i hclosed _ _ ; simp_all [Tree.sel], fun l => ⟨fun hw => by simp [Touch.wr] at hw, fun _ => ⟨rfl, rfl⟩⟩⟩
                  · simp [Tree.sel] at h
                · simp [Tree.sel] at h
              · rename_i hG
                simp [hG] at hq
            · simp [Tree.sel] at h
          · simp [Tree.sel] at h
        · exact pure_case _ h hT.symm
      · simp at hT
    | _ =>
      simp only [touchOf, quietOp, if_true, Option.some.injEq] at hT
      simp only [evOp] at h ⊢
      exact pure_case _ h hT.symm

/-! ### the run in the order of the text -/

structure StepOk (P : Program) (H : Hd) (call : CallH) (all : List Oper) (s s1 : St) (o : Oper) (T : Touch) (K : List (Nat × Bool)) (r : AV) : Prop where
  touch : T = touchOf H (lim o s K) s.mem.length o.op
  put : s1.tmps = (s.put0 o.dst K r).tmps
  step : (o.guard = none ∧ K = [] ∧ (evOp P H call s.mem (fun K' => lim o s K') o.op).sel = some (r, s1.mem)) ∨
    (∃ j b m', o.guard = some (j, b) ∧ keysOf all s j b = some K ∧ quietOp H (lim o s K) o.op = true ∧ (∀ p ∈ K, some p.1 ≠ o.dst) ∧ s1.mem = s.mem ∧ ((evOp P H call s.mem (fun K' => lim o s (K' ++ K)) o.op).toNeed (gterm s K)).sel = some (r, m'))

theorem put0_mem (s : St) (d : Option Tmp) (K : List (Nat × Bool)) (v : AV) : (s.put0 d K v).mem = s.mem := by
  cases d <;> rfl

theorem evDraw_runs {H : Hd} {call : CallH} {all : List Oper} : ∀ (l : List Oper) (s : St) {s' : St} {is : List Info}, (evDraw P H call all l s).sel = some (s', is) →
    ∃ (st : Nat → St) (rs : Nat → AV), st 0 = s ∧ st l.length = s' ∧ is.length = l.length ∧ ∀ i o, l[i]? = some o → ∃ T K, is[i]? = some (T, K) ∧ StepOk P H call all (st i) (st (i + 1)) o T K (rs i)
  | [], s, s', is, h => by
    simp only [evDraw, Tree.sel, Option.some.injEq, Prod.mk.injEq] at h
    obtain ⟨rfl, rfl⟩ := h
    exact ⟨fun _ => s, fun _ => .any, rfl, rfl, rfl, fun i o h => by simp at h⟩
  | o :: r, s, s', is, h => by
    have key : ∀ (s1 : St) (T : Touch) (K : List (Nat × Bool)) (v : AV) (is' : List Info), (evDraw P H call all r s1).sel = some (s', is') → is = (T, K) :: is' → StepOk P H call all s s1 o T K v →
        ∃ (st : Nat → St) (rs : Nat → AV), st 0 = s ∧ st (o :: r).length = s' ∧ is.length = (o :: r).length ∧ ∀ i o', (o :: r)[i]? = some o' → ∃ T K, is[i]? = some (T, K) ∧ StepOk P H call all (st i) (st (i + 1)) o' T K (rs i) := by
      intro s1 T K v is' h1 hi hs
      obtain ⟨st, rs, h0, hn, hl, hstep⟩ := evDraw_runs r s1 h1
      subst hi
      refine ⟨fun i => match i with | 0 => s | i + 1 => st i, fun i => match i with | 0 => v | i + 1 => rs i, rfl, hn, by simp [hl], fun i o' hi => ?_⟩
      cases i with
      | zero =>
        simp at hi; subst hi
        exact ⟨T, K, rfl, by simpa [h0] using hs⟩
      | succ i =>
        simp at hi
        obtain ⟨T', K', h1, h2⟩ := hstep i o' hi
        exact ⟨T', K', by simpa using h1, h2⟩
    simp only [evDraw] at h
    split at h
    · rename_i hg
      obtain ⟨⟨rv, mem'⟩, h1, h2⟩ := sel_bind h
      obtain ⟨⟨s2, is'⟩, h3, h4⟩ := sel_bind h2
      simp only [Tree.sel, Option.some.injEq, Prod.mk.injEq] at h4
      obtain ⟨rfl, rfl⟩ := h4
      refine key _ _ _ rv _ h3 rfl ⟨rfl, ?_, .inl ⟨hg, rfl, ?_⟩⟩
      · cases o.dst <;> rfl
      · rw [put0_mem]; exact h1
    · rename_i j b hg
      split at h
      · rename_i K hK
        split at h
        · simp [Tree.sel] at h
        · rename_i hcond
          simp only [Bool.or_eq_true, Bool.not_eq_true', not_or, Bool.not_eq_false, Bool.not_eq_true] at hcond
          obtain ⟨hq, hdst⟩ := hcond
          obtain ⟨⟨rv, mem'⟩, h1, h2⟩ := sel_bind h
          obtain ⟨⟨s2, is'⟩, h3, h4⟩ := sel_bind h2
          simp only [Tree.sel, Option.some.injEq, Prod.mk.injEq] at h4
          obtain ⟨rfl, rfl⟩ := h4
          have hkd : ∀ p ∈ K, some p.1 ≠ o.dst := by
            intro p hp e
            rw [List.any_eq_false] at hdst
            exact hdst p hp (by simp [e])
          exact key _ _ _ rv _ h3 rfl ⟨rfl, rfl, .inr ⟨j, b, mem', hg, hK, hq, hkd, put0_mem _ _ _ _, h1⟩⟩
      · simp [Tree.sel] at h

/-! ### what the check says -/

theorem edges_spec : ∀ {k : Nat} {l : List Oper}, edgesOk k l = true → ∀ i o, l[i]? = some o → ∀ e ∈ o.after, Region.binds .any e = true → e.on < k + i
  | k, o :: r, h, 0, o', hi, e, he, hb => by
    simp at hi; subst hi
    simp only [edgesOk, Bool.and_eq_true, List.all_eq_true] at h
    have := h.1 e (by simpa using he)
    rw [hb] at this
    simpa using this
  | k, o :: r, h, i + 1, o', hi, e, he, hb => by
    simp only [edgesOk, Bool.and_eq_true] at h
    have := edges_spec h.2 i o' (by simpa using hi) e he hb
    omega
  | k, [], _, i, o', hi, _, _, _ => by simp at hi

theorem dsts_spec : ∀ {l : List Oper}, dstsOk l = true → ∀ (i j : Nat) (o o' : Oper) (d : Tmp), l[i]? = some o → l[j]? = some o' → o.dst = some d → o'.dst = some d → i = j
  | [], _, i, _, _, _, _, hi, _, _, _ => by simp at hi
  | x :: r, h, 0, 0, _, _, _, _, _, _, _ => rfl
  | x :: r, h, 0, j + 1, o, o', d, hi, hj, hd, hd' => by
    simp at hi hj; subst hi
    simp only [dstsOk, hd, Bool.and_eq_true, List.all_eq_true] at h
    have := h.1 o' (List.mem_of_getElem? hj)
    simp [hd'] at this
  | x :: r, h, i + 1, 0, o, o', d, hi, hj, hd, hd' => by
    simp at hi hj; subst hj
    simp only [dstsOk, hd', Bool.and_eq_true, List.all_eq_true] at h
    have := h.1 o (List.mem_of_getElem? hi)
    simp [hd] at this
  | x :: r, h, i + 1, j + 1, o, o', d, hi, hj, hd, hd' => by
    simp only [dstsOk, Bool.and_eq_true] at h
    rw [dsts_spec h.2 i j o o' d (by simpa using hi) (by simpa using hj) hd hd']

theorem writer_some {t : Nat} : ∀ {k : Nat} {l : List Oper} {i : Nat}, writerOf t k l = some i → ∃ j o, i = k + j ∧ l[j]? = some o ∧ o.dst = some t
  | k, [], i, h => by simp [writerOf] at h
  | k, o :: r, i, h => by
    simp only [writerOf] at h
    split at h
    · rename_i hd
      simp at h; subst h
      exact ⟨0, o, rfl, rfl, by simpa using hd⟩
    · obtain ⟨j, o', h1, h2, h3⟩ := writer_some h
      exact ⟨j + 1, o', by omega, by simpa using h2, h3⟩

theorem writer_none {t : Nat} : ∀ {k : Nat} {l : List Oper}, writerOf t k l = none → ∀ (i : Nat) (o : Oper), l[i]? = some o → o.dst ≠ some t
  | k, [], _, i, o, hi => by simp at hi
  | k, x :: r, h, i, o, hi => by
    simp only [writerOf] at h
    split at h
    · simp at h
    · rename_i hd
      cases i with
      | zero => simp at hi; subst hi; simpa using hd
      | succ i => exact writer_none h i o (by simpa using hi)

theorem ops_spec {all : List Oper} {masks : List Nat} : ∀ {k : Nat} {l : List Oper} {is : List Info}, opsOk all masks k l is = true → ∀ j o T K, l[j]? = some o → is[j]? = some (T, K) →
    (∀ t ∈ tmpsIn o.op.operands.toList, tmpOk all masks (k + j) t = true) ∧ (∀ g b, o.guard = some (g, b) → isAnc masks g (k + j) = true) ∧ (∀ p ∈ K, keyOk all masks (k + j) p.1 = true)
  | k, [], _, _, j, o, _, _, hj, _ => by simp at hj
  | k, _ :: _, [], _, j, _, _, _, _, hi => by simp at hi
  | k, x :: r, (T0, K0) :: q, h, 0, o, T, K, hj, hi => by
    simp at hj hi
    obtain ⟨rfl, rfl⟩ := hi
    subst hj
    simp only [opsOk, Bool.and_eq_true, List.all_eq_true] at h
    obtain ⟨⟨⟨h1, h2⟩, h3⟩, _⟩ := h
    refine ⟨fun t ht => by simpa using h1 t ht, fun g b hg => ?_, fun p hp => by simpa using h3 p hp⟩
    rw [hg] at h2
    simpa using h2
  | k, x :: r, (T0, K0) :: q, h, j + 1, o, T, K, hj, hi => by
    simp only [opsOk, Bool.and_eq_true] at h
    have := ops_spec h.2 j o T K (by simpa using hj) (by simpa using hi)
    rwa [show k + 1 + j = k + (j + 1) by omega] at this

theorem clash_spec {masks : List Nat} {i j : Nat} {T U : Touch} (h : clash masks i j T U = true) {l : Nat} (hl : T.wr l ∧ U.at l ∨ T.at l ∧ U.wr l) : isAnc masks i j = true := by
  cases T with
  | none => cases U with
    | none => exact h
    | some u =>
      simp only [clash, Bool.or_eq_true] at h
      rcases h with h | h
      · rcases hl with ⟨_, x, hx⟩ | ⟨_, hx⟩
        · simp at h; subst h; simp at hx
        · simp at h; subst h; simp [Touch.wr] at hx
      · exact h
  | some t => cases U with
    | none =>
      simp only [clash, Bool.or_eq_true] at h
      rcases h with h | h
      · rcases hl with ⟨hx, _⟩ | ⟨⟨x, hx⟩, _⟩
        · simp at h; subst h; simp [Touch.wr] at hx
        · simp at h; subst h; simp at hx
      · exact h
    | some u =>
      simp only [clash, List.all_eq_true] at h
      rcases hl with ⟨h1, x, h2⟩ | ⟨⟨x, h1⟩, h2⟩
      · have := h _ h1 _ h2
        simpa using this
      · have := h _ h1 _ h2
        simpa using this

theorem row_spec {masks : List Nat} {i : Nat} {t : Touch} : ∀ {k : Nat} {l : List Info}, touchRow masks i t k l = true → ∀ j T K, l[j]? = some (T, K) → clash masks i (k + j) t T = true
  | k, [], _, j, _, _, hj => by simp at hj
  | k, x :: r, h, 0, T, K, hj => by
    simp at hj; subst hj
    simp only [touchRow, Bool.and_eq_true] at h
    exact h.1
  | k, x :: r, h, j + 1, T, K, hj => by
    simp only [touchRow, Bool.and_eq_true] at h
    have := row_spec h.2 j T K (by simpa using hj)
    rwa [show k + 1 + j = k + (j + 1) by omega] at this

theorem touches_spec {masks : List Nat} : ∀ {k : Nat} {l : List Info}, touchesOk masks k l = true → ∀ i j T K T' K', i < j → l[i]? = some (T, K) → l[j]? = some (T', K') → clash masks (k + i) (k + j) T T' = true
  | k, [], _, i, _, _, _, _, _, _, hi, _ => by simp at hi
  | k, x :: r, h, 0, j + 1, T, K, T', K', _, hi, hj => by
    simp at hi; subst hi
    simp only [touchesOk, Bool.and_eq_true] at h
    have := row_spec h.1 j T' K' (by simpa using hj)
    rwa [show k + 1 + j = k + (j + 1) by omega] at this
  | k, x :: r, h, 0, 0, _, _, _, _, hij, _, _ => by omega
  | k, x :: r, h, i + 1, 0, _, _, _, _, hij, _, _ => by omega
  | k, x :: r, h, i + 1, j + 1, T, K, T', K', hij, hi, hj => by
    simp only [touchesOk, Bool.and_eq_true] at h
    have := touches_spec h.2 i j T K T' K' (by omega) (by simpa using hi) (by simpa using hj)
    rwa [show k + 1 + i = k + (i + 1) by omega, show k + 1 + j = k + (j + 1) by omega] at this

theorem ancMask_spec {masks : List Nat} {i : Nat} : ∀ {l : List Edge}, (ancMask masks l).testBit i = true → ∃ e ∈ l, Region.binds .any e = true ∧ ∃ m, nth masks e.on = some m ∧ (i = e.on ∨ m.testBit i = true)
  | [], h => by simp [ancMask] at h
  | e :: r, h => by
    simp only [ancMask, Nat.testBit_or, Bool.or_eq_true] at h
    rcases h with h | h
    · split at h
      · rename_i m hm
        split at h
        · rename_i hb
          rw [Nat.testBit_or, Bool.or_eq_true, Nat.testBit_two_pow] at h
          refine ⟨e, by simp, hb, m, hm, h.imp (fun h => ?_) id⟩
          have := of_decide_eq_true h
          exact this.symm
        · simp at h
      · simp at h
    · obtain ⟨e', he, h2⟩ := ancMask_spec h
      exact ⟨e', by simp [he], h2⟩

/-- the listed operations, and one more, have all their ancestors listed -/
theorem anc_listed {all : List Oper} {L N : Nat → Prop} (hd : ∀ j o, all[j]? = some o → N j → ∀ e ∈ o.after, Region.binds .any e = true → L e.on) (hLN : ∀ j, L j → N j) :
    ∀ (l : List Oper) (acc : List Nat), (∀ k, l[k]? = all[acc.length + k]?) → (∀ j m, nth acc j = some m → ∀ i, m.testBit i = true → N j → L i) → ∀ j m, nth (ancMasks l acc) j = some m → ∀ i, m.testBit i = true → N j → L i
  | [], acc, _, hacc => hacc
  | o :: r, acc, hl, hacc => by
    simp only [ancMasks]
    refine anc_listed hd hLN r _ (fun k => ?_) (fun j m hj i hi hN => ?_)
    · have := hl (k + 1)
      simp only [List.getElem?_cons_succ] at this
      rw [this]
      simp [Nat.add_assoc, Nat.add_comm 1]
    · rcases nth_append_split hj with h | ⟨h1, h2⟩
      · exact hacc j m h i hi hN
      · subst h2
        have ho : all[j]? = some o := by
          have := hl 0
          simpa [h1] using this.symm
        obtain ⟨e, he, hb, m, hm, h⟩ := ancMask_spec hi
        have hLe := hd j o ho hN e (by simpa using he) hb
        rcases h with rfl | h
        · exact hLe
        · exact hacc _ m hm i h (hLN _ hLe)

/-! ### the plan of a drawn region -/

structure Plan (P : Program) (H : Hd) (call : CallH) (all : List Oper) where
  st : Nat → St
  rs : Nat → AV
  T : Nat → Touch
  K : Nat → List (Nat × Bool)
  anc : Nat → Nat → Prop
  step : ∀ i o, all[i]? = some o → StepOk P H call all (st i) (st (i + 1)) o (T i) (K i) (rs i)
  start : ∀ sl ∈ (st 0).tmps, sl.keys = []
  edges : ∀ i o, all[i]? = some o → ∀ e ∈ o.after, Region.binds .any e = true → e.on < i
  dsts : ∀ (i j : Nat) (o o' : Oper) (d : Tmp), all[i]? = some o → all[j]? = some o' → o.dst = some d → o'.dst = some d → i = j
  tmps : ∀ (j : Nat) (o : Oper) (t : Tmp), all[j]? = some o → t ∈ tmpsIn o.op.operands.toList → (∃ (i : Nat) (oi : Oper), all[i]? = some oi ∧ oi.dst = some t ∧ anc i j) ∨ (∀ (i : Nat) (oi : Oper), all[i]? = some oi → oi.dst ≠ some t)
  guards : ∀ (j : Nat) (o : Oper) (g : Nat) (b : Bool), all[j]? = some o → o.guard = some (g, b) → anc g j
  keys : ∀ (j : Nat) (o : Oper) p, all[j]? = some o → p ∈ K j → ∃ (i : Nat) (oi : Oper), all[i]? = some oi ∧ oi.dst = some p.1 ∧ anc i j
  touch : ∀ i j l, i < j → j < all.length → (T i).wr l ∧ (T j).at l ∨ (T i).at l ∧ (T j).wr l → anc i j
  lt : ∀ i j, anc i j → i < j
  down : ∀ (L N : Nat → Prop), (∀ j o, all[j]? = some o → N j → ∀ e ∈ o.after, Region.binds .any e = true → L e.on) → (∀ j, L j → N j) → ∀ i j, anc i j → N j → L i

theorem plan_of {H : Hd} {call : CallH} {all : List Oper} {s s' : St} {is : List Info} (h : (evDraw P H call all all s).sel = some (s', is)) (hd : drawOk all is = true) (h0 : ∀ sl ∈ s.tmps, sl.keys = []) :
    ∃ p : Plan P H call all, p.st 0 = s ∧ p.st all.length = s' := by
  obtain ⟨st, rs, e0, en, hl, hstep⟩ := evDraw_runs all s h
  simp only [drawOk, Bool.and_eq_true] at hd
  obtain ⟨⟨⟨h1, h2⟩, h3⟩, h4⟩ := hd
  have hi : ∀ i, i < all.length → is[i]? = some ((is[i]?.getD (none, [])).1, (is[i]?.getD (none, [])).2) := by
    intro i hi
    rw [List.getElem?_eq_getElem (by omega)]
    simp
  have hlt : ∀ {i : Nat} {o : Oper}, all[i]? = some o → i < all.length := by
    intro i o h
    rcases Nat.lt_or_ge i all.length with h' | h'
    · exact h'
    · simp [List.getElem?_eq_none h'] at h
  refine ⟨{ st := st, rs := rs, T := fun i => (is[i]?.getD (none, [])).1, K := fun i => (is[i]?.getD (none, [])).2, anc := fun i j => isAnc (ancMasks all []) i j = true, step := ?_, start := ?_, edges := ?_, dsts := dsts_spec h2, tmps := ?_, guards := ?_, keys := ?_, touch := ?_, lt := ?_, down := ?_ }, e0, en⟩
  · intro i o ho
    obtain ⟨T, K, h1, h2⟩ := hstep i o ho
    simpa [h1] using h2
  · rw [e0]; exact h0
  · intro i o ho e he hb
    have := edges_spec h1 i o ho e he hb
    omega
  · intro j o t ho ht
    have := (ops_spec h3 j o _ _ ho (hi j (hlt ho))).1 t ht
    rw [Nat.zero_add] at this
    unfold tmpOk at this
    split at this
    · rename_i i hw
      obtain ⟨j', o', h1, h2, h3⟩ := writer_some hw
      left
      exact ⟨j', o', h2, h3, by rw [show j' = i by omega]; exact this⟩
    · rename_i hw
      right
      exact writer_none hw
  · intro j o g b ho hg
    have := (ops_spec h3 j o _ _ ho (hi j (hlt ho))).2.1 g b hg
    rwa [Nat.zero_add] at this
  · intro j o p ho hp
    have := (ops_spec h3 j o _ _ ho (hi j (hlt ho))).2.2 p hp
    rw [Nat.zero_add] at this
    unfold keyOk at this
    split at this
    · rename_i i hw
      obtain ⟨j', o', h1, h2, h3⟩ := writer_some hw
      exact ⟨j', o', h2, h3, by rw [show j' = i by omega]; exact this⟩
    · simp at this
  · intro i j l hij hj hl'
    have := touches_spec h4 i j _ _ _ _ hij (hi i (by omega)) (hi j hj)
    rw [Nat.zero_add, Nat.zero_add] at this
    exact clash_spec this hl'
  · intro i j h
    unfold isAnc at h
    rw [Bool.and_eq_true] at h
    simpa using h.1
  · intro L N hd hLN i j h hN
    unfold isAnc at h
    rw [Bool.and_eq_true] at h
    obtain ⟨_, h⟩ := h
    split at h
    · rename_i m hm
      exact anc_listed hd hLN all [] (by simp) (fun j m h => by simp [nth] at h) j m hm i h hN
    · simp at h

end
end Go.Sx
