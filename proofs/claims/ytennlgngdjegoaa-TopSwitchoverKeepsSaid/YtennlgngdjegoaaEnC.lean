/-
  The evaluator's soundness (part M): a statement whose order is open, with operations that write memory.
-/
import Derived.Test.YtennlgngdjegoaaEnB
import Derived.Orders
import Derived.TacticsIn
import Derived.OrdersIn
namespace Go.Sx
open Go Go.RowKit

/-- what a memory says at a place: 0 is the number of blocks, b + 1 the block b -/
def obs (m : Mem) : Nat → Nat ⊕ Option (Option (TypeId × List CV))
  | 0 => .inl m.length
  | b + 1 => .inr (nth m b)

theorem obs_ext {m m' : Mem} (h : ∀ l, obs m l = obs m' l) : m = m' := by
  apply List.ext_getElem?
  intro i
  have := h (i + 1)
  simpa [obs, nth_eq] using this

def Touch.at : Touch → Nat → Prop
  | none, _ => True
  | some t, l => ∃ x, (l, x) ∈ t

def Touch.wr : Touch → Nat → Prop
  | none, _ => True
  | some t, l => (l, true) ∈ t

theorem Touch.wr_at {t : Touch} {l : Nat} (h : t.wr l) : t.at l := by
  cases t
  · trivial
  · exact ⟨true, h⟩

theorem bind_sel {α β : Type} {t : Tree α} {f : α → Tree β} {a : α} (h : t.sel = some a) : (t.bind f).sel = (f a).sel := by
  induction t with
  | leaf b => simp only [Tree.sel, Option.some.injEq] at h; subst h; rfl
  | br c t e iht ihe =>
    simp only [Tree.bind, Tree.sel] at h ⊢
    cases c
    · exact ihe h
    · exact iht h
  | need c t ih =>
    simp only [Tree.bind, Tree.sel] at h ⊢
    cases c
    · simp at h
    · exact ih h
  | fail => simp [Tree.sel] at h

theorem anyN_iff {t : Nat} {ts : List Nat} : anyN t ts = true ↔ t ∈ ts := by
  induction ts with
  | nil => simp [anyN]
  | cons u r ih => simp [anyN, ih]

theorem limit_le {ts : List Nat} {ρ : Operand → Option AV} {x : Operand} {av : AV} (h : limit ts ρ x = some av) : ρ x = some av := by
  unfold limit at h
  split at h
  · split at h
    · exact h
    · simp at h
  · exact h

theorem limit_congr {ts : List Nat} {ρ ρ' : Operand → Option AV} (h : ∀ t ∈ ts, ρ (.tmp t) = ρ' (.tmp t)) (h' : ∀ x, (∀ t, x ≠ .tmp t) → ρ x = ρ' x) : limit ts ρ = limit ts ρ' := by
  funext x
  cases x with
  | tmp t =>
    simp only [limit]
    split
    · rename_i ha
      exact h t (anyN_iff.1 ha)
    · rfl
  | _ => exact h' _ (by simp)

theorem lim_congr {o : Oper} {s s' : St} {K : List (Nat × Bool)} (h : ∀ t ∈ tmpsIn o.op.operands.toList, nth s.tmps t = nth s'.tmps t) : lim o s K = lim o s' K := by
  unfold lim
  refine limit_congr (fun t ht => ?_) (fun x hx => ?_)
  · simp only [opnd, h t ht]
  · unfold opnd
    split
    · exact absurd rfl (hx _)
    · rfl
    · rfl
    · rfl

section
variable {P : Program}

theorem rowAt_congr {mem M : Mem} {b : Nat} (h : nth mem b = nth M b) : rowAt mem b = rowAt M b := by unfold rowAt; rw [h]

theorem frzC_none {mem : Mem} {x : CV} (h : hasOs x = false) : frzC mem x = (mem, x) := by
  unfold frzC
  split
  · simp [hasOs] at h
  · rfl

theorem frzCs_none : ∀ {l : List CV} {mem : Mem}, (∀ x ∈ l, hasOs x = false) → frzCs mem l = (mem, l)
  | [], _, _ => rfl
  | x :: r, mem, h => by
    have h2 := frzCs_none (l := r) (mem := mem) fun y hy => h y (List.mem_cons_of_mem _ hy)
    simp only [frzCs, frzC_none (h x (by simp)), h2]

theorem mem_setN {α : Type} {l : List α} {b : Nat} {y x : α} (h : x ∈ setN l b y) : x ∈ l ∨ x = y := by
  rw [setN_eq] at h
  rcases List.mem_or_eq_of_mem_set h with h | h
  · exact .inl h
  · exact .inr h

theorem putCells_mem : ∀ {news cs : List CV} {o : Nat} {x : CV}, x ∈ putCells cs o news → x ∈ cs ∨ x ∈ news
  | [], cs, o, x, h => .inl h
  | y :: r, cs, o, x, h => by
    simp only [putCells] at h
    rcases putCells_mem h with h | h
    · rcases mem_setN h with h | h
      · exact .inl h
      · exact .inr (by simp [h])
    · exact .inr (by simp [h])

theorem evFill_noOs {places : Nat → Option (Nat × Nat)} : ∀ {parts : List (Nat × A1)} {cs r : List CV}, evFill places cs parts = some r → (∀ x ∈ cs, hasOs x = false) → (∀ p ∈ parts, ∀ x ∈ p.2.cells, hasOs x = false) → ∀ x ∈ r, hasOs x = false
  | [], cs, r, h, hc, _ => by simp [evFill] at h; subst h; exact hc
  | (i, v) :: q, cs, r, h, hc, hp => by
    simp only [evFill] at h
    split at h
    · simp at h
    · split at h
      · refine evFill_noOs h (fun x hx => ?_) (fun p hp' => hp p (by simp [hp']))
        rcases putCells_mem hx with hx | hx
        · exact hc x hx
        · exact hp (i, v) (by simp) x hx
      · simp at h

theorem liftCells_noOs : ∀ {l : List Value} {z : List CV}, liftCells l = some z → ∀ x ∈ z, hasOs x = false
  | [], z, h => by simp [liftCells] at h; subst h; simp
  | v :: r, z, h => by
    simp only [liftCells] at h
    split at h
    · rename_i c l hc hl
      simp at h; subst h
      intro x hx
      rcases List.mem_cons.1 hx with rfl | hx
      · unfold liftCell at hc
        split at hc <;> simp at hc <;> subst hc <;> rfl
      · exact liftCells_noOs hl x hx
    · simp at h

theorem zero_noOs {P : Program} {t : TypeId} {z : List CV} (h : zeroCellsOf P t = some z) : ∀ x ∈ z, hasOs x = false := by
  unfold zeroCellsOf at h
  split at h
  · split at h
    · exact liftCells_noOs h
    · simp at h
  · simp at h

theorem repC_mem {z : List CV} : ∀ {n : Nat} {x : CV}, x ∈ repC z n → x ∈ z
  | 0, x, h => by simp [repC] at h
  | n + 1, x, h => by
    simp only [repC, List.mem_append] at h
    rcases h with h | h
    · exact h
    · exact repC_mem h

/-- a literal without slices of one's own: it only lays -/
theorem makeSlice_mem {P : Program} {M mem : Mem} {t : TypeId} {l c : AV} {r : AV} {M' : Mem} (h : (evMake P M t l c).sel = some (r, M')) (hlen : mem.length = M.length) :
    ∃ b, M' = M ++ [b] ∧ (evMake P mem t l c).sel = some (r, mem ++ [b]) := by
  unfold evMake at h ⊢
  split at h
  · rename_i kl l kc c
    split at h
    · split at h
      · rename_i j es z hj hes hz
        split at h
        · rename_i hc
          simp only [if_pos hc, Tree.sel] at h ⊢
          cases hc2 : (le 0 l && le l c && le (c * toInt64 j.bytes) 140737488355328) <;> simp [hc2] at h
          obtain ⟨rfl, rfl⟩ := h
          exact ⟨_, rfl, by simp [hlen]⟩
        · simp [Tree.sel] at h
      · simp [Tree.sel] at h
    · simp [Tree.sel] at h
  · simp [Tree.sel] at h

theorem buildSlice_mem {P : Program} {M mem : Mem} {t : TypeId} {n : Nat} {parts : List (Nat × A1)} {r : AV} {M' : Mem} (h : evBuildSlice P M t n parts = some (r, M')) (hp : ∀ p ∈ parts, ∀ x ∈ p.2.cells, hasOs x = false) (hlen : mem.length = M.length) :
    ∃ b, M' = M ++ [b] ∧ evBuildSlice P mem t n parts = some (r, mem ++ [b]) := by
  unfold evBuildSlice at h ⊢
  split at h
  · split at h
    · rename_i hz
      split at h
      · rename_i hc
        rw [if_pos hc]
        split at h
        · rename_i cs hf
          have hno := evFill_noOs hf (fun x hx => zero_noOs hz x (repC_mem hx)) hp
          simp only [frzCs_none hno] at h ⊢
          split at h
          · rename_i hfit
            rw [if_pos hfit]
            simp only [Option.some.injEq, Prod.mk.injEq] at h
            obtain ⟨rfl, rfl⟩ := h
            exact ⟨_, rfl, by rw [hlen]⟩
          · simp at h
        · simp at h
      · simp at h
    · simp at h
  · simp at h

theorem srcOf_congr {mem M : Mem} {x : A1} (h : ∀ b sz, x = .c (.os b sz) → nth mem b = nth M b) : srcOf mem x = srcOf M x := by
  unfold srcOf
  split
  · rfl
  · rw [rowAt_congr (h _ _ rfl)]
  · rfl

theorem nth_append_lt {α : Type} {l : List α} {x : α} {k : Nat} (h : k < l.length) : nth (l ++ [x]) k = nth l k := by
  rw [nth_eq, nth_eq, List.getElem?_append_left h]

theorem nth_append_gt {α : Type} {l : List α} {x : α} {k : Nat} (h : k ≠ l.length) : nth (l ++ [x]) k = nth l k := by
  rw [nth_eq, nth_eq]
  rcases Nat.lt_or_ge k l.length with h' | h'
  · rw [List.getElem?_append_left h']
  · rw [List.getElem?_eq_none h', List.getElem?_eq_none (by simp; omega)]

theorem nth_set_self {α : Type} {l : List α} {b : Nat} {x : α} (h : b < l.length) : nth (setN l b x) b = some x := by
  rw [setN_eq, nth_eq, List.getElem?_set_self h]

theorem nth_set_ne' {α : Type} {l : List α} {b k : Nat} {x : α} (h : k ≠ b) : nth (setN l b x) k = nth l k := by
  rw [setN_eq, nth_eq, nth_eq, List.getElem?_set_ne (fun e => h e.symm)]

theorem viewC_congr {mem M : Mem} {x : CV} (h : ∀ b sz, x = .os b sz → nth mem b = nth M b) : viewC mem x = viewC M x := by
  cases x <;> try rfl
  rename_i b sz
  simp only [viewC, rowAt_congr (h b sz rfl)]

theorem osCells_mem : ∀ {l : List CV} {b sz : Nat}, CV.os b sz ∈ l → (b + 1, false) ∈ osCells l
  | [], _, _, h => by simp at h
  | y :: l, b, sz, h => by
    rcases List.mem_cons.1 h with h | h
    · subst h; simp [osCells]
    · have := osCells_mem h
      cases y <;> simp [osCells, this]

theorem osAll_mem : ∀ {l : List A1} {x : A1} {b sz : Nat}, x ∈ l → CV.os b sz ∈ x.cells → (b + 1, false) ∈ osAll l
  | [], _, _, _, h, _ => by simp at h
  | y :: l, x, b, sz, h, hc => by
    rcases List.mem_cons.1 h with h | h
    · subst h; simp [osAll, osCells_mem hc]
    · simp [osAll, osAll_mem h hc]

theorem osCells_rd : ∀ {l : List CV} {p : Nat × Bool}, p ∈ osCells l → p.2 = false
  | [], _, h => by simp [osCells] at h
  | y :: l, p, h => by
    cases y <;> simp only [osCells, List.mem_cons] at h <;> first | exact osCells_rd h | (rcases h with rfl | h; rfl; exact osCells_rd h)

theorem osAll_rd : ∀ {l : List A1} {p : Nat × Bool}, p ∈ osAll l → p.2 = false
  | [], _, h => by simp [osAll] at h
  | y :: l, p, h => by
    simp only [osAll, List.mem_append] at h
    rcases h with h | h
    · exact osCells_rd h
    · exact osAll_rd h

theorem view1_congr {mem M : Mem} {x : A1} (h : ∀ b sz, CV.os b sz ∈ x.cells → nth mem b = nth M b) : view1 mem x = view1 M x := by
  cases x with
  | c x => simp only [view1]; rw [viewC_congr fun b sz e => h b sz (by subst e; simp [A1.cells])]
  | agg l =>
    simp only [view1]
    congr 1
    exact List.map_congr_left fun x hx => viewC_congr fun b sz e => h b sz (by subst e; exact hx)

theorem evTail_shape {P : Program} (t : TypeId) (b sz : Nat) (lo hi mx : Option Int) (row : Option (TypeId × Bool × List Sh × Nat × Val)) :
    ∃ o : Option (Bool × AV), ∀ mm : Mem, rowAt mm b = row → evTail P mm t (.c (.os b sz)) lo hi mx = o.map fun p => .need p.1 (.leaf (p.2, mm)) := by
  cases lo with
  | none => exact ⟨none, fun mm _ => rfl⟩
  | some l => cases hi with
    | some _ => exact ⟨none, fun mm _ => rfl⟩
    | none => cases mx with
      | some _ => exact ⟨none, fun mm _ => rfl⟩
      | none =>
        cases hu : P.underlying t with
        | none => exact ⟨none, fun mm _ => by simp [evTail, hu]⟩
        | some d =>
          rcases row with _ | ⟨T, fz, es, n, ρ⟩
          · exact ⟨none, fun mm h => by simp only [evTail, hu, h]; cases d <;> rfl⟩
          · cases fz
            · cases d with
              | slice e =>
                cases hj : P.info? e with
                | none => exact ⟨none, fun mm h => by simp [evTail, hu, h, hj]⟩
                | some j =>
                  by_cases hc : (es.length == j.size && sz == j.size && T == e) = true
                  · exact ⟨some (le 0 l && lt l (toInt64 n), .one (.c (.ost b sz l.toNat))), fun mm h => by simp only [evTail, hu, h, hj]; rw [if_pos hc]; rfl⟩
                  · exact ⟨none, fun mm h => by simp only [evTail, hu, h, hj]; rw [if_neg hc]; rfl⟩
              | _ => exact ⟨none, fun mm h => by simp only [evTail, hu, h]; rfl⟩
            · exact ⟨none, fun mm h => by simp only [evTail, hu, h]; cases d <;> rfl⟩

theorem evHead_shape {P : Program} (t : TypeId) (b sz : Nat) (lo hi mx : Option Int) (row : Option (TypeId × Bool × List Sh × Nat × Val)) :
    ∃ o : Option (Bool × AV), ∀ mm : Mem, rowAt mm b = row → evHead P mm t (.c (.os b sz)) lo hi mx = o.map fun p => .need p.1 (.leaf (p.2, mm)) := by
  cases lo with
  | some _ => exact ⟨none, fun mm _ => rfl⟩
  | none => cases hi with
    | none => exact ⟨none, fun mm _ => rfl⟩
    | some l => cases mx with
      | some _ => exact ⟨none, fun mm _ => rfl⟩
      | none =>
        cases hu : P.underlying t with
        | none => exact ⟨none, fun mm _ => by simp [evHead, hu]⟩
        | some d =>
          rcases row with _ | ⟨T, fz, es, n, ρ⟩
          · exact ⟨none, fun mm h => by simp only [evHead, hu, h]; cases d <;> rfl⟩
          · cases fz
            · cases d with
              | slice e =>
                cases hj : P.info? e with
                | none => exact ⟨none, fun mm h => by simp [evHead, hu, h, hj]⟩
                | some j =>
                  by_cases hc : (es.length == j.size && sz == j.size && T == e) = true
                  · exact ⟨some (le 0 l && le l (toInt64 n), .one (.c (.osh b sz l.toNat))), fun mm h => by simp only [evHead, hu, h, hj]; rw [if_pos hc]; rfl⟩
                  · exact ⟨none, fun mm h => by simp only [evHead, hu, h, hj]; rw [if_neg hc]; rfl⟩
              | _ => exact ⟨none, fun mm h => by simp only [evHead, hu, h]; rfl⟩
            · exact ⟨none, fun mm h => by simp only [evHead, hu, h]; cases d <;> rfl⟩

theorem cpOf_congr {mem M : Mem} {x : A1} (h : ∀ b sz m, x = .c (.osh b sz m) → nth mem b = nth M b) : cpOf mem x = cpOf M x := by
  cases x with
  | agg l => rfl
  | c x =>
    cases x <;> try rfl
    rename_i b sz m
    simp only [cpOf, rowAt_congr (h b sz m rfl)]

theorem evOp_mem {H : Hd} {call : CallH} {M M' mem : Mem} {ρ : List (Nat × Bool) → Operand → Option AV} {op : Op} {r : AV} (h : (evOp P H call M ρ op).sel = some (r, M'))
    (hat : ∀ l, (touchOf H (ρ []) M.length op).at l → obs mem l = obs M l) :
    ∃ mem', (evOp P H call mem ρ op).sel = some (r, mem') ∧ ∀ l, ((touchOf H (ρ []) M.length op).wr l → obs mem' l = obs M' l) ∧ (¬ (touchOf H (ρ []) M.length op).wr l → obs mem' l = obs mem l ∧ obs M' l = obs M l) := by
  cases hT : touchOf H (ρ []) M.length op with
  | none =>
    rw [hT] at hat
    obtain rfl : mem = M := obs_ext fun l => hat l trivial
    exact ⟨M', h, fun l => ⟨fun _ => rfl, fun hn => (hn trivial).elim⟩⟩
  | some t =>
    rw [hT] at hat
    have still : (∀ l, ¬ (l, true) ∈ t) → M' = M → ∀ l, (Touch.wr (some t) l → obs mem l = obs M' l) ∧ (¬ Touch.wr (some t) l → obs mem l = obs mem l ∧ obs M' l = obs M l) := by
      intro hno e l
      subst e
      exact ⟨fun hw => (hno l hw).elim, fun _ => ⟨rfl, rfl⟩⟩
    have rd : ∀ b, (b + 1, false) ∈ t → nth mem b = nth M b := by
      intro b hb
      have := hat (b + 1) ⟨false, hb⟩
      simpa [obs] using this
    have rdw : ∀ b, (b + 1, true) ∈ t → nth mem b = nth M b := by
      intro b hb
      have := hat (b + 1) ⟨true, hb⟩
      simpa [obs] using this
    have len : (0, true) ∈ t → mem.length = M.length := by
      intro hb
      have := hat 0 ⟨true, hb⟩
      simpa [obs] using this
    have pure_case : ∀ e : Tree AV, (e.bind fun v => Tree.leaf (v, M)).sel = some (r, M') → (∀ l, ¬ (l, true) ∈ t) → ∃ mem', (e.bind fun v => Tree.leaf (v, mem)).sel = some (r, mem') ∧ ∀ l, (Touch.wr (some t) l → obs mem' l = obs M' l) ∧ (¬ Touch.wr (some t) l → obs mem' l = obs mem l ∧ obs M' l = obs M l) := by
      intro e he ht
      obtain ⟨v, hv, h2⟩ := sel_bind he
      simp only [Tree.sel, Option.some.injEq, Prod.mk.injEq] at h2
      obtain ⟨rfl, rfl⟩ := h2
      exact ⟨mem, by rw [bind_sel hv]; rfl, still ht rfl⟩
    have grow : ∀ b : Option (TypeId × List CV), (0, true) ∈ t → (M.length + 1, true) ∈ t → (∀ l, (l, true) ∈ t → l = 0 ∨ l = M.length + 1) → ∀ l, (Touch.wr (some t) l → obs (mem ++ [b]) l = obs (M ++ [b]) l) ∧ (¬ Touch.wr (some t) l → obs (mem ++ [b]) l = obs mem l ∧ obs (M ++ [b]) l = obs M l) := by
      intro b h1 h2 h3 l
      have hlen := len h1
      refine ⟨fun hw => ?_, fun hn => ?_⟩
      · rcases h3 l hw with rfl | rfl
        · simp [obs, hlen]
        · simp only [obs, nth_append_last]
          rw [← hlen, nth_append_last]
      · cases l with
        | zero => exact (hn h1).elim
        | succ k =>
          have hk : k ≠ M.length := fun e => hn (by subst e; exact h2)
          exact ⟨by simp only [obs, Sum.inr.injEq]; exact nth_append_gt (by omega), by simp only [obs, Sum.inr.injEq]; exact nth_append_gt hk⟩
    have grow2 : ∀ (d : Nat) (b : Option (TypeId × List CV)), d < M.length → (0, true) ∈ t → (M.length + 1, true) ∈ t → (d + 1, true) ∈ t → (∀ l, (l, true) ∈ t → l = 0 ∨ l = M.length + 1 ∨ l = d + 1) →
        ∀ l, (Touch.wr (some t) l → obs (setN mem d none ++ [b]) l = obs (setN M d none ++ [b]) l) ∧ (¬ Touch.wr (some t) l → obs (setN mem d none ++ [b]) l = obs mem l ∧ obs (setN M d none ++ [b]) l = obs M l) := by
      intro d b hd h1 h2 h4 h3 l
      have hlen := len h1
      have hl1 : (setN mem d (none : Option (TypeId × List CV))).length = mem.length := setN_length _ _ _
      have hl2 : (setN M d (none : Option (TypeId × List CV))).length = M.length := setN_length _ _ _
      refine ⟨fun hw => ?_, fun hn => ?_⟩
      · rcases h3 l hw with rfl | rfl | rfl
        · simp [obs, hl1, hl2, hlen]
        · simp only [obs, Sum.inr.injEq]
          have e1 : nth (setN mem d none ++ [b]) M.length = some b := by rw [← hlen, ← hl1]; exact nth_append_last _ _
          have e2 : nth (setN M d none ++ [b]) M.length = some b := by
            have := nth_append_last (setN M d none) b
            rwa [hl2] at this
          rw [e1, e2]
        · simp only [obs, Sum.inr.injEq]
          rw [nth_append_lt (by omega), nth_append_lt (by omega), nth_set_self (by omega), nth_set_self hd]
      · cases l with
        | zero => exact (hn h1).elim
        | succ k =>
          have hk : k ≠ M.length := fun e => hn (by subst e; exact h2)
          have hkd : k ≠ d := fun e => hn (by subst e; exact h4)
          exact ⟨by simp only [obs, Sum.inr.injEq]; rw [nth_append_gt (by omega), nth_set_ne' hkd], by simp only [obs, Sum.inr.injEq]; rw [nth_append_gt (by omega), nth_set_ne' hkd]⟩
    cases op with
    | alloc e =>
      simp only [touchOf, Option.some.injEq] at hT
      subst hT
      simp only [evOp] at h ⊢
      split at h
      · rename_i z hz
        simp only [Tree.sel, Option.some.injEq, Prod.mk.injEq] at h
        obtain ⟨rfl, rfl⟩ := h
        exact ⟨_, by simp only [Tree.sel, len (by simp)], grow _ (by simp) (by simp) (by simp)⟩
      · simp [Tree.sel] at h
    | box e x =>
      simp only [touchOf, Option.some.injEq] at hT
      subst hT
      simp only [evOp] at h ⊢
      split at h
      · rename_i z hz
        split at h
        · simp [Tree.sel] at h
        · rename_i hrow
          rw [if_neg hrow]
          simp only [Tree.sel, Option.some.injEq, Prod.mk.injEq] at h
          obtain ⟨rfl, rfl⟩ := h
          exact ⟨_, by simp only [Tree.sel, len (by simp)], grow _ (by simp) (by simp) (by simp)⟩
      · simp [Tree.sel] at h
    | load ty x =>
      simp only [touchOf] at hT
      simp only [evOp] at h ⊢
      split at h
      · rename_i b sz i off hu
        rw [hu] at hT
        simp only [Option.some.injEq] at hT
        subst hT
        split at h
        · rename_i v hv
          simp only [Tree.sel, Option.some.injEq, Prod.mk.injEq] at h
          obtain ⟨rfl, rfl⟩ := h
          refine ⟨mem, ?_, still (by simp) rfl⟩
          have : evLoadRow P mem ty b sz i off = evLoadRow P M ty b sz i off := by unfold evLoadRow; rw [rowAt_congr (rd b (by simp))]
          rw [this, hv]; rfl
        · simp [Tree.sel] at h
      · rename_i u hnr hu
        split at h
        · rename_i v hv
          simp only [Tree.sel, Option.some.injEq, Prod.mk.injEq] at h
          obtain ⟨rfl, rfl⟩ := h
          refine ⟨mem, ?_, still ?_ rfl⟩
          · have : evLoad P mem ty u = evLoad P M ty u := by
              unfold evLoad
              split
              · rename_i b o
                rw [hu] at hT
                simp only [Option.some.injEq] at hT
                rw [rd b (by rw [← hT]; simp)]
              · rfl
              · rfl
            rw [this, hv]; rfl
          · rw [hu] at hT
            intro l
            split at hT <;> simp at hT <;> subst hT <;> simp
        · simp [Tree.sel] at h
      · simp [Tree.sel] at h
    | store ty x y =>
      simp only [touchOf] at hT
      simp only [evOp] at h ⊢
      split at h
      · rename_i b sz i off v hx hy
        rw [hx] at hT
        simp only [hy] at hT
        split at hT
        · rename_i hos
          simp only [Option.some.injEq] at hT
          subst hT
          have hb := rdw b (by simp)
          have hno : ∀ x ∈ v.cells, hasOs x = false := fun x hx => by
            have := List.all_eq_true.1 hos x hx
            simpa using this
          split at h
          · rename_i m' hm'
            simp only [Tree.sel, Option.some.injEq, Prod.mk.injEq] at h
            obtain ⟨rfl, rfl⟩ := h
            unfold evStoreRow at hm' ⊢
            simp only [frzCs_none hno] at hm' ⊢
            rw [rowAt_congr hb]
            split at hm'
            · rename_i j hj
              split at hm'
              · rename_i T es n ρ hrow
                split at hm'
                · rename_i hcond
                  split at hm'
                  · rename_i es' htk
                    split at hm'
                    · rename_i hfit
                      simp only [Option.some.injEq] at hm'
                      subst hm'
                      have hM : nth M b = some (some (T, [.row false es n ρ])) := by
                        unfold rowAt at hrow
                        split at hrow
                        · rename_i hh
                          simp only [Option.some.injEq, Prod.mk.injEq] at hrow
                          obtain ⟨rfl, rfl, rfl, rfl, rfl⟩ := hrow
                          exact hh
                        · cases hrow
                      refine ⟨setN mem b (some (T, [.row false es n (ρ.upds i off v.cells)])), by simp only [hcond, if_true, hfit]; rfl, fun l => ⟨fun hw => ?_, fun hn => ?_⟩⟩
                      · simp only [Touch.wr, List.mem_cons, Prod.mk.injEq, and_true, List.not_mem_nil, or_false] at hw
                        subst hw
                        simp only [obs, Sum.inr.injEq]
                        have h1 : b < M.length := nth_lt hM
                        have h2 : b < mem.length := nth_lt (hb.trans hM)
                        rw [nth_set_self h1, nth_set_self h2]
                      · simp only [Touch.wr, List.mem_cons, Prod.mk.injEq, and_true, List.not_mem_nil, or_false] at hn
                        cases l with
                        | zero => simp [obs, setN_eq]
                        | succ k =>
                          have hk : k ≠ b := fun e => hn (by rw [e])
                          simp only [obs, nth_set_ne' hk, and_self]
                    · cases hm'
                  · cases hm'
                · cases hm'
              · cases hm'
            · cases hm'
          · simp [Tree.sel] at h
        · cases hT
      · rename_i b off v hx hy
        rw [hx] at hT
        simp only [Option.some.injEq] at hT
        subst hT
        have hb := rdw b (by simp)
        rw [hb]
        split at h
        · rename_i T cs i hmem hi
          split at h
          · rename_i hcond
            simp only [Tree.sel, Option.some.injEq, Prod.mk.injEq] at h
            obtain ⟨rfl, rfl⟩ := h
            refine ⟨setN mem b (some (T, putCells cs off v.cells)), by rw [if_pos hcond]; rfl, fun l => ⟨fun hw => ?_, fun hn => ?_⟩⟩
            · simp only [Touch.wr, List.mem_cons, Prod.mk.injEq, and_true, List.not_mem_nil, or_false] at hw
              subst hw
              simp only [obs, Sum.inr.injEq]
              have h1 : b < M.length := nth_lt hmem
              have h2 : b < mem.length := nth_lt (hb.trans hmem)
              rw [nth_set_self h1, nth_set_self h2]
            · simp only [Touch.wr, List.mem_cons, Prod.mk.injEq, and_true, List.not_mem_nil, or_false] at hn
              cases l with
              | zero => simp [obs, setN_eq]
              | succ k =>
                have hk : k ≠ b := fun e => hn (by rw [e])
                simp only [obs, nth_set_ne' hk, and_self]
          · simp [Tree.sel] at h
        · simp [Tree.sel] at h
      · simp [Tree.sel] at h
    | buildSlice ty n parts =>
      simp only [touchOf] at hT
      simp only [evOp] at h ⊢
      split at h
      · rename_i l hl
        rw [hl] at hT
        simp only at hT
        split at hT
        · rename_i hlit
          simp only [Option.some.injEq] at hT
          subst hT
          rw [if_pos hlit] at h ⊢
          split at h
          · rename_i q hq
            simp only [Tree.sel, Option.some.injEq, Prod.mk.injEq] at h
            obtain ⟨rfl, rfl⟩ := h
            exact ⟨mem, rfl, still (by simp) rfl⟩
          · simp [Tree.sel] at h
        rename_i hlit
        rw [if_neg hlit] at h ⊢
        split at hT
        · rename_i hall
          simp only [Option.some.injEq] at hT
          subst hT
          split at h
          · rename_i q hq
            simp only [Tree.sel, Option.some.injEq] at h
            subst h
            obtain ⟨b, rfl, h2⟩ := buildSlice_mem hq (fun p hp x hx => by
              have := List.all_eq_true.1 (List.all_eq_true.1 hall p hp) x hx
              simpa using this) (len (by simp))
            exact ⟨mem ++ [b], by rw [h2]; rfl, grow b (by simp) (by simp) (by simp)⟩
          · simp [Tree.sel] at h
        · simp at hT
      · simp [Tree.sel] at h
    | makeSlice ty x y =>
      simp only [touchOf] at hT
      simp only [evOp] at h ⊢
      simp only [Option.some.injEq] at hT
      subst hT
      split at h
      · rename_i l c hl hc
        obtain ⟨b, rfl, h2⟩ := makeSlice_mem h (len (by simp))
        exact ⟨mem ++ [b], h2, grow b (by simp) (by simp) (by simp)⟩
      · simp [Tree.sel] at h
    | slice ty x lo hi mx =>
      simp only [touchOf] at hT
      simp only [evOp] at h ⊢
      have hcut : ∀ es n σ l hh, (cutSl es n σ l hh M).sel = some (r, M') → (∀ l, ¬ (l, true) ∈ t) → ∃ mem', (cutSl es n σ l hh mem).sel = some (r, mem') ∧ ∀ l, (Touch.wr (some t) l → obs mem' l = obs M' l) ∧ (¬ Touch.wr (some t) l → obs mem' l = obs mem l ∧ obs M' l = obs M l) := by
        intro es n σ l hh hc ht
        have fin : ∀ (c : Bool) (v : AV), (Tree.need c (.leaf (v, M))).sel = some (r, M') → ∃ mem', (Tree.need c (.leaf (v, mem))).sel = some (r, mem') ∧ ∀ l, (Touch.wr (some t) l → obs mem' l = obs M' l) ∧ (¬ Touch.wr (some t) l → obs mem' l = obs mem l ∧ obs M' l = obs M l) := by
          intro c v hs
          simp only [Tree.sel] at hs ⊢
          cases c <;> simp at hs
          obtain ⟨rfl, rfl⟩ := hs
          exact ⟨mem, rfl, still ht rfl⟩
        unfold cutSl at hc ⊢
        split at hc
        · simp only [Tree.sel, Option.some.injEq, Prod.mk.injEq] at hc
          obtain ⟨rfl, rfl⟩ := hc
          exact ⟨mem, rfl, still ht rfl⟩
        · exact fin _ _ hc
        · exact fin _ _ hc
        · exact fin _ _ hc
      split at hT
      · rename_i es n σ hx
        simp only [Option.some.injEq] at hT
        subst hT
        rw [hx] at h ⊢
        split at h
        · rename_i b l hh m hb h1 h2 h3
          simp only [Option.some.injEq, AV.one.injEq] at hb
          subst hb
          simp only [boundOf, Option.some.injEq] at h3
          subst h3
          have e0 : ∀ mm : Mem, (if tails H = true then evTail P mm ty (A1.c (.sl es n σ)) l hh none else none) = none := fun mm => by split <;> rfl
          have e1 : ∀ mm : Mem, (if heads H = true then evHead P mm ty (A1.c (.sl es n σ)) l hh none else none) = none := fun mm => by split <;> rfl
          rw [e0, e1] at h ⊢
          simp only [isOsA, Bool.and_false, Bool.false_and, Bool.false_eq_true, if_false] at h ⊢
          unfold evSlice at h ⊢
          split at h
          · split at h
            · simp only at h ⊢
              split at h
              · rename_i hc
                rw [if_pos hc]
                exact hcut _ _ _ _ _ h (by simp)
              · simp [Tree.sel] at h
            · simp [Tree.sel] at h
          · simp [Tree.sel] at h
        · simp [Tree.sel] at h
      · rename_i hx
        simp only [Option.some.injEq] at hT
        subst hT
        rw [hx] at h ⊢
        split at h
        · rename_i b l hh m hb h1 h2 h3
          simp only [Option.some.injEq, AV.one.injEq] at hb
          subst hb
          simp only [boundOf, Option.some.injEq] at h3
          subst h3
          have e0 : ∀ mm : Mem, (if tails H = true then evTail P mm ty (A1.c .nils) l hh none else none) = none := fun mm => by split <;> rfl
          have e1 : ∀ mm : Mem, (if heads H = true then evHead P mm ty (A1.c .nils) l hh none else none) = none := fun mm => by split <;> rfl
          rw [e0, e1] at h ⊢
          simp only [isOsA, Bool.and_false, Bool.false_and, Bool.false_eq_true, if_false] at h ⊢
          unfold evSlice at h ⊢
          split at h
          · split at h
            · simp only at h ⊢
              split at h
              · rename_i hc
                rw [if_pos hc]
                simp only [Tree.sel, Option.some.injEq, Prod.mk.injEq] at h
                obtain ⟨rfl, rfl⟩ := h
                exact ⟨mem, rfl, still (by simp) rfl⟩
              · simp [Tree.sel] at h
            · simp [Tree.sel] at h
          · simp [Tree.sel] at h
        · simp [Tree.sel] at h
      · rename_i b sz hx
        split at hT
        · rename_i hh0
          simp only [Option.some.injEq] at hT
          subst hT
          rw [hx] at h ⊢
          split at h
          · rename_i a l hh m ha h1 h2 h3
            simp only [Option.some.injEq, AV.one.injEq] at ha
            subst ha
            simp only [boundOf, Option.some.injEq] at h3
            subst h3
            have hrow : rowAt mem b = rowAt M b := rowAt_congr (rd b (by simp))
            obtain ⟨o1, ho1⟩ := evTail_shape (P := P) ty b sz l hh none (rowAt M b)
            obtain ⟨o2, ho2⟩ := evHead_shape (P := P) ty b sz l hh none (rowAt M b)
            simp only [ho1 M rfl, ho2 M rfl, ho1 mem hrow, ho2 mem hrow, hh0, if_true, isOsA, Option.isNone_none, Bool.and_self] at h ⊢
            have leaf : ∀ p : Bool × AV, (Tree.need p.1 (.leaf (p.2, M))).sel = some (r, M') → ∃ mem', (Tree.need p.1 (.leaf (p.2, mem))).sel = some (r, mem') ∧ ∀ l, (Touch.wr (some [(b + 1, false)]) l → obs mem' l = obs M' l) ∧ (¬ Touch.wr (some [(b + 1, false)]) l → obs mem' l = obs mem l ∧ obs M' l = obs M l) := by
              intro p hp
              obtain ⟨c, v⟩ := p
              cases c <;> simp [Tree.sel] at hp
              obtain ⟨rfl, rfl⟩ := hp
              exact ⟨mem, rfl, still (by simp) rfl⟩
            have two : (match o2.map fun (p : Bool × AV) => Tree.need p.1 (.leaf (p.2, M)) with | some r => r | none => Tree.fail).sel = some (r, M') →
                ∃ mem', (match o2.map fun (p : Bool × AV) => Tree.need p.1 (.leaf (p.2, mem)) with | some r => r | none => Tree.fail).sel = some (r, mem') ∧ ∀ l, (Touch.wr (some [(b + 1, false)]) l → obs mem' l = obs M' l) ∧ (¬ Touch.wr (some [(b + 1, false)]) l → obs mem' l = obs mem l ∧ obs M' l = obs M l) := by
              intro hp
              cases o2 with
              | none => simp [Tree.sel] at hp
              | some p => exact leaf p hp
            cases ht : tails H
            · simp only [ht, Bool.false_eq_true, if_false] at h ⊢
              exact two h
            · simp only [ht, if_true] at h ⊢
              cases o1 with
              | none => exact two h
              | some p => exact leaf p h
          · simp [Tree.sel] at h
        · simp at hT
      · simp at hT
    | indexAddr ty x i =>
      simp only [touchOf] at hT
      simp only [evOp] at h ⊢
      split at h
      · rename_i b sz kk k hx hi
        rw [hx] at hT
        simp only [Option.some.injEq] at hT
        subst hT
        rw [rowAt_congr (rd b (by simp))]
        split at h
        · split at h
          · split at h
            · rename_i hc
              rw [if_pos hc]
              simp only [Tree.sel] at h ⊢
              cases hr : inRange k _ <;> simp [hr] at h
              obtain ⟨rfl, rfl⟩ := h
              exact ⟨mem, rfl, still (by simp) rfl⟩
            · simp [Tree.sel] at h
          · simp [Tree.sel] at h
        · simp [Tree.sel] at h
      · split at hT
        · rename_i b sz hx
          obtain ⟨v, hv, _⟩ := sel_bind h
          simp only [evPure, arrAt, ite_self, evPure0, hx] at hv
          split at hv <;> simp_all [Tree.sel]
        · split at hT
          · simp only [Option.some.injEq] at hT
            exact pure_case _ h (by subst hT; simp)
          · simp at hT
    | call c =>
      simp only [touchOf] at hT
      simp only [evOp] at h ⊢
      split at h
      · rename_i x hcal
        simp only [hcal] at hT
        split at hT
        · rename_i hq
          simp only [Option.some.injEq] at hT
          subst hT
          rw [Bool.or_eq_true] at hq
          split at h
          · rename_i f args ht
            split at h
            · rename_i hcl
              have hclosed : args.all closedA = true := by
                rcases hq with hq | hq
                · simp only [quietOp, hcal, ht, Bool.and_eq_true] at hq
                  exact hq.2
                · simp only [laysOp, hcal, ht, Bool.and_eq_true] at hq
                  exact hq.2
              have hv : ∀ m : Mem, args.map (view1 m) = args := fun m => (List.map_congr_left fun x hx => view1_closed (List.all_eq_true.1 hclosed x hx)).trans (List.map_id _)
              have hfz : ∀ m : Mem, frz1s m args = (m, args) := fun m => frz1s_closed hclosed
              split at h
              · rename_i G hG
                simp only [hv, hclosed, if_true, Bool.true_or] at h ⊢
                obtain ⟨rr, hr, h⟩ := sel_bind h
                simp only [Tree.sel, Option.some.injEq, Prod.mk.injEq] at h
                obtain ⟨rfl, rfl⟩ := h
                exact ⟨mem, by rw [if_pos hcl, bind_sel hr]; rfl, still (by simp) rfl⟩
              · rename_i hG
                split at h
                · rename_i G' hG'
                  simp only [hfz, hclosed, if_true] at h ⊢
                  obtain ⟨rr, hr, h⟩ := sel_bind h
                  simp only [Tree.sel, Option.some.injEq, Prod.mk.injEq] at h
                  obtain ⟨rfl, rfl⟩ := h
                  exact ⟨mem, by rw [if_pos hcl, bind_sel hr]; rfl, still (by simp) rfl⟩
                · rename_i hG'
                  rcases hq with hq | hq
                  · simp [quietOp, hcal, ht, hG] at hq
                  · simp [laysOp, hcal, ht, hG'] at hq
            · simp [Tree.sel] at h
          · simp [Tree.sel] at h
        · simp only [readsOp, hcal] at hT
          split at hT
          · rename_i f args ht
            split at hT
            · rename_i hs
              simp only [Option.some.injEq] at hT
              subst hT
              have hw : args.map (view1 mem) = args.map (view1 M) := List.map_congr_left fun x hx => view1_congr fun b sz hb => rd b (osAll_mem hx hb)
              simp only [ht] at h ⊢
              split at h
              · rename_i hcl
                split at h
                · rename_i G hG
                  split at h
                  · rename_i hca
                    obtain ⟨rr, hr, h⟩ := sel_bind h
                    split at h
                    · rename_i hf
                      simp only [Tree.sel, Option.some.injEq, Prod.mk.injEq] at h
                      obtain ⟨rfl, rfl⟩ := h
                      refine ⟨mem, ?_, still (fun l hl => by have := osAll_rd hl; simp at this) rfl⟩
                      simp only [hw, if_pos hcl, if_pos hca, bind_sel hr, if_pos hf]
                      rfl
                    · simp [Tree.sel] at h
                  · rw [Bool.and_eq_true] at hs
                    rw [if_pos hs.2] at h
                    simp [Tree.sel] at h
                · rename_i hG
                  simp [hG] at hs
              · simp [Tree.sel] at h
            · simp at hT
          · simp at hT
      · rename_i hcal
        simp only [hcal] at hT
        split at h
        · rename_i b x ty ty' hargs htys
          rw [hargs] at hT
          split at h
          · rename_i htt
            rw [if_pos htt]
            unfold evAppend at h ⊢
            split at h
            · split at h
              · split at h
                · simp [Tree.sel] at h
                · rename_i hc
                  rw [if_neg hc]
                  split at hT
                  · -- nil, plain
                    rename_i es n σ heq
                    simp only [Option.some.injEq, List.cons.injEq, and_true] at heq
                    obtain ⟨rfl, rfl⟩ := heq
                    simp only [Option.some.injEq] at hT
                    subst hT
                    simp only [srcOf] at h ⊢
                    split at h
                    · rename_i hes
                      rw [if_pos hes]
                      simp only [Tree.sel] at h ⊢
                      cases hl : Nat.ble _ 140737488355328 <;> simp [hl] at h
                      obtain ⟨rfl, rfl⟩ := h
                      exact ⟨_, by simp only [len (by simp), cond_true], grow _ (by simp) (by simp) (by simp)⟩
                    · simp [Tree.sel] at h
                  · rename_i b' sz' heq
                    simp only [Option.some.injEq, List.cons.injEq, and_true] at heq
                    obtain ⟨rfl, rfl⟩ := heq
                    simp only [Option.some.injEq] at hT
                    subst hT
                    simp only [srcOf_congr (mem := mem) (M := M) (x := .c (.os b' sz')) (fun b sz e => by cases e; exact rd b' (by simp))] at h ⊢
                    split at h
                    · split at h
                      · rename_i hes
                        rw [if_pos hes]
                        simp only [Tree.sel] at h ⊢
                        cases hl : Nat.ble _ 140737488355328 <;> simp [hl] at h
                        obtain ⟨rfl, rfl⟩ := h
                        exact ⟨_, by simp only [len (by simp), cond_true], grow _ (by simp) (by simp) (by simp)⟩
                      · simp [Tree.sel] at h
                    · simp [Tree.sel] at h
                  · rename_i b' sz' es n σ heq
                    simp only [Option.some.injEq, List.cons.injEq, and_true] at heq
                    obtain ⟨rfl, rfl⟩ := heq
                    simp only [Option.some.injEq] at hT
                    subst hT
                    simp only [srcOf, rowAt_congr (rdw b' (by simp))] at h ⊢
                    split at h
                    · rename_i hrow hs
                      split at h
                      · rename_i hes
                        rw [if_pos hes]
                        simp only [Tree.sel] at h ⊢
                        cases hl : Nat.ble _ 140737488355328 <;> simp [hl] at h
                        obtain ⟨rfl, rfl⟩ := h
                        exact ⟨_, by simp only [len (by simp), cond_true], grow2 b' _ (nth_lt (rowAt_some hrow)) (by simp) (by simp) (by simp) (by simp)⟩
                      · simp [Tree.sel] at h
                    · simp [Tree.sel] at h
                  · rename_i b' sz' b2 sz2 heq
                    simp only [Option.some.injEq, List.cons.injEq, and_true] at heq
                    obtain ⟨rfl, rfl⟩ := heq
                    simp only [Option.some.injEq] at hT
                    subst hT
                    simp only [srcOf_congr (mem := mem) (M := M) (x := .c (.os b2 sz2)) (fun b sz e => by cases e; exact rd b2 (by simp)), rowAt_congr (rdw b' (by simp))] at h ⊢
                    split at h
                    · rename_i hrow hs
                      split at h
                      · rename_i hes
                        rw [if_pos hes]
                        simp only [Tree.sel] at h ⊢
                        cases hl : Nat.ble _ 140737488355328 <;> simp [hl] at h
                        obtain ⟨rfl, rfl⟩ := h
                        exact ⟨_, by simp only [len (by simp), cond_true], grow2 b' _ (nth_lt (rowAt_some hrow)) (by simp) (by simp) (by simp) (by simp)⟩
                      · simp [Tree.sel] at h
                    · simp [Tree.sel] at h
                  · rename_i heq
                    simp only [Option.some.injEq, List.cons.injEq, and_true] at heq
                    obtain ⟨rfl, rfl⟩ := heq
                    simp only [Option.some.injEq] at hT
                    subst hT
                    simp only [Tree.sel, Option.some.injEq, Prod.mk.injEq] at h ⊢
                    obtain ⟨rfl, rfl⟩ := h
                    exact ⟨mem, ⟨rfl, rfl⟩, still (by simp) rfl⟩
                  · rename_i b' sz' heq
                    simp only [Option.some.injEq, List.cons.injEq, and_true] at heq
                    obtain ⟨rfl, rfl⟩ := heq
                    simp only [Option.some.injEq] at hT
                    subst hT
                    simp only [rowAt_congr (rd b' (by simp))] at h ⊢
                    split at h
                    · simp only [Tree.sel, Option.some.injEq, Prod.mk.injEq] at h
                      obtain ⟨rfl, rfl⟩ := h
                      exact ⟨mem, rfl, still (by simp) rfl⟩
                    · simp [Tree.sel] at h
                  · simp at hT
              · simp [Tree.sel] at h
            · simp [Tree.sel] at h
          · simp [Tree.sel] at h
        · simp [Tree.sel] at h
      · rename_i hcal
        simp [quietOp, laysOp, readsOp, hcal] at hT
      · rename_i hcal
        simp only [hcal] at hT
        split at h
        · rename_i a x ty tys hargs htys
          rw [hargs] at hT
          have main : ∀ (b sz lo : Nat), dstOf a = some (b, sz, lo) → (b + 1, true) ∈ t → (∀ l, (l, true) ∈ t → l = b + 1) → cpOf mem x = cpOf M x →
              ∃ mem', (evCopy P mem ty a x).sel = some (r, mem') ∧ ∀ l, (Touch.wr (some t) l → obs mem' l = obs M' l) ∧ (¬ Touch.wr (some t) l → obs mem' l = obs mem l ∧ obs M' l = obs M l) := by
            intro b sz lo hd hb hw hcp
            unfold evCopy at h ⊢
            rw [hd] at h ⊢
            rw [hcp]
            have hrow : rowAt mem b = rowAt M b := rowAt_congr (rdw b hb)
            split at h
            · rename_i b' sz' lo' es' m σ h1 h2
              simp only [Option.some.injEq, Prod.mk.injEq] at h1
              obtain ⟨rfl, rfl, rfl⟩ := h1
              rw [hrow]
              split at h
              · rename_i hM
                split at h
                · split at h
                  · rename_i hc
                    rw [if_pos hc]
                    simp only [Tree.sel, Option.some.injEq, Prod.mk.injEq] at h
                    obtain ⟨rfl, rfl⟩ := h
                    refine ⟨_, rfl, fun l => ⟨fun hwl => ?_, fun hn => ?_⟩⟩
                    · have hl := hw l hwl
                      subst hl
                      simp only [obs, Sum.inr.injEq]
                      have h1 : b < M.length := nth_lt (rowAt_some hM)
                      have h2 : b < mem.length := nth_lt ((rdw b hb).trans (rowAt_some hM))
                      rw [nth_set_self h1, nth_set_self h2]
                    · cases l with
                      | zero => simp [obs, setN_eq]
                      | succ k =>
                        have hk : k ≠ b := fun e => hn (by subst e; exact hb)
                        simp only [obs, nth_set_ne' hk, and_self]
                  · simp [Tree.sel] at h
                · simp [Tree.sel] at h
              · simp [Tree.sel] at h
            · simp [Tree.sel] at h
          split at hT
          · rename_i b sz es n σ heq
            simp only [Option.some.injEq, List.cons.injEq, and_true] at heq
            obtain ⟨rfl, rfl⟩ := heq
            simp only [Option.some.injEq] at hT
            subst hT
            exact main b sz 0 rfl (by simp) (by simp) rfl
          · rename_i b sz lo b' sz' m heq
            simp only [Option.some.injEq, List.cons.injEq, and_true] at heq
            obtain ⟨rfl, rfl⟩ := heq
            simp only [Option.some.injEq] at hT
            subst hT
            exact main b sz lo rfl (by simp) (by simp) (cpOf_congr fun b2 sz2 m2 e => by cases e; exact rd b' (by simp))
          · cases hT
        · simp [Tree.sel] at h
      · rename_i hcal
        simp only [hcal] at hT
        split at h
        · rename_i b sz ty hargs htys
          rw [hargs] at hT
          simp only [Option.some.injEq] at hT
          subst hT
          rw [rowAt_congr (rd b (by simp))]
          split at h
          · simp only [Tree.sel, Option.some.injEq, Prod.mk.injEq] at h
            obtain ⟨rfl, rfl⟩ := h
            exact ⟨mem, rfl, still (by simp) rfl⟩
          · simp [Tree.sel] at h
        · refine pure_case _ h ?_
          split at hT <;> simp at hT <;> subst hT <;> simp
      · rename_i h1 h2 h2' h2c h3
        have : t = [] := by
          split at hT
          · rename_i hcal; exact (h2 hcal).elim
          · rename_i hcal; exact (h3 hcal).elim
          · rename_i hcal; exact (h2c hcal).elim
          · split at hT
            · simpa using hT.symm
            · simp [readsOp] at hT
        exact pure_case _ h (by subst this; simp)
    | _ =>
      simp only [touchOf, quietOp, if_true, Option.some.injEq] at hT
      simp only [evOp] at h ⊢
      exact pure_case _ h (by subst hT; simp)

/-! ### the run in the order of the text -/

structure StepOk (P : Program) (H : Hd) (call : CallH) (all : List Oper) (s s1 : St) (o : Oper) (T : Touch) (K : List (Nat × Bool)) (r : AV) : Prop where
  touch : T = touchOf H (lim o s K) s.mem.length o.op
  put : s1.tmps = (s.put0 o.dst K r).tmps
  step : (o.guard = none ∧ K = [] ∧ (evOp P H call s.mem (fun K' => lim o s K') o.op).sel = some (r, s1.mem)) ∨
    (∃ j b m', o.guard = some (j, b) ∧ keysOf all s j b = some K ∧ stillOp H (lim o s K) o.op = true ∧ (∀ p ∈ K, some p.1 ≠ o.dst) ∧ s1.mem = s.mem ∧ ((evOp P H call s.mem (fun K' => lim o s (K' ++ K)) o.op).toNeed dGu (gterm s K)).sel = some (r, m'))

theorem put0_mem (s : St) (d : Option Tmp) (K : List (Nat × Bool)) (v : AV) : (s.put0 d K v).mem = s.mem := by
  cases d <;> rfl

theorem evDraw_runs {H : Hd} {call : CallH} {all : List Oper} : ∀ (l : List Oper) (s : St) {s' : St} {is : List Info}, (evDraw P H call all l s).sel = some (s', is) →
    ∃ (st : Nat → St) (rs : Nat → AV), st 0 = s ∧ st l.length = s' ∧ is.length = l.length ∧ ∀ i o, l[i]? = some o → ∃ T K, is[i]? = some (T, K) ∧ StepOk P H call all (st i) (st (i + 1)) o T K (rs i)
  | [], s, s', is, h => by
    simp only [evDraw, Tree.sel, Option.some.injEq, Prod.mk.injEq] at h
    obtain ⟨rfl, rfl⟩ := h
    exact ⟨fun _ => s, fun _ => .any, rfl, rfl, rfl, fun i o h => by simp at h⟩
  | o :: r, s, s', is, h => by
    have key : ∀ (s1 : St) (T : Touch) (K : List (Nat × Bool)) (v : AV) (is' : List Info), (evDraw P H call all r s1).sel = some (s', is') → is = (T, K) :: is' → StepOk P H call all s s1 o T K v →
        ∃ (st : Nat → St) (rs : Nat → AV), st 0 = s ∧ st (o :: r).length = s' ∧ is.length = (o :: r).length ∧ ∀ i o', (o :: r)[i]? = some o' → ∃ T K, is[i]? = some (T, K) ∧ StepOk P H call all (st i) (st (i + 1)) o' T K (rs i) := by
      intro s1 T K v is' h1 hi hs
      obtain ⟨st, rs, h0, hn, hl, hstep⟩ := evDraw_runs r s1 h1
      subst hi
      refine ⟨fun i => match i with | 0 => s | i + 1 => st i, fun i => match i with | 0 => v | i + 1 => rs i, rfl, hn, by simp [hl], fun i o' hi => ?_⟩
      cases i with
      | zero =>
        simp at hi; subst hi
        exact ⟨T, K, rfl, by simpa [h0] using hs⟩
      | succ i =>
        simp at hi
        obtain ⟨T', K', h1, h2⟩ := hstep i o' hi
        exact ⟨T', K', by simpa using h1, h2⟩
    simp only [evDraw] at h
    split at h
    · rename_i hg
      obtain ⟨⟨rv, mem'⟩, h1, h2⟩ := sel_bind h
      obtain ⟨⟨s2, is'⟩, h3, h4⟩ := sel_bind h2
      simp only [Tree.sel, Option.some.injEq, Prod.mk.injEq] at h4
      obtain ⟨rfl, rfl⟩ := h4
      refine key _ _ _ rv _ h3 rfl ⟨rfl, ?_, .inl ⟨hg, rfl, ?_⟩⟩
      · cases o.dst <;> rfl
      · rw [put0_mem]; exact h1
    · rename_i j b hg
      split at h
      · rename_i K hK
        split at h
        · simp [Tree.sel] at h
        · rename_i hcond
          simp only [Bool.or_eq_true, Bool.not_eq_true', not_or, Bool.not_eq_false, Bool.not_eq_true] at hcond
          obtain ⟨hq, hdst⟩ := hcond
          obtain ⟨⟨rv, mem'⟩, h1, h2⟩ := sel_bind h
          obtain ⟨⟨s2, is'⟩, h3, h4⟩ := sel_bind h2
          simp only [Tree.sel, Option.some.injEq, Prod.mk.injEq] at h4
          obtain ⟨rfl, rfl⟩ := h4
          have hkd : ∀ p ∈ K, some p.1 ≠ o.dst := by
            intro p hp e
            rw [List.any_eq_false] at hdst
            exact hdst p hp (by simp [e])
          exact key _ _ _ rv _ h3 rfl ⟨rfl, rfl, .inr ⟨j, b, mem', hg, hK, hq, hkd, put0_mem _ _ _ _, h1⟩⟩
      · simp [Tree.sel] at h

/-! ### what the check says -/

theorem edges_spec : ∀ {k : Nat} {l : List Oper}, edgesOk k l = true → ∀ i o, l[i]? = some o → ∀ e ∈ o.after, Region.binds .any e = true → e.on < k + i
  | k, o :: r, h, 0, o', hi, e, he, hb => by
    simp at hi; subst hi
    simp only [edgesOk, Bool.and_eq_true, List.all_eq_true] at h
    have := h.1 e (by simpa using he)
    rw [hb] at this
    simpa using this
  | k, o :: r, h, i + 1, o', hi, e, he, hb => by
    simp only [edgesOk, Bool.and_eq_true] at h
    have := edges_spec h.2 i o' (by simpa using hi) e he hb
    omega
  | k, [], _, i, o', hi, _, _, _ => by simp at hi

theorem dsts_spec : ∀ {l : List Oper}, dstsOk l = true → ∀ (i j : Nat) (o o' : Oper) (d : Tmp), l[i]? = some o → l[j]? = some o' → o.dst = some d → o'.dst = some d → i = j
  | [], _, i, _, _, _, _, hi, _, _, _ => by simp at hi
  | x :: r, h, 0, 0, _, _, _, _, _, _, _ => rfl
  | x :: r, h, 0, j + 1, o, o', d, hi, hj, hd, hd' => by
    simp at hi hj; subst hi
    simp only [dstsOk, hd, Bool.and_eq_true, List.all_eq_true] at h
    have := h.1 o' (List.mem_of_getElem? hj)
    simp [hd'] at this
  | x :: r, h, i + 1, 0, o, o', d, hi, hj, hd, hd' => by
    simp at hi hj; subst hj
    simp only [dstsOk, hd', Bool.and_eq_true, List.all_eq_true] at h
    have := h.1 o (List.mem_of_getElem? hi)
    simp [hd] at this
  | x :: r, h, i + 1, j + 1, o, o', d, hi, hj, hd, hd' => by
    simp only [dstsOk, Bool.and_eq_true] at h
    rw [dsts_spec h.2 i j o o' d (by simpa using hi) (by simpa using hj) hd hd']

theorem writer_some {t : Nat} : ∀ {k : Nat} {l : List Oper} {i : Nat}, writerOf t k l = some i → ∃ j o, i = k + j ∧ l[j]? = some o ∧ o.dst = some t
  | k, [], i, h => by simp [writerOf] at h
  | k, o :: r, i, h => by
    simp only [writerOf] at h
    split at h
    · rename_i hd
      simp at h; subst h
      exact ⟨0, o, rfl, rfl, by simpa using hd⟩
    · obtain ⟨j, o', h1, h2, h3⟩ := writer_some h
      exact ⟨j + 1, o', by omega, by simpa using h2, h3⟩

theorem writer_none {t : Nat} : ∀ {k : Nat} {l : List Oper}, writerOf t k l = none → ∀ (i : Nat) (o : Oper), l[i]? = some o → o.dst ≠ some t
  | k, [], _, i, o, hi => by simp at hi
  | k, x :: r, h, i, o, hi => by
    simp only [writerOf] at h
    split at h
    · simp at h
    · rename_i hd
      cases i with
      | zero => simp at hi; subst hi; simpa using hd
      | succ i => exact writer_none h i o (by simpa using hi)

theorem ops_spec {all : List Oper} {masks : List Nat} : ∀ {k : Nat} {l : List Oper} {is : List Info}, opsOk all masks k l is = true → ∀ j o T K, l[j]? = some o → is[j]? = some (T, K) →
    (∀ t ∈ tmpsIn o.op.operands.toList, tmpOk all masks (k + j) t = true) ∧ (∀ g b, o.guard = some (g, b) → isAnc masks g (k + j) = true) ∧ (∀ p ∈ K, keyOk all masks (k + j) p.1 = true)
  | k, [], _, _, j, o, _, _, hj, _ => by simp at hj
  | k, _ :: _, [], _, j, _, _, _, _, hi => by simp at hi
  | k, x :: r, (T0, K0) :: q, h, 0, o, T, K, hj, hi => by
    simp at hj hi
    obtain ⟨rfl, rfl⟩ := hi
    subst hj
    simp only [opsOk, Bool.and_eq_true, List.all_eq_true] at h
    obtain ⟨⟨⟨h1, h2⟩, h3⟩, _⟩ := h
    refine ⟨fun t ht => by simpa using h1 t ht, fun g b hg => ?_, fun p hp => by simpa using h3 p hp⟩
    rw [hg] at h2
    simpa using h2
  | k, x :: r, (T0, K0) :: q, h, j + 1, o, T, K, hj, hi => by
    simp only [opsOk, Bool.and_eq_true] at h
    have := ops_spec h.2 j o T K (by simpa using hj) (by simpa using hi)
    rwa [show k + 1 + j = k + (j + 1) by omega] at this

theorem clash_spec {masks : List Nat} {i j : Nat} {T U : Touch} (h : clash masks i j T U = true) {l : Nat} (hl : T.wr l ∧ U.at l ∨ T.at l ∧ U.wr l) : isAnc masks i j = true := by
  cases T with
  | none => cases U with
    | none => exact h
    | some u =>
      simp only [clash, Bool.or_eq_true] at h
      rcases h with h | h
      · rcases hl with ⟨_, x, hx⟩ | ⟨_, hx⟩
        · simp at h; subst h; simp at hx
        · simp at h; subst h; simp [Touch.wr] at hx
      · exact h
  | some t => cases U with
    | none =>
      simp only [clash, Bool.or_eq_true] at h
      rcases h with h | h
      · rcases hl with ⟨hx, _⟩ | ⟨⟨x, hx⟩, _⟩
        · simp at h; subst h; simp [Touch.wr] at hx
        · simp at h; subst h; simp at hx
      · exact h
    | some u =>
      simp only [clash, List.all_eq_true] at h
      rcases hl with ⟨h1, x, h2⟩ | ⟨⟨x, h1⟩, h2⟩
      · have := h _ h1 _ h2
        simpa using this
      · have := h _ h1 _ h2
        simpa using this

theorem row_spec {masks : List Nat} {i : Nat} {t : Touch} : ∀ {k : Nat} {l : List Info}, touchRow masks i t k l = true → ∀ j T K, l[j]? = some (T, K) → clash masks i (k + j) t T = true
  | k, [], _, j, _, _, hj => by simp at hj
  | k, x :: r, h, 0, T, K, hj => by
    simp at hj; subst hj
    simp only [touchRow, Bool.and_eq_true] at h
    exact h.1
  | k, x :: r, h, j + 1, T, K, hj => by
    simp only [touchRow, Bool.and_eq_true] at h
    have := row_spec h.2 j T K (by simpa using hj)
    rwa [show k + 1 + j = k + (j + 1) by omega] at this

theorem touches_spec {masks : List Nat} : ∀ {k : Nat} {l : List Info}, touchesOk masks k l = true → ∀ i j T K T' K', i < j → l[i]? = some (T, K) → l[j]? = some (T', K') → clash masks (k + i) (k + j) T T' = true
  | k, [], _, i, _, _, _, _, _, _, hi, _ => by simp at hi
  | k, x :: r, h, 0, j + 1, T, K, T', K', _, hi, hj => by
    simp at hi; subst hi
    simp only [touchesOk, Bool.and_eq_true] at h
    have := row_spec h.1 j T' K' (by simpa using hj)
    rwa [show k + 1 + j = k + (j + 1) by omega] at this
  | k, x :: r, h, 0, 0, _, _, _, _, hij, _, _ => by omega
  | k, x :: r, h, i + 1, 0, _, _, _, _, hij, _, _ => by omega
  | k, x :: r, h, i + 1, j + 1, T, K, T', K', hij, hi, hj => by
    simp only [touchesOk, Bool.and_eq_true] at h
    have := touches_spec h.2 i j T K T' K' (by omega) (by simpa using hi) (by simpa using hj)
    rwa [show k + 1 + i = k + (i + 1) by omega, show k + 1 + j = k + (j + 1) by omega] at this

theorem ancMask_spec {masks : List Nat} {i : Nat} : ∀ {l : List Edge}, (ancMask masks l).testBit i = true → ∃ e ∈ l, Region.binds .any e = true ∧ ∃ m, nth masks e.on = some m ∧ (i = e.on ∨ m.testBit i = true)
  | [], h => by simp [ancMask] at h
  | e :: r, h => by
    simp only [ancMask, Nat.testBit_or, Bool.or_eq_true] at h
    rcases h with h | h
    · split at h
      · rename_i m hm
        split at h
        · rename_i hb
          rw [Nat.testBit_or, Bool.or_eq_true, Nat.testBit_two_pow] at h
          refine ⟨e, by simp, hb, m, hm, h.imp (fun h => ?_) id⟩
          have := of_decide_eq_true h
          exact this.symm
        · simp at h
      · simp at h
    · obtain ⟨e', he, h2⟩ := ancMask_spec h
      exact ⟨e', by simp [he], h2⟩

/-- the listed operations, and one more, have all their ancestors listed -/
theorem anc_listed {all : List Oper} {L N : Nat → Prop} (hd : ∀ j o, all[j]? = some o → N j → ∀ e ∈ o.after, Region.binds .any e = true → L e.on) (hLN : ∀ j, L j → N j) :
    ∀ (l : List Oper) (acc : List Nat), (∀ k, l[k]? = all[acc.length + k]?) → (∀ j m, nth acc j = some m → ∀ i, m.testBit i = true → N j → L i) → ∀ j m, nth (ancMasks l acc) j = some m → ∀ i, m.testBit i = true → N j → L i
  | [], acc, _, hacc => hacc
  | o :: r, acc, hl, hacc => by
    simp only [ancMasks]
    refine anc_listed hd hLN r _ (fun k => ?_) (fun j m hj i hi hN => ?_)
    · have := hl (k + 1)
      simp only [List.getElem?_cons_succ] at this
      rw [this]
      simp [Nat.add_assoc, Nat.add_comm 1]
    · rcases nth_append_split hj with h | ⟨h1, h2⟩
      · exact hacc j m h i hi hN
      · subst h2
        have ho : all[j]? = some o := by
          have := hl 0
          simpa [h1] using this.symm
        obtain ⟨e, he, hb, m, hm, h⟩ := ancMask_spec hi
        have hLe := hd j o ho hN e (by simpa using he) hb
        rcases h with rfl | h
        · exact hLe
        · exact hacc _ m hm i h (hLN _ hLe)

/-! ### the plan of a drawn region -/

structure Plan (P : Program) (H : Hd) (call : CallH) (all : List Oper) where
  st : Nat → St
  rs : Nat → AV
  T : Nat → Touch
  K : Nat → List (Nat × Bool)
  anc : Nat → Nat → Prop
  step : ∀ i o, all[i]? = some o → StepOk P H call all (st i) (st (i + 1)) o (T i) (K i) (rs i)
  start : ∀ sl ∈ (st 0).tmps, sl.keys = []
  edges : ∀ i o, all[i]? = some o → ∀ e ∈ o.after, Region.binds .any e = true → e.on < i
  dsts : ∀ (i j : Nat) (o o' : Oper) (d : Tmp), all[i]? = some o → all[j]? = some o' → o.dst = some d → o'.dst = some d → i = j
  tmps : ∀ (j : Nat) (o : Oper) (t : Tmp), all[j]? = some o → t ∈ tmpsIn o.op.operands.toList → (∃ (i : Nat) (oi : Oper), all[i]? = some oi ∧ oi.dst = some t ∧ (anc i j ∨ anc j i ∨ i = j)) ∨ (∀ (i : Nat) (oi : Oper), all[i]? = some oi → oi.dst ≠ some t)
  guards : ∀ (j : Nat) (o : Oper) (g : Nat) (b : Bool), all[j]? = some o → o.guard = some (g, b) → anc g j
  keys : ∀ (j : Nat) (o : Oper) p, all[j]? = some o → p ∈ K j → ∃ (i : Nat) (oi : Oper), all[i]? = some oi ∧ oi.dst = some p.1 ∧ anc i j
  touch : ∀ i j l, i < j → j < all.length → (T i).wr l ∧ (T j).at l ∨ (T i).at l ∧ (T j).wr l → anc i j
  lt : ∀ i j, anc i j → i < j
  down : ∀ (L N : Nat → Prop), (∀ j o, all[j]? = some o → N j → ∀ e ∈ o.after, Region.binds .any e = true → L e.on) → (∀ j, L j → N j) → ∀ i j, anc i j → N j → L i

theorem plan_of {H : Hd} {call : CallH} {all : List Oper} {s s' : St} {is : List Info} (h : (evDraw P H call all all s).sel = some (s', is)) (hd : drawOk all is = true) (h0 : ∀ sl ∈ s.tmps, sl.keys = []) :
    ∃ p : Plan P H call all, p.st 0 = s ∧ p.st all.length = s' := by
  obtain ⟨st, rs, e0, en, hl, hstep⟩ := evDraw_runs all s h
  simp only [drawOk, Bool.and_eq_true] at hd
  obtain ⟨⟨⟨h1, h2⟩, h3⟩, h4⟩ := hd
  have hi : ∀ i, i < all.length → is[i]? = some ((is[i]?.getD (none, [])).1, (is[i]?.getD (none, [])).2) := by
    intro i hi
    rw [List.getElem?_eq_getElem (by omega)]
    simp
  have hlt : ∀ {i : Nat} {o : Oper}, all[i]? = some o → i < all.length := by
    intro i o h
    rcases Nat.lt_or_ge i all.length with h' | h'
    · exact h'
    · simp [List.getElem?_eq_none h'] at h
  refine ⟨{ st := st, rs := rs, T := fun i => (is[i]?.getD (none, [])).1, K := fun i => (is[i]?.getD (none, [])).2, anc := fun i j => isAnc (ancMasks all []) i j = true, step := ?_, start := ?_, edges := ?_, dsts := dsts_spec h2, tmps := ?_, guards := ?_, keys := ?_, touch := ?_, lt := ?_, down := ?_ }, e0, en⟩
  · intro i o ho
    obtain ⟨T, K, h1, h2⟩ := hstep i o ho
    simpa [h1] using h2
  · rw [e0]; exact h0
  · intro i o ho e he hb
    have := edges_spec h1 i o ho e he hb
    omega
  · intro j o t ho ht
    have := (ops_spec h3 j o _ _ ho (hi j (hlt ho))).1 t ht
    rw [Nat.zero_add] at this
    unfold tmpOk at this
    split at this
    · rename_i i hw
      obtain ⟨j', o', h1, h2, h3⟩ := writer_some hw
      left
      rw [Bool.or_eq_true, Bool.or_eq_true, beq_iff_eq] at this
      rw [show i = j' by omega] at this
      exact ⟨j', o', h2, h3, this.elim (fun h => h.elim .inl fun h => .inr (.inl h)) fun h => .inr (.inr h)⟩
    · rename_i hw
      right
      exact writer_none hw
  · intro j o g b ho hg
    have := (ops_spec h3 j o _ _ ho (hi j (hlt ho))).2.1 g b hg
    rwa [Nat.zero_add] at this
  · intro j o p ho hp
    have := (ops_spec h3 j o _ _ ho (hi j (hlt ho))).2.2 p hp
    rw [Nat.zero_add] at this
    unfold keyOk at this
    split at this
    · rename_i i hw
      obtain ⟨j', o', h1, h2, h3⟩ := writer_some hw
      exact ⟨j', o', h2, h3, by rw [show j' = i by omega]; exact this⟩
    · simp at this
  · intro i j l hij hj hl'
    have := touches_spec h4 i j _ _ _ _ hij (hi i (by omega)) (hi j hj)
    rw [Nat.zero_add, Nat.zero_add] at this
    exact clash_spec this hl'
  · intro i j h
    unfold isAnc at h
    rw [Bool.and_eq_true] at h
    simpa using h.1
  · intro L N hd hLN i j h hN
    unfold isAnc at h
    rw [Bool.and_eq_true] at h
    obtain ⟨_, h⟩ := h
    split at h
    · rename_i m hm
      exact anc_listed hd hLN all [] (by simp) (fun j m h => by simp [nth] at h) j m hm i h hN
    · simp at h

end
end Go.Sx
/-
  The evaluator's soundness (part N): a drawn region, carried out in any order that its edges leave open.
-/
namespace Go.Sx
open Go Go.RowKit

variable {D : List Deferred}

section
variable {P : Program}

theorem toNeed_sel {α : Type} {d : α} {g : Bool} {t : Tree α} {x : α} (h : (t.toNeed d g).sel = some x) (hg : g = true) : t.sel = some x := by
  subst hg
  induction t with
  | leaf a => exact h
  | br c t e _ _ => simp [Tree.toNeed, Tree.sel] at h
  | need c t ih =>
    simp only [Tree.toNeed, Tree.sel, Bool.not_true, Bool.false_or] at h ⊢
    cases c
    · simp at h
    · exact ih h
  | fail => simp [Tree.toNeed, Tree.sel] at h

theorem slot_bool {F w bs s} {a : Act} (hs : StRel P D F w bs s a) {d : Nat} {ks : List (Nat × Bool)} {v : AV} (hn : nth s.tmps d = some ⟨ks, v⟩) {b : Bool} (hb : a.tmps[d]? = some (.bool b)) : KH a ks ∧ v.Rel F w bs (.bool b) := by
  have := hs.slots d _ _ hn hb
  by_cases hk : KH a ks
  · exact ⟨hk, this.1 hk⟩
  · have h2 := this.2 hk
    simp [undef] at h2

theorem gterm_ok {F w bs s} {a : Act} (hs : StRel P D F w bs s a) : ∀ {K : List (Nat × Bool)}, KH a K → gterm s K = true
  | [], _ => rfl
  | (d, b) :: K, h => by
    have hd := h (d, b) (by simp)
    have ih := gterm_ok hs (K := K) (fun p hp => h p (by simp [hp]))
    simp only [gterm, ih, Bool.and_true]
    split
    · rename_i ks c hn
      have := (slot_bool hs hn hd).2
      cases this
      simp
    · rfl

theorem keys_ok {F w bs s} {a : Act} (hs : StRel P D F w bs s a) {ops : Array Oper} {j : Nat} {b : Bool} {K : List (Nat × Bool)} (h : keysOf ops.toList s j b = some K) : KH a K ↔ yielded ops a.tmps j = some b := by
  unfold keysOf at h
  split at h
  · rename_i o ho
    split at h
    · rename_i d hd
      split at h
      · rename_i ks t hn
        simp at h; subst h
        rw [nth_eq] at ho
        simp only [Array.getElem?_toList] at ho
        have hy : yielded ops a.tmps j = some b ↔ a.tmps[d]? = some (.bool b) := by
          unfold yielded
          simp only [ho, Option.bind_some, hd]
          cases hh : a.tmps[d]? with
          | none => simp
          | some v => cases v <;> simp
        rw [hy]
        constructor
        · intro hk; exact hk (d, b) (by simp)
        · intro hb p hp
          simp only [List.mem_cons] at hp
          rcases hp with rfl | hp
          · exact hb
          · exact (slot_bool hs hn hb).1 p hp
      · simp at h
    · simp at h
  · simp at h

theorem wanted_iff {o : Oper} {j : Nat} {b : Bool} (hg : o.guard = some (j, b)) (y : Nat → Option Bool) : Region.wanted o y = true ↔ y j = some b := by
  simp [Region.wanted, hg]

theorem StRel.below {F w bs s w'} {a : Act} (hs : StRel P D F w bs s a) (h : Below w.heap.size w w') : StRel P D F w' bs s a :=
  hs.ext (Ext.of_below h) (hs.mem.below h)

theorem nth_set_ne {α : Type} {l : List α} {i j : Nat} {x : α} (h : i ≠ j) : nth (setN l i x) j = nth l j := by
  rw [setN_eq, nth_eq, nth_eq, List.getElem?_set_ne h]

theorem Ext.le {K F w bs F' w' bs'} (h : Ext K F w bs F' w' bs') (hK : K ≤ bs.length := by exact Nat.le_refl _) : K ≤ bs'.length := by
  cases K with
  | zero => exact Nat.zero_le _
  | succ k =>
    have hk : k < bs.length := by omega
    exact nth_lt (h.pre k bs[k] (by omega) (by rw [nth_eq]; exact List.getElem?_eq_getElem hk))

theorem nth_set_congr {α : Type} {l m : List α} {i : Nat} {x : α} (h : l.length = m.length) : nth (setN l i x) i = nth (setN m i x) i := by
  rw [setN_eq, setN_eq, nth_eq, nth_eq, List.getElem?_set, List.getElem?_set]
  simp [h]

theorem put0_ne {s : St} {dst : Option Tmp} {K : List (Nat × Bool)} {v : AV} {d : Nat} (h : dst ≠ some d) : nth (s.put0 dst K v).tmps d = nth s.tmps d := by
  cases dst with
  | none => rfl
  | some e => exact nth_set_ne (fun he => h (by rw [he]))

variable {H : Hd} {call : CallH} {all : List Oper}

theorem lt_of_get {i : Nat} {o : Oper} (h : all[i]? = some o) : i < all.length := by
  rcases Nat.lt_or_ge i all.length with h' | h'
  · exact h'
  · simp [List.getElem?_eq_none h'] at h

/-- the state when the operations 'L' have been carried out -/
structure J (p : Plan P H call all) (L : Nat → Prop) (s : St) : Prop where
  len : s.tmps.length = (p.st 0).tmps.length
  slots : ∀ (i : Nat) (o : Oper) (d : Tmp), all[i]? = some o → o.dst = some d → (L i → nth s.tmps d = nth (setN (p.st 0).tmps d ⟨p.K i, p.rs i⟩) d) ∧ (¬ L i → nth s.tmps d = nth (p.st 0).tmps d)
  free : ∀ d : Nat, (∀ (i : Nat) (o : Oper), all[i]? = some o → o.dst ≠ some d) → nth s.tmps d = nth (p.st 0).tmps d
  mem : ∀ l, ∃ i, i ≤ all.length ∧ obs s.mem l = obs (p.st i).mem l ∧ ∀ k, k < all.length → (p.T k).wr l → (L k ↔ k < i)

theorem J.put {p : Plan P H call all} {L : Nat → Prop} {s s1 : St} (h : J p L s) {j : Nat} {o : Oper} (ho : all[j]? = some o) (ht : s1.tmps = (s.put0 o.dst (p.K j) (p.rs j)).tmps)
    (hm : ∀ l, ∃ i, i ≤ all.length ∧ obs s1.mem l = obs (p.st i).mem l ∧ ∀ k, k < all.length → (p.T k).wr l → ((L k ∨ k = j) ↔ k < i)) : J p (fun k => L k ∨ k = j) s1 := by
  refine ⟨?_, fun i oi d hi hd => ?_, fun d hd => ?_, hm⟩
  · rw [ht, ← h.len]
    cases o.dst <;> simp [St.put0, setN_eq]
  · by_cases hij : i = j
    · subst hij
      rw [ho] at hi
      simp at hi; subst hi
      refine ⟨fun _ => ?_, fun hn => (hn (.inr rfl)).elim⟩
      rw [ht, hd]
      exact nth_set_congr h.len
    · have hne : o.dst ≠ some d := fun e => hij (p.dsts i j oi o d hi ho hd e)
      rw [ht, put0_ne hne]
      exact ⟨fun hl => (h.slots i oi d hi hd).1 (hl.resolve_right hij), fun hn => (h.slots i oi d hi hd).2 fun hl => hn (.inl hl)⟩
  · rw [ht, put0_ne (hd j o ho)]
    exact h.free d hd

theorem J.congr {p : Plan P H call all} {L L' : Nat → Prop} {s : St} (h : J p L s) (hl : ∀ k, k < all.length → (L k ↔ L' k)) : J p L' s := by
  refine ⟨h.len, fun i o d hi hd => ?_, h.free, fun l => ?_⟩
  · have := hl i (lt_of_get hi)
    exact ⟨fun x => (h.slots i o d hi hd).1 (this.2 x), fun x => (h.slots i o d hi hd).2 fun y => x (this.1 y)⟩
  · obtain ⟨i, h1, h2, h3⟩ := h.mem l
    exact ⟨i, h1, h2, fun k hk hw => (hl k hk).symm.trans (h3 k hk hw)⟩

/-- an operation that doesn't write there leaves a place as it is -/
theorem same_step {p : Plan P H call all} {k l : Nat} (hk : k < all.length) (hn : ¬ (p.T k).wr l) : obs (p.st (k + 1)).mem l = obs (p.st k).mem l := by
  have ho : all[k]? = some all[k] := List.getElem?_eq_getElem hk
  have hs := p.step k _ ho
  rcases hs.step with ⟨hg, hK, h⟩ | ⟨j, b, m', hg, hK, hq, hkd, hm, h⟩
  · obtain ⟨m, h1, h2⟩ := evOp_mem (mem := (p.st k).mem) h (fun _ _ => rfl)
    have hT := hs.touch
    rw [hK] at hT
    rw [← hT] at h2
    exact ((h2 l).2 hn).2
  · rw [hm]

theorem same_between {p : Plan P H call all} {l i : Nat} : ∀ (d : Nat), i + d ≤ all.length → (∀ k, i ≤ k → k < i + d → ¬ (p.T k).wr l) → obs (p.st (i + d)).mem l = obs (p.st i).mem l
  | 0, _, _ => rfl
  | d + 1, hd, h => by
    rw [← Nat.add_assoc, same_step (by omega) (h (i + d) (by omega) (by omega))]
    exact same_between d (by omega) fun k h1 h2 => h k h1 (by omega)

theorem text_J (p : Plan P H call all) : ∀ j, j ≤ all.length → J p (fun k => k < j) (p.st j)
  | 0, _ => ⟨rfl, fun i o d _ _ => ⟨fun h => by omega, fun _ => rfl⟩, fun _ _ => rfl, fun l => ⟨0, by omega, rfl, fun k _ _ => by simp⟩⟩
  | j + 1, hj => by
    have ho : all[j]? = some all[j] := List.getElem?_eq_getElem (by omega)
    have hs := p.step j _ ho
    have h := text_J p j (by omega)
    have := h.put ho (s1 := p.st (j + 1)) hs.put fun l => ⟨j + 1, hj, rfl, fun k _ _ => by omega⟩
    exact this.congr fun k hk => by omega

/-- all that an operation sees is as it was in the order of the text -/
theorem J.same {p : Plan P H call all} {L : Nat → Prop} {s : St} (h : J p L s) {j : Nat} {o : Oper} (ho : all[j]? = some o) (hd : ∀ i, p.anc i j → L i) (hL : ∀ i k, p.anc i k → L k → L i) (hj : ¬ L j) :
    (∀ t ∈ tmpsIn o.op.operands.toList, nth s.tmps t = nth (p.st j).tmps t) ∧ (∀ (i : Nat) (oi : Oper) (d : Tmp), all[i]? = some oi → oi.dst = some d → p.anc i j → nth s.tmps d = nth (p.st j).tmps d) ∧
    (∀ l, (p.T j).at l → obs s.mem l = obs (p.st j).mem l) := by
  have hjl := lt_of_get ho
  have ht := text_J p j (by omega)
  have hs : ∀ (i : Nat) (oi : Oper) (d : Tmp), all[i]? = some oi → oi.dst = some d → p.anc i j → nth s.tmps d = nth (p.st j).tmps d := by
    intro i oi d hi hdd ha
    rw [(h.slots i oi d hi hdd).1 (hd i ha), (ht.slots i oi d hi hdd).1 (p.lt i j ha)]
  refine ⟨fun t htt => ?_, hs, fun l hl => ?_⟩
  · rcases p.tmps j o t ho htt with ⟨i, oi, hi, hdd, ha | ha | rfl⟩ | hf
    · exact hs i oi t hi hdd ha
    · rw [(h.slots i oi t hi hdd).2 (fun hl => hj (hL _ _ ha hl)), (ht.slots i oi t hi hdd).2 (by have := p.lt j i ha; omega)]
    · rw [(h.slots i oi t hi hdd).2 hj, (ht.slots i oi t hi hdd).2 (by omega)]
    · rw [h.free t hf, ht.free t hf]
  · obtain ⟨i, hi, hob, hth⟩ := h.mem l
    rw [hob]
    rcases Nat.le_total i j with hij | hij
    · have := same_between (p := p) (l := l) (i := i) (j - i) (by omega) fun k h1 h2 hw => by
        have hk : k < j := by omega
        have ha := p.touch k j l hk hjl (.inl ⟨hw, hl⟩)
        have := (hth k (by omega) hw).1 (hd k ha)
        omega
      rw [show i + (j - i) = j by omega] at this
      exact this.symm
    · have := same_between (p := p) (l := l) (i := j) (i - j) (by omega) fun k h1 h2 hw => by
        have hlk := (hth k (by omega) hw).2 (by omega)
        rcases Nat.lt_or_eq_of_le h1 with hlt | rfl
        · exact hj (hL j k (p.touch j k l hlt (by omega) (.inr ⟨hl, hw⟩)) hlk)
        · exact hj hlk
      rw [show j + (i - j) = i by omega] at this
      exact this

theorem J.eq {p : Plan P H call all} {L : Nat → Prop} {s : St} (h : J p L s) (hall : ∀ k, k < all.length → L k) : s = p.st all.length := by
  have ht := (text_J p all.length (Nat.le_refl _)).congr (L' := L) fun k hk => ⟨fun _ => hall k hk, fun _ => hk⟩
  have h1 : s.tmps = (p.st all.length).tmps := by
    apply List.ext_getElem?
    intro d
    rw [← nth_eq, ← nth_eq]
    by_cases hf : ∀ (i : Nat) (o : Oper), all[i]? = some o → o.dst ≠ some d
    · rw [h.free d hf, ht.free d hf]
    · have : ∃ (i : Nat) (o : Oper), all[i]? = some o ∧ o.dst = some d := by
        apply Classical.byContradiction
        intro hn
        exact hf fun i o hi hd => hn ⟨i, o, hi, hd⟩
      obtain ⟨i, o, hi, hd⟩ := this
      rw [(h.slots i o d hi hd).1 (hall i (lt_of_get hi)), (ht.slots i o d hi hd).1 (hall i (lt_of_get hi))]
  have h2 : s.mem = (p.st all.length).mem := by
    refine obs_ext fun l => ?_
    obtain ⟨i, hi, hob, hth⟩ := h.mem l
    rw [hob]
    have := same_between (p := p) (l := l) (i := i) (all.length - i) (by omega) fun k h1 h2 hw => by
      have := (hth k (by omega) hw).1 (hall k (by omega))
      omega
    rw [show i + (all.length - i) = all.length by omega] at this
    exact this.symm
  cases s
  cases hh : p.st all.length
  simp_all

/-- no slot that is there hangs on the one that is written -/
theorem J.put_eq {p : Plan P H call all} {L : Nat → Prop} {s : St} (h : J p L s) {j : Nat} {o : Oper} (ho : all[j]? = some o) (hL : ∀ i k, p.anc i k → L k → L i) (hj : ¬ L j) (K : List (Nat × Bool)) (v : AV) :
    s.put o.dst K v = s.put0 o.dst K v := by
  cases hd : o.dst with
  | none => rfl
  | some d =>
    have : s.tmps.map (dropKey d) = s.tmps := by
      refine (List.map_congr_left fun sl hsl => ?_).trans (List.map_id _)
      simp only [id, dropKey]
      rw [if_neg]
      intro hany
      obtain ⟨q, hq, hqd⟩ := List.any_eq_true.1 hany
      obtain ⟨t, hn⟩ := mem_nth hsl
      have hstart : nth (p.st 0).tmps t = some sl → False := fun hx => by
        have := p.start sl (nth_mem hx)
        rw [this] at hq
        cases hq
      by_cases hf : ∀ (i : Nat) (o : Oper), all[i]? = some o → o.dst ≠ some t
      · exact hstart (by rw [← h.free t hf]; exact hn)
      · have : ∃ (i : Nat) (o : Oper), all[i]? = some o ∧ o.dst = some t := by
          apply Classical.byContradiction
          intro hn
          exact hf fun i o hi hd => hn ⟨i, o, hi, hd⟩
        obtain ⟨i, oi, hi, hdi⟩ := this
        by_cases hl : L i
        · rw [(h.slots i oi t hi hdi).1 hl, setN_eq, nth_eq, List.getElem?_set_self'] at hn
          cases hx : (p.st 0).tmps[t]? with
          | none => rw [hx] at hn; simp at hn
          | some y =>
            rw [hx] at hn
            simp at hn
            subst hn
            obtain ⟨i', oi', hi', hdi', ha⟩ := p.keys i oi q hi hq
            have : q.1 = d := by simpa using hqd
            rw [this] at hdi'
            have := p.dsts i' j oi' o d hi' ho hdi' hd
            subst this
            exact hj (hL _ _ ha hl)
        · exact hstart (by rw [← (h.slots i oi t hi hdi).2 hl]; exact hn)
    simp only [St.put, St.put0, this]

theorem gterm_congr {s s' : St} : ∀ {K : List (Nat × Bool)}, (∀ q ∈ K, nth s.tmps q.1 = nth s'.tmps q.1) → gterm s K = gterm s' K
  | [], _ => rfl
  | (d, b) :: K, h => by
    simp only [gterm]
    rw [h (d, b) (by simp), gterm_congr fun q hq => h q (by simp [hq])]

/-- the memory behind a further operation -/
theorem J.mem_step {p : Plan P H call all} {L : Nat → Prop} {s : St} (h : J p L s) {j : Nat} {o : Oper} (ho : all[j]? = some o) (hd : ∀ i, p.anc i j → L i) (hL : ∀ i k, p.anc i k → L k → L i) (hj : ¬ L j) {mem' : Mem}
    (hm : ∀ l, ((p.T j).wr l → obs mem' l = obs (p.st (j + 1)).mem l) ∧ (¬ (p.T j).wr l → obs mem' l = obs s.mem l)) :
    ∀ l, ∃ i, i ≤ all.length ∧ obs mem' l = obs (p.st i).mem l ∧ ∀ k, k < all.length → (p.T k).wr l → ((L k ∨ k = j) ↔ k < i) := by
  intro l
  have hjl := lt_of_get ho
  by_cases hw : (p.T j).wr l
  · refine ⟨j + 1, by omega, (hm l).1 hw, fun k hk hwk => ⟨fun hx => ?_, fun hx => ?_⟩⟩
    · rcases hx with hx | rfl
      · rcases Nat.lt_or_ge j k with hjk | hjk
        · exact (hj (hL j k (p.touch j k l hjk hk (.inl ⟨hw, (Touch.wr_at hwk)⟩)) hx)).elim
        · omega
      · omega
    · rcases Nat.lt_or_eq_of_le (Nat.le_of_lt_succ hx) with hlt | rfl
      · exact .inl (hd k (p.touch k j l hlt hjl (.inl ⟨hwk, (Touch.wr_at hw)⟩)))
      · exact .inr rfl
  · obtain ⟨i, hi, hob, hth⟩ := h.mem l
    refine ⟨i, hi, by rw [(hm l).2 hw, hob], fun k hk hwk => ?_⟩
    have : k ≠ j := fun e => hw (e ▸ hwk)
    rw [← hth k hk hwk]
    simp [this]

def Lof (listed : Array Bool) (i : Nat) : Prop := listed.getD i false = true

theorem Lof_set {listed : Array Bool} {i : Nat} (hi : i < listed.size) (k : Nat) : Lof (listed.setIfInBounds i true) k ↔ (Lof listed k ∨ k = i) := by
  unfold Lof
  by_cases h : i = k
  · subst h; simp [hi]
  · rw [getD_set_ne false h]
    simp [Ne.symm h]

/-- a drawn region -/
theorem draw_any (hpc : SumOk P H) (hcall : CallOk P call) {ops : Array Oper} (hops : ops.toList = all) (p : Plan P H call all) {Q : Exit → Act → World → Prop} {F0 : Nat → Prop} {w0 : World} {bs0 : List BI}
    (hQ : ∀ F' w' bs' a', Ext bs0.length F0 w0 bs0 F' w' bs' → StRel P D F' w' bs' (p.st all.length) a' → Q .normal a' w') :
    ∀ (fuel : Nat) (listed : Array Bool) (a : Act) (w : World) (s : St) (F : Nat → Prop) (bs : List BI), listed.size = all.length → listed.toList.countP (fun b => !b) ≤ fuel →
      (∀ j o, all[j]? = some o → Lof listed j → ∀ e ∈ o.after, Region.binds .any e = true → Lof listed e.on) → J p (Lof listed) s → Ext bs0.length F0 w0 bs0 F w bs → StRel P D F w bs s a → wpAny P .any ops Q fuel listed a w := by
  have hget : ∀ i, ops[i]? = all[i]? := fun i => by rw [← hops, Array.getElem?_toList]
  have hready : ∀ listed : Array Bool, listed.size = all.length → Region.ready .any ops listed = [] → ∀ k, k < all.length → Lof listed k := by
    intro listed hsz hr k
    induction k using Nat.strongRecOn with
    | ind k ih =>
      intro hk
      apply Classical.byContradiction
      intro hn
      have : k ∈ Region.ready .any ops listed := by
        rw [mem_ready]
        refine ⟨?_, all[k], by rw [hget]; exact List.getElem?_eq_getElem hk, fun e he hb => ?_⟩
        · unfold Lof at hn
          have hk' : k < listed.size := by omega
          simp only [Array.getD_eq_getD_getElem?, Array.getElem?_eq_getElem hk', Option.getD_some] at hn ⊢
          simpa using hn
        · have hlt := p.edges k _ (List.getElem?_eq_getElem hk) e he hb
          exact ih e.on hlt (by omega)
      rw [hr] at this
      cases this
  intro fuel
  induction fuel with
  | zero =>
    intro listed a w s F bs hsz hc hdn hJ hext hs
    have hnil : Region.ready .any ops listed = [] := by
      rw [List.eq_nil_iff_forall_not_mem]
      intro j hj
      obtain ⟨h0, o, ho, _⟩ := mem_ready.1 hj
      rw [hget] at ho
      have hjl := lt_of_get ho
      have hj' : j < listed.size := by omega
      have := List.countP_eq_zero.1 (Nat.le_zero.1 hc) listed[j] (by simp)
      simp only [Array.getD_eq_getD_getElem?, Array.getElem?_eq_getElem hj', Option.getD_some] at h0
      simp [h0] at this
    have := hJ.eq (hready listed hsz hnil)
    subst this
    exact ⟨hnil, hQ F w bs a hext hs⟩
  | succ fuel ih =>
    intro listed a w s F bs hsz hc hdn hJ hext hs
    refine ⟨fun hnil => ?_, fun j hj => ?_⟩
    · have := hJ.eq (hready listed hsz hnil)
      subst this
      exact hQ F w bs a hext hs
    · obtain ⟨h0, o, ho, hed⟩ := mem_ready.1 hj
      have ho' := ho
      rw [hget] at ho'
      have hjl := lt_of_get ho'
      have hj' : j < listed.size := by omega
      have hjf : listed[j] = false := by simpa only [Array.getD_eq_getD_getElem?, Array.getElem?_eq_getElem hj', Option.getD_some] using h0
      have hnl : ¬ Lof listed j := by
        unfold Lof
        simp [Array.getElem?_eq_getElem hj', hjf]
      have hL : ∀ i k, p.anc i k → Lof listed k → Lof listed i := p.down _ _ hdn fun _ h => h
      have hd : ∀ i, p.anc i j → Lof listed i := fun i hi => p.down (Lof listed) (fun k => Lof listed k ∨ k = j) (fun k ok hk hN e he hb => by
        rcases hN with hN | rfl
        · exact hdn k ok hk hN e he hb
        · rw [ho'] at hk
          simp at hk; subst hk
          exact hed e he hb) (fun _ h => .inl h) i j hi (.inr rfl)
      obtain ⟨hsame, hkeys, hmem⟩ := hJ.same ho' hd hL hnl
      have hset : ∀ k, Lof (listed.setIfInBounds j true) k ↔ (Lof listed k ∨ k = j) := Lof_set hj'
      -- the rest, behind this operation
      have next : ∀ (a' : Act) (w' : World) (s' : St) (F' : Nat → Prop) (bs' : List BI), J p (fun k => Lof listed k ∨ k = j) s' → Ext bs.length F w bs F' w' bs' → StRel P D F' w' bs' s' a' → wpAny P .any ops Q fuel (listed.setIfInBounds j true) a' w' := by
        intro a' w' s' F' bs' hJ' he hs'
        refine ih _ a' w' s' F' bs' (by simpa using hsz) ?_ (fun k ok hk hl e hee hb => ?_) (hJ'.congr fun k _ => (hset k).symm) (hext.trans he hext.le) hs'
        · simp only [Array.toList_setIfInBounds]
          rw [List.countP_set (by simpa using hj')]
          have : 0 < listed.toList.countP (fun b => !b) := List.countP_pos_iff.2 ⟨listed[j], by simp, by simp [hjf]⟩
          have e1 : ((!listed.toList[j]) = true) = True := by simp [hjf]
          simp only [e1, if_true, Bool.not_true, Bool.false_eq_true, if_false]
          omega
        · rw [hset] at hl ⊢
          rcases hl with hl | rfl
          · exact .inl (hdn k ok hk hl e hee hb)
          · rw [ho'] at hk
            simp at hk; subst hk
            exact .inl (hed e hee hb)
      have hst := p.step j o ho'
      have hlim : ∀ K, lim o s K = lim o (p.st j) K := fun K => lim_congr hsame
      unfold wpOp
      simp only [ho]
      rcases hst.step with ⟨hg, hK, h⟩ | ⟨g, b, m', hg, hK, hq, hkd, hm, h⟩
      · simp only [Region.wanted, hg, if_true]
        left
        have hT := hst.touch
        rw [hK] at hT
        obtain ⟨mem', h1, h2⟩ := evOp_mem (mem := s.mem) h (fun l hl => hmem l (by rw [hT]; exact hl))
        rw [← hT] at h2
        have e1 : (fun K' => lim o (p.st j) K') = fun K' => lim o s K' := funext fun K => (hlim K).symm
        rw [e1] at h1
        refine evOp_at hpc hcall hs.mem (fun K x av hk hh => opnd_ok hs hk (limit_le hh)) h1 fun F' w' bs' v he hm' hr => ?_
        refine next _ w' ({ s with mem := mem' }.put o.dst [] (p.rs j)) F' bs' ?_ he (StRel.put (hs.ext he hm') (fun _ hp => by cases hp) (fun _ => hr) (fun h => (h KH_nil).elim))
        have hmem' := hJ.mem_step ho' hd hL hnl (mem' := mem') fun l => ⟨(h2 l).1, fun hn => ((h2 l).2 hn).1⟩
        refine hJ.put ho' ?_ ?_
        · have := hJ.put_eq ho' hL hnl [] (p.rs j)
          rw [hK, ← this]
          cases o.dst <;> rfl
        · intro l
          have : ({ s with mem := mem' }.put o.dst [] (p.rs j)).mem = mem' := by cases o.dst <;> rfl
          rw [this]
          exact hmem' l
      · have hga := p.guards j o g b ho' hg
        have hgs : nth s.tmps = nth s.tmps := rfl
        have hkeq : keysOf ops.toList s g b = some (p.K j) := by
          rw [hops, ← hK]
          unfold keysOf
          split
          · rename_i og hog
            split
            · rename_i d hdg
              rw [nth_eq] at hog
              rw [hkeys g og d hog hdg hga]
            · rfl
          · rfl
        have hiff := keys_ok hs hkeq
        have hgt : gterm s (p.K j) = gterm (p.st j) (p.K j) := gterm_congr fun q hq => by
          obtain ⟨i, oi, hi, hdi, ha⟩ := p.keys j o q ho' hq
          exact hkeys i oi q.1 hi hdi ha
        have hnowr : ∀ l, ¬ (p.T j).wr l ∨ True := fun _ => .inr trivial
        have hmem' : ∀ l, ∃ i, i ≤ all.length ∧ obs s.mem l = obs (p.st i).mem l ∧ ∀ k, k < all.length → (p.T k).wr l → ((Lof listed k ∨ k = j) ↔ k < i) :=
          hJ.mem_step ho' hd hL hnl (mem' := s.mem) fun l => ⟨fun hw => by rw [hm]; exact hmem l (Touch.wr_at hw), fun _ => rfl⟩
        have hput : ∀ w' : World, J p (fun k => Lof listed k ∨ k = j) (s.put o.dst (p.K j) (p.rs j)) := fun _ => by
          refine hJ.put ho' ?_ ?_
          · rw [hJ.put_eq ho' hL hnl]
          · have : (s.put o.dst (p.K j) (p.rs j)).mem = s.mem := by cases o.dst <;> rfl
            rw [this]
            exact hmem'
        by_cases hk : KH a (p.K j)
        · have hw : Region.wanted o (yielded ops a.tmps) = true := (wanted_iff hg _).2 (hiff.1 hk)
          rw [if_pos hw]
          left
          have h1 := toNeed_sel h (by rw [← hgt]; exact gterm_ok hs hk)
          have e1 : (fun K' => lim o (p.st j) (K' ++ p.K j)) = fun K' => lim o s (K' ++ p.K j) := funext fun K => (hlim _).symm
          rw [e1] at h1
          have e2 : lim o (p.st j) (p.K j) = lim o s (p.K j) := (hlim _).symm
          rw [e2] at hq
          have hT := hst.touch
          obtain ⟨m2, h3, _⟩ := evOp_mem (mem := s.mem) h1 (fun l hl => by
            refine (hmem l ?_).trans rfl
            rw [hT, e2]; exact hl)
          have hρ : ∀ K' x av, KH a K' → lim o s (K' ++ p.K j) x = some av → av.Rel F w bs (a.eval x) := fun K' x av hk' hh => opnd_ok hs (fun q hq => (List.mem_append.1 hq).elim (hk' q) (hk q)) (limit_le hh)
          have hme := still_mem (ρ := fun K' => lim o s (K' ++ p.K j)) hpc hs.mem hρ hq h3
          subst hme
          refine evOp_at hpc hcall hs.mem hρ h3 fun F' w' bs' v he hm' hr => ?_
          exact next _ w' _ F' bs' (hput w') he (StRel.put (hs.ext he hm') hkd (fun _ => hr) (fun h => (h hk).elim))
        · have hw : ¬ Region.wanted o (yielded ops a.tmps) = true := fun h => hk (hiff.2 ((wanted_iff hg _).1 h))
          rw [if_neg hw]
          exact next _ w _ F bs (hput w) Ext.refl (StRel.put hs hkd (fun h => (hk h).elim) (fun _ => rfl))

theorem draw_ok (hpc : SumOk P H) (hcall : CallOk P call) {id : Nat} {ops : Array Oper} (hm : P.follows .mixedOrders = true) {s s' : St} {is : List Info} (h : (evDraw P H call ops.toList ops.toList s).sel = some (s', is)) (hd : drawOk ops.toList is = true)
    (h0 : ∀ sl ∈ s.tmps, sl.keys = []) {F : Nat → Prop} {w : World} {bs : List BI} {a : Act} (hs : StRel P D F w bs s a) {Q : Exit → Act → World → Prop}
    (hQ : ∀ F' w' bs' a', Ext bs.length F w bs F' w' bs' → StRel P D F' w' bs' s' a' → Q .normal a' w') : (Code.region id ops true).wp P Q a w := by
  obtain ⟨p, e0, en⟩ := plan_of h hd h0
  have hb : Below w.heap.size w { w with drawn := w.drawn + 1 } := Below.drew (Below.refl _ _)
  refine wp_region_any hm (draw_any (F0 := F) (w0 := w) (bs0 := bs) hpc hcall rfl p (fun F' w' bs' a' he hs' => hQ F' w' bs' a' he (en ▸ hs')) _ _ _ _ s F bs (by simp) ?_ ?_ ?_ (Ext.of_below hb) (hs.below hb))
  · simpa using List.countP_le_length (p := fun b => !b) (l := List.replicate ops.size false)
  · intro j o _ hl
    unfold Lof at hl
    simp [Array.getElem?_replicate] at hl
    split at hl <;> simp at hl
  · have := text_J p 0 (Nat.zero_le _)
    rw [e0] at this
    refine this.congr fun k hk => ⟨fun h => by omega, fun hl => ?_⟩
    unfold Lof at hl
    simp [Array.getElem?_replicate] at hl
    split at hl <;> simp at hl

end
end Go.Sx
/-
  The evaluator's soundness: ways that meet again.
-/
namespace Go.Sx
open Go Go.RowKit

variable {P : Program}

variable {D : List Deferred}

/-- the second memory says no more than the first one -/
structure MemWk (m m' : Mem) : Prop where
  len : m.length ≤ m'.length
  ent : ∀ k T cs', nth m' k = some (some (T, cs')) → ∃ cs, nth m k = some (some (T, cs)) ∧ (isRowL cs = true → cs' = cs) ∧ (isRowL cs = false → isRowL cs' = false ∧ ∀ F w bs vs, All2 (CV.Rel F w bs) cs vs → All2 (CV.Rel F w bs) cs' vs)

theorem MemWk.refl {m : Mem} : MemWk m m := ⟨Nat.le_refl _, fun _ _ cs h => ⟨cs, h, fun _ => rfl, fun hr => ⟨hr, fun _ _ _ _ h => h⟩⟩⟩

theorem lin_sel {α : Type} : ∀ {t : Tree α} {l : List Bool} {a : α}, lin t = some (l, a) → (∀ b ∈ l, b = true) → t.sel = some a
  | .leaf x, l, a, h, _ => by simp [lin] at h; rw [h.2]; rfl
  | .need c t, l, a, h, hl => by
    simp only [lin] at h
    split at h
    · rename_i l' a' h'
      simp at h
      obtain ⟨rfl, rfl⟩ := h
      simp only [Tree.sel, hl c (by simp), cond_true]
      exact lin_sel h' fun b hb => hl b (by simp [hb])
    · simp at h
  | .br _ _ _, _, _, h, _ => by simp [lin] at h
  | .fail, _, _, h, _ => by simp [lin] at h

theorem needAll_sel {α : Type} : ∀ {l : List Bool} {t : Tree α} {x : α}, (needAll l t).sel = some x → (∀ b ∈ l, b = true) ∧ t.sel = some x
  | [], t, x, h => ⟨by simp, h⟩
  | c :: l, t, x, h => by
    simp only [needAll, Tree.sel] at h
    cases c
    · simp at h
    · simp only [cond_true] at h
      obtain ⟨h1, h2⟩ := needAll_sel h
      exact ⟨by simpa using h1, h2⟩

theorem needBoth_ok {c : Bool} {l1 l2 : List Bool} (h : ∀ b ∈ needBoth c l1 l2, b = true) : (c = true → ∀ b ∈ l1, b = true) ∧ (c = false → ∀ b ∈ l2, b = true) := by
  refine ⟨fun hc b hb => ?_, fun hc b hb => ?_⟩
  · have := h (!c || b) (by unfold needBoth; exact List.mem_append_left _ (List.mem_map_of_mem hb))
    subst hc; simpa using this
  · have := h (c || b) (by unfold needBoth; exact List.mem_append_right _ (List.mem_map_of_mem hb))
    subst hc; simpa using this

theorem not_row {cs : List CV} (h : isRowL cs = false) {fz es n ρ} : cs ≠ [.row fz es n ρ] := by
  rintro rfl; simp [isRowL] at h

theorem isRowL_iff {cs : List CV} (h : isRowL cs = true) : (∃ fz es n ρ, cs = [.row fz es n ρ]) ∨ ∃ f i st r, cs = .lp f i st :: r := by
  unfold isRowL at h
  split at h
  · exact .inl ⟨_, _, _, _, rfl⟩
  · exact .inr ⟨_, _, _, _, rfl⟩
  · cases h

theorem mergeC_noRow {c : Bool} {a b : CV} {fz es n ρ} (h : mergeC c a b = .row fz es n ρ) : False := by
  unfold mergeC at h
  split at h <;> (try split at h) <;> simp_all

theorem mergeC_noLp {c : Bool} {a b : CV} {f i st} (h : mergeC c a b = .lp f i st) : False := by
  unfold mergeC at h
  split at h <;> (try split at h) <;> simp_all

theorem mergeCs_noRow {c : Bool} {a b m : List CV} (h : mergeCs c a b = some m) : isRowL m = false := by
  cases hm : isRowL m
  · rfl
  · have hn : ∃ x r, m = x :: r ∧ ((∃ fz es n ρ, x = .row fz es n ρ) ∨ ∃ f i st, x = .lp f i st) := by
      rcases isRowL_iff hm with ⟨fz, es, n, ρ, rfl⟩ | ⟨f, i, st, r, rfl⟩
      · exact ⟨_, _, rfl, .inl ⟨_, _, _, _, rfl⟩⟩
      · exact ⟨_, _, rfl, .inr ⟨_, _, _, rfl⟩⟩
    obtain ⟨x0, r0, rfl, hx⟩ := hn
    cases a with
    | nil => cases b <;> simp [mergeCs] at h
    | cons x a =>
      cases b with
      | nil => simp [mergeCs] at h
      | cons y b =>
        simp only [mergeCs] at h
        split at h
        · simp only [Option.some.injEq, List.cons.injEq] at h
          rcases hx with ⟨fz, es, n, ρ, rfl⟩ | ⟨f, i, st, rfl⟩
          · exact (mergeC_noRow h.1).elim
          · exact (mergeC_noLp h.1).elim
        · simp at h

theorem mergeCells_ok {c : Bool} {a b m : List CV} (h : mergeCells c a b = some m) : let s := bif c then a else b; (isRowL s = true → m = s) ∧ (isRowL s = false → isRowL m = false ∧ ∀ F w bs vs, All2 (CV.Rel F w bs) s vs → All2 (CV.Rel F w bs) m vs) := by
  unfold mergeCells at h
  split at h
  · rename_i fz es n ρ fz' es' m' σ
    split at h
    · rename_i hh
      simp only [Bool.and_eq_true, beq_iff_eq] at hh
      obtain ⟨rfl, he⟩ := hh
      have he := shsEq_eq he
      subst he
      simp at h; subst h
      cases c
      · exact ⟨fun _ => rfl, fun h => by simp [isRowL] at h⟩
      · exact ⟨fun _ => rfl, fun h => by simp [isRowL] at h⟩
    · simp at h
  · split at h
    · simp at h
    · rename_i hr
      simp only [Bool.or_eq_true, not_or, Bool.not_eq_true] at hr
      split at h
      · rename_i m' hm
        split at h
        · simp at h; subst h
          cases c
          · refine ⟨fun hs => ?_, fun _ => ⟨mergeCs_noRow hm, fun F w bs vs hv => mergeCs_ok hm (fun h => by cases h) (fun _ => hv)⟩⟩
            simp only [cond_false] at hs; rw [hr.2] at hs; cases hs
          · refine ⟨fun hs => ?_, fun _ => ⟨mergeCs_noRow hm, fun F w bs vs hv => mergeCs_ok hm (fun _ => hv) (fun h => by cases h)⟩⟩
            simp only [cond_true] at hs; rw [hr.1] at hs; cases hs
        · simp at h
      · simp at h

theorem restM_ok {K : Nat} : ∀ {k : Nat} {r m : Mem}, restM K k r = some m → m.length = r.length ∧ ∀ i e, nth m i = some e → e = none
  | k, [], m, h => by simp [restM] at h; subst h; exact ⟨rfl, fun i e h => by simp [nth] at h⟩
  | k, a :: r, m, h => by
    simp only [restM] at h
    split at h
    · simp at h
    · split at h
      · rename_i m' hm
        simp at h; subst h
        obtain ⟨h1, h2⟩ := restM_ok hm
        refine ⟨by simp [h1], fun i e hi => ?_⟩
        cases i with
        | zero => simp [nth] at hi; exact hi.symm
        | succ i => exact h2 i e (by simpa [nth] using hi)
      · simp at h

theorem mergeE_ok {c : Bool} {a b e : Option (TypeId × List CV)} (h : mergeE c a b = some e) {T : TypeId} {cs' : List CV} (he : e = some (T, cs')) :
    ∃ cs, (bif c then a else b) = some (T, cs) ∧ (isRowL cs = true → cs' = cs) ∧ (isRowL cs = false → isRowL cs' = false ∧ ∀ F w bs vs, All2 (CV.Rel F w bs) cs vs → All2 (CV.Rel F w bs) cs' vs) := by
  unfold mergeE at h
  split at h
  · simp at h; subst h; cases he
  · rename_i T1 cs1 T2 cs2
    split at h
    · rename_i ht
      have ht : T1 = T2 := by simpa using ht
      subst ht
      split at h
      · rename_i m hm
        simp at h; subst h
        simp only [Option.some.injEq, Prod.mk.injEq] at he
        obtain ⟨rfl, rfl⟩ := he
        have := mergeCells_ok hm
        cases c
        · exact ⟨cs2, rfl, this.1, this.2⟩
        · exact ⟨cs1, rfl, this.1, this.2⟩
      · simp at h
    · simp at h
  · simp at h

theorem mergeMem_ok {c : Bool} {K : Nat} : ∀ {k : Nat} {a b m : Mem}, mergeMem c K k a b = some m → MemWk (bif c then a else b) m
  | k, [], r, m, h => by
    simp only [mergeMem] at h
    obtain ⟨h1, h2⟩ := restM_ok h
    refine ⟨by cases c <;> simp [h1], fun i T cs' hi => ?_⟩
    have := h2 i _ hi
    cases this
  | k, a :: l, [], m, h => by
    simp only [mergeMem] at h
    obtain ⟨h1, h2⟩ := restM_ok h
    refine ⟨by cases c <;> simp [h1], fun i T cs' hi => ?_⟩
    have := h2 i _ hi
    cases this
  | k, a :: l, b :: r, m, h => by
    simp only [mergeMem] at h
    have cns : (bif c then a :: l else b :: r) = (bif c then a else b) :: (bif c then l else r) := by cases c <;> rfl
    rw [cns]
    split at h
    · rename_i e m' he hm
      simp at h; subst h
      have ih := mergeMem_ok hm
      refine ⟨by simp [ih.len], fun i T cs' hi => ?_⟩
      cases i with
      | zero =>
        simp only [nth, Option.some.injEq] at hi
        obtain ⟨cs, h1, h2⟩ := mergeE_ok he hi
        exact ⟨cs, by simp [nth, h1], h2⟩
      | succ i =>
        obtain ⟨cs, h1, h2⟩ := ih.ent i T cs' (by simpa [nth] using hi)
        exact ⟨cs, by simpa [nth] using h1, h2⟩
    · rename_i m' he hm
      split at h
      · simp at h
      · simp at h; subst h
        have ih := mergeMem_ok hm
        refine ⟨by simp [ih.len], fun i T cs' hi => ?_⟩
        cases i with
        | zero => simp [nth] at hi
        | succ i =>
          obtain ⟨cs, h1, h2⟩ := ih.ent i T cs' (by simpa [nth] using hi)
          exact ⟨cs, by simpa [nth] using h1, h2⟩
    · simp at h

theorem nth_none {α : Type} {l : List α} {k : Nat} (h : l.length ≤ k) : nth l k = none := by
  rw [nth_eq]; exact List.getElem?_eq_none h

theorem nth_lt_len {α : Type} {l : List α} {k : Nat} {x : α} (h : nth l k = some x) : k < l.length := nth_lt h

/-- the memory behind a weakening -/
theorem MemRel.weak {F w bs m m'} (hm : MemRel P F w bs m) (h : MemWk m m') : MemRel P F w (bs ++ List.replicate (m'.length - m.length) ⟨w.heap.size, 0, 0⟩) m' := by
  have old : ∀ k x, k < m.length → nth (bs ++ List.replicate (m'.length - m.length) ⟨w.heap.size, 0, 0⟩) k = some x → nth bs k = some x := by
    intro k x hk hx
    rw [nth_eq, List.getElem?_append_left (by rw [hm.len]; exact hk)] at hx
    rw [nth_eq]; exact hx
  have lv : ∀ (x : BI) (cs cs' : List CV), (isRowL cs = true → cs' = cs) → (isRowL cs = false → isRowL cs' = false ∧ ∀ F w bs vs, All2 (CV.Rel F w bs) cs vs → All2 (CV.Rel F w bs) cs' vs) → liveL x cs' → liveL x cs := by
    intro x cs cs' h1 h2 hl
    cases hr : isRowL cs
    · exact liveL_of hr
    · rw [h1 hr] at hl; exact hl
  refine ⟨by simp [hm.len, h.len], fun k x T cs' hx hk hl => ?_, fun k k' x x' T cs T' cs' hx hx' hk hk' hl hl' e => ?_, fun k T cs' x hk hr hx => ?_, fun k T fz es n ρ x hk hx => ?_, fun k T f i st cs' x hk hx => ?_⟩
  · obtain ⟨cs, h0, h1, h2⟩ := h.ent k T cs' hk
    exact hm.loc k x T cs (old k x (nth_lt h0) hx) h0 (lv x cs cs' h1 h2 hl)
  · obtain ⟨ds, h0, h1, h2⟩ := h.ent k T cs hk
    obtain ⟨ds', g0, g1, g2⟩ := h.ent k' T' cs' hk'
    exact hm.inj k k' x x' T ds T' ds' (old k x (nth_lt h0) hx) (old k' x' (nth_lt g0) hx') h0 g0 (lv x ds cs h1 h2 hl) (lv x' ds' cs' g1 g2 hl') e
  · obtain ⟨cs, h0, h1, h2⟩ := h.ent k T cs' hk
    have hr0 : isRowL cs = false := by
      cases hc : isRowL cs
      · rfl
      · rw [h1 hc, hc] at hr; cases hr
    obtain ⟨vs, g1, g2⟩ := hm.cont k T cs x h0 hr0 (old k x (nth_lt h0) hx)
    exact ⟨vs, g1, ((h2 hr0).2 F w bs vs g2).imp fun _ _ hh => hh.grow ⟨Nat.le_refl _, fun _ _ h => h, fun _ _ _ => rfl, fun _ _ h => nth_append h⟩⟩
  · obtain ⟨cs, h0, h1, h2⟩ := h.ent k T _ hk
    have hc : isRowL cs = true := by
      cases hc : isRowL cs
      · have := (h2 hc).1; simp [isRowL] at this
      · rfl
    rw [← h1 hc] at h0
    exact hm.row k T fz es n ρ x h0 (old k x (nth_lt h0) hx)
  · obtain ⟨cs, h0, h1, h2⟩ := h.ent k T _ hk
    have hc : isRowL cs = true := by
      cases hc : isRowL cs
      · have := (h2 hc).1; simp [isRowL] at this
      · rfl
    rw [← h1 hc] at h0
    exact (hm.lp k T f i st cs' x h0 (old k x (nth_lt h0) hx)).grow ⟨Nat.le_refl _, fun _ _ h => h, fun _ _ _ => rfl, fun _ _ h => nth_append h⟩ rfl

theorem Ext.dummies {K F w bs} (d : Nat) : Ext K F w bs F w (bs ++ List.replicate d ⟨w.heap.size, 0, 0⟩) := by
  refine ⟨Nat.le_refl _, fun _ _ h => h, fun _ h _ _ => h, fun _ _ _ => rfl, rfl, rfl, rfl, fun _ _ _ h => nth_append h, fun x hx => ?_⟩
  rcases List.mem_append.1 hx with h | h
  · exact .inl ⟨x, h, rfl⟩
  · rw [List.mem_replicate] at h
    exact .inr (by rw [h.2]; exact Nat.le_refl _)

theorem grow_app {F : Nat → Prop} {w : World} {bs r : List BI} : Grow F F bs (bs ++ r) w w := ⟨Nat.le_refl _, fun _ _ h => h, fun _ _ _ => rfl, fun _ _ h => nth_append h⟩

theorem mergeSlots_ok {c : Bool} : ∀ {a b m : List Slot}, mergeSlots c a b = some m → m.length = (bif c then a else b).length ∧ ∀ i sl, nth m i = some sl → sl.keys = [] ∧ ∃ s0, nth (bif c then a else b) i = some s0 ∧ (s0.keys = [] → ∀ F w bs v, s0.v.Rel F w bs v → sl.v.Rel F w bs v) ∧ (s0.keys ≠ [] → sl.v = .any)
  | [], [], m, h => by simp [mergeSlots] at h; subst h; exact ⟨by cases c <;> rfl, fun i sl h => by simp [nth] at h⟩
  | x :: a, y :: b, m, h => by
    simp only [mergeSlots] at h
    split at h
    · rename_i m' hm
      simp at h; subst h
      obtain ⟨h1, h2⟩ := mergeSlots_ok hm
      have cns : (bif c then x :: a else y :: b) = (bif c then x else y) :: (bif c then a else b) := by cases c <;> rfl
      rw [cns]
      refine ⟨by simp [h1], fun i sl hi => ?_⟩
      cases i with
      | zero =>
        simp only [nth, Option.some.injEq] at hi
        subst hi
        unfold mergeSlot
        split
        · rename_i k1 k2
          refine ⟨rfl, _, rfl, fun _ F w bs v hv => ?_, fun hne => ?_⟩
          · exact mergeA_ok (fun hc => by subst hc; exact hv) (fun hc => by subst hc; exact hv)
          · cases c
            · exact (hne k2).elim
            · exact (hne k1).elim
        · exact ⟨rfl, _, rfl, fun _ F w bs v _ => trivial, fun _ => rfl⟩
      | succ i =>
        obtain ⟨g1, s0, g2, g3⟩ := h2 i sl (by simpa [nth] using hi)
        exact ⟨g1, s0, by simpa [nth] using g2, g3⟩
    · simp at h
  | [], _ :: _, m, h => by simp [mergeSlots] at h
  | _ :: _, [], m, h => by simp [mergeSlots] at h

theorem mergeSt_ok {c : Bool} {K : Nat} {s1 s2 s : St} (h : mergeSt c K s1 s2 = some s) {F w bs} {a : Act} (hs : StRel P D F w bs (bif c then s1 else s2) a) :
    ∃ d, StRel P D F w (bs ++ List.replicate d ⟨w.heap.size, 0, 0⟩) s a := by
  unfold mergeSt at h
  split at h
  · rename_i t m ht hm
    simp at h; subst h
    have wk := mergeMem_ok hm
    have mcns : (bif c then s1.mem else s2.mem) = (bif c then s1 else s2).mem := by cases c <;> rfl
    have tcns : (bif c then s1.tmps else s2.tmps) = (bif c then s1 else s2).tmps := by cases c <;> rfl
    obtain ⟨hl, hsl⟩ := mergeSlots_ok ht
    rw [mcns] at wk
    rw [tcns] at hl hsl
    refine ⟨_, hs.defers, by rw [hl]; exact hs.len, fun i sl x hi hx => ?_, hs.mem.weak wk⟩
    obtain ⟨hk, s0, h0, h1, h2⟩ := hsl i sl hi
    have hr := hs.slots i s0 x h0 hx
    refine ⟨fun _ => ?_, fun hn => ?_⟩
    · by_cases hk0 : s0.keys = []
      · exact AV.Rel.grow grow_app (h1 hk0 _ _ _ _ (hr.1 (by rw [hk0]; exact KH_nil)))
      · rw [h2 hk0]; trivial
    · rw [hk] at hn; exact (hn KH_nil).elim
  · simp at h

theorem joinC_ok {j c : Bool} {K : Nat} {t e : Tree (XE × St)} {x : XE × St} (h : (joinC j c K t e).sel = some x) :
    ∃ y, (bif c then t else e).sel = some y ∧ x.1 = y.1 ∧ ∀ {F w bs} {a : Act}, StRel P D F w bs y.2 a → ∃ d, StRel P D F w (bs ++ List.replicate d ⟨w.heap.size, 0, 0⟩) x.2 a := by
  have plain : (Tree.br c t e).sel = some x → ∃ y, (bif c then t else e).sel = some y ∧ x.1 = y.1 ∧ ∀ {F w bs} {a : Act}, StRel P D F w bs y.2 a → ∃ d, StRel P D F w (bs ++ List.replicate d ⟨w.heap.size, 0, 0⟩) x.2 a := by
    intro h
    simp only [Tree.sel] at h
    refine ⟨x, ?_, rfl, fun hs => ⟨0, by simpa using hs⟩⟩
    cases c <;> exact h
  unfold joinC at h
  split at h
  · split at h
    · rename_i l1 s1 l2 s2 h1 h2
      split at h
      · rename_i s hs
        obtain ⟨hb, hx⟩ := needAll_sel h
        simp only [Tree.sel, Option.some.injEq] at hx
        subst hx
        obtain ⟨b1, b2⟩ := needBoth_ok hb
        refine ⟨(.normal, bif c then s1 else s2), ?_, rfl, fun hr => mergeSt_ok hs hr⟩
        cases c
        · exact lin_sel h2 (b2 rfl)
        · exact lin_sel h1 (b1 rfl)
      · exact plain h
    · exact plain h
  · exact plain h

/-- what is said of a result and the memory behind it, more weakly -/
def WkR (P : Program) (K : Nat) (x y : AV × Mem) : Prop := ∀ F w bs v, K ≤ bs.length → MemRel P F w bs x.2 → x.1.Rel F w bs v → ∃ F' bs', Ext K F w bs F' w bs' ∧ MemRel P F' w bs' y.2 ∧ y.1.Rel F' w bs' v

theorem WkR.refl {K : Nat} {x : AV × Mem} : WkR P K x x := fun F _ bs _ _ hm hr => ⟨F, bs, Ext.refl, hm, hr⟩
theorem WkR.trans {K : Nat} {x y z : AV × Mem} (h : WkR P K x y) (g : WkR P K y z) : WkR P K x z := fun F w bs v hK hm hr => by
  obtain ⟨F1, b1, e1, m1, r1⟩ := h F w bs v hK hm hr
  obtain ⟨F2, b2, e2, m2, r2⟩ := g F1 w b1 v (e1.le hK) m1 r1
  exact ⟨F2, b2, e1.trans e2 (Nat.le_refl _), m2, r2⟩

theorem joinT_ok {K : Nat} : ∀ {t : Tree (AV × Mem)} {x : AV × Mem}, (joinT K t).sel = some x → ∃ y, t.sel = some y ∧ WkR P K y x
  | .leaf a, x, h => ⟨x, h, WkR.refl⟩
  | .fail, x, h => by simp [joinT, Tree.sel] at h
  | .need c t, x, h => by
    simp only [joinT, Tree.sel] at h ⊢
    cases c
    · simp at h
    · exact joinT_ok (t := t) h
  | .br c t e, x, h => by
    have plain : (Tree.br c (joinT K t) (joinT K e)).sel = some x → ∃ y, (Tree.br c t e).sel = some y ∧ WkR P K y x := by
      intro h
      simp only [Tree.sel] at h ⊢
      cases c
      · exact joinT_ok (t := e) h
      · exact joinT_ok (t := t) h
    simp only [joinT] at h
    split at h
    · rename_i l1 r1 m1 l2 r2 m2 h1 h2
      split at h
      · rename_i m hm
        split at h
        · exact plain h
        · obtain ⟨hb, hx⟩ := needAll_sel h
          simp only [Tree.sel, Option.some.injEq] at hx
          subst hx
          obtain ⟨b1, b2⟩ := needBoth_ok hb
          have wk := mergeMem_ok hm
          have last : ∀ y : AV × Mem, y.2 = (bif c then m1 else m2) → (∀ F w bs v, y.1.Rel F w bs v → (mergeA c r1 r2).Rel F w bs v) → WkR P K y (mergeA c r1 r2, m) := by
            intro y hy hv F w bs v hK hm' hr
            rw [← hy] at wk
            exact ⟨F, _, Ext.dummies _, hm'.weak wk, AV.Rel.grow grow_app (hv _ _ _ _ hr)⟩
          simp only [Tree.sel]
          cases c
          · obtain ⟨y, hy, hw⟩ := joinT_ok (t := e) (lin_sel h2 (b2 rfl))
            exact ⟨y, hy, hw.trans (last _ rfl fun F w bs v hv => mergeA_ok (fun h => by cases h) (fun _ => hv))⟩
          · obtain ⟨y, hy, hw⟩ := joinT_ok (t := t) (lin_sel h1 (b1 rfl))
            exact ⟨y, hy, hw.trans (last _ rfl fun F w bs v hv => mergeA_ok (fun _ => hv) (fun h => by cases h))⟩
      · exact plain h
    · exact plain h

theorem frzA_ok {F w bs mem} (hm : MemRel P F w bs mem) {x : AV} {v : Value} (h : AV.Rel F w bs x v) :
    ∃ F', Ext bs.length F w bs F' w bs ∧ MemRel P F' w bs (frzA mem x).1 ∧ AV.Rel F' w bs (frzA mem x).2 v := by
  cases x with
  | any => exact ⟨F, Ext.refl, hm, trivial⟩
  | one a => exact frz1_ok hm h
  | tup l =>
    obtain ⟨vs, rfl, h⟩ := h
    obtain ⟨F', e, m, r⟩ := frz1s_ok hm h
    exact ⟨F', e, m, vs, rfl, r⟩

theorem AV.Rel.closed {F w bs} {x : AV} {v : Value} (h : AV.Rel F w bs x v) {bs'} (hc : closedAV x = true) : AV.Rel F w bs' x v := by
  cases x with
  | any => trivial
  | one a => exact A1.Rel.closed h hc
  | tup l =>
    obtain ⟨vs, rfl, h⟩ := h
    refine ⟨vs, rfl, ?_⟩
    simp only [closedAV, List.all_eq_true] at hc
    induction h with
    | nil => exact .nil
    | cons h _ ih => exact .cons (h.closed (hc _ (by simp))) (ih fun x hx => hc x (by simp [hx]))

theorem nth_take {α : Type} {l : List α} {K k : Nat} {x : α} (h : nth (l.take K) k = some x) : k < K ∧ nth l k = some x := by
  rw [nth_eq] at h ⊢
  rw [List.getElem?_take] at h
  split at h
  · exact ⟨by assumption, h⟩
  · cases h

theorem nth_take' {α : Type} {l : List α} {K k : Nat} {x : α} (hk : k < K) (h : nth l k = some x) : nth (l.take K) k = some x := by
  rw [nth_eq] at h ⊢
  rw [List.getElem?_take, if_pos hk]; exact h

theorem CV.Rel.under {F w bs x v} (h : CV.Rel F w bs x v) {K : Nat} (hu : underC K x = true) : CV.Rel F w (bs.take K) x v := by
  cases x with
  | ptr b o =>
    simp only [underC] at hu
    cases h with
    | ptr h => exact .ptr (nth_take' (by simpa using hu) h)
  | os b sz =>
    simp only [underC] at hu
    cases h with
    | os h h0 => exact .os (nth_take' (by simpa using hu) h) h0
  | rowp b sz i off =>
    simp only [underC] at hu
    cases h with
    | rowp h h0 => exact .rowp (nth_take' (by simpa using hu) h) h0
  | yld b =>
    simp only [underC] at hu
    cases h with
    | yld h => exact .yld (nth_take' (by simpa using hu) h)
  | row _ _ _ _ => cases h
  | lp _ _ _ => cases h
  | ost _ _ _ => simp [underC, closedC] at hu
  | osh _ _ _ => simp [underC, closedC] at hu
  | any => exact h.closed hu
  | bool _ => exact h.closed hu
  | int _ _ => exact h.closed hu
  | str _ => exact h.closed hu
  | nilp => exact h.closed hu
  | rop _ _ _ => exact h.closed hu
  | nils => exact h.closed hu
  | sl _ _ _ => exact h.closed hu
  | fn _ _ _ => exact h.closed hu
  | nilf => exact h.closed hu
  | nili => exact h.closed hu
  | iface _ _ => exact h.closed hu

theorem MemRel.take {F w bs m} (hm : MemRel P F w bs m) {K : Nat} (hu : ∀ k T cs, k < K → nth m k = some (some (T, cs)) → cs.all (underC K) = true) : MemRel P F w (bs.take K) (m.take K) := by
  refine ⟨by simp [hm.len], fun k x T cs hx hk hl => ?_, fun k k' x x' T cs T' cs' hx hx' hk hk' hl hl' e => ?_, fun k T cs x hk hr hx => ?_, fun k T fz es n ρ x hk hx => ?_, fun k T f i st cs x hk hx => ?_⟩
  · exact hm.loc k x T cs (nth_take hx).2 (nth_take hk).2 hl
  · exact hm.inj k k' x x' T cs T' cs' (nth_take hx).2 (nth_take hx').2 (nth_take hk).2 (nth_take hk').2 hl hl' e
  · obtain ⟨vs, g1, g2⟩ := hm.cont k T cs x (nth_take hk).2 hr (nth_take hx).2
    refine ⟨vs, g1, ?_⟩
    have hu' := hu k T cs (nth_take hk).1 (nth_take hk).2
    clear hk hr g1 hu
    induction g2 with
    | nil => exact .nil
    | cons h _ ih =>
      simp only [List.all_cons, Bool.and_eq_true] at hu'
      exact .cons (h.under hu'.1) (ih hu'.2)
  · exact hm.row k T fz es n ρ x (nth_take hk).2 (nth_take hx).2
  · obtain ⟨R, h1, h2, h4, h5, h6⟩ := hm.lp k T f i st cs x (nth_take hk).2 (nth_take hx).2
    have hu' := hu k T _ (nth_take hk).1 (nth_take hk).2
    simp only [List.all_cons, Bool.and_eq_true, List.all_eq_true] at hu'
    exact ⟨R, h1, h2, h4, h5, fun j c v hc hv ha => (h6 j c v hc hv ha).under (hu'.2 c (nth_mem hc))⟩

theorem closeR_ok (K : Nat) (y : AV × Mem) : WkR P K y (closeR K y) := by
  intro F w bs v hK hm hr
  unfold closeR
  obtain ⟨F', e, m', r'⟩ := frzA_ok hm hr
  generalize frzA y.2 y.1 = z at m' r'
  simp only
  split
  · rename_i m ht
    split
    · rename_i hc
      simp only [Bool.and_eq_true, List.all_eq_true] at hc
      obtain ⟨rfl, hlen⟩ := takeN_some ht
      refine ⟨F', bs.take K, (e.weak hK).trans (K' := K) ⟨Nat.le_refl _, fun _ _ h => h, fun _ h _ _ => h, fun _ _ _ => rfl, rfl, rfl, rfl, fun k x hk hx => nth_take' hk hx, fun x hx => .inl ⟨x, List.mem_of_mem_take hx, rfl⟩⟩ (Nat.le_refl _), m'.take fun k T cs hk hn => ?_, r'.closed hc.1⟩
      have := hc.2 (some (T, cs)) (nth_mem (nth_take' hk hn))
      simpa [underE] using this
    · exact ⟨F, bs, Ext.refl, hm, hr⟩
  · exact ⟨F, bs, Ext.refl, hm, hr⟩

theorem joined_ok {j : Bool} {K : Nat} {t : Tree (AV × Mem)} {x : AV × Mem} (h : (joined j K t).sel = some x) : ∃ y, t.sel = some y ∧ WkR P K y x := by
  unfold joined at h
  split at h
  · obtain ⟨y, hy, hw⟩ := joinT_ok h
    obtain ⟨z, hz, he⟩ := sel_bind hy
    simp only [Tree.sel, Option.some.injEq] at he
    subst he
    exact ⟨z, hz, (closeR_ok K z).trans hw⟩
  · exact ⟨x, h, WkR.refl⟩

end Go.Sx
/-
  The evaluator's soundness: code in a round's frame (a fence that lets everything in).
-/
namespace Go.Sx
open Go Go.RowKit

variable {P : Program} {D : List Deferred}

/-- a fence that lets everything in; the frame is of a round of the loop that it names -/
def FW (l : Option Nat) : Fence := { Fence.wide with round := l }

theorem fw_depth {l : Option Nat} : (FW l).depth = none := rfl
theorem fw_none : FW none = Fence.wide := rfl

theorem callsIn_fw {l : Option Nat} {n : Nat} {f : FuncId} {args : Array Value} {w : World} {R : Ending → World → Prop} : CallsIn (FW l) n P f args w R ↔ Calls P f args w R :=
  ⟨fun h => (callsIn_wide (n := n)).1 ⟨trivial, fun cs hr => h.2 cs hr⟩, fun h => ⟨trivial, fun cs hr => ((callsIn_wide (n := n)).2 h).2 cs hr⟩⟩

theorem roundIn_fw {l : Option Nat} {n m : Nat} {b : Nat} {f : FuncId} {tmps : Array Value} {assign body : Code} {w : World} {R : Ending → World → Prop} (h : RoundIn Fence.wide m P b f tmps assign body w R) : RoundIn (FW l) n P b f tmps assign body w R :=
  ⟨trivial, fun c cs _ => h.2 c cs (room_wide _)⟩

theorem rowsIn_fw {l : Option Nat} {n : Nat} {row : String} {args : Array Value} {w : World} {R : Value → World → Prop} (h : Rows P row args w R) : RowsIn (FW l) n P row args w R :=
  fun c cs _ => let ⟨v, w', r, s⟩ := h c cs; ⟨v, w', r, stepsIn_wide.2 s⟩

theorem notDefer_ok {o : Oper} (h : notDefer o.op = true) : ∀ c, o.op ≠ .defer c := by
  intro c e; rw [e] at h; simp [notDefer] at h

/-- an operation in a round's frame is what it is elsewhere -/
theorem wpIn_of_wp {l : Option Nat} {n : Nat} {o : Oper} {a : Act} {w : World} {K : Act → World → Prop} {Q : Exit → Act → World → Prop} (hd : notDefer o.op = true) (h : o.wp P a w K Q) : o.wpIn (FW l) n P a w K Q := by
  refine ⟨fun _ _ => trivial, ?_⟩
  rw [Oper.semAt_eq _ _ _ (notDefer_ok hd)]
  unfold Oper.wp at h
  generalize (execOp a.eval o).run P w = r at h
  cases r with
  | ok x w' =>
    cases x with
    | value v => exact h
    | skip => exact h
    | defer d => exact h
    | enter f args => exact ⟨fun hd => by simp [FW, Fence.wide] at hd, callsIn_fw.2 h⟩
    | row row args => exact ⟨fun hd => by simp [FW, Fence.wide] at hd, rowsIn_fw h⟩
    | _ => exact h.elim
  | halt x w' =>
    cases x with
    | panic v => exact h
    | _ => exact h.elim

/-- the call of a yield -/
theorem wpIn_of_round {l : Option Nat} {n : Nat} {o : Oper} {a : Act} {w w' : World} {K : Act → World → Prop} {Q : Exit → Act → World → Prop} (hd : notDefer o.op = true) {b f : Nat} {tmps : Array Value} {as body : Code}
    (hrun : (execOp a.eval o).run P w = .ok (.round b f tmps as body) w') {R : Ending → World → Prop} (h : RoundIn Fence.wide (n - 1) P b f tmps as body w' R) (hR : ∀ e w', R e w' → ∃ v, e = .returned v ∧ K (a.put o.dst v) w') :
    o.wpIn (FW l) n P a w K Q := by
  refine ⟨fun _ _ => trivial, ?_⟩
  rw [Oper.semAt_eq _ _ _ (notDefer_ok hd), hrun]
  refine ⟨fun hd => by simp [FW, Fence.wide] at hd, roundIn_fw (RoundIn.mono h fun e w' he => ?_)⟩
  obtain ⟨v, rfl, hk⟩ := hR e w' he
  exact hk

theorem wpAnyIn_of_wpAny {l : Option Nat} {n : Nat} {md : Region.Mode} {ops : Array Oper} {Q : Exit → Act → World → Prop} (hd : ops.toList.all (fun o => notDefer o.op) = true) (hQ : ¬ LetsOut Q) :
    ∀ (fuel : Nat) (listed : Array Bool) (a : Act) (w : World), wpAny P md ops Q fuel listed a w → wpAnyIn (FW l) n P md ops Q fuel listed a w
  | 0, _, _, _, h => h
  | fuel + 1, listed, a, w, h => by
    refine ⟨h.1, fun i hi => ?_⟩
    have := h.2 i hi
    unfold wpOp at this
    unfold wpOpIn
    cases ho : ops[i]? with
    | none =>
      rw [ho] at this
      exact wpAnyIn_of_wpAny hd hQ fuel _ _ _ this
    | some o =>
      simp only [ho] at this
      simp only
      have hd' : notDefer o.op = true := by
        rw [List.all_eq_true] at hd
        exact hd o (by rw [Array.mem_toList_iff]; exact Array.mem_of_getElem? ho)
      split
      · rename_i hw
        rw [if_pos hw] at this
        rcases this with this | this
        · exact Oper.wpIn_mono (fun a w hk => wpAnyIn_of_wpAny hd hQ fuel _ a w hk) (wpIn_of_wp hd' this)
        · exact (hQ this.2).elim
      · rename_i hw
        rw [if_neg hw] at this
        exact ⟨fun _ _ => trivial, wpAnyIn_of_wpAny hd hQ fuel _ _ _ this⟩

/-- the way out, without the end that nobody asked for -/
def calm (Q : Exit → Act → World → Prop) : Exit → Act → World → Prop
  | .outgrown, _, _ => False
  | e, a, w => Q e a w

theorem calm_out {Q : Exit → Act → World → Prop} : ¬ LetsOut (calm Q) := fun ⟨_, _, h⟩ => h
theorem calm_le {Q : Exit → Act → World → Prop} {e : Exit} {a : Act} {w : World} (h : calm Q e a w) : Q e a w := by
  cases e <;> first | exact h | exact h.elim

theorem draw_okIn {H : Hd} {call : CallH} (hpc : SumOk P H) (hcall : CallOk P call) {l : Option Nat} {n id : Nat} {ops : Array Oper} (hd0 : ops.toList.all (fun o => notDefer o.op) = true) (hm : P.follows .mixedOrders = true) {s s' : St} {is : List Info} (h : (evDraw P H call ops.toList ops.toList s).sel = some (s', is)) (hd : drawOk ops.toList is = true)
    (h0 : ∀ sl ∈ s.tmps, sl.keys = []) {F : Nat → Prop} {w : World} {bs : List BI} {a : Act} (hs : StRel P D F w bs s a) {Q : Exit → Act → World → Prop}
    (hQ : ∀ F' w' bs' a', Ext bs.length F w bs F' w' bs' → StRel P D F' w' bs' s' a' → Q .normal a' w') : (Code.region id ops true).wpIn (FW l) n P Q a w := by
  obtain ⟨p, e0, en⟩ := plan_of h hd h0
  have hb : Below w.heap.size w { w with drawn := w.drawn + 1 } := Below.drew (Below.refl _ _)
  refine wpIn_mono (Q := calm Q) (wpIn_region_any hm (wpAnyIn_of_wpAny hd0 calm_out _ _ _ _ (draw_any (Q := calm Q) (F0 := F) (w0 := w) (bs0 := bs) hpc hcall rfl p (fun F' w' bs' a' he hs' => hQ F' w' bs' a' he (en ▸ hs')) _ _ _ _ s F bs (by simp) ?_ ?_ ?_ (Ext.of_below hb) (hs.below hb)))) fun _ _ _ => calm_le
  · simpa using List.countP_le_length (p := fun b => !b) (l := List.replicate ops.size false)
  · intro j o _ hl
    unfold Lof at hl
    simp [Array.getElem?_replicate] at hl
    split at hl <;> simp at hl
  · have := text_J p 0 (Nat.zero_le _)
    rw [e0] at this
    refine this.congr fun k hk => ⟨fun h => by omega, fun hl => ?_⟩
    unfold Lof at hl
    simp [Array.getElem?_replicate] at hl
    split at hl <;> simp at hl

end Go.Sx
/-
  The evaluator's soundness (part H): regions, code, functions.
-/
namespace Go.Sx
open Go Go.RowKit

variable {D : List Deferred}

section
variable {P : Program}

theorem gdec_ok {F w bs s} {a : Act} (hs : StRel P D F w bs s a) : ∀ {K : List (Nat × Bool)} {g : Bool}, gdec s K = some g → (g = true ↔ KH a K)
  | [], g, h => by simp [gdec] at h; subst h; exact ⟨fun _ => KH_nil, fun _ => rfl⟩
  | (d, b) :: r, g, h => by
    simp only [gdec] at h
    split at h
    · rename_i ks c gr hn hgr
      split at h
      · rename_i hall
        simp at h; subst h
        have ih := gdec_ok hs hgr
        cases gr
        · refine ⟨fun h => by simp [and'] at h, fun hk => ?_⟩
          have := ih.2 fun p hp => hk p (by simp [hp])
          cases this
        · have hr := ih.1 rfl
          have hks : KH a ks := fun p hp => by
            rw [List.all_eq_true] at hall
            exact hr p (keyIn_ok (hall p hp))
          obtain ⟨x, hx⟩ : ∃ x, a.tmps[d]? = some x := by
            have hlt : d < s.tmps.length := nth_lt hn
            rw [hs.len] at hlt
            exact ⟨a.tmps[d], by simp [hlt]⟩
          have hv := (hs.slots d _ x hn hx).1 hks
          have hx' : x = .bool c := by cases hv; rfl
          subst hx'
          simp only [and']
          refine ⟨fun hcb => ?_, fun hk => ?_⟩
          · have hcb : c = b := by simpa using hcb
            subst hcb
            intro p hp
            simp only [List.mem_cons] at hp
            rcases hp with rfl | hp
            · exact hx
            · exact hr p hp
          · have := hk (d, b) (by simp)
            simp only [hx, Option.some.injEq, Value.bool.injEq] at this
            simp [this]
      · simp at h
    · simp at h

/-- the call of a yield leads into a round -/
theorem yldOf_ok {F : Nat → Prop} {w : World} {bs : List BI} {ρ : Operand → Option AV} {a : Act} (hρ : ∀ x av, ρ x = some av → av.Rel F w bs (a.eval x)) {o : Oper} {b : Nat} {args : List A1} (h : yldOf ρ o.op = some (b, args)) :
    ∃ (x : BI) (vs : List Value), nth bs b = some x ∧ All2 (A1.Rel F w bs) args vs ∧ ∀ R : Loop, w.heap[x.p]? = some (.loop R) → vs.length = R.params.size →
      (execOp a.eval o).run P w = .ok (.round x.p R.fn (argTmps R vs.toArray) R.assign R.body) w := by
  unfold yldOf at h
  split at h
  · rename_i c ho
    split at h
    · rename_i x hcal
      split at h
      · rename_i b' l hx hl
        simp only [Option.some.injEq, Prod.mk.injEq] at h
        obtain ⟨rfl, rfl⟩ := h
        have hxr := hρ _ _ hx
        have hargs := evArgs_ok hρ hl
        generalize he : a.eval x = z at hxr
        cases hxr with
        | yld hb =>
          rename_i xb
          refine ⟨xb, c.args.toList.map a.eval, hb, hargs, fun R hR hs => ?_⟩
          unfold execOp
          rw [ho]
          have hs' : (c.args.map a.eval).size = R.params.size := by simpa using hs
          simp only [resolve, hcal, he, Deferred.ofValue, Sem.run_bind, Sem.run_pure, Result.andThen_ok, invoke, Array.empty_append, argTmps, map_toArray]
          exact run_yield hR (by simpa using hs')
      · simp at h
    · simp at h
  · simp at h

/-- any operation, calls of yield among them, in a round's frame or elsewhere -/
theorem evOpY_at {H : Hd} (hpc : SumOk P H) {call : CallH} (hcall : CallOk P call) {lr : Option Nat} {nn : Nat} {F : Nat → Prop} {w : World} {bs : List BI} {a : Act} {mem : Mem} (hm : MemRel P F w bs mem) {ρ : List (Nat × Bool) → Operand → Option AV}
    (hρ : ∀ K x av, KH a K → ρ K x = some av → av.Rel F w bs (a.eval x)) {o : Oper} (hd : notDefer o.op = true) {r : AV} {mem' : Mem}
    (h : (evOpY P H call mem ρ o.op).sel = some (r, mem')) {K : Act → World → Prop} {Q : Exit → Act → World → Prop}
    (hK : ∀ F' w' bs' v, Ext bs.length F w bs F' w' bs' → MemRel P F' w' bs' mem' → r.Rel F' w' bs' v → K (a.put o.dst v) w') : o.wpIn (FW lr) nn P a w K Q := by
  unfold evOpY at h
  split at h
  · rename_i b l hy
    obtain ⟨x, vs, hb, hvs, hrun⟩ := yldOf_ok (P := P) (fun x av => hρ [] x av KH_nil) hy
    obtain ⟨R, hR, hsz, hround⟩ := hcall.yl b l mem r mem' h F w bs vs x hm hvs hb
    refine wpIn_of_round hd (hrun R hR hsz) (hround _) fun e w' ⟨v, F', bs', he, hx, hm', hr⟩ => ⟨v, he, hK F' w' bs' v hx hm' hr⟩
  · exact wpIn_of_wp hd (evOp_at hpc hcall hm hρ h hK)

theorem evOps_ok {H : Hd} (hpc : SumOk P H) {call : CallH} (hcall : CallOk P call) {lr : Option Nat} {nn : Nat} {ops : Array Oper} {Q : Exit → Act → World → Prop} {s' : St} : ∀ (l : List Oper) (s : St) {F : Nat → Prop} {w : World} {bs : List BI} {a : Act},
    l.all (fun o => notDefer o.op) = true → (evOps P H call false ops.toList l s).sel = some s' → StRel P D F w bs s a → (∀ F' w' bs' a', Ext bs.length F w bs F' w' bs' → StRel P D F' w' bs' s' a' → Q .normal a' w') → wpListIn (FW lr) nn P ops Q l a w
  | [], s, F, w, bs, a, _, h, hs, hQ => by
    simp only [evOps, Tree.sel, Option.some.injEq] at h
    subst h
    exact wpListIn_nil (hQ F w bs a Ext.refl hs)
  | o :: r, s, F, w, bs, a, hnd, h, hs, hQ => by
    simp only [List.all_cons, Bool.and_eq_true] at hnd
    obtain ⟨hd, hnd⟩ := hnd
    simp only [evOps] at h
    split at h
    · rename_i hg
      simp only [Bool.false_and, Bool.false_eq_true, if_false] at h
      obtain ⟨⟨rv, mem'⟩, h1, h2⟩ := sel_bind h
      refine wpListIn_plain hg fun K hK => evOpY_at hpc hcall hs.mem (fun _ _ _ hk h => opnd_ok hs hk h) hd h1 fun F' w' bs' v hext hm hr => hK _ _ ?_
      refine evOps_ok hpc hcall r _ hnd h2 (StRel.put (hs.ext hext hm) (fun _ hp => by cases hp) (fun _ => hr) (fun h => (h KH_nil).elim)) fun F'' w'' bs'' a'' he hs'' => hQ _ _ _ _ (hext.trans he hext.le) hs''
    · rename_i j b hg
      split at h
      · rename_i K hkeys
        split at h
        · simp [Tree.sel] at h
        rename_i hdst
        simp only [Bool.not_eq_true] at hdst
        have hkd : ∀ p ∈ K, some p.1 ≠ o.dst := by
          intro p hp e
          rw [List.any_eq_false] at hdst
          exact hdst p hp (by simp [e])
        have hiff := keys_ok hs hkeys
        split at h
        · rename_i hq
          obtain ⟨⟨rv, mem'⟩, h1, h2⟩ := sel_bind h
          refine wpListIn_step fun KK hKK => ?_
          by_cases hk : KH a K
          · have hw : Region.wanted o (yielded ops a.tmps) = true := (wanted_iff hg _).2 (hiff.1 hk)
            rw [if_pos hw]
            have h1' := toNeed_sel h1 (gterm_ok hs hk)
            have hρ : ∀ K' x av, KH a K' → opnd s (K' ++ K) x = some av → av.Rel F w bs (a.eval x) := fun K' x av hk' hh => opnd_ok hs (fun p hp => (List.mem_append.1 hp).elim (hk' p) (hk p)) hh
            have hme := still_mem (ρ := fun K' => opnd s (K' ++ K)) hpc hs.mem hρ hq h1'
            subst hme
            refine wpIn_of_wp hd (evOp_at hpc hcall hs.mem hρ h1' fun F' w' bs' v hext hm hr => hKK _ _ ?_)
            exact evOps_ok hpc hcall r _ hnd h2 (StRel.put (hs.ext hext hm) hkd (fun _ => hr) (fun h => (h hk).elim)) fun F'' w'' bs'' a'' he hs'' => hQ _ _ _ _ (hext.trans he hext.le) hs''
          · have hw : ¬ Region.wanted o (yielded ops a.tmps) = true := fun h => hk (hiff.2 ((wanted_iff hg _).1 h))
            rw [if_neg hw]
            exact ⟨fun _ _ => trivial, hKK _ _ (evOps_ok hpc hcall r _ hnd h2 (StRel.put hs hkd (fun h => (hk h).elim) (fun _ => rfl)) hQ)⟩
        · simp only [Bool.false_eq_true, if_false] at h
          split at h
          · rename_i g hgd
            have hgk := gdec_ok hs hgd
            simp only [Tree.sel] at h
            refine wpListIn_step fun KK hKK => ?_
            by_cases hk : KH a K
            · have hw : Region.wanted o (yielded ops a.tmps) = true := (wanted_iff hg _).2 (hiff.1 hk)
              rw [if_pos hw]
              rw [hgk.2 hk, cond_true] at h
              obtain ⟨⟨rv, mem'⟩, h1, h2⟩ := sel_bind h
              have hρ : ∀ K' x av, KH a K' → opnd s (K' ++ K) x = some av → av.Rel F w bs (a.eval x) := fun K' x av hk' hh => opnd_ok hs (fun p hp => (List.mem_append.1 hp).elim (hk' p) (hk p)) hh
              refine evOpY_at hpc hcall hs.mem hρ hd h1 fun F' w' bs' v hext hm hr => hKK _ _ ?_
              exact evOps_ok hpc hcall r _ hnd h2 (StRel.put (hs.ext hext hm) (fun _ hp => by cases hp) (fun _ => hr) (fun h => (h KH_nil).elim)) fun F'' w'' bs'' a'' he hs'' => hQ _ _ _ _ (hext.trans he hext.le) hs''
            · have hw : ¬ Region.wanted o (yielded ops a.tmps) = true := fun h => hk (hiff.2 ((wanted_iff hg _).1 h))
              rw [if_neg hw]
              have hg0 : g = false := by cases hgv : g; rfl; exact (hk (hgk.1 hgv)).elim
              rw [hg0, cond_false] at h
              exact ⟨fun _ _ => trivial, hKK _ _ (evOps_ok hpc hcall r _ hnd h (StRel.put hs hkd (fun h => (hk h).elim) (fun _ => rfl)) hQ)⟩
          · simp [Tree.sel] at h
      · simp [Tree.sel] at h

def xe : XE → Exit
  | .normal => .normal
  | .exit k => .exit k
  | .ret => .ret

/-- what is known of a loop's summary -/
def LoopOk (P : Program) (b : Code) (h : Nat → St → Tree (XE × St)) : Prop :=
  ∀ K s x, (h K s).sel = some x → ∀ (lr : Option Nat) (nn : Nat) (D : List Deferred) F w bs a, K ≤ bs.length → StRel P D F w bs s a → ∀ Q : Exit → Act → World → Prop,
    (∀ F' w' bs' a', Ext K F w bs F' w' bs' → StRel P D F' w' bs' x.2 a' → Q (xe x.1) a' w') → (Code.loop b).wpIn (FW lr) nn P Q a w

theorem StRel.unkey {F w bs s} {a : Act} (hs : StRel P D F w bs s a) : StRel P D F w bs { s with tmps := s.tmps.map Sx.unkey } a := by
  refine ⟨hs.defers, by simp [hs.len], fun i sl x h1 h2 => ?_, hs.mem⟩
  rw [nth_eq, List.getElem?_map] at h1
  simp only [Option.map_eq_some_iff] at h1
  obtain ⟨s0, h0, rfl⟩ := h1
  have := hs.slots i s0 x (by rw [nth_eq]; exact h0) h2
  unfold Sx.unkey
  split
  · exact this
  · exact ⟨fun _ => trivial, fun h => (h KH_nil).elim⟩

theorem evCode_ok {H : Hd} (hpc : SumOk P H) {call : CallH} (hcall : CallOk P call) {lr : Option Nat} {nn : Nat} (f K : Nat) : ∀ (c : Code) (n : Nat) (s : St) {x : XE × St},
    (evCode P H call f K n c s).sel = some x → (∀ i b h, nthLoop c i = some b → lookLh H.lh f (n + i) = some h → LoopOk P b h) → ∀ {F : Nat → Prop} {w : World} {bs : List BI} {a : Act}, K ≤ bs.length → StRel P D F w bs s a → ∀ {Q : Exit → Act → World → Prop},
    (∀ F' w' bs' a', Ext K F w bs F' w' bs' → StRel P D F' w' bs' x.2 a' → Q (xe x.1) a' w') → c.wpIn (FW lr) nn P Q a w := by
  intro c
  induction c with
  | skip =>
    intro n s x h _ F w bs a hK hs Q hQ
    simp only [evCode, Tree.sel, Option.some.injEq] at h
    subst h
    exact wpIn_skip (hQ F w bs a Ext.refl hs)
  | region id ops draw =>
    intro n s x h _ F w bs a hK hs Q hQ
    simp only [evCode] at h
    split at h
    · simp [Tree.sel] at h
    rename_i hnd
    have hnd : ops.toList.all (fun o => notDefer o.op) = true := by
      cases hb : ops.toList.all (fun o => notDefer o.op)
      · rw [hb] at hnd; simp at hnd
      · rfl
    cases draw
    · simp only [Bool.false_eq_true, if_false] at h
      obtain ⟨s', h1, h2⟩ := sel_bind h
      simp only [Tree.sel, Option.some.injEq] at h2
      subst h2
      exact wpIn_region_list (evOps_ok hpc hcall _ _ hnd h1 hs fun F' w' bs' a' he hs' => hQ F' w' bs' a' (he.weak hK) hs'.unkey)
    · simp only [if_true] at h
      split at h
      · rename_i hm
        obtain ⟨⟨s', is⟩, h1, h2⟩ := sel_bind h
        simp only at h2
        split at h2
        · rename_i hd
          simp only [Tree.sel, Option.some.injEq] at h2
          subst h2
          refine draw_okIn hpc hcall hnd hm h1 hd (fun sl hsl => ?_) hs.unkey fun F' w' bs' a' he hs' => hQ F' w' bs' a' (he.weak hK) hs'.unkey
          simp only [List.mem_map] at hsl
          obtain ⟨s0, _, rfl⟩ := hsl
          unfold Sx.unkey
          split
          · rename_i hk; simpa using hk
          · rfl
        · simp [Tree.sel] at h2
      · simp [Tree.sel] at h
  | seq a b iha ihb =>
    intro n s x h hl F w bs a' hK hs Q hQ
    simp only [evCode] at h
    obtain ⟨y, h1, h2⟩ := sel_bind h
    refine wpIn_seq (iha n s h1 (fun i bb hh hi hk => hl i bb hh (by
      simp only [nthLoop]
      have : i < nloops a := by
        rcases Nat.lt_or_ge i (nloops a) with h' | h'
        · exact h'
        · exact absurd hi (by rw [nthLoop_none a i h']; simp)
      rw [if_pos this]; exact hi) hk) hK hs fun F' w' bs' a'' he hs' => ?_)
    obtain ⟨e, s'⟩ := y
    cases e with
    | normal =>
      simp only [xe, Exit.then]
      refine ihb (n + nloops a) s' h2 (fun i bb hh hi hk => hl (nloops a + i) bb hh (by
        simp only [nthLoop]
        rw [if_neg (by omega)]
        rw [show nloops a + i - nloops a = i by omega]; exact hi) (by rw [← Nat.add_assoc]; exact hk)) (he.le hK) hs' fun F'' w'' bs'' a3 he' hs'' => hQ _ _ _ _ (he.trans he' (Nat.le_refl _)) hs''
    | exit k =>
      simp only [Tree.sel, Option.some.injEq] at h2
      subst h2
      exact hQ _ _ _ _ he hs'
    | ret =>
      simp only [Tree.sel, Option.some.injEq] at h2
      subst h2
      exact hQ _ _ _ _ he hs'
  | cond c a b iha ihb =>
    intro n s x h hl F w bs a' hK hs Q hQ
    simp only [evCode] at h
    split at h
    · rename_i t ht
      have hr := opnd_ok hs KH_nil ht
      have hc : a'.eval c = .bool t := by
        generalize a'.eval c = z at hr ⊢
        cases hr; rfl
      obtain ⟨y, hy, hxe, hwk⟩ := joinC_ok h
      have hQ' : ∀ F' w' bs' a', Ext K F w bs F' w' bs' → StRel P D F' w' bs' y.2 a' → Q (xe y.1) a' w' := fun F' w' bs' a' he hs' => by
        obtain ⟨d, hd⟩ := hwk hs'
        rw [← hxe]
        exact hQ F' w' _ a' (he.trans (Ext.dummies (K := K) d) (Nat.le_refl _)) hd
      cases t
      · simp only [cond_false] at hy
        refine wpIn_cond_false hc (ihb (n + nloops a) s hy (fun i bb hh hi hk => hl (nloops a + i) bb hh (by
          simp only [nthLoop]
          rw [if_neg (by omega)]
          rw [show nloops a + i - nloops a = i by omega]; exact hi) (by rw [← Nat.add_assoc]; exact hk)) hK hs hQ')
      · simp only [cond_true] at hy
        refine wpIn_cond_true hc (iha n s hy (fun i bb hh hi hk => hl i bb hh (by
          simp only [nthLoop]
          have : i < nloops a := by
            rcases Nat.lt_or_ge i (nloops a) with h' | h'
            · exact h'
            · exact absurd hi (by rw [nthLoop_none a i h']; simp)
          rw [if_pos this]; exact hi) hk) hK hs hQ')
    · simp [Tree.sel] at h
  | block id b ih =>
    intro n s x h hl F w bs a' hK hs Q hQ
    simp only [evCode] at h
    obtain ⟨y, h1, h2⟩ := sel_bind h
    refine wpIn_block (ih n s h1 (fun i bb hh hi hk => hl i bb hh hi hk) hK hs fun F' w' bs' a'' he hs' => ?_)
    obtain ⟨e, s'⟩ := y
    cases e with
    | normal =>
      simp only [Tree.sel, Option.some.injEq] at h2
      subst h2
      exact hQ _ _ _ _ he hs'
    | exit k =>
      simp only [Tree.sel, Option.some.injEq] at h2
      subst h2
      simp only [xe, Exit.inBlock]
      have := hQ _ _ _ _ he hs'
      by_cases hk : k = id
      · simpa [hk, xe] using this
      · simpa [hk, xe] using this
    | ret =>
      simp only [Tree.sel, Option.some.injEq] at h2
      subst h2
      exact hQ _ _ _ _ he hs'
  | loop b _ =>
    intro n s x h hl F w bs a' hK hs Q hQ
    simp only [evCode] at h
    split at h
    · rename_i hh hk
      exact hl 0 b hh rfl (by simpa using hk) K s x h lr nn D F w bs a' hK hs Q hQ
    · simp [Tree.sel] at h
  | exit id =>
    intro n s x h _ F w bs a hK hs Q hQ
    simp only [evCode, Tree.sel, Option.some.injEq] at h
    subst h
    exact wpIn_exit (hQ F w bs a Ext.refl hs)
  | ret =>
    intro n s x h _ F w bs a hK hs Q hQ
    simp only [evCode, Tree.sel, Option.some.injEq] at h
    subst h
    exact wpIn_ret (hQ F w bs a Ext.refl hs)
  | rangeFunc _ _ _ _ _ _ => intro n s x h; simp [evCode, Tree.sel] at h
  | scope _ _ => intro n s x h; simp [evCode, Tree.sel] at h
  | label _ => intro n s x h; simp [evCode, Tree.sel] at h
  | goto _ => intro n s x h; simp [evCode, Tree.sel] at h
  | refuse _ => intro n s x h; simp [evCode, Tree.sel] at h
 where nthLoop_none : ∀ (c : Code) (i : Nat), nloops c ≤ i → nthLoop c i = none
  | .skip, _, _ => rfl
  | .region _ _ _, _, _ => rfl
  | .seq a b, i, h => by
    simp only [nloops] at h
    simp only [nthLoop]
    rw [if_neg (by omega)]
    exact nthLoop_none b _ (by omega)
  | .cond _ a b, i, h => by
    simp only [nloops] at h
    simp only [nthLoop]
    rw [if_neg (by omega)]
    exact nthLoop_none b _ (by omega)
  | .block _ b, i, h => by simpa [nthLoop] using nthLoop_none b i h
  | .loop b, i, h => by
    simp only [nloops] at h
    cases i with
    | zero => omega
    | succ i => simpa [nthLoop] using nthLoop_none b i (by omega)
  | .rangeFunc _ _ a b, i, h => by
    simp only [nloops] at h
    simp only [nthLoop]
    rw [if_neg (by omega)]
    exact nthLoop_none b _ (by omega)
  | .exit _, _, _ => rfl
  | .scope b, i, h => by simpa [nthLoop] using nthLoop_none b i h
  | .label _, _, _ => rfl
  | .goto _, _, _ => rfl
  | .ret, _, _ => rfl
  | .refuse _, _, _ => rfl

/-- what is known of the summaries -/
structure HdOk (P : Program) (H : Hd) : Prop where
  pc : SumOk P H
  lh : ∀ f fn c i b h, P.funcs[f]? = some fn → fn.body = some c → nthLoop c i = some b → lookLh H.lh f i = some h → LoopOk P b h

def resSem (tmps : Array Value) : ResultVar → Sem Value
  | .tmp t => pure (tmps.getD t undef)
  | .cell p t => do loadVar t (← asAddr (tmps.getD p undef))

theorem run_result {F w bs s} {a : Act} (hs : StRel P D F w bs s a) {x : ResultVar} {r : A1} (h : evResult P s x = some r) :
    ∃ z, r.Rel F w bs z ∧ (resSem a.tmps x).run P w = .ok z w := by
  have slot : ∀ {t : Nat} {v : AV}, nth s.tmps t = some ⟨[], v⟩ → v.Rel F w bs (a.tmps.getD t undef) := by
    intro t v hn
    have := opnd_ok (x := .tmp t) (av := v) hs KH_nil (by simp [opnd, hn])
    simpa [Act.eval] using this
  unfold evResult at h
  cases x with
  | tmp t =>
    simp only at h
    split at h
    · rename_i b hn
      simp at h; subst h
      exact ⟨_, slot hn, rfl⟩
    · simp at h
  | cell p t =>
    simp only at h
    split at h
    · rename_i v hn
      split at h
      · rename_i b hb
        simp at h; subst h
        obtain ⟨b', q, o, z, he, hv, hz, hrun⟩ := evLoad_ok hb hs.mem (slot hn)
        simp at he; subst he
        refine ⟨z, hz, ?_⟩
        simp only [resSem, Sem.run_bind, hv, asAddr, Sem.run_pure, Result.andThen_ok, hrun w (Below.refl _ _)]
      · simp at h
    · simp at h

theorem run_results {F w bs s} {a : Act} (hs : StRel P D F w bs s a) {fn : Func} {l : List A1} (h : evResults P s fn.results.toList = some l) :
    ∃ z, (resOf l).Rel F w bs z ∧ (results fn a.tmps).run P w = .ok z w := by
  have key : ∀ (rs : List ResultVar) (l : List A1), evResults P s rs = some l → ∃ zs : List Value, All2 (A1.Rel F w bs) l zs ∧
      (rs.mapM (resSem a.tmps)).run P w = .ok zs w := by
    intro rs
    induction rs with
    | nil => intro l h; simp [evResults] at h; subst h; exact ⟨[], .nil, by simp⟩
    | cons x rs ih =>
      intro l h
      simp only [evResults] at h
      split at h
      · rename_i b l' hb hl
        simp at h; subst h
        obtain ⟨zs, h1, h2⟩ := ih l' hl
        obtain ⟨z, hz, hrun⟩ := run_result hs hb
        exact ⟨z :: zs, .cons hz h1, by simp only [List.mapM_cons, Sem.run_bind, hrun, Result.andThen_ok, h2, Sem.run_pure]⟩
      · simp at h
  obtain ⟨zs, h1, h2⟩ := key _ _ h
  have hres : (results fn a.tmps).run P w = .ok (if h : zs.toArray.size = 1 then zs.toArray[0] else .tuple zs.toArray) w := by
    have hu : results fn a.tmps = (do let vs ← fn.results.mapM (resSem a.tmps); pure (if h : vs.size = 1 then vs[0] else .tuple vs)) := rfl
    rw [hu, Array.mapM_eq_mapM_toList]
    simp only [Sem.run_bind, Sem.run_map, h2, Result.andThen_ok, Sem.run_pure]
  rw [hres]
  refine ⟨_, ?_, rfl⟩
  unfold resOf
  split
  · rename_i b
    cases h1 with
    | cons hb hr => cases hr; simpa [AV.Rel] using hb
  · rename_i hne
    have : ¬ zs.toArray.size = 1 := by
      intro e
      have hl := h1.length
      simp at e
      match l, hl with
      | [], hl => simp [e] at hl
      | [x], _ => exact hne x rfl
      | _ :: _ :: _, hl => simp [e] at hl
    rw [dif_neg this]
    exact ⟨zs, rfl, h1⟩

end
end Go.Sx
/-
  The evaluator's soundness: loops over functions; functions.
-/
namespace Go.Sx
open Go Go.RowKit

variable {P : Program} {D : List Deferred}

/-! ### blocks of deferred calls -/

/-- a world in which blocks of deferred calls alone have turned -/
structure Shut (z : Nat) (F : Nat → Prop) (w w' : World) : Prop where
  size : w'.heap.size = w.heap.size
  os : w'.os = w.os
  tape : w'.tape = w.tape
  output : w'.output = w.output
  blk : ∀ p, w'.heap[p]? = w.heap[p]? ∨ (z ≤ p ∧ ¬ F p ∧ ∃ d, w.heap[p]? = some (.deferred d))

theorem Shut.refl {z F w} : Shut z F w w := ⟨rfl, rfl, rfl, rfl, fun _ => .inl rfl⟩

theorem Shut.put {z F} {w w' : World} {r : Nat} {d e} (hr : w.heap[r]? = some (.deferred d)) (hz : z ≤ r) (hF : ¬ F r) (h : Shut z F (w.putObj r (.deferred e)) w') : Shut z F w w' := by
  refine ⟨by rw [h.size, World.putObj_size], h.os, h.tape, h.output, fun p => ?_⟩
  by_cases hp : p = r
  · subst hp; exact .inr ⟨hz, hF, _, hr⟩
  · rcases h.blk p with h | h
    · exact .inl (by rw [h, World.putObj_heap_other hp])
    · rw [World.putObj_heap_other hp] at h; exact .inr h

theorem Shut.cell {z F} {w w' : World} (h : Shut z F w w') {p o : Nat} {v : Value} (hc : w.cell? ⟨p, o, none⟩ = some v) : w'.cell? ⟨p, o, none⟩ = some v := by
  rcases h.blk p with h | ⟨_, _, d, h⟩
  · rw [World.cell?_of_block h]; exact hc
  · simp [World.cell?, h] at hc

theorem CV.Rel.shut {z F} {w w' : World} (hs : Shut z F w w') {bs x v} (h : CV.Rel F w bs x v) : CV.Rel F w' bs x v := by
  induction h with
  | any h => exact .any h
  | bool b => exact .bool b
  | int k n => exact .int k n
  | str s => exact .str s
  | nilp => exact .nilp
  | nils => exact .nils
  | nilf => exact .nilf
  | nili => exact .nili
  | ptr h => exact .ptr h
  | os h h0 => exact .os h h0
  | ost h hl => exact .ost h hl
  | osh h hl h0 => exact .osh h hl h0
  | rowp h hi => exact .rowp h hi
  | rop val hb hF' hc _ ih => exact .rop val (by rw [hs.size]; exact hb) hF' (fun j hj => hs.cell (hc j hj)) (fun j s hj => ih j s hj)
  | slnil => exact .slnil
  | sl val hn h0 hc _ ih => exact .sl val hn (fun hp => ⟨(h0 hp).1, by rw [hs.size]; exact (h0 hp).2.1, (h0 hp).2.2⟩) (fun i f hi hf => hs.cell (hc i f hi hf)) (fun i f s hi hf => ih i f s hi hf)
  | fn l1 l2 _ _ ih1 ih2 => exact .fn l1 l2 (fun i x v h1 h2 => ih1 i x v h1 h2) (fun i x v h1 h2 => ih2 i x v h1 h2)
  | iface _ ih => exact .iface ih
  | yld h => exact .yld h

theorem A1.Rel.shut {z F} {w w' : World} (hs : Shut z F w w') {bs x v} (h : A1.Rel F w bs x v) : A1.Rel F w' bs x v := by
  cases x with
  | c x => exact CV.Rel.shut hs h
  | agg l => obtain ⟨vs, rfl, h⟩ := h; exact ⟨vs, rfl, h.imp fun _ _ h => h.shut hs⟩
theorem AV.Rel.shut {z F} {w w' : World} (hs : Shut z F w w') {bs x v} (h : AV.Rel F w bs x v) : AV.Rel F w' bs x v := by
  cases x with
  | any => trivial
  | one x => exact A1.Rel.shut hs h
  | tup l => obtain ⟨vs, rfl, h⟩ := h; exact ⟨vs, rfl, h.imp fun _ _ h => A1.Rel.shut hs h⟩

theorem Shut.obj {z F} {w w' : World} (hs : Shut z F w w') {p : Nat} {o : Obj} (h : w.heap[p]? = some o) (ho : ∀ d, o ≠ .deferred d) : w'.heap[p]? = some o := by
  rcases hs.blk p with h' | ⟨_, _, d, h'⟩
  · rw [h']; exact h
  · rw [h] at h'; exact (ho d (by simpa using h')).elim

theorem MemRel.shut {z F w w' bs mem} (hs : Shut z F w w') (hm : MemRel P F w bs mem) : MemRel P F w' bs mem := by
  refine ⟨hm.len, fun k x T cs hk hc hv => ?_, hm.inj, fun k T cs x hc hr hp => ?_, fun k T fz es n ρ x hc hp => ?_, fun k T f i st cs x hc hp => ?_⟩
  · rw [hs.size]; exact hm.loc k x T cs hk hc hv
  · obtain ⟨vs, h1, h2⟩ := hm.cont k T cs x hc hr hp
    exact ⟨vs, hs.obj h1 (by simp), h2.imp fun _ _ h => h.shut hs⟩
  · have hr := hm.row k T fz es n ρ x hc hp
    refine ⟨hr.len, hr.le, hr.mx, fun h0 => ?_, fun h0 hz => ?_⟩
    · obtain ⟨arr, h1, h2, val, h3, h4⟩ := hr.blk h0
      exact ⟨arr, hs.obj h1 (by simp), h2, val, h3, fun i f s hi hf => (h4 i f s hi hf).shut hs⟩
    · rw [hs.size]; exact hr.frz h0 hz
  · obtain ⟨R, h1, h2, h4, h5, h6⟩ := hm.lp k T f i st cs x hc hp
    exact ⟨R, hs.obj h1 (by simp), h2, h4, h5, fun j c v hc hv ha => (h6 j c v hc hv ha).shut hs⟩

theorem StRel.shut {z F w w' bs s} {a : Act} (hs : Shut z F w w') (h : StRel P D F w bs s a) : StRel P D F w' bs s a :=
  ⟨h.defers, h.len, fun i sl x h1 h2 => ⟨fun hk => ((h.slots i sl x h1 h2).1 hk).shut hs, (h.slots i sl x h1 h2).2⟩, h.mem.shut hs⟩

theorem Ext.shut {z K F w bs F' w' w'' bs'} (h : Ext K F w bs F' w' bs') (hs : Shut z F' w' w'') (hz : w.heap.size ≤ z) : Ext K F w bs F' w'' bs' := by
  refine ⟨by rw [hs.size]; exact h.size, h.F1, h.F2, fun p hp hb => ?_, hs.os.trans h.os, hs.tape.trans h.tape, hs.output.trans h.output, h.pre, h.mem⟩
  rcases hs.blk p with h' | ⟨h', _⟩
  · rw [h']; exact h.same p hp hb
  · omega

/-- the marks that an activation bears: the blocks of its loops' deferred calls, none of them used -/
def Marks (z : Nat) (F : Nat → Prop) (w : World) : List Deferred → Prop
  | [] => True
  | d :: ds => (∃ r, d = { target := .collected r, args := #[] } ∧ z ≤ r ∧ ¬ F r ∧ w.heap[r]? = some (.deferred (some [])) ∧ ∀ d' ∈ ds, d' ≠ d) ∧ Marks z F w ds

theorem heap_lt {w : World} {p : Nat} {o : Obj} (h : w.heap[p]? = some o) : p < w.heap.size := by
  rcases Nat.lt_or_ge p w.heap.size with h' | h'
  · exact h'
  · simp [Array.getElem?_eq_none h'] at h

theorem Marks.ext {z K F w bs F' w' bs'} (he : Ext K F w bs F' w' bs') : ∀ {ds : List Deferred}, Marks z F w ds → Marks z F' w' ds
  | [], _ => trivial
  | _ :: _, ⟨⟨r, h1, h2, h3, h4, h5⟩, hm⟩ => ⟨⟨r, h1, h2, fun hf => h3 (he.F1 r (heap_lt h4) hf), by rw [he.same r (heap_lt h4) (.inl h3)]; exact h4, h5⟩, hm.ext he⟩

theorem Marks.put {z F w r o} : ∀ {ds : List Deferred}, Marks z F w ds → (∀ d ∈ ds, d ≠ { target := .collected r, args := #[] }) → Marks z F (w.putObj r o) ds
  | [], _, _ => trivial
  | d :: _, ⟨⟨p, h1, h2, h3, h4, h5⟩, hm⟩, hn => by
    have hp : p ≠ r := fun e => hn d (by simp) (by rw [h1, e])
    exact ⟨⟨p, h1, h2, h3, by rw [World.putObj_heap_other hp]; exact h4, h5⟩, hm.put fun d hd => hn d (by simp [hd])⟩

theorem Marks.lt {z F w} : ∀ {ds : List Deferred}, Marks z F w ds → ∀ d ∈ ds, d ≠ { target := .collected w.heap.size, args := #[] }
  | _ :: _, ⟨⟨p, h1, _, _, h4, _⟩, hm⟩, d, hd => by
    rcases List.mem_cons.1 hd with rfl | hd
    · rw [h1]
      intro e
      simp only [Deferred.mk.injEq, Target.collected.injEq, and_true] at e
      have := heap_lt h4
      omega
    · exact hm.lt d hd

/-- on its way out an activation comes by its marks -/
theorem leaves_marks {z : Nat} {F : Nat → Prop} {Fe : Fence} {n : Nat} {fn : Func} {tmps : Array Value} {R : Ending → World → Prop} : ∀ (ds : List Deferred) (w : World), Marks z F w ds →
    (∀ w', Shut z F w w' → ∃ v, (results fn tmps).run P w' = .ok v w' ∧ R (.returned v) w') → LeavesInM Fe n P fn tmps R ds .returning w
  | [], w, _, h => h w Shut.refl
  | _ :: ds, w, ⟨⟨_, rfl, hz, hF, hr, hne⟩, hm⟩, h =>
    ⟨by simp, .inl ⟨_, _, rfl, run_takeDeferred hr, leaves_marks ds _ (hm.put fun d hd => hne d hd) fun w' hs => h w' (Shut.put hr hz hF hs)⟩⟩


/-! ### rounds -/

theorem Ext.putObj {K F w} {bs : List BI} {b : Nat} {x : BI} (hb : nth bs b = some x) (hF : F x.p) (o : Obj) : Ext K F w bs F (w.putObj x.p o) bs := by
  refine ⟨by simp, fun _ _ h => h, fun _ h _ _ => h, fun p hp h => World.putObj_heap_other fun e => ?_, rfl, rfl, rfl, fun _ _ _ h => h, fun x h => .inl ⟨x, h, rfl⟩⟩
  subst e
  rcases h with h | h
  · exact h hF
  · exact h x (nth_mem hb) rfl

/-- a record's block is given up and turns -/
theorem MemRel.gone {F w bs mem} (hm : MemRel P F w bs mem) {b : Nat} {x : BI} (hb : nth bs b = some x) {T : TypeId} {cs : List CV} (hold : nth mem b = some (some (T, cs))) (hl : liveL x cs) (o : Obj) : MemRel P F (w.putObj x.p o) bs (setN mem b none) := by
  refine (hm.kill b).move (Ext.putObj hb (hm.loc b x T cs hb hold hl).1 o) fun k y T' cs' hk hc hv => ?_
  rcases nth_setN hc with ⟨_, h⟩ | ⟨hkb, h⟩
  · cases h
  · refine ⟨(hm.loc k y T' cs' hk h hv).1, World.putObj_heap_other fun e => hkb ?_⟩
    exact hm.inj k b y x T' cs' T cs hk hb h hold hv hl e

/-- a record's block turns -/
theorem MemRel.turn {F w bs mem} (hm : MemRel P F w bs mem) {b : Nat} {x : BI} (hb : nth bs b = some x) {T : TypeId} {f i : Nat} {st st' : LpS} {cs : List CV} (hold : nth mem b = some (some (T, .lp f i st :: cs))) {R R' : Loop}
    (hR : w.heap[x.p]? = some (.loop R)) (h1 : stOk R' st') (h2 : R'.params = R.params ∧ R'.assign = R.assign ∧ R'.body = R.body ∧ R'.tmps = R.tmps) :
    MemRel P F (w.putObj x.p (.loop R')) bs (setN mem b (some (T, .lp f i st' :: cs))) := by
  have hloc := hm.loc b x T _ hb hold liveL_lp
  have g := hm.gone hb hold liveL_lp (.loop R')
  have := g.put (b := b) hb (T := T) (cs := .lp f i st' :: cs) killed_no (fun _ => by rw [World.putObj_size]; exact hloc) (fun _ k y T' cs' hk hc hv e => ?_) (fun h => by simp [isRowL] at h) (fun _ _ _ _ h => by simp at h) (fun f' i' s' cs' h => ?_)
  · rwa [setN_setN] at this
  · rcases nth_setN hc with ⟨_, h⟩ | ⟨hkb, h⟩
    · cases h
    · exact hkb (hm.inj k b y x T' cs' T _ hk hb h hold hv liveL_lp e)
  · simp only [List.cons.injEq, CV.lp.injEq] at h
    obtain ⟨⟨rfl, rfl, rfl⟩, rfl⟩ := h
    obtain ⟨R0, g1, _, ⟨rc, g4, g5, g6, g7⟩, g8, g9⟩ := hm.lp b T f i st cs x hold hb
    rw [hR] at g1
    simp only [Option.some.injEq, Obj.loop.injEq] at g1
    subst g1
    refine ⟨R', World.putObj_heap_same hloc.2, h1, ⟨rc, g4, h2.1.trans g5, h2.2.1.trans g6, h2.2.2.1.trans g7⟩, by rw [h2.2.2.2]; exact g8, fun j c v hc hv ha => ?_⟩
    rw [h2.2.2.2] at hv
    exact (g9 j c v hc hv ha).grow (Ext.putObj (K := bs.length) hb hloc.1 _).grow

theorem setArgs_ok {F : Nat → Prop} {w : World} {bs : List BI} : ∀ (ps : List Tmp) (args : List A1) (vs : List Value) (sl : List Slot) (ts : Array Value), All2 (A1.Rel F w bs) args vs →
    sl.length = ts.size → (∀ i s x, nth sl i = some s → ts[i]? = some x → s.keys = [] ∧ s.v.Rel F w bs x) →
    (setArgs ps args sl).length = ((ps.zip vs).foldl (fun t p => t.setIfInBounds p.1 p.2) ts).size ∧
    (∀ i s x, nth (setArgs ps args sl) i = some s → ((ps.zip vs).foldl (fun t p => t.setIfInBounds p.1 p.2) ts)[i]? = some x → s.keys = [] ∧ s.v.Rel F w bs x)
  | [], args, vs, sl, ts, _, hl, h => by simpa [setArgs] using ⟨hl, h⟩
  | p :: ps, [], vs, sl, ts, ha, hl, h => by cases ha; simpa [setArgs] using ⟨hl, h⟩
  | p :: ps, a :: args, _, sl, ts, .cons (b := v) (r := vs) ha hr, hl, h => by
    simp only [setArgs, List.zip_cons_cons, List.foldl_cons]
    refine setArgs_ok ps args vs _ _ hr (by rw [setN_eq]; simpa using hl) fun i s x hs hx => ?_
    rw [Array.getElem?_setIfInBounds] at hx
    rcases nth_setN hs with ⟨rfl, rfl⟩ | ⟨hne, hs⟩
    · rw [if_pos rfl] at hx
      split at hx
      · simp only [Option.some.injEq] at hx
        subst hx
        exact ⟨rfl, ha⟩
      · cases hx
    · rw [if_neg (Ne.symm hne)] at hx
      exact h i s x hs hx

theorem zip_foldl {α β γ : Type} (ps : Array α) (vs : List β) (g : γ → α × β → γ) (t : γ) : (ps.zip vs.toArray).foldl g t = (ps.toList.zip vs).foldl g t := by
  rw [← Array.foldl_toList]
  simp

/-- a round's temporaries at its start -/
theorem argTmps_ok {F : Nat → Prop} {w : World} {bs : List BI} {args : List A1} {vs : List Value} (ha : All2 (A1.Rel F w bs) args vs) {R : Loop} {cs : List CV} (hl : R.tmps.size = cs.length)
    (h : ∀ j c v, nth cs j = some c → R.tmps[j]? = some v → isAny c = false → CV.Rel F w bs c v) {mem : Mem} (hm : MemRel P F w bs mem) :
    StRel P [] F w bs ⟨setArgs R.params.toList args (cs.map fun c => ⟨[], slotC c⟩), mem⟩ { tmps := argTmps R vs.toArray, defers := [] } := by
  have := setArgs_ok (F := F) (w := w) (bs := bs) R.params.toList args vs (cs.map fun c => ⟨[], slotC c⟩) R.tmps ha (by simpa using hl.symm) fun i s x hs hx => by
    rw [nth_eq, List.getElem?_map] at hs
    simp only [Option.map_eq_some_iff] at hs
    obtain ⟨c, hc, rfl⟩ := hs
    refine ⟨rfl, ?_⟩
    have hr := h i c x (by rw [nth_eq]; exact hc) hx
    show AV.Rel F w bs (slotC c) x
    unfold slotC
    split
    · trivial
    · rename_i hne
      exact hr (by unfold isAny; split <;> simp_all)
  refine ⟨rfl, ?_, fun i s x hs hx => ?_, hm⟩
  · rw [argTmps, zip_foldl]; exact this.1
  · rw [argTmps, zip_foldl] at hx
    obtain ⟨h1, h2⟩ := this.2 i s x hs hx
    exact ⟨fun _ => h2, fun h => (h (by rw [h1]; exact KH_nil)).elim⟩

theorem setBusy_ok {mem m : Mem} {b : Nat} (h : setBusy mem b = some m) : ∃ T f i cs, nth mem b = some (some (T, .lp f i .ready :: cs)) ∧ m = setN mem b (some (T, .lp f i .busy :: cs)) := by
  unfold setBusy at h
  split at h
  · rename_i T f i cs he
    exact ⟨T, f, i, cs, he, by simpa using h.symm⟩
  · cases h

theorem setSt_ok {mem m : Mem} {b : Nat} {st : LpS} (h : setSt mem b st = some m) : ∃ T f i st0 cs, nth mem b = some (some (T, .lp f i st0 :: cs)) ∧ m = setN mem b (some (T, .lp f i st :: cs)) := by
  unfold setSt at h
  split at h
  · rename_i T f i st0 cs he
    exact ⟨T, f, i, st0, cs, he, by simpa using h.symm⟩
  · cases h

/-- the loops of a range's codes, among the function's loops -/
theorem nthRange_ok : ∀ (c : Code) (j n : Nat) (rc : RC), nthRange c j n = some rc → ∃ d, rc.n = n + d ∧ (∀ i b, nthLoop rc.a i = some b → nthLoop c (d + i) = some b) ∧ (∀ i b, nthLoop rc.b i = some b → nthLoop c (d + nloops rc.a + i) = some b) := by
  have lt : ∀ (c : Code) (i : Nat) (b : Code), nthLoop c i = some b → i < nloops c := fun c i b h => by
    rcases Nat.lt_or_ge i (nloops c) with h' | h'
    · exact h'
    · rw [evCode_ok.nthLoop_none c i h'] at h; cases h
  have two : ∀ (a b : Code) (c : Code), (∀ i, nthLoop c i = if i < nloops a then nthLoop a i else nthLoop b (i - nloops a)) → ∀ (j n : Nat) (rc : RC) (ra : Nat),
      (nthRange a j n = some rc → ∃ d, rc.n = n + d ∧ (∀ i x, nthLoop rc.a i = some x → nthLoop a (d + i) = some x) ∧ (∀ i x, nthLoop rc.b i = some x → nthLoop a (d + nloops rc.a + i) = some x)) →
      (nthRange b (j - ra) (n + nloops a) = some rc → ∃ d, rc.n = n + nloops a + d ∧ (∀ i x, nthLoop rc.a i = some x → nthLoop b (d + i) = some x) ∧ (∀ i x, nthLoop rc.b i = some x → nthLoop b (d + nloops rc.a + i) = some x)) →
      (if j < ra then nthRange a j n else nthRange b (j - ra) (n + nloops a)) = some rc → ∃ d, rc.n = n + d ∧ (∀ i x, nthLoop rc.a i = some x → nthLoop c (d + i) = some x) ∧ (∀ i x, nthLoop rc.b i = some x → nthLoop c (d + nloops rc.a + i) = some x) := by
    intro a b c hc j n rc ra ha hb h
    split at h
    · obtain ⟨d, h1, h2, h3⟩ := ha h
      exact ⟨d, h1, fun i x hx => by rw [hc, if_pos (lt _ _ _ (h2 i x hx))]; exact h2 i x hx, fun i x hx => by rw [hc, if_pos (lt _ _ _ (h3 i x hx))]; exact h3 i x hx⟩
    · obtain ⟨d, h1, h2, h3⟩ := hb h
      refine ⟨nloops a + d, by omega, fun i x hx => ?_, fun i x hx => ?_⟩
      · rw [hc, if_neg (by omega), show nloops a + d + i - nloops a = d + i by omega]; exact h2 i x hx
      · rw [hc, if_neg (by omega), show nloops a + d + nloops rc.a + i - nloops a = d + nloops rc.a + i by omega]; exact h3 i x hx
  intro c
  induction c with
  | seq a b iha ihb =>
    intro j n rc h
    exact two a b (.seq a b) (fun i => rfl) j n rc (nranges a) (iha j n rc) (ihb _ _ rc) h
  | cond _ a b iha ihb =>
    intro j n rc h
    exact two a b (.cond _ a b) (fun i => rfl) j n rc (nranges a) (iha j n rc) (ihb _ _ rc) h
  | block _ b ih => intro j n rc h; exact ih j n rc h
  | loop b ih =>
    intro j n rc h
    obtain ⟨d, h1, h2, h3⟩ := ih j (n + 1) rc h
    refine ⟨d + 1, by omega, fun i x hx => ?_, fun i x hx => ?_⟩
    · rw [show d + 1 + i = (d + i) + 1 by omega]; exact h2 i x hx
    · rw [show d + 1 + nloops rc.a + i = (d + nloops rc.a + i) + 1 by omega]; exact h3 i x hx
  | scope b ih => intro j n rc h; exact ih j n rc h
  | rangeFunc g ps a b iha ihb =>
    intro j n rc h
    cases j with
    | zero =>
      simp only [nthRange, Option.some.injEq] at h
      subst h
      refine ⟨0, rfl, fun i x hx => ?_, fun i x hx => ?_⟩
      · simp only [nthLoop, Nat.zero_add]; rw [if_pos (lt _ _ _ hx)]; exact hx
      · simp only [nthLoop, Nat.zero_add]; rw [if_neg (by omega), show nloops a + i - nloops a = i by omega]; exact hx
    | succ j => exact two a b (.rangeFunc g ps a b) (fun i => rfl) j n rc (nranges a) (iha j n rc) (ihb _ _ rc) h
  | _ => intro j n rc h; simp [nthRange] at h

/-- one round -/
theorem evRound_ok {H : Hd} (hH : HdOk P H) {call : CallH} (hcall : CallOk P call) {b : Nat} {args : List A1} {mem mem' : Mem} {r : AV} (h : (evRound P H call b args mem).sel = some (r, mem')) {F : Nat → Prop} {w : World} {bs : List BI} {vs : List Value} {x : BI}
    (hm : MemRel P F w bs mem) (ha : All2 (A1.Rel F w bs) args vs) (hb : nth bs b = some x) :
    ∃ R : Loop, w.heap[x.p]? = some (.loop R) ∧ vs.length = R.params.size ∧ ∀ n, RoundIn Fence.wide n P x.p R.fn (argTmps R vs.toArray) R.assign R.body w
      (fun e w' => ∃ v F' bs', e = .returned v ∧ Ext bs.length F w bs F' w' bs' ∧ MemRel P F' w' bs' mem' ∧ AV.Rel F' w' bs' r v) := by
  unfold evRound at h
  split at h
  rotate_left
  · simp [Tree.sel] at h
  rename_i T f i cs he
  obtain ⟨R, h1, h2, ⟨rc, h4, h5, h6, h7⟩, h8, h9⟩ := hm.lp b T f i .ready cs x he hb
  rw [h4] at h
  simp only at h
  split at h
  rotate_left
  · simp [Tree.sel] at h
  rename_i hlen
  have hlen : args.length = rc.ps.size := by simpa using hlen
  obtain ⟨⟨e, s1⟩, g1, g2⟩ := sel_bind h
  refine ⟨R, h1, by rw [← ha.length, hlen, h5], fun n => ?_⟩
  have hrc : ∃ fn c, P.funcs[f]? = some fn ∧ fn.body = some c ∧ nthRange c i 0 = some rc := by
    unfold rcOf at h4
    split at h4
    · rename_i fn hfn
      rw [nth_eq] at hfn
      simp only [Array.getElem?_toList] at hfn
      split at h4
      · rename_i c hc
        exact ⟨fn, c, hfn, hc, h4⟩
      · cases h4
    · cases h4
  obtain ⟨fn, c, hfn, hc, hnr⟩ := hrc
  obtain ⟨d, hd, hla, hlb⟩ := nthRange_ok c i 0 rc hnr
  have hd : rc.n = d := by omega
  refine roundIn_of_wpIn (F := Fence.wide) trivial ?_
  rw [h6]
  cases e with
  | normal =>
    simp only at g2
    split at g2
    rotate_left
    · simp [Tree.sel] at g2
    rename_i m hbusy
    obtain ⟨T2, f2, i2, cs2, e2, rfl⟩ := setBusy_ok hbusy
    obtain ⟨⟨e', s2⟩, k1, k2⟩ := sel_bind g2
    rw [← h5] at g1
    refine evCode_ok hH.pc hcall (lr := some x.p) f mem.length rc.a rc.n _ g1 (fun j bb hh hj hk => hH.lh f fn c (rc.n + j) bb hh hfn hc (by rw [hd]; exact hla j bb hj) hk) (Nat.le_of_eq hm.len.symm) (argTmps_ok ha h8 h9 hm) fun F1 w1 bs1 a1 x1 hs1 => ?_
    have hb1 : nth bs1 b = some x := x1.pre b x (by rw [← hm.len]; exact nth_lt hb) hb
    obtain ⟨R1, r1, r2, r4, r5, r6⟩ := hs1.mem.lp b T2 f2 i2 .ready cs2 x e2 hb1
    refine ⟨_, run_beginRound r1 r2.1, ?_⟩
    rw [h7]
    have hloc1 := hs1.mem.loc b x T2 _ hb1 e2 liveL_lp
    have m2 := hs1.mem.turn hb1 e2 r1 (R' := { R1 with state := .busy }) (st' := .busy) rfl ⟨rfl, rfl, rfl, rfl⟩
    have x2 : Ext bs1.length F1 w1 bs1 F1 (w1.putObj x.p (.loop { R1 with state := .busy })) bs1 := Ext.putObj hb1 hloc1.1 _
    refine evCode_ok hH.pc hcall (lr := some x.p) f mem.length rc.b (rc.n + nloops rc.a) _ k1 (fun j bb hh hj hk => hH.lh f fn c (rc.n + nloops rc.a + j) bb hh hfn hc (by rw [hd]; exact hlb j bb hj) hk) (x1.le (Nat.le_of_eq hm.len.symm)) (hs1.ext x2 m2) fun F3 w3 bs3 a3 x3 hs3 => ?_
    have x13 : Ext mem.length F w bs F3 w3 bs3 := x1.trans ((x2.weak (x1.le (Nat.le_of_eq hm.len.symm))).trans x3 (Nat.le_refl _)) (Nat.le_refl _)
    have hb3 : nth bs3 b = some x := x13.pre b x (by rw [← hm.len]; exact nth_lt hb) hb
    have fin : ∀ (st : LpS) (m' : Mem) (jump : Option Code), setSt s2.mem b st = some m' → (∀ R : Loop, stOk { R with state := if jump.isNone then .ready else .done, pending := jump } st) →
        mem' = m' → r = .one (.c (.bool jump.isNone)) → ∃ v w', (Instr.endRound x.p jump).run P w3 = .ok v w' ∧ (fun e w' => ∃ v F' bs', e = Ending.returned v ∧ Ext bs.length F w bs F' w' bs' ∧ MemRel P F' w' bs' mem' ∧ AV.Rel F' w' bs' r v) (.returned v) w' := by
      intro st m' jump hst hok hme hr
      obtain ⟨T3, f3, i3, st3, cs3, e3, rfl⟩ := setSt_ok hst
      obtain ⟨R3, q1, q2, q4, q5, q6⟩ := hs3.mem.lp b T3 f3 i3 st3 cs3 x e3 hb3
      have hloc3 := hs3.mem.loc b x T3 _ hb3 e3 liveL_lp
      have m4 := hs3.mem.turn hb3 e3 q1 (R' := { R3 with state := if jump.isNone then .ready else .done, pending := jump }) (st' := st) (hok R3) ⟨rfl, rfl, rfl, rfl⟩
      refine ⟨_, _, run_endRound jump q1, _, F3, bs3, rfl, ?_, hme ▸ m4, hr ▸ CV.Rel.bool _⟩
      rw [hm.len]
      exact x13.trans (Ext.putObj hb3 hloc3.1 _) (Nat.le_refl _)
    unfold roundEnd at k2
    cases e' with
    | normal =>
      simp only at k2
      split at k2
      · rename_i m' hst
        simp only [Tree.sel, Option.some.injEq, Prod.mk.injEq] at k2
        exact fin _ m' none hst (fun R => ⟨rfl, rfl⟩) k2.2.symm k2.1.symm
      · simp [Tree.sel] at k2
    | ret =>
      simp only at k2
      split at k2
      · rename_i m' hst
        simp only [Tree.sel, Option.some.injEq, Prod.mk.injEq] at k2
        exact fin _ m' (some .ret) hst (fun R => ⟨rfl, rfl⟩) k2.2.symm k2.1.symm
      · simp [Tree.sel] at k2
    | exit e0 =>
      simp only at k2
      split at k2
      · rename_i m' hst
        simp only [Tree.sel, Option.some.injEq, Prod.mk.injEq] at k2
        exact fin _ m' (some (.exit e0)) hst (fun R => ⟨rfl, rfl⟩) k2.2.symm k2.1.symm
      · simp [Tree.sel] at k2
  | exit e => simp [Tree.sel] at g2
  | ret => simp [Tree.sel] at g2


/-! ### the loop itself -/

theorem rangeEnd_ok {b0 : Nat} {tmps : List Slot} {mem : Mem} {x : XE × St} (h : (rangeEnd b0 tmps mem).sel = some x) : ∃ T f i st cs, nth mem b0 = some (some (T, .lp f i st :: cs)) ∧ x.2 = ⟨tmps, setN mem b0 none⟩ ∧
    ((st = .ready ∧ x.1 = .normal) ∨ (st = .done none ∧ x.1 = .ret) ∨ ∃ e, st = .done (some e) ∧ x.1 = .exit e) := by
  unfold rangeEnd at h
  split at h
  · rename_i he
    simp only [Tree.sel, Option.some.injEq] at h
    subst h
    exact ⟨_, _, _, _, _, he, rfl, .inl ⟨rfl, rfl⟩⟩
  · rename_i he
    simp only [Tree.sel, Option.some.injEq] at h
    subst h
    exact ⟨_, _, _, _, _, he, rfl, .inr (.inl ⟨rfl, rfl⟩)⟩
  · rename_i he
    simp only [Tree.sel, Option.some.injEq] at h
    subst h
    exact ⟨_, _, _, _, _, he, rfl, .inr (.inr ⟨_, rfl, rfl⟩)⟩
  · simp [Tree.sel] at h

theorem nthRange_none : ∀ (c : Code) (i n : Nat), nranges c ≤ i → nthRange c i n = none
  | .skip, _, _, _ => rfl
  | .region _ _ _, _, _, _ => rfl
  | .seq a b, i, n, h => by
    simp only [nranges] at h
    simp only [nthRange]
    rw [if_neg (by omega)]
    exact nthRange_none b _ _ (by omega)
  | .cond _ a b, i, n, h => by
    simp only [nranges] at h
    simp only [nthRange]
    rw [if_neg (by omega)]
    exact nthRange_none b _ _ (by omega)
  | .block _ b, i, n, h => by simpa [nthRange] using nthRange_none b i n h
  | .loop b, i, n, h => by simpa [nthRange] using nthRange_none b i (n + 1) h
  | .rangeFunc _ _ a b, i, n, h => by
    simp only [nranges] at h
    cases i with
    | zero => omega
    | succ i =>
      simp only [nthRange]
      rw [if_neg (by omega)]
      exact nthRange_none b _ _ (by omega)
  | .exit _, _, _, _ => rfl
  | .scope b, i, n, h => by simpa [nthRange] using nthRange_none b i n h
  | .label _, _, _, _ => rfl
  | .goto _, _, _, _ => rfl
  | .ret, _, _, _ => rfl
  | .refuse _, _, _, _ => rfl

theorem cell_ok {F w bs} {a : Act} {sl : Slot} {x : Value} (h : SlotRel F w bs a sl x) (hc : isAny (cellS sl) = false) : CV.Rel F w bs (cellS sl) x := by
  unfold cellS at *
  split
  · exact h.1 KH_nil
  · rename_i hne
    split at hc
    · exact (hne _ rfl).elim
    · simp [isAny] at hc

theorem evCodeM_ok {H : Hd} (hH : HdOk P H) {call : CallH} (hcall : CallOk P call) {nn : Nat} (f K z : Nat) : ∀ (c : Code) (n m : Nat) (s : St) {x : XE × St},
    (evCodeM P H call f K n m c s).sel = some x → (∀ i b h, nthLoop c i = some b → lookLh H.lh f (n + i) = some h → LoopOk P b h) → (∀ i rc, nthRange c i n = some rc → rcOf P f (m + i) = some rc) →
    ∀ {D : List Deferred} {F : Nat → Prop} {w : World} {bs : List BI} {a : Act}, z ≤ w.heap.size → K ≤ bs.length → StRel P D F w bs s a → Marks z F w D → ∀ {Q : Exit → Act → World → Prop},
    (∀ F' w' bs' a' D', Ext K F w bs F' w' bs' → Marks z F' w' D' → StRel P D' F' w' bs' x.2 a' → Q (xe x.1) a' w') → c.wpIn (FW none) nn P Q a w := by
  have plain : ∀ (c : Code) (n : Nat) (s : St) {x : XE × St}, (evCode P H call f K n c s).sel = some x → (∀ i b h, nthLoop c i = some b → lookLh H.lh f (n + i) = some h → LoopOk P b h) →
      ∀ {D : List Deferred} {F : Nat → Prop} {w : World} {bs : List BI} {a : Act}, z ≤ w.heap.size → K ≤ bs.length → StRel P D F w bs s a → Marks z F w D → ∀ {Q : Exit → Act → World → Prop},
      (∀ F' w' bs' a' D', Ext K F w bs F' w' bs' → Marks z F' w' D' → StRel P D' F' w' bs' x.2 a' → Q (xe x.1) a' w') → c.wpIn (FW none) nn P Q a w :=
    fun c n s x h hl D F w bs a _ hK hs hM Q hQ => evCode_ok hH.pc hcall f K c n s h hl hK hs fun F' w' bs' a' he hs' => hQ F' w' bs' a' D he (hM.ext he) hs'
  intro c
  induction c with
  | seq a b iha ihb =>
    intro n m s x h hl hrc D F w bs a' hz hK hs hM Q hQ
    simp only [evCodeM] at h
    split at h
    · exact plain _ n s h hl hz hK hs hM hQ
    obtain ⟨y, h1, h2⟩ := sel_bind h
    refine wpIn_seq (iha n m s h1 (fun i bb hh hi hk => hl i bb hh (by
      simp only [nthLoop]
      have : i < nloops a := by
        rcases Nat.lt_or_ge i (nloops a) with h' | h'
        · exact h'
        · exact absurd hi (by rw [evCode_ok.nthLoop_none a i h']; simp)
      rw [if_pos this]; exact hi) hk) (fun i rc hi => hrc i rc (by
      simp only [nthRange]
      have : i < nranges a := by
        rcases Nat.lt_or_ge i (nranges a) with h' | h'
        · exact h'
        · exact absurd hi (by rw [nthRange_none a i n h']; simp)
      rw [if_pos this]; exact hi)) hz hK hs hM fun F' w' bs' a'' D' he hM' hs' => ?_)
    obtain ⟨e, s'⟩ := y
    cases e with
    | normal =>
      simp only [xe, Exit.then]
      refine ihb (n + nloops a) (m + nranges a) s' h2 (fun i bb hh hi hk => hl (nloops a + i) bb hh (by
        simp only [nthLoop]
        rw [if_neg (by omega)]
        rw [show nloops a + i - nloops a = i by omega]; exact hi) (by rw [← Nat.add_assoc]; exact hk)) (fun i rc hi => (by
        rw [Nat.add_assoc]
        exact hrc (nranges a + i) rc (by
          simp only [nthRange]
          rw [if_neg (by omega)]
          rw [show nranges a + i - nranges a = i by omega]; exact hi))) (Nat.le_trans hz he.size) (he.le hK) hs' hM' fun F'' w'' bs'' a3 D'' he' hM'' hs'' => hQ _ _ _ _ _ (he.trans he' (Nat.le_refl _)) hM'' hs''
    | exit k =>
      simp only [Tree.sel, Option.some.injEq] at h2
      subst h2
      exact hQ _ _ _ _ _ he hM' hs'
    | ret =>
      simp only [Tree.sel, Option.some.injEq] at h2
      subst h2
      exact hQ _ _ _ _ _ he hM' hs'
  | cond c a b iha ihb =>
    intro n m s x h hl hrc D F w bs a' hz hK hs hM Q hQ
    simp only [evCodeM] at h
    split at h
    · exact plain _ n s h hl hz hK hs hM hQ
    split at h
    · rename_i t ht
      have hr := opnd_ok hs KH_nil ht
      have hc : a'.eval c = .bool t := by
        generalize a'.eval c = zz at hr ⊢
        cases hr; rfl
      simp only [Tree.sel] at h
      cases t
      · simp only [cond_false] at h
        refine wpIn_cond_false hc (ihb (n + nloops a) (m + nranges a) s h (fun i bb hh hi hk => hl (nloops a + i) bb hh (by
          simp only [nthLoop]
          rw [if_neg (by omega)]
          rw [show nloops a + i - nloops a = i by omega]; exact hi) (by rw [← Nat.add_assoc]; exact hk)) (fun i rc hi => (by
          rw [Nat.add_assoc]
          exact hrc (nranges a + i) rc (by
            simp only [nthRange]
            rw [if_neg (by omega)]
            rw [show nranges a + i - nranges a = i by omega]; exact hi))) hz hK hs hM hQ)
      · simp only [cond_true] at h
        refine wpIn_cond_true hc (iha n m s h (fun i bb hh hi hk => hl i bb hh (by
          simp only [nthLoop]
          have : i < nloops a := by
            rcases Nat.lt_or_ge i (nloops a) with h' | h'
            · exact h'
            · exact absurd hi (by rw [evCode_ok.nthLoop_none a i h']; simp)
          rw [if_pos this]; exact hi) hk) (fun i rc hi => hrc i rc (by
          simp only [nthRange]
          have : i < nranges a := by
            rcases Nat.lt_or_ge i (nranges a) with h' | h'
            · exact h'
            · exact absurd hi (by rw [nthRange_none a i n h']; simp)
          rw [if_pos this]; exact hi)) hz hK hs hM hQ)
    · simp [Tree.sel] at h
  | block id b ih =>
    intro n m s x h hl hrc D F w bs a' hz hK hs hM Q hQ
    simp only [evCodeM] at h
    split at h
    · exact plain _ n s h hl hz hK hs hM hQ
    obtain ⟨y, h1, h2⟩ := sel_bind h
    refine wpIn_block (ih n m s h1 (fun i bb hh hi hk => hl i bb hh hi hk) (fun i rc hi => hrc i rc hi) hz hK hs hM fun F' w' bs' a'' D' he hM' hs' => ?_)
    obtain ⟨e, s'⟩ := y
    cases e with
    | normal =>
      simp only [Tree.sel, Option.some.injEq] at h2
      subst h2
      exact hQ _ _ _ _ _ he hM' hs'
    | exit k =>
      simp only [Tree.sel, Option.some.injEq] at h2
      subst h2
      simp only [xe, Exit.inBlock]
      have := hQ _ _ _ _ _ he hM' hs'
      by_cases hk : k = id
      · simpa [hk, xe] using this
      · simpa [hk, xe] using this
    | ret =>
      simp only [Tree.sel, Option.some.injEq] at h2
      subst h2
      exact hQ _ _ _ _ _ he hM' hs'
  | rangeFunc g ps assign body _ _ =>
    intro n m s x h hl hrc D F w bs a hz hK hs hM Q hQ
    simp only [evCodeM] at h
    split at h
    rotate_left
    · simp [Tree.sel] at h
    rename_i gf first cap hg
    split at h
    rotate_left
    · simp [Tree.sel] at h
    rename_i hcl
    obtain ⟨⟨rv, mem'⟩, h1, h2⟩ := sel_bind h
    have hgr := opnd_ok hs KH_nil hg
    have hrc0 := hrc 0 ⟨ps, assign, body, n⟩ rfl
    have hcl0 := hcl
    generalize he : a.eval g = gv at hgr
    cases hgr with
    | fn l1 l2 r1 r2 =>
      rename_i vf vc
      -- the two blocks that are laid
      let W0 : World := w.alloc (.deferred (some []))
      have hW0 : W0.heap.size = w.heap.size + 1 := World.size_alloc ..
      let F0 : Nat → Prop := fun p => F p ∧ p < w.heap.size
      have e0 : Ext bs.length F w bs F0 W0 bs := ⟨by omega, fun _ _ h => h.1, fun p h hp _ => ⟨h, hp⟩, fun p hp _ => Below.heap_alloc _ _ _ hp, rfl, rfl, rfl, fun _ _ _ h => h, fun x h => .inl ⟨x, h, rfl⟩⟩
      have m0 : MemRel P F0 W0 bs s.mem := hs.mem.move e0 fun k x T cs hk hc hv => ⟨hs.mem.loc k x T cs hk hc hv, Below.heap_alloc _ _ _ (hs.mem.loc k x T cs hk hc hv).2⟩
      let R : Go.Loop := { state := .ready, pending := none, fn := 0, tmps := a.tmps, params := ps, assign := assign, body := body, defers := w.heap.size }
      refine wpIn_rangeFunc fun fn _ => ?_
      let R : Go.Loop := { state := .ready, pending := none, fn := fn, tmps := a.tmps, params := ps, assign := assign, body := body, defers := w.heap.size }
      let W1 : World := W0.alloc (.loop R)
      have hW1 : W1.heap.size = w.heap.size + 2 := by
        show (W0.alloc (.loop R)).heap.size = _
        rw [World.size_alloc, hW0]
      let F1 : Nat → Prop := fun p => F0 p ∨ p = W0.heap.size
      have e1 : Ext bs.length F0 W0 bs F1 W1 bs := Ext.alloc _ _
      have m1 : MemRel P F1 W1 bs s.mem := m0.alloc _
      let l : Nat := w.heap.size + 1
      have hl0 : W0.heap.size = l := hW0
      have hRl : W1.heap[l]? = some (.loop R) := by rw [← hl0]; exact World.alloc_heap_new W0 _
      have e01 : Ext bs.length F w bs F1 W1 bs := e0.trans e1 (Nat.le_refl _)
      have m2 : MemRel P F1 W1 (bs ++ [⟨l, 0, 0⟩]) (s.mem ++ [some (0, .lp f m .ready :: s.tmps.map cellS)]) := by
        refine m1.push ⟨l, 0, 0⟩ (fun _ => ⟨.inr hl0.symm, by rw [hW1]; show w.heap.size + 1 < _; omega⟩) (fun _ k y T' cs' hk hc hv e => ?_) (fun h => by simp [isRowL] at h) (fun _ _ _ _ h => by simp at h) (fun f' i' st' cs' h => ?_)
        · have := (m0.loc k y T' cs' hk hc hv).2
          rw [hl0] at this
          simp only at e
          omega
        · simp only [List.cons.injEq, CV.lp.injEq] at h
          obtain ⟨⟨rfl, rfl, rfl⟩, rfl⟩ := h
          refine ⟨R, hRl, ⟨rfl, rfl⟩, ⟨_, hrc0, rfl, rfl, rfl⟩, by simpa using hs.len.symm, fun j c v hc hv ha => ?_⟩
          rw [nth_eq, List.getElem?_map] at hc
          simp only [Option.map_eq_some_iff] at hc
          obtain ⟨sl, hsl, rfl⟩ := hc
          exact (cell_ok (hs.slots j sl v (by rw [nth_eq]; exact hsl) hv) ha).grow e01.grow
      have g2 : Grow F F1 bs (bs ++ [⟨l, 0, 0⟩]) w W1 := ⟨e01.size, e01.F1, e01.grow.same, fun k p h => nth_append h⟩
      have hb0 : nth (bs ++ [⟨l, 0, 0⟩]) s.mem.length = some (⟨l, 0, 0⟩ : BI) := by rw [← hs.mem.len]; exact nth_append_last _ _
      have hargs : All2 (A1.Rel F1 W1 (bs ++ [⟨l, 0, 0⟩])) (first.map .c ++ (.c (.yld s.mem.length) :: cap.map .c)) (vf ++ (Value.func (.yield l) #[] #[] :: vc)) := by
        refine All2.append (All2.of_nth (by simpa using l1) fun i u v hu hv => ?_) (.cons (CV.Rel.yld (x := ⟨l, 0, 0⟩) hb0) (All2.of_nth (by simpa using l2) fun i u v hu hv => ?_))
        · rw [nth_eq, List.getElem?_map] at hu
          simp only [Option.map_eq_some_iff] at hu
          obtain ⟨y, hy, rfl⟩ := hu
          exact (r1 i y v (by rw [nth_eq]; exact hy) hv).grow g2
        · rw [nth_eq, List.getElem?_map] at hu
          simp only [Option.map_eq_some_iff] at hu
          obtain ⟨y, hy, rfl⟩ := hu
          exact (r2 i y v (by rw [nth_eq]; exact hy) hv).grow g2
      have hinv : (invoke (.fn (.func gf) vc.toArray) (vf.toArray ++ #[Value.func (.yield l) #[] #[]])).run P W1 = .ok (.enter gf (vf ++ (Value.func (.yield l) #[] #[] :: vc)).toArray) W1 := by
        unfold callable at hcl0
        split at hcl0
        · rename_i fn' hfn
          simp only [Bool.and_eq_true, bne_iff_ne, ne_eq] at hcl0
          obtain ⟨⟨hn, hb⟩, _⟩ := hcl0
          rw [nth_eq] at hfn
          simp only [Array.getElem?_toList] at hfn
          have hb' : fn'.body.isNone = false := by cases hh : fn'.body <;> simp [hh] at hb ⊢
          have hn' : (fn'.name == "runtime.NumGoroutine") = false := by simpa using hn
          simp only [invoke, callFunc, Sem.run_bind, run_program, hfn, hn', Bool.false_eq_true, if_false, hb', Sem.run_pure, Result.andThen_ok]
          congr 2
          apply Array.ext'
          simp
        · simp at hcl0
      have hmk : Marks z F1 W1 ({ target := .collected w.heap.size, args := #[] } :: D) := by
        refine ⟨⟨w.heap.size, rfl, hz, ?_, ?_, hM.lt⟩, hM.ext e01⟩
        · rintro (h | h)
          · exact Nat.lt_irrefl _ h.2
          · rw [hl0] at h; simp only [l] at h; omega
        · rw [show W1.heap[w.heap.size]? = W0.heap[w.heap.size]? from Below.heap_alloc _ _ _ (by rw [hW0]; omega)]
          exact World.alloc_heap_new w _
      refine ⟨l, [{ target := .collected w.heap.size, args := #[] }], W1, ⟨.fn (.func gf) vc.toArray, vf.toArray ++ #[Value.func (.yield l) #[] #[]]⟩, W1, gf, _, W1,
        run_enterLoop_outer fn a.tmps ps assign body, ?_, fun _ _ => trivial, hinv, fun hd => by simp [FW, Fence.wide] at hd, callsIn_fw.2 ?_⟩
      · simp only [resolve, he, Deferred.ofValue]
        simp [Act.eval, Sem.run_pure]
      · refine (hcall.fn gf _ _ rv mem' (callable_lt hcl) h1 F1 W1 _ _ m2 hargs).mono fun e w' ⟨v, F', bs', hv, hx, hm', _⟩ => ?_
        subst hv
        obtain ⟨T, f', i', st, cs, hent, hx2, hst⟩ := rangeEnd_ok h2
        have hbl : nth bs' s.mem.length = some (⟨l, 0, 0⟩ : BI) := hx.pre _ _ (by rw [← hs.mem.len]; simp) hb0
        obtain ⟨⟨rs, rp, rf, rt, rps, ra, rb, rd⟩, q1, q2, _⟩ := hm'.lp _ T f' i' st cs _ hent hbl
        let R' : Go.Loop := ⟨rs, rp, rf, rt, rps, ra, rb, rd⟩
        have done : ∀ o : Obj, Q (xe x.1) { a with defers := [{ target := .collected w.heap.size, args := #[] }] ++ a.defers } (w'.putObj l o) := by
          intro o
          have hF' := (hm'.loc _ _ T _ hbl hent liveL_lp)
          have m4 := hm'.gone hbl hent liveL_lp o
          have e4 : Ext bs'.length F' w' bs' F' (w'.putObj l o) bs' := Ext.putObj hbl hF'.1 _
          have hxb : Ext bs.length F w bs F' w' bs' := by
            have : Ext bs.length F w bs F1 W1 (bs ++ [⟨l, 0, 0⟩]) := e01.push (.inr (by show w.heap.size ≤ w.heap.size + 1; omega))
            exact this.trans hx (by simp)
          have e5 : Ext bs.length F w bs F' (w'.putObj l o) bs' := hxb.trans e4 hxb.le
          have s5 : StRel P ({ target := .collected w.heap.size, args := #[] } :: D) F' (w'.putObj l o) bs' x.2 { a with defers := [{ target := .collected w.heap.size, args := #[] }] ++ a.defers } := by
            have := hs.ext e5 m4
            rw [hx2]
            exact ⟨by rw [← hs.defers]; rfl, this.len, this.slots, this.mem⟩
          have k5 := (hmk.ext hx).ext e4
          exact hQ _ _ _ _ _ (e5.weak hK) k5 s5
        rcases hst with ⟨rfl, hxe⟩ | ⟨rfl, hxe⟩ | ⟨e, rfl, hxe⟩
        all_goals
          obtain ⟨qa, qb⟩ := q2
          simp only at qa qb
          subst qa qb
          rw [hxe] at done
        · exact ⟨_, _, run_endLoop q1 (by simp), done _⟩
        · exact ⟨_, _, run_endLoop q1 (by simp), wpIn_ret (done _)⟩
        · exact ⟨_, _, run_endLoop q1 (by simp), wpIn_exit (done _)⟩
  | skip => intro n m s x h hl _ D F w bs a hz hK hs hM Q hQ; exact plain _ n s (by simpa only [evCodeM] using h) hl hz hK hs hM hQ
  | region _ _ _ => intro n m s x h hl _ D F w bs a hz hK hs hM Q hQ; exact plain _ n s (by simpa only [evCodeM] using h) hl hz hK hs hM hQ
  | loop _ _ => intro n m s x h hl _ D F w bs a hz hK hs hM Q hQ; exact plain _ n s (by simpa only [evCodeM] using h) hl hz hK hs hM hQ
  | exit _ => intro n m s x h hl _ D F w bs a hz hK hs hM Q hQ; exact plain _ n s (by simpa only [evCodeM] using h) hl hz hK hs hM hQ
  | ret => intro n m s x h hl _ D F w bs a hz hK hs hM Q hQ; exact plain _ n s (by simpa only [evCodeM] using h) hl hz hK hs hM hQ
  | scope _ _ => intro n m s x h hl _ D F w bs a hz hK hs hM Q hQ; exact plain _ n s (by simpa only [evCodeM] using h) hl hz hK hs hM hQ
  | label _ => intro n m s x h hl _ D F w bs a hz hK hs hM Q hQ; exact plain _ n s (by simpa only [evCodeM] using h) hl hz hK hs hM hQ
  | goto _ => intro n m s x h hl _ D F w bs a hz hK hs hM Q hQ; exact plain _ n s (by simpa only [evCodeM] using h) hl hz hK hs hM hQ
  | refuse _ => intro n m s x h hl _ D F w bs a hz hK hs hM Q hQ; exact plain _ n s (by simpa only [evCodeM] using h) hl hz hK hs hM hQ

/-! ### functions -/

theorem rcOf_body {f : Nat} {fn : Func} {c : Code} (hfn : P.funcs[f]? = some fn) (hc : fn.body = some c) (i : Nat) : rcOf P f i = nthRange c i 0 := by
  unfold rcOf
  have : nth P.funcs.toList f = some fn := by rw [nth_eq]; simpa using hfn
  rw [this]
  simp only [hc]

theorem evFn_ok {H : Hd} (hH : HdOk P H) : ∀ n, CallOk P (evFn P H n)
  | 0 => ⟨by intro f args mem r mem' _ h; simp [evFn, Tree.sel] at h, by intro f args mem r mem' h; simp [evFn, Tree.sel] at h⟩
  | n + 1 => by
    have ih := evFn_ok hH n
    refine ⟨?_, fun b args mem r mem' h F w bs vs x hm ha hb => ?_⟩
    rotate_left
    · simp only [evFn] at h
      rw [if_pos (by simp)] at h
      rw [Nat.add_sub_cancel_left] at h
      exact evRound_ok hH ih h hm ha hb
    intro f args mem r mem' hf9 h F w bs vs hm hargs
    simp only [evFn] at h
    rw [if_neg (by simpa using hf9)] at h
    split at h
    · rename_i G hG
      exact hH.pc.mc f G hG args mem r mem' h F w bs vs hm hargs
    · split at h
      rotate_left
      · simp [Tree.sel] at h
      rename_i fn hfn
      split at h
      · rename_i c hb
        split at h
        · rename_i hle
          obtain ⟨y0, h0, hwk⟩ := joined_ok (P := P) h
          obtain ⟨y, h1, h2⟩ := sel_bind h0
          rw [nth_eq] at hfn
          simp only [Array.getElem?_toList] at hfn
          have hl := hargs.length
          have hle' : args.length ≤ fn.ntmps := by simpa using hle
          refine (callsIn_wide (n := 0)).1 (callsIn_of_wp_marks (F := Fence.wide) hfn hb trivial ?_)
          refine evCodeM_ok hH ih (nn := 0) f mem.length w.heap.size c 0 0 _ h1 (fun i b hh hi hk => hH.lh f fn c i b hh hfn hb hi (by simpa using hk)) (fun i rc hi => by rw [Nat.zero_add, rcOf_body hfn hb]; exact hi)
            (D := []) (F := F) (bs := bs) (Nat.le_refl _) (Nat.le_of_eq hm.len.symm) ⟨rfl, ?_, ?_, hm⟩ trivial fun F' w' bs' a' D' he hM hs' => ?_
          · simp [hl]
          · intro i sl x hsl hx
            simp only [nth_eq] at hsl
            rcases Nat.lt_or_ge i args.length with hi | hi
            · rw [List.getElem?_append_left (by simpa using hi)] at hsl
              simp only [List.getElem?_map, Option.map_eq_some_iff] at hsl
              obtain ⟨b, hb', rfl⟩ := hsl
              rw [Array.getElem?_append_left (by simp; omega)] at hx
              obtain ⟨v, hv, hr⟩ := hargs.nth (by rw [nth_eq]; exact hb')
              simp only [List.getElem?_toArray] at hx
              rw [hv] at hx
              simp at hx; subst hx
              exact ⟨fun _ => hr, fun h => (h KH_nil).elim⟩
            · rw [List.getElem?_append_right (by simpa using hi)] at hsl
              rw [List.getElem?_replicate] at hsl
              split at hsl
              · simp at hsl; subst hsl
                exact ⟨fun _ => trivial, fun h => (h KH_nil).elim⟩
              · simp at hsl
          · obtain ⟨e, s'⟩ := y
            have fin : ∀ zz, evResults P s' fn.results.toList = some zz → resOf zz = y0.1 → s'.mem = y0.2 →
                LeavesInM Fence.wide 0 P fn a'.tmps (fun e w' => ∃ v F' bs', e = Ending.returned v ∧ Ext bs.length F w bs F' w' bs' ∧ MemRel P F' w' bs' mem' ∧ AV.Rel F' w' bs' r v) a'.defers .returning w' := by
              intro zz hzz hr hme
              rw [hs'.defers]
              refine leaves_marks D' w' hM fun w2 hsh => ?_
              have hs2 := hs'.shut hsh
              obtain ⟨v, hv, hrun⟩ := run_results hs2 hzz
              rw [hr] at hv
              have he2 := he.shut hsh (Nat.le_refl _)
              obtain ⟨F2, bs2, e2, m2, r2⟩ := hwk F' w2 bs' v (he2.le (Nat.le_of_eq hm.len.symm)) (hme ▸ hs2.mem) hv
              refine ⟨v, hrun, v, F2, bs2, rfl, ?_, m2, r2⟩
              have e3 := he2.trans e2 (Nat.le_refl _)
              rw [← hm.len] at e3
              exact e3
            cases e with
            | normal =>
              simp only at h2
              split at h2
              · rename_i zz hzz
                simp only [Tree.sel, Option.some.injEq] at h2
                exact fin zz hzz (by rw [← h2]) (by rw [← h2])
              · simp [Tree.sel] at h2
            | exit k => simp [Tree.sel] at h2
            | ret =>
              simp only at h2
              split at h2
              · rename_i zz hzz
                simp only [Tree.sel, Option.some.injEq] at h2
                exact fin zz hzz (by rw [← h2]) (by rw [← h2])
              · simp [Tree.sel] at h2
        · simp [Tree.sel] at h
      · simp [Tree.sel] at h

/-- a function that meets no memory -/
theorem evFn_ok0 {H : Hd} (hH : HdOk P H) (n f : Nat) (args : List A1) (r : AV) (mem' : Mem) (h : (evFn P H n f args []).sel = some (r, mem')) (F : Nat → Prop) (w : World) (bs : List BI) (vs : List Value) (hm : MemRel P F w bs []) (ha : All2 (A1.Rel F w bs) args vs) :
    Calls P f vs.toArray w (fun e w' => ∃ v F' bs', e = .returned v ∧ Ext bs.length F w bs F' w' bs' ∧ MemRel P F' w' bs' mem' ∧ AV.Rel F' w' bs' r v) := by
  rcases Nat.lt_or_ge f 1000000000 with hf | hf
  · exact (evFn_ok hH n).fn f args [] r mem' hf h F w bs vs hm ha
  · cases n with
    | zero => simp [evFn, Tree.sel] at h
    | succ n =>
      simp only [evFn] at h
      rw [if_pos (by simpa using hf)] at h
      simp [evRound, nth, Tree.sel] at h

/-- code, outside a round -/
theorem evCode_wp {H : Hd} (hpc : SumOk P H) {call : CallH} (hcall : CallOk P call) (f K : Nat) (c : Code) (n : Nat) (s : St) {x : XE × St}
    (h : (evCode P H call f K n c s).sel = some x) (hl : ∀ i b h, nthLoop c i = some b → lookLh H.lh f (n + i) = some h → LoopOk P b h) {F : Nat → Prop} {w : World} {bs : List BI} {a : Act} (hK : K ≤ bs.length) (hs : StRel P D F w bs s a) {Q : Exit → Act → World → Prop}
    (hQ : ∀ F' w' bs' a', Ext K F w bs F' w' bs' → StRel P D F' w' bs' x.2 a' → Q (xe x.1) a' w') : c.wp P Q a w :=
  (wpIn_wide (n := 0)).1 (evCode_ok (lr := none) hpc hcall f K c n s h hl hK hs hQ)

end Go.Sx
