/-
  The evaluator's soundness (part O): the steps of a memory.
-/
import Derived.Test.YtjiennnkbompkaaEngF
import Derived.Deep.AppendSrc
import Derived.Laws.AppendOwn
namespace Go.Sx
open Go Go.RowKit

section
variable {P : Program}

theorem nth_append_last {α : Type} (l : List α) (x : α) : nth (l ++ [x]) l.length = some x := by
  rw [nth_eq]; simp

theorem nth_append_split {α : Type} {l : List α} {x : α} {k : Nat} {p : α} (h : nth (l ++ [x]) k = some p) : nth l k = some p ∨ (k = l.length ∧ p = x) := by
  rw [nth_eq] at h
  rcases Nat.lt_or_ge k l.length with hk | hk
  · left; rw [nth_eq]; rwa [List.getElem?_append_left hk] at h
  · right
    rw [List.getElem?_append_right hk] at h
    rcases Nat.eq_zero_or_pos (k - l.length) with h0 | h0
    · rw [h0] at h; simp at h; exact ⟨by omega, h.symm⟩
    · rw [List.getElem?_eq_none (by simp; omega)] at h; simp at h

theorem nth_setN {α : Type} {l : List α} {b k : Nat} {y z : α} (h : nth (setN l b y) k = some z) : (k = b ∧ z = y) ∨ (k ≠ b ∧ nth l k = some z) := by
  rw [setN_eq, nth_eq, List.getElem?_set] at h
  by_cases hk : b = k
  · subst hk
    rw [if_pos rfl] at h
    split at h
    · simp at h; exact .inl ⟨rfl, h.symm⟩
    · simp at h
  · rw [if_neg hk] at h
    exact .inr ⟨fun e => hk e.symm, by rw [nth_eq]; exact h⟩

/-- an entry that is given up -/
theorem MemRel.kill {F w bs mem} (hm : MemRel F w bs mem) (b : Nat) : MemRel F w bs (setN mem b none) := by
  have key : ∀ k T cs, nth (setN mem b none) k = some (some (T, cs)) → nth mem k = some (some (T, cs)) := by
    intro k T cs h
    rcases nth_setN h with ⟨_, h⟩ | ⟨_, h⟩
    · cases h
    · exact h
  exact ⟨by rw [setN_eq, List.length_set]; exact hm.len, fun k x T cs hk hc => hm.loc k x T cs hk (key _ _ _ hc), fun k k' x x' T cs T' cs' h1 h2 h3 h4 => hm.inj k k' x x' T cs T' cs' h1 h2 (key _ _ _ h3) (key _ _ _ h4),
    fun k T cs x hc => hm.cont k T cs x (key _ _ _ hc), fun k T fz es n ρ x hc => hm.row k T fz es n ρ x (key _ _ _ hc)⟩

/-- a world that has gone on, while the blocks that are written stayed as they were -/
theorem MemRel.move {F w bs mem F' w'} (hm : MemRel F w bs mem) (he : Ext bs.length F w bs F' w' bs)
    (hl : ∀ k x T cs, nth bs k = some x → nth mem k = some (some (T, cs)) → liveL cs → F' x.p ∧ w'.heap[x.p]? = w.heap[x.p]?) : MemRel F' w' bs mem := by
  refine ⟨hm.len, fun k x T cs hk hc hv => ⟨(hl k x T cs hk hc hv).1, Nat.lt_of_lt_of_le (hm.loc k x T cs hk hc hv).2 he.size⟩, hm.inj, fun k T cs x hc hr hp => ?_, fun k T fz es n ρ x hc hp => ?_⟩
  · obtain ⟨vs, hv, hrr⟩ := hm.cont k T cs x hc hr hp
    exact ⟨vs, by rw [(hl k x T cs hp hc (liveL_of hr)).2]; exact hv, hrr.imp fun _ _ h => h.grow he.grow⟩
  · have hr := hm.row k T fz es n ρ x hc hp
    refine hr.grow he.grow0 fun hn => ?_
    cases fz with
    | false => exact (hl k x T _ hp hc ⟨rfl, hn⟩).2
    | true => exact he.same _ (hr.frozen hn rfl).2 (.inl (hr.frozen hn rfl).1)

/-- room for one more entry -/
theorem MemRel.extend {F w bs mem} (hm : MemRel F w bs mem) (x : BI) : MemRel F w (bs ++ [x]) (mem ++ [none]) := by
  have g : Grow F F bs (bs ++ [x]) w w := ⟨Nat.le_refl _, fun _ _ h => h, fun _ _ _ => rfl, fun k p hk => nth_append hk⟩
  have keym : ∀ k T cs, nth (mem ++ [none]) k = some (some (T, cs)) → nth mem k = some (some (T, cs)) := by
    intro k T cs h
    rcases nth_append_split h with h | ⟨_, h⟩
    · exact h
    · cases h
  have keyb : ∀ k T cs y, nth mem k = some (some (T, cs)) → nth (bs ++ [x]) k = some y → nth bs k = some y := by
    intro k T cs y hk h
    rcases nth_append_split h with h | ⟨e, _⟩
    · exact h
    · have := nth_lt hk
      rw [← hm.len] at this
      omega
  refine ⟨by simp [hm.len], fun k y T cs hk hc => hm.loc k y T cs (keyb _ _ _ _ (keym _ _ _ hc) hk) (keym _ _ _ hc), fun k k' y y' T cs T' cs' h1 h2 h3 h4 => hm.inj k k' y y' T cs T' cs' (keyb _ _ _ _ (keym _ _ _ h3) h1) (keyb _ _ _ _ (keym _ _ _ h4) h2) (keym _ _ _ h3) (keym _ _ _ h4),
    fun k T cs y hc hr hp => ?_, fun k T fz es n ρ y hc hp => hm.row k T fz es n ρ y (keym _ _ _ hc) (keyb _ _ _ _ (keym _ _ _ hc) hp)⟩
  obtain ⟨vs, h1, h2⟩ := hm.cont k T cs y (keym _ _ _ hc) hr (keyb _ _ _ _ (keym _ _ _ hc) hp)
  exact ⟨vs, h1, h2.imp fun _ _ h => h.grow g⟩

theorem Ext.push {K F w bs F' w' bs'} (he : Ext K F w bs F' w' bs') {x : BI} (h : (∃ y ∈ bs, y.p = x.p) ∨ w.heap.size ≤ x.p) : Ext K F w bs F' w' (bs' ++ [x]) := by
  refine ⟨he.size, he.F1, he.F2, he.same, he.os, he.tape, he.output, fun k y hk hy => nth_append (he.pre k y hk hy), fun y hy => ?_⟩
  rcases List.mem_append.1 hy with hy | hy
  · exact he.mem y hy
  · simp at hy; subst hy; exact h

/-- an entry that is laid -/
theorem MemRel.put {F w bs mem} (hm : MemRel F w bs mem) {b : Nat} {x : BI} (hb : nth bs b = some x) {T : TypeId} {cs : List CV} (hno : ∀ T cs, nth mem b ≠ some (some (T, cs)))
    (hloc : liveL cs → F x.p ∧ x.p < w.heap.size) (hinj : liveL cs → ∀ k y T' cs', nth bs k = some y → nth mem k = some (some (T', cs')) → liveL cs' → y.p ≠ x.p)
    (hcont : isRowL cs = false → ∃ vs : List Value, w.heap[x.p]? = some (.cells vs.toArray T (0, 0)) ∧ All2 (CV.Rel F w bs) cs vs)
    (hrow : ∀ fz es n ρ, cs = [.row fz es n ρ] → RowOk F w x T fz es n ρ) : MemRel F w bs (setN mem b (some (T, cs))) := by
  refine ⟨by rw [setN_eq, List.length_set]; exact hm.len, fun k y T' cs' hk hc hv => ?_, fun k k' y y' T1 cs1 T2 cs2 h1 h2 h3 h4 l1 l2 hp => ?_, fun k T' cs' y hc hr hp => ?_, fun k T' fz es n ρ y hc hp => ?_⟩
  · rcases nth_setN hc with ⟨rfl, h⟩ | ⟨_, h⟩
    · simp at h
      obtain ⟨rfl, rfl⟩ := h
      rw [hb] at hk; simp at hk; subst hk
      exact hloc hv
    · exact hm.loc k y T' cs' hk h hv
  · rcases nth_setN h3 with ⟨e3, g3⟩ | ⟨n3, g3⟩ <;> rcases nth_setN h4 with ⟨e4, g4⟩ | ⟨n4, g4⟩
    · omega
    · simp at g3
      obtain ⟨rfl, rfl⟩ := g3
      subst e3
      rw [hb] at h1; simp at h1; subst h1
      exact (hinj l1 k' y' T2 cs2 h2 g4 l2 hp.symm).elim
    · simp at g4
      obtain ⟨rfl, rfl⟩ := g4
      subst e4
      rw [hb] at h2; simp at h2; subst h2
      exact (hinj l2 k y T1 cs1 h1 g3 l1 hp).elim
    · exact hm.inj k k' y y' T1 cs1 T2 cs2 h1 h2 g3 g4 l1 l2 hp
  · rcases nth_setN hc with ⟨rfl, h⟩ | ⟨_, h⟩
    · simp at h
      obtain ⟨rfl, rfl⟩ := h
      rw [hb] at hp; simp at hp; subst hp
      exact hcont hr
    · exact hm.cont k T' cs' y h hr hp
  · rcases nth_setN hc with ⟨rfl, h⟩ | ⟨_, h⟩
    · simp at h
      obtain ⟨rfl, rfl⟩ := h
      rw [hb] at hp; simp at hp; subst hp
      exact hrow fz es n ρ rfl
    · exact hm.row k T' fz es n ρ y h hp

theorem setN_append_last {α : Type} (l : List α) (x y : α) : setN (l ++ [x]) l.length y = l ++ [y] := by
  rw [setN_eq]
  simp

theorem setN_setN {α : Type} (l : List α) (b : Nat) (x y : α) : setN (setN l b x) b y = setN l b y := by
  rw [setN_eq, setN_eq, setN_eq, List.set_set]

theorem setN_length {α : Type} (l : List α) (b : Nat) (x : α) : (setN l b x).length = l.length := by rw [setN_eq, List.length_set]

/-- a new entry at the end -/
theorem MemRel.push {F w bs mem} (hm : MemRel F w bs mem) (x : BI) {T : TypeId} {cs : List CV}
    (hloc : liveL cs → F x.p ∧ x.p < w.heap.size) (hinj : liveL cs → ∀ k y T' cs', nth bs k = some y → nth mem k = some (some (T', cs')) → liveL cs' → y.p ≠ x.p)
    (hcont : isRowL cs = false → ∃ vs : List Value, w.heap[x.p]? = some (.cells vs.toArray T (0, 0)) ∧ All2 (CV.Rel F w bs) cs vs)
    (hrow : ∀ fz es n ρ, cs = [.row fz es n ρ] → RowOk F w x T fz es n ρ) : MemRel F w (bs ++ [x]) (mem ++ [some (T, cs)]) := by
  have g : Grow F F bs (bs ++ [x]) w w := ⟨Nat.le_refl _, fun _ _ h => h, fun _ _ _ => rfl, fun k p hk => nth_append hk⟩
  have := (hm.extend x).put (b := mem.length) (x := x) (T := T) (cs := cs) (by rw [← hm.len]; exact nth_append_last _ _) (fun T cs h => by rw [nth_append_last] at h; simp at h) hloc (fun hl k y T' cs' hk hc hv => by
    rcases nth_append_split hc with hc | ⟨_, hc⟩
    · rcases nth_append_split hk with hk | ⟨e, _⟩
      · exact hinj hl k y T' cs' hk hc hv
      · have := nth_lt hc
        rw [← hm.len] at this
        omega
    · cases hc) (fun hr => by
    obtain ⟨vs, h1, h2⟩ := hcont hr
    exact ⟨vs, h1, h2.imp fun _ _ h => h.grow g⟩) hrow
  rwa [setN_append_last] at this

theorem Ext.alloc {F w} {bs : List BI} (K : Nat) (e : Obj) : Ext K F w bs (fun p => F p ∨ p = w.heap.size) (w.alloc e) bs := by
  refine ⟨by simp, fun p hp h => ?_, fun p h _ _ => .inl h, fun p hp _ => Below.heap_alloc _ _ _ hp, rfl, rfl, rfl, fun _ _ _ h => h, fun x h => .inl ⟨x, h, rfl⟩⟩
  rcases h with h | h
  · exact h
  · omega

theorem MemRel.alloc {F w bs mem} (hm : MemRel F w bs mem) (e : Obj) : MemRel (fun p => F p ∨ p = w.heap.size) (w.alloc e) bs mem :=
  hm.move (Ext.alloc _ e) fun k x T cs hk hc hv => ⟨.inl (hm.loc k x T cs hk hc hv).1, Below.heap_alloc _ _ _ (hm.loc k x T cs hk hc hv).2⟩

/-- a new block -/
theorem alloc_ok {F w bs mem} (hm : MemRel F w bs mem) (e : TypeId) {cs : List CV} {vs : List Value} (hr : All2 (CV.Rel F w bs) cs vs) (hrow : isRowL cs = false) :
    ∃ F' bs', Ext bs.length F w bs F' (w.alloc (.cells vs.toArray e)) bs' ∧ MemRel F' (w.alloc (.cells vs.toArray e)) bs' (mem ++ [some (e, cs)]) ∧ nth bs' mem.length = some ⟨w.heap.size, 0, 0⟩ := by
  have he := Ext.alloc (F := F) (bs := bs) bs.length (.cells vs.toArray e : Obj) (w := w)
  refine ⟨_, bs ++ [⟨w.heap.size, 0, 0⟩], he.push (.inr (Nat.le_refl _)), ?_, by rw [← hm.len]; exact nth_append_last _ _⟩
  · refine (hm.alloc _).push ⟨w.heap.size, 0, 0⟩ (fun _ => ⟨.inr rfl, by simp⟩) (fun _ k y T' cs' hk hc hv => ?_) (fun _ => ⟨vs, by show (w.heap.push _)[_]? = _; simp, hr.imp fun _ _ h => h.grow he.grow⟩) (fun fz es n ρ h => by subst h; simp [isRowL] at hrow)
    have := (hm.loc k y T' cs' hk hc hv).2
    simp only; omega

/-- a block that is written anew, its entry given up for the while -/
theorem MemRel.rewrite {F w bs mem} (hm : MemRel F w bs mem) {b : Nat} {x : BI} (hb : nth bs b = some x) {T : TypeId} {old : List CV} (hold : nth mem b = some (some (T, old))) (hl : liveL old) (arr : Array Value) :
    Ext bs.length F w bs F (w.setRow x.p arr) bs ∧ MemRel F (w.setRow x.p arr) bs (setN mem b none) := by
  have hsz : (w.setRow x.p arr).heap.size = w.heap.size := by simp [World.setRow]
  have hF := hm.loc b x T old hb hold hl
  have hext : Ext bs.length F w bs F (w.setRow x.p arr) bs := by
    refine ⟨by rw [hsz]; exact Nat.le_refl _, fun _ _ h => h, fun _ h _ _ => h, fun q hq hn => setRow_other w x.p q _ (fun e => ?_), rfl, rfl, rfl, fun _ _ _ h => h, fun y h => .inl ⟨y, h, rfl⟩⟩
    subst e
    rcases hn with hn | hn
    · exact hn hF.1
    · exact hn x (nth_mem hb) rfl
  refine ⟨hext, (hm.kill b).move hext fun k y T' cs' hk hc hv => ⟨((hm.kill b).loc k y T' cs' hk hc hv).1, setRow_other w x.p y.p _ fun e => ?_⟩⟩
  rcases nth_setN hc with ⟨_, h⟩ | ⟨hne, h⟩
  · cases h
  · exact hne (hm.inj k b y x T' cs' T old hk hb h hold hv hl e)

theorem MemRel.rewrite_inj {F w bs mem} (hm : MemRel F w bs mem) {b : Nat} {x : BI} (hb : nth bs b = some x) {T : TypeId} {old : List CV} (hold : nth mem b = some (some (T, old))) (hl : liveL old) :
    ∀ k y T' cs', nth bs k = some y → nth (setN mem b none) k = some (some (T', cs')) → liveL cs' → y.p ≠ x.p := by
  intro k y T' cs' hk hc hv e
  rcases nth_setN hc with ⟨_, h⟩ | ⟨hne, h⟩
  · cases h
  · exact hne (hm.inj k b y x T' cs' T old hk hb h hold hv hl e)

theorem killed_no {mem : Mem} {b : Nat} : ∀ T cs, nth (setN mem b none) b ≠ some (some (T, cs)) := by
  intro T cs h
  rcases nth_setN h with ⟨_, h⟩ | ⟨hne, _⟩
  · cases h
  · exact hne rfl

/-- a store into a block of one's own -/
theorem setRow_ok {F w bs mem} (hm : MemRel F w bs mem) {b : Nat} {x : BI} (hb : nth bs b = some x) {T : TypeId} {old : List CV} (hold : nth mem b = some (some (T, old))) (hro : isRowL old = false) {cs : List CV} {vs : List Value} (hr : All2 (CV.Rel F w bs) cs vs) (hrc : isRowL cs = false) :
    Ext bs.length F w bs F (w.setRow x.p vs.toArray) bs ∧ MemRel F (w.setRow x.p vs.toArray) bs (setN mem b (some (T, cs))) := by
  obtain ⟨hext, hm'⟩ := hm.rewrite hb hold (liveL_of hro) vs.toArray
  refine ⟨hext, ?_⟩
  have hF := hm.loc b x T old hb hold (liveL_of hro)
  have := hm'.put hb (T := T) (cs := cs) killed_no (fun _ => ⟨hF.1, by simpa [World.setRow] using hF.2⟩) (fun _ => hm.rewrite_inj hb hold (liveL_of hro)) (fun _ => ?_) (fun fz es n ρ h => by subst h; simp [isRowL] at hrc)
  · rwa [setN_setN] at this
  · obtain ⟨us, hu, _⟩ := hm.cont b T old x hold hro hb
    exact ⟨vs, setRow_heap w x.p _ _ _ _ hu, hr.imp fun _ _ h => h.grow hext.grow⟩

theorem rowAt_some {mem : Mem} {b : Nat} {T : TypeId} {fz : Bool} {es : List Sh} {n : Nat} {ρ : Val} (h : rowAt mem b = some (T, fz, es, n, ρ)) : nth mem b = some (some (T, [.row fz es n ρ])) := by
  unfold rowAt at h
  split at h
  · rename_i hm
    simp at h
    obtain ⟨rfl, rfl, rfl, rfl, rfl⟩ := h
    exact hm
  · simp at h

/-- a row's head, as plain data, where the row isn't written any more -/
theorem os_sl {F F' w bs} {b : Nat} {x : BI} (hb : nth bs b = some x) {T fz es n ρ} (hr : RowOk F' w x T fz es n ρ) (hF : 0 < n → ¬ F' x.p) {sz : Nat} (_hsz : es.length = sz) {v : Value} (h : CV.Rel F w bs (.os b sz) v) (bs' : List BI) : CV.Rel F' w bs' (.sl es n ρ) v := by
  cases h with
  | os h1 h2 =>
    rename_i y base
    rw [hb] at h1; simp at h1; subst h1
    have hn := hr.len
    rcases Nat.eq_zero_or_pos n with h0 | h0
    · have hc := hr.cap0 h0
      rw [hn, hc, h0]
      cases base with
      | none => exact .slnil
      | some a => exact .sl (fun _ _ => undef) (Nat.le_refl _) (fun h => by omega) (fun i f h => by omega) (fun i f s h => by omega)
    · obtain ⟨arr, ha, hs, val, h3, h4⟩ := hr.block h0
      rw [h2 (by omega), hn]
      refine .sl val (hr.cap h0).1 (fun _ => ⟨rfl, (Array.getElem?_eq_some_iff.1 ha).1, hF h0⟩) (fun i f hi hf => ?_) h4
      rw [cell_of_row w x.p _ arr T _ ha]
      simpa using h3 i f hi hf

/-- freezing a row -/
theorem MemRel.freeze {F w bs mem} (hm : MemRel F w bs mem) {b : Nat} {x : BI} (hb : nth bs b = some x) {T fz es n ρ} (hrow : nth mem b = some (some (T, [.row fz es n ρ]))) :
    ∃ F', Ext bs.length F w bs F' w bs ∧ MemRel F' w bs (setN mem b (some (T, [.row true es n ρ]))) ∧ RowOk F' w x T true es n ρ ∧ (0 < n → ¬ F' x.p) := by
  have hr := hm.row b T fz es n ρ x hrow hb
  by_cases hc : 0 < n ∧ fz = false
  · obtain ⟨h0, rfl⟩ := hc
    have hl : liveL [CV.row false es n ρ] := ⟨rfl, h0⟩
    have hF := hm.loc b x T _ hb hrow hl
    have hext : Ext bs.length F w bs (fun p => F p ∧ p ≠ x.p) w bs := ⟨Nat.le_refl _, fun _ _ h => h.1, fun p h _ hn => ⟨h, fun e => hn x (nth_mem hb) e.symm⟩, fun _ _ _ => rfl, rfl, rfl, rfl, fun _ _ _ h => h, fun y h => .inl ⟨y, h, rfl⟩⟩
    have hm' := (hm.kill b).move hext fun k y T' cs' hk hc hv => ⟨⟨((hm.kill b).loc k y T' cs' hk hc hv).1, hm.rewrite_inj hb hrow hl k y T' cs' hk hc hv⟩, rfl⟩
    have hok : RowOk (fun p => F p ∧ p ≠ x.p) w x T true es n ρ := by
      have := hr.grow hext.grow0 fun _ => rfl
      exact ⟨this.len, this.cap0, this.cap, this.block, fun _ _ => ⟨fun h => h.2 rfl, hF.2⟩⟩
    refine ⟨_, hext, ?_, hok, fun _ h => h.2 rfl⟩
    have := hm'.put hb (T := T) (cs := [.row true es n ρ]) killed_no (fun h => by cases h.1) (fun h => by cases h.1) (fun h => by simp [isRowL] at h) (fun fz' es' n' ρ' h => by simp at h; obtain ⟨rfl, rfl, rfl, rfl⟩ := h; exact hok)
    rwa [setN_setN] at this
  · have hok : RowOk F w x T true es n ρ := ⟨hr.len, hr.cap0, hr.cap, hr.block, fun h0 _ => hr.frozen h0 (by cases fz; exact (hc ⟨h0, rfl⟩).elim; rfl)⟩
    refine ⟨F, Ext.refl, ?_, hok, fun h0 => (hok.frozen h0 rfl).1⟩
    have := (hm.kill b).put hb (T := T) (cs := [.row true es n ρ]) killed_no (fun h => by cases h.1) (fun h => by cases h.1) (fun h => by simp [isRowL] at h) (fun fz' es' n' ρ' h => by simp at h; obtain ⟨rfl, rfl, rfl, rfl⟩ := h; exact hok)
    rwa [setN_setN] at this

theorem frzC_ok {F w bs mem} (hm : MemRel F w bs mem) {x : CV} {v : Value} (h : CV.Rel F w bs x v) :
    ∃ F', Ext bs.length F w bs F' w bs ∧ MemRel F' w bs (frzC mem x).1 ∧ CV.Rel F' w bs (frzC mem x).2 v := by
  unfold frzC
  split
  · rename_i b sz
    split
    · rename_i T fz es n ρ hrow
      split
      · rename_i hsz
        have hrow := rowAt_some hrow
        obtain ⟨x, hb⟩ : ∃ x, nth bs b = some x := by cases h; exact ⟨_, by assumption⟩
        obtain ⟨F', he, hm', hok, hF⟩ := hm.freeze hb hrow
        exact ⟨F', he, hm', os_sl hb hok hF (by simpa using hsz) h bs⟩
      · exact ⟨F, Ext.refl, hm, h⟩
    · exact ⟨F, Ext.refl, hm, h⟩
  · exact ⟨F, Ext.refl, hm, h⟩

theorem frzCs_ok : ∀ {l : List CV} {F w bs mem} {vs : List Value}, MemRel F w bs mem → All2 (CV.Rel F w bs) l vs →
    ∃ F', Ext bs.length F w bs F' w bs ∧ MemRel F' w bs (frzCs mem l).1 ∧ All2 (CV.Rel F' w bs) (frzCs mem l).2 vs
  | [], F, w, bs, mem, vs, hm, h => by cases h; exact ⟨F, Ext.refl, hm, .nil⟩
  | x :: r, F, w, bs, mem, vs, hm, h => by
    cases h with
    | cons h1 h2 =>
      obtain ⟨F1, e1, m1, r1⟩ := frzC_ok hm h1
      obtain ⟨F2, e2, m2, r2⟩ := frzCs_ok m1 (h2.imp fun _ _ h => h.grow e1.grow)
      exact ⟨F2, e1.trans e2 (Nat.le_refl _), m2, .cons (r1.grow e2.grow) r2⟩

theorem frz1_ok {F w bs mem} (hm : MemRel F w bs mem) {x : A1} {v : Value} (h : A1.Rel F w bs x v) :
    ∃ F', Ext bs.length F w bs F' w bs ∧ MemRel F' w bs (frz1 mem x).1 ∧ A1.Rel F' w bs (frz1 mem x).2 v := by
  cases x with
  | c x => exact frzC_ok hm h
  | agg l =>
    obtain ⟨vs, rfl, h⟩ := h
    obtain ⟨F', e, m, r⟩ := frzCs_ok hm h
    exact ⟨F', e, m, vs, rfl, r⟩

theorem frz1s_ok : ∀ {l : List A1} {F w bs mem} {vs : List Value}, MemRel F w bs mem → All2 (A1.Rel F w bs) l vs →
    ∃ F', Ext bs.length F w bs F' w bs ∧ MemRel F' w bs (frz1s mem l).1 ∧ All2 (A1.Rel F' w bs) (frz1s mem l).2 vs
  | [], F, w, bs, mem, vs, hm, h => by cases h; exact ⟨F, Ext.refl, hm, .nil⟩
  | x :: r, F, w, bs, mem, vs, hm, h => by
    cases h with
    | cons h1 h2 =>
      obtain ⟨F1, e1, m1, r1⟩ := frz1_ok hm h1
      obtain ⟨F2, e2, m2, r2⟩ := frz1s_ok m1 (h2.imp fun _ _ h => A1.Rel.grow e1.grow h)
      exact ⟨F2, e1.trans e2 (Nat.le_refl _), m2, .cons (A1.Rel.grow e2.grow r1) r2⟩

/-- outside the call's own blocks -/
def outF (F : Nat → Prop) (bs : List BI) : Nat → Prop := fun p => F p ∧ ∀ x ∈ bs, x.p ≠ p

theorem outF_grow {F w bs} : Grow F (outF F bs) bs bs w w := ⟨Nat.le_refl _, fun _ _ h => h.1, fun _ _ _ => rfl, fun _ _ h => h⟩

theorem viewC_ok {F w bs mem} (hm : MemRel F w bs mem) {x : CV} {v : Value} (h : CV.Rel F w bs x v) (hc : closedC (viewC mem x) = true) : CV.Rel (outF F bs) w [] (viewC mem x) v := by
  have plain : closedC x = true → CV.Rel (outF F bs) w [] x v := fun hx => CV.Rel.closed (h.grow outF_grow) hx
  unfold viewC at hc ⊢
  split at hc
  · rename_i b sz
    split at hc
    · rename_i T fz es n ρ hrow
      split at hc
      · rename_i hsz
        have hrow := rowAt_some hrow
        obtain ⟨x, hb⟩ : ∃ x, nth bs b = some x := by cases h; exact ⟨_, by assumption⟩
        have hr := hm.row b T fz es n ρ x hrow hb
        have hr' : RowOk (outF F bs) w x T fz es n ρ := hr.grow ⟨Nat.le_refl _, fun _ _ h => h.1, fun _ _ _ => rfl, fun k p h => by simp [nth] at h⟩ fun _ => rfl
        rw [if_pos hsz]
        exact os_sl hb hr' (fun _ hF => hF.2 x (nth_mem hb) rfl) (by simpa using hsz) h []
      · simp [closedC] at hc
    · simp [closedC] at hc
  · exact plain hc

theorem view1_ok {F w bs mem} (hm : MemRel F w bs mem) {x : A1} {v : Value} (h : A1.Rel F w bs x v) (hc : closedA (view1 mem x) = true) : A1.Rel (outF F bs) w [] (view1 mem x) v := by
  cases x with
  | c x => exact viewC_ok hm h hc
  | agg l =>
    obtain ⟨vs, rfl, h⟩ := h
    refine ⟨vs, rfl, ?_⟩
    simp only [view1, closedA, List.all_map, List.all_eq_true] at hc
    induction h with
    | nil => exact .nil
    | cons h _ ih => exact .cons (viewC_ok hm h (hc _ (by simp))) (ih fun x hx => hc x (by simp [hx]))

theorem viewC_closed {mem : Mem} {x : CV} (h : closedC x = true) : viewC mem x = x := by
  unfold viewC
  split
  · simp [closedC] at h
  · rfl

theorem view1_closed {mem : Mem} {x : A1} (h : closedA x = true) : view1 mem x = x := by
  cases x with
  | c x => simp only [view1]; rw [viewC_closed h]
  | agg l =>
    simp only [closedA, List.all_eq_true] at h
    simp only [view1]
    congr 1
    refine (List.map_congr_left fun x hx => viewC_closed (h x hx)).trans (List.map_id _)

theorem flatC_any {F w bs x v} (h : CV.Rel F w bs x v) (hf : flatC x = true) (F' w' bs') : CV.Rel F' w' bs' x v := by
  cases h <;> first | (simp [flatC] at hf; done) | constructor

theorem flat1_any {F w bs} {x : A1} {v : Value} (h : A1.Rel F w bs x v) (hf : flat1 x = true) (F' w' bs') : A1.Rel F' w' bs' x v := by
  cases x with
  | c x => exact flatC_any h hf _ _ _
  | agg l =>
    obtain ⟨vs, rfl, h⟩ := h
    refine ⟨vs, rfl, ?_⟩
    simp only [flat1, List.all_eq_true] at hf
    induction h with
    | nil => exact .nil
    | cons h _ ih => exact .cons (flatC_any h (hf _ (by simp)) _ _ _) (ih fun x hx => hf x (by simp [hx]))

theorem flatA_any {F w bs} {x : AV} {v : Value} (h : AV.Rel F w bs x v) (hf : flatA x = true) (F' w' bs') : AV.Rel F' w' bs' x v := by
  cases x with
  | any => simp [flatA] at hf
  | one x => exact flat1_any h hf _ _ _
  | tup l =>
    obtain ⟨vs, rfl, h⟩ := h
    refine ⟨vs, rfl, ?_⟩
    simp only [flatA, List.all_eq_true] at hf
    induction h with
    | nil => exact .nil
    | cons h _ ih => exact .cons (flat1_any h (hf _ (by simp)) _ _ _) (ih fun x hx => hf x (by simp [hx]))

/-- a value that fits a shape, as a datum -/
theorem fits_rel {F w bs} {s : Sh} {x : CV} {v : Value} (h : CV.Rel F w bs x v) (hf : fits s x = true) : CV.Rel F w [] (cellOf s (Val.ofC x)) v := by
  unfold fits at hf
  split at hf
  · cases h; exact .bool _
  · cases h
    have := of_decide_eq_true hf
    subst this
    exact .int _ _
  · cases h; exact .str _
  · have := shsEq_eq hf
    subst this
    cases h with
    | slnil => exact .slnil
    | sl val hn h0 hc hr => exact .sl val hn h0 hc hr
  · cases h; exact .slnil
  · simp at hf

theorem pickV_true (a b : Val) : pickV true a b = a := rfl
theorem pickV_false (a b : Val) : pickV false a b = b := rfl
theorem byFst_at (f : Nat → Val) (i : Nat) : (Val.byFst f).at i = f i := rfl

end
end Go.Sx
