/-
  The evaluator's soundness (part O): the steps of a memory.
-/
import Derived.Test.YtennlgngdjegoaaEnA
import Derived.Deep.AppendSrc
import Derived.Laws.AppendOwn
import Derived.Great.BuildSlice
import Derived.Laws.Slices
import Derived.Laws.MakeOwn
import Derived.Laws.CopyRow
import Derived.RangeFuncRecord
namespace Go.Sx
open Go Go.RowKit

section
variable {P : Program}

theorem nth_append_last {α : Type} (l : List α) (x : α) : nth (l ++ [x]) l.length = some x := by
  rw [nth_eq]; simp

theorem nth_append_split {α : Type} {l : List α} {x : α} {k : Nat} {p : α} (h : nth (l ++ [x]) k = some p) : nth l k = some p ∨ (k = l.length ∧ p = x) := by
  rw [nth_eq] at h
  rcases Nat.lt_or_ge k l.length with hk | hk
  · left; rw [nth_eq]; rwa [List.getElem?_append_left hk] at h
  · right
    rw [List.getElem?_append_right hk] at h
    rcases Nat.eq_zero_or_pos (k - l.length) with h0 | h0
    · rw [h0] at h; simp at h; exact ⟨by omega, h.symm⟩
    · rw [List.getElem?_eq_none (by simp; omega)] at h; simp at h

theorem nth_setN {α : Type} {l : List α} {b k : Nat} {y z : α} (h : nth (setN l b y) k = some z) : (k = b ∧ z = y) ∨ (k ≠ b ∧ nth l k = some z) := by
  rw [setN_eq, nth_eq, List.getElem?_set] at h
  by_cases hk : b = k
  · subst hk
    rw [if_pos rfl] at h
    split at h
    · simp at h; exact .inl ⟨rfl, h.symm⟩
    · simp at h
  · rw [if_neg hk] at h
    exact .inr ⟨fun e => hk e.symm, by rw [nth_eq]; exact h⟩

/-- an entry that is given up -/
theorem MemRel.kill {F w bs mem} (hm : MemRel P F w bs mem) (b : Nat) : MemRel P F w bs (setN mem b none) := by
  have key : ∀ k T cs, nth (setN mem b none) k = some (some (T, cs)) → nth mem k = some (some (T, cs)) := by
    intro k T cs h
    rcases nth_setN h with ⟨_, h⟩ | ⟨_, h⟩
    · cases h
    · exact h
  exact ⟨by rw [setN_eq, List.length_set]; exact hm.len, fun k x T cs hk hc => hm.loc k x T cs hk (key _ _ _ hc), fun k k' x x' T cs T' cs' h1 h2 h3 h4 => hm.inj k k' x x' T cs T' cs' h1 h2 (key _ _ _ h3) (key _ _ _ h4),
    fun k T cs x hc => hm.cont k T cs x (key _ _ _ hc), fun k T fz es n ρ x hc => hm.row k T fz es n ρ x (key _ _ _ hc), fun k T f i st cs x hc => hm.lp k T f i st cs x (key _ _ _ hc)⟩

/-- a world that has gone on, while the blocks that are written stayed as they were -/
theorem MemRel.move {F w bs mem F' w'} (hm : MemRel P F w bs mem) (he : Ext bs.length F w bs F' w' bs)
    (hl : ∀ k x T cs, nth bs k = some x → nth mem k = some (some (T, cs)) → liveL x cs → F' x.p ∧ w'.heap[x.p]? = w.heap[x.p]?) : MemRel P F' w' bs mem := by
  refine ⟨hm.len, fun k x T cs hk hc hv => ⟨(hl k x T cs hk hc hv).1, Nat.lt_of_lt_of_le (hm.loc k x T cs hk hc hv).2 he.size⟩, hm.inj, fun k T cs x hc hr hp => ?_, fun k T fz es n ρ x hc hp => ?_, fun k T f i st cs x hc hp => (hm.lp k T f i st cs x hc hp).grow he.grow (hl k x T _ hp hc liveL_lp).2⟩
  · obtain ⟨vs, hv, hrr⟩ := hm.cont k T cs x hc hr hp
    exact ⟨vs, by rw [(hl k x T cs hp hc (liveL_of hr)).2]; exact hv, hrr.imp fun _ _ h => h.grow he.grow⟩
  · have hr := hm.row k T fz es n ρ x hc hp
    refine hr.grow he.grow0 fun hn => ?_
    cases fz with
    | false => exact (hl k x T _ hp hc ⟨rfl, hn⟩).2
    | true => exact he.same _ (hr.frz hn rfl).2 (.inl (hr.frz hn rfl).1)

/-- room for one more entry -/
theorem MemRel.extend {F w bs mem} (hm : MemRel P F w bs mem) (x : BI) : MemRel P F w (bs ++ [x]) (mem ++ [none]) := by
  have g : Grow F F bs (bs ++ [x]) w w := ⟨Nat.le_refl _, fun _ _ h => h, fun _ _ _ => rfl, fun k p hk => nth_append hk⟩
  have keym : ∀ k T cs, nth (mem ++ [none]) k = some (some (T, cs)) → nth mem k = some (some (T, cs)) := by
    intro k T cs h
    rcases nth_append_split h with h | ⟨_, h⟩
    · exact h
    · cases h
  have keyb : ∀ k T cs y, nth mem k = some (some (T, cs)) → nth (bs ++ [x]) k = some y → nth bs k = some y := by
    intro k T cs y hk h
    rcases nth_append_split h with h | ⟨e, _⟩
    · exact h
    · have := nth_lt hk
      rw [← hm.len] at this
      omega
  refine ⟨by simp [hm.len], fun k y T cs hk hc => hm.loc k y T cs (keyb _ _ _ _ (keym _ _ _ hc) hk) (keym _ _ _ hc), fun k k' y y' T cs T' cs' h1 h2 h3 h4 => hm.inj k k' y y' T cs T' cs' (keyb _ _ _ _ (keym _ _ _ h3) h1) (keyb _ _ _ _ (keym _ _ _ h4) h2) (keym _ _ _ h3) (keym _ _ _ h4),
    fun k T cs y hc hr hp => ?_, fun k T fz es n ρ y hc hp => hm.row k T fz es n ρ y (keym _ _ _ hc) (keyb _ _ _ _ (keym _ _ _ hc) hp),
    fun k T f i st cs y hc hp => (hm.lp k T f i st cs y (keym _ _ _ hc) (keyb _ _ _ _ (keym _ _ _ hc) hp)).grow g rfl⟩
  obtain ⟨vs, h1, h2⟩ := hm.cont k T cs y (keym _ _ _ hc) hr (keyb _ _ _ _ (keym _ _ _ hc) hp)
  exact ⟨vs, h1, h2.imp fun _ _ h => h.grow g⟩

theorem Ext.push {K F w bs F' w' bs'} (he : Ext K F w bs F' w' bs') {x : BI} (h : (∃ y ∈ bs, y.p = x.p) ∨ w.heap.size ≤ x.p) : Ext K F w bs F' w' (bs' ++ [x]) := by
  refine ⟨he.size, he.F1, he.F2, he.same, he.os, he.tape, he.output, fun k y hk hy => nth_append (he.pre k y hk hy), fun y hy => ?_⟩
  rcases List.mem_append.1 hy with hy | hy
  · exact he.mem y hy
  · simp at hy; subst hy; exact h

/-- an entry that is laid -/
theorem MemRel.put {F w bs mem} (hm : MemRel P F w bs mem) {b : Nat} {x : BI} (hb : nth bs b = some x) {T : TypeId} {cs : List CV} (hno : ∀ T cs, nth mem b ≠ some (some (T, cs)))
    (hloc : liveL x cs → F x.p ∧ x.p < w.heap.size) (hinj : liveL x cs → ∀ k y T' cs', nth bs k = some y → nth mem k = some (some (T', cs')) → liveL y cs' → y.p ≠ x.p)
    (hcont : isRowL cs = false → ∃ vs : List Value, w.heap[x.p]? = some (.cells vs.toArray T (0, 0)) ∧ All2 (CV.Rel F w bs) cs vs)
    (hrow : ∀ fz es n ρ, cs = [.row fz es n ρ] → RowOk F w x T fz es n ρ) (hlp : ∀ f i st cs', cs = .lp f i st :: cs' → LpOk P F w bs x f i st cs' := by intro f i st cs' h; simp at h) : MemRel P F w bs (setN mem b (some (T, cs))) := by
  refine ⟨by rw [setN_eq, List.length_set]; exact hm.len, fun k y T' cs' hk hc hv => ?_, fun k k' y y' T1 cs1 T2 cs2 h1 h2 h3 h4 l1 l2 hp => ?_, fun k T' cs' y hc hr hp => ?_, fun k T' fz es n ρ y hc hp => ?_, fun k T' f i st cs' y hc hp => ?_⟩
  · rcases nth_setN hc with ⟨rfl, h⟩ | ⟨_, h⟩
    · simp at h
      obtain ⟨rfl, rfl⟩ := h
      rw [hb] at hk; simp at hk; subst hk
      exact hloc hv
    · exact hm.loc k y T' cs' hk h hv
  · rcases nth_setN h3 with ⟨e3, g3⟩ | ⟨n3, g3⟩ <;> rcases nth_setN h4 with ⟨e4, g4⟩ | ⟨n4, g4⟩
    · omega
    · simp at g3
      obtain ⟨rfl, rfl⟩ := g3
      subst e3
      rw [hb] at h1; simp at h1; subst h1
      exact (hinj l1 k' y' T2 cs2 h2 g4 l2 hp.symm).elim
    · simp at g4
      obtain ⟨rfl, rfl⟩ := g4
      subst e4
      rw [hb] at h2; simp at h2; subst h2
      exact (hinj l2 k y T1 cs1 h1 g3 l1 hp).elim
    · exact hm.inj k k' y y' T1 cs1 T2 cs2 h1 h2 g3 g4 l1 l2 hp
  · rcases nth_setN hc with ⟨rfl, h⟩ | ⟨_, h⟩
    · simp at h
      obtain ⟨rfl, rfl⟩ := h
      rw [hb] at hp; simp at hp; subst hp
      exact hcont hr
    · exact hm.cont k T' cs' y h hr hp
  · rcases nth_setN hc with ⟨rfl, h⟩ | ⟨_, h⟩
    · simp at h
      obtain ⟨rfl, rfl⟩ := h
      rw [hb] at hp; simp at hp; subst hp
      exact hrow fz es n ρ rfl
    · exact hm.row k T' fz es n ρ y h hp
  · rcases nth_setN hc with ⟨rfl, h⟩ | ⟨_, h⟩
    · simp at h
      obtain ⟨rfl, rfl⟩ := h
      rw [hb] at hp; simp at hp; subst hp
      exact hlp f i st cs' rfl
    · exact hm.lp k T' f i st cs' y h hp

theorem setN_append_last {α : Type} (l : List α) (x y : α) : setN (l ++ [x]) l.length y = l ++ [y] := by
  rw [setN_eq]
  simp

theorem setN_setN {α : Type} (l : List α) (b : Nat) (x y : α) : setN (setN l b x) b y = setN l b y := by
  rw [setN_eq, setN_eq, setN_eq, List.set_set]

theorem setN_length {α : Type} (l : List α) (b : Nat) (x : α) : (setN l b x).length = l.length := by rw [setN_eq, List.length_set]

/-- a new entry at the end -/
theorem MemRel.push {F w bs mem} (hm : MemRel P F w bs mem) (x : BI) {T : TypeId} {cs : List CV}
    (hloc : liveL x cs → F x.p ∧ x.p < w.heap.size) (hinj : liveL x cs → ∀ k y T' cs', nth bs k = some y → nth mem k = some (some (T', cs')) → liveL y cs' → y.p ≠ x.p)
    (hcont : isRowL cs = false → ∃ vs : List Value, w.heap[x.p]? = some (.cells vs.toArray T (0, 0)) ∧ All2 (CV.Rel F w bs) cs vs)
    (hrow : ∀ fz es n ρ, cs = [.row fz es n ρ] → RowOk F w x T fz es n ρ) (hlp : ∀ f i st cs', cs = .lp f i st :: cs' → LpOk P F w bs x f i st cs' := by intro f i st cs' h; simp at h) : MemRel P F w (bs ++ [x]) (mem ++ [some (T, cs)]) := by
  have g : Grow F F bs (bs ++ [x]) w w := ⟨Nat.le_refl _, fun _ _ h => h, fun _ _ _ => rfl, fun k p hk => nth_append hk⟩
  have := (hm.extend x).put (b := mem.length) (x := x) (T := T) (cs := cs) (by rw [← hm.len]; exact nth_append_last _ _) (fun T cs h => by rw [nth_append_last] at h; simp at h) hloc (fun hl k y T' cs' hk hc hv => by
    rcases nth_append_split hc with hc | ⟨_, hc⟩
    · rcases nth_append_split hk with hk | ⟨e, _⟩
      · exact hinj hl k y T' cs' hk hc hv
      · have := nth_lt hc
        rw [← hm.len] at this
        omega
    · cases hc) (fun hr => by
    obtain ⟨vs, h1, h2⟩ := hcont hr
    exact ⟨vs, h1, h2.imp fun _ _ h => h.grow g⟩) hrow (fun f i st cs' h => (hlp f i st cs' h).grow g rfl)
  rwa [setN_append_last] at this

theorem Ext.alloc {F w} {bs : List BI} (K : Nat) (e : Obj) : Ext K F w bs (fun p => F p ∨ p = w.heap.size) (w.alloc e) bs := by
  refine ⟨by simp, fun p hp h => ?_, fun p h _ _ => .inl h, fun p hp _ => Below.heap_alloc _ _ _ hp, rfl, rfl, rfl, fun _ _ _ h => h, fun x h => .inl ⟨x, h, rfl⟩⟩
  rcases h with h | h
  · exact h
  · omega

theorem MemRel.alloc {F w bs mem} (hm : MemRel P F w bs mem) (e : Obj) : MemRel P (fun p => F p ∨ p = w.heap.size) (w.alloc e) bs mem :=
  hm.move (Ext.alloc _ e) fun k x T cs hk hc hv => ⟨.inl (hm.loc k x T cs hk hc hv).1, Below.heap_alloc _ _ _ (hm.loc k x T cs hk hc hv).2⟩

/-- a new block -/
theorem alloc_ok {F w bs mem} (hm : MemRel P F w bs mem) (e : TypeId) {cs : List CV} {vs : List Value} (hr : All2 (CV.Rel F w bs) cs vs) (hrow : isRowL cs = false) :
    ∃ F' bs', Ext bs.length F w bs F' (w.alloc (.cells vs.toArray e)) bs' ∧ MemRel P F' (w.alloc (.cells vs.toArray e)) bs' (mem ++ [some (e, cs)]) ∧ nth bs' mem.length = some ⟨w.heap.size, 0, 0⟩ := by
  have he := Ext.alloc (F := F) (bs := bs) bs.length (.cells vs.toArray e : Obj) (w := w)
  refine ⟨_, bs ++ [⟨w.heap.size, 0, 0⟩], he.push (.inr (Nat.le_refl _)), ?_, by rw [← hm.len]; exact nth_append_last _ _⟩
  · refine (hm.alloc _).push ⟨w.heap.size, 0, 0⟩ (fun _ => ⟨.inr rfl, by simp⟩) (fun _ k y T' cs' hk hc hv => ?_) (fun _ => ⟨vs, by show (w.heap.push _)[_]? = _; simp, hr.imp fun _ _ h => h.grow he.grow⟩) (fun fz es n ρ h => by subst h; simp [isRowL] at hrow) (fun f i st cs' h => by subst h; simp [isRowL] at hrow)
    have := (hm.loc k y T' cs' hk hc hv).2
    simp only; omega

/-- a block that is written anew, its entry given up for the while -/
theorem MemRel.rewrite {F w bs mem} (hm : MemRel P F w bs mem) {b : Nat} {x : BI} (hb : nth bs b = some x) {T : TypeId} {old : List CV} (hold : nth mem b = some (some (T, old))) (hl : liveL x old) (arr : Array Value) :
    Ext bs.length F w bs F (w.setRow x.p arr) bs ∧ MemRel P F (w.setRow x.p arr) bs (setN mem b none) := by
  have hsz : (w.setRow x.p arr).heap.size = w.heap.size := by simp [World.setRow]
  have hF := hm.loc b x T old hb hold hl
  have hext : Ext bs.length F w bs F (w.setRow x.p arr) bs := by
    refine ⟨by rw [hsz]; exact Nat.le_refl _, fun _ _ h => h, fun _ h _ _ => h, fun q hq hn => setRow_other w x.p q _ (fun e => ?_), rfl, rfl, rfl, fun _ _ _ h => h, fun y h => .inl ⟨y, h, rfl⟩⟩
    subst e
    rcases hn with hn | hn
    · exact hn hF.1
    · exact hn x (nth_mem hb) rfl
  refine ⟨hext, (hm.kill b).move hext fun k y T' cs' hk hc hv => ⟨((hm.kill b).loc k y T' cs' hk hc hv).1, setRow_other w x.p y.p _ fun e => ?_⟩⟩
  rcases nth_setN hc with ⟨_, h⟩ | ⟨hne, h⟩
  · cases h
  · exact hne (hm.inj k b y x T' cs' T old hk hb h hold hv hl e)

theorem MemRel.rewrite_inj {F w bs mem} (hm : MemRel P F w bs mem) {b : Nat} {x : BI} (hb : nth bs b = some x) {T : TypeId} {old : List CV} (hold : nth mem b = some (some (T, old))) (hl : liveL x old) :
    ∀ k y T' cs', nth bs k = some y → nth (setN mem b none) k = some (some (T', cs')) → liveL y cs' → y.p ≠ x.p := by
  intro k y T' cs' hk hc hv e
  rcases nth_setN hc with ⟨_, h⟩ | ⟨hne, h⟩
  · cases h
  · exact hne (hm.inj k b y x T' cs' T old hk hb h hold hv hl e)

theorem killed_no {mem : Mem} {b : Nat} : ∀ T cs, nth (setN mem b none) b ≠ some (some (T, cs)) := by
  intro T cs h
  rcases nth_setN h with ⟨_, h⟩ | ⟨hne, _⟩
  · cases h
  · exact hne rfl

/-- a store into a block of one's own -/
theorem setRow_ok {F w bs mem} (hm : MemRel P F w bs mem) {b : Nat} {x : BI} (hb : nth bs b = some x) {T : TypeId} {old : List CV} (hold : nth mem b = some (some (T, old))) (hro : isRowL old = false) {cs : List CV} {vs : List Value} (hr : All2 (CV.Rel F w bs) cs vs) (hrc : isRowL cs = false) :
    Ext bs.length F w bs F (w.setRow x.p vs.toArray) bs ∧ MemRel P F (w.setRow x.p vs.toArray) bs (setN mem b (some (T, cs))) := by
  obtain ⟨hext, hm'⟩ := hm.rewrite hb hold (liveL_of hro) vs.toArray
  refine ⟨hext, ?_⟩
  have hF := hm.loc b x T old hb hold (liveL_of hro)
  have := hm'.put hb (T := T) (cs := cs) killed_no (fun _ => ⟨hF.1, by simpa [World.setRow] using hF.2⟩) (fun _ => hm.rewrite_inj hb hold (liveL_of hro)) (fun _ => ?_) (fun fz es n ρ h => by subst h; simp [isRowL] at hrc) (fun f i st cs' h => by subst h; simp [isRowL] at hrc)
  · rwa [setN_setN] at this
  · obtain ⟨us, hu, _⟩ := hm.cont b T old x hold hro hb
    exact ⟨vs, setRow_heap w x.p _ _ _ _ hu, hr.imp fun _ _ h => h.grow hext.grow⟩

theorem rowAt_some {mem : Mem} {b : Nat} {T : TypeId} {fz : Bool} {es : List Sh} {n : Nat} {ρ : Val} (h : rowAt mem b = some (T, fz, es, n, ρ)) : nth mem b = some (some (T, [.row fz es n ρ])) := by
  unfold rowAt at h
  split at h
  · rename_i hm
    simp at h
    obtain ⟨rfl, rfl, rfl, rfl, rfl⟩ := h
    exact hm
  · simp at h

/-- a row's head, as plain data, where the row isn't written any more -/
theorem os_sl {F F' w bs} {b : Nat} {x : BI} (hb : nth bs b = some x) {T fz es n ρ} (hr : RowOk F' w x T fz es n ρ) (hF : 0 < n → ¬ F' x.p) {sz : Nat} (_hsz : es.length = sz) {v : Value} (h : CV.Rel F w bs (.os b sz) v) (bs' : List BI) : CV.Rel F' w bs' (.sl es n ρ) v := by
  cases h with
  | os h1 h2 =>
    rename_i y base
    rw [hb] at h1; simp at h1; subst h1
    have hn := hr.len
    rcases Nat.eq_zero_or_pos n with h0 | h0
    · subst h0
      cases base with
      | none =>
        have hc : x.cap = 0 := by
          rcases Nat.eq_zero_or_pos x.cap with h | h
          · exact h
          · have := h2 h; cases this
        rw [hn, hc]
        exact .slnil
      | some a =>
        rw [hn]
        exact .sl (fun _ _ => undef) (Nat.zero_le _) (fun h => by omega) (fun i f h => by omega) (fun i f s h => by omega)
    · obtain ⟨arr, ha, hs, val, h3, h4⟩ := hr.block h0
      rw [h2 (hr.room h0), hn]
      refine .sl val (hr.cap h0).1 (fun _ => ⟨rfl, (Array.getElem?_eq_some_iff.1 ha).1, hF h0⟩) (fun i f hi hf => ?_) h4
      rw [cell_of_row w x.p _ arr T _ ha]
      simpa using h3 i f hi hf

/-- freezing a row -/
theorem MemRel.freeze {F w bs mem} (hm : MemRel P F w bs mem) {b : Nat} {x : BI} (hb : nth bs b = some x) {T fz es n ρ} (hrow : nth mem b = some (some (T, [.row fz es n ρ]))) :
    ∃ F', Ext bs.length F w bs F' w bs ∧ MemRel P F' w bs (setN mem b (some (T, [.row true es n ρ]))) ∧ RowOk F' w x T true es n ρ ∧ (0 < n → ¬ F' x.p) := by
  have hr := hm.row b T fz es n ρ x hrow hb
  by_cases hc : 0 < x.cap ∧ fz = false
  · obtain ⟨h0, rfl⟩ := hc
    have hl : liveL x [CV.row false es n ρ] := ⟨rfl, h0⟩
    have hF := hm.loc b x T _ hb hrow hl
    have hext : Ext bs.length F w bs (fun p => F p ∧ p ≠ x.p) w bs := ⟨Nat.le_refl _, fun _ _ h => h.1, fun p h _ hn => ⟨h, fun e => hn x (nth_mem hb) e.symm⟩, fun _ _ _ => rfl, rfl, rfl, rfl, fun _ _ _ h => h, fun y h => .inl ⟨y, h, rfl⟩⟩
    have hm' := (hm.kill b).move hext fun k y T' cs' hk hc hv => ⟨⟨((hm.kill b).loc k y T' cs' hk hc hv).1, hm.rewrite_inj hb hrow hl k y T' cs' hk hc hv⟩, rfl⟩
    have hok : RowOk (fun p => F p ∧ p ≠ x.p) w x T true es n ρ := by
      have := hr.grow hext.grow0 fun _ => rfl
      exact ⟨this.len, this.le, this.mx, this.blk, fun _ _ => ⟨fun h => h.2 rfl, hF.2⟩⟩
    refine ⟨_, hext, ?_, hok, fun _ h => h.2 rfl⟩
    have := hm'.put hb (T := T) (cs := [.row true es n ρ]) killed_no (fun h => by cases h.1) (fun h => by cases h.1) (fun h => by simp [isRowL] at h) (fun fz' es' n' ρ' h => by simp at h; obtain ⟨rfl, rfl, rfl, rfl⟩ := h; exact hok)
    rwa [setN_setN] at this
  · have hok : RowOk F w x T true es n ρ := ⟨hr.len, hr.le, hr.mx, hr.blk, fun h0 _ => hr.frz h0 (by cases fz; exact (hc ⟨h0, rfl⟩).elim; rfl)⟩
    refine ⟨F, Ext.refl, ?_, hok, fun h0 => (hok.frozen h0 rfl).1⟩
    have := (hm.kill b).put hb (T := T) (cs := [.row true es n ρ]) killed_no (fun h => by cases h.1) (fun h => by cases h.1) (fun h => by simp [isRowL] at h) (fun fz' es' n' ρ' h => by simp at h; obtain ⟨rfl, rfl, rfl, rfl⟩ := h; exact hok)
    rwa [setN_setN] at this

theorem frzC_ok {F w bs mem} (hm : MemRel P F w bs mem) {x : CV} {v : Value} (h : CV.Rel F w bs x v) :
    ∃ F', Ext bs.length F w bs F' w bs ∧ MemRel P F' w bs (frzC mem x).1 ∧ CV.Rel F' w bs (frzC mem x).2 v := by
  unfold frzC
  split
  · rename_i b sz
    split
    · rename_i T fz es n ρ hrow
      split
      · rename_i hsz
        have hrow := rowAt_some hrow
        obtain ⟨x, hb⟩ : ∃ x, nth bs b = some x := by cases h; exact ⟨_, by assumption⟩
        obtain ⟨F', he, hm', hok, hF⟩ := hm.freeze hb hrow
        exact ⟨F', he, hm', os_sl hb hok hF (by simpa using hsz) h bs⟩
      · exact ⟨F, Ext.refl, hm, h⟩
    · exact ⟨F, Ext.refl, hm, h⟩
  · exact ⟨F, Ext.refl, hm, h⟩

theorem frzCs_ok : ∀ {l : List CV} {F w bs mem} {vs : List Value}, MemRel P F w bs mem → All2 (CV.Rel F w bs) l vs →
    ∃ F', Ext bs.length F w bs F' w bs ∧ MemRel P F' w bs (frzCs mem l).1 ∧ All2 (CV.Rel F' w bs) (frzCs mem l).2 vs
  | [], F, w, bs, mem, vs, hm, h => by cases h; exact ⟨F, Ext.refl, hm, .nil⟩
  | x :: r, F, w, bs, mem, vs, hm, h => by
    cases h with
    | cons h1 h2 =>
      obtain ⟨F1, e1, m1, r1⟩ := frzC_ok hm h1
      obtain ⟨F2, e2, m2, r2⟩ := frzCs_ok m1 (h2.imp fun _ _ h => h.grow e1.grow)
      exact ⟨F2, e1.trans e2 (Nat.le_refl _), m2, .cons (r1.grow e2.grow) r2⟩

theorem frz1_ok {F w bs mem} (hm : MemRel P F w bs mem) {x : A1} {v : Value} (h : A1.Rel F w bs x v) :
    ∃ F', Ext bs.length F w bs F' w bs ∧ MemRel P F' w bs (frz1 mem x).1 ∧ A1.Rel F' w bs (frz1 mem x).2 v := by
  cases x with
  | c x => exact frzC_ok hm h
  | agg l =>
    obtain ⟨vs, rfl, h⟩ := h
    obtain ⟨F', e, m, r⟩ := frzCs_ok hm h
    exact ⟨F', e, m, vs, rfl, r⟩

theorem frz1s_ok : ∀ {l : List A1} {F w bs mem} {vs : List Value}, MemRel P F w bs mem → All2 (A1.Rel F w bs) l vs →
    ∃ F', Ext bs.length F w bs F' w bs ∧ MemRel P F' w bs (frz1s mem l).1 ∧ All2 (A1.Rel F' w bs) (frz1s mem l).2 vs
  | [], F, w, bs, mem, vs, hm, h => by cases h; exact ⟨F, Ext.refl, hm, .nil⟩
  | x :: r, F, w, bs, mem, vs, hm, h => by
    cases h with
    | cons h1 h2 =>
      obtain ⟨F1, e1, m1, r1⟩ := frz1_ok hm h1
      obtain ⟨F2, e2, m2, r2⟩ := frz1s_ok m1 (h2.imp fun _ _ h => A1.Rel.grow e1.grow h)
      exact ⟨F2, e1.trans e2 (Nat.le_refl _), m2, .cons (A1.Rel.grow e2.grow r1) r2⟩

/-- outside the call's own blocks -/
def outF (F : Nat → Prop) (bs : List BI) : Nat → Prop := fun p => F p ∧ ∀ x ∈ bs, x.p ≠ p

theorem outF_grow {F w bs} : Grow F (outF F bs) bs bs w w := ⟨Nat.le_refl _, fun _ _ h => h.1, fun _ _ _ => rfl, fun _ _ h => h⟩

theorem viewC_ok {F w bs mem} (hm : MemRel P F w bs mem) {x : CV} {v : Value} (h : CV.Rel F w bs x v) (hc : closedC (viewC mem x) = true) : CV.Rel (outF F bs) w [] (viewC mem x) v := by
  have plain : closedC x = true → CV.Rel (outF F bs) w [] x v := fun hx => CV.Rel.closed (h.grow outF_grow) hx
  unfold viewC at hc ⊢
  split at hc
  · rename_i b sz
    split at hc
    · rename_i T fz es n ρ hrow
      split at hc
      · rename_i hsz
        have hrow := rowAt_some hrow
        obtain ⟨x, hb⟩ : ∃ x, nth bs b = some x := by cases h; exact ⟨_, by assumption⟩
        have hr := hm.row b T fz es n ρ x hrow hb
        have hr' : RowOk (outF F bs) w x T fz es n ρ := hr.grow ⟨Nat.le_refl _, fun _ _ h => h.1, fun _ _ _ => rfl, fun k p h => by simp [nth] at h⟩ fun _ => rfl
        rw [if_pos hsz]
        exact os_sl hb hr' (fun _ hF => hF.2 x (nth_mem hb) rfl) (by simpa using hsz) h []
      · simp [closedC] at hc
    · simp [closedC] at hc
  · exact plain hc

theorem view1_ok {F w bs mem} (hm : MemRel P F w bs mem) {x : A1} {v : Value} (h : A1.Rel F w bs x v) (hc : closedA (view1 mem x) = true) : A1.Rel (outF F bs) w [] (view1 mem x) v := by
  cases x with
  | c x => exact viewC_ok hm h hc
  | agg l =>
    obtain ⟨vs, rfl, h⟩ := h
    refine ⟨vs, rfl, ?_⟩
    simp only [view1, closedA, List.all_map, List.all_eq_true] at hc
    induction h with
    | nil => exact .nil
    | cons h _ ih => exact .cons (viewC_ok hm h (hc _ (by simp))) (ih fun x hx => hc x (by simp [hx]))

theorem viewC_closed {mem : Mem} {x : CV} (h : closedC x = true) : viewC mem x = x := by
  unfold viewC
  split
  · simp [closedC] at h
  · rfl

theorem view1_closed {mem : Mem} {x : A1} (h : closedA x = true) : view1 mem x = x := by
  cases x with
  | c x => simp only [view1]; rw [viewC_closed h]
  | agg l =>
    simp only [closedA, List.all_eq_true] at h
    simp only [view1]
    congr 1
    refine (List.map_congr_left fun x hx => viewC_closed (h x hx)).trans (List.map_id _)

theorem flatC_any {F w bs x v} (h : CV.Rel F w bs x v) (hf : flatC x = true) (F' w' bs') : CV.Rel F' w' bs' x v := by
  cases h <;> first | (simp [flatC] at hf; done) | constructor

theorem flat1_any {F w bs} {x : A1} {v : Value} (h : A1.Rel F w bs x v) (hf : flat1 x = true) (F' w' bs') : A1.Rel F' w' bs' x v := by
  cases x with
  | c x => exact flatC_any h hf _ _ _
  | agg l =>
    obtain ⟨vs, rfl, h⟩ := h
    refine ⟨vs, rfl, ?_⟩
    simp only [flat1, List.all_eq_true] at hf
    induction h with
    | nil => exact .nil
    | cons h _ ih => exact .cons (flatC_any h (hf _ (by simp)) _ _ _) (ih fun x hx => hf x (by simp [hx]))

theorem flatA_any {F w bs} {x : AV} {v : Value} (h : AV.Rel F w bs x v) (hf : flatA x = true) (F' w' bs') : AV.Rel F' w' bs' x v := by
  cases x with
  | any => simp [flatA] at hf
  | one x => exact flat1_any h hf _ _ _
  | tup l =>
    obtain ⟨vs, rfl, h⟩ := h
    refine ⟨vs, rfl, ?_⟩
    simp only [flatA, List.all_eq_true] at hf
    induction h with
    | nil => exact .nil
    | cons h _ ih => exact .cons (flat1_any h (hf _ (by simp)) _ _ _) (ih fun x hx => hf x (by simp [hx]))

/-- a value that fits a shape, as a datum -/
theorem fits_rel {F w bs} {s : Sh} {x : CV} {v : Value} (h : CV.Rel F w bs x v) (hf : fits s x = true) : CV.Rel F w [] (cellOf s (Val.ofC x)) v := by
  unfold fits at hf
  split at hf
  · cases h; exact .bool _
  · cases h
    have := of_decide_eq_true hf
    subst this
    exact .int _ _
  · cases h; exact .str _
  · have := shsEq_eq hf
    subst this
    cases h with
    | slnil => exact .slnil
    | sl val hn h0 hc hr => exact .sl val hn h0 hc hr
  · cases h; exact .slnil
  · simp at hf

theorem pickV_true (a b : Val) : pickV true a b = a := rfl
theorem pickV_false (a b : Val) : pickV false a b = b := rfl
theorem byFst_at (f : Nat → Val) (i : Nat) : (Val.byFst f).at i = f i := rfl

end
end Go.Sx
/-
  The evaluator's soundness (part P): slices of one's own: literals, appending, elements.
-/
namespace Go.Sx
open Go Go.RowKit

section
variable {P : Program}

theorem All2.nth2 {α β : Type} {R : α → β → Prop} {l : List α} {r : List β} (h : All2 R l r) {i : Nat} {b : β} (hb : r[i]? = some b) : ∃ a, Sx.nth l i = some a ∧ R a b := h.nth' hb

theorem shape_lt {es : List Sh} {f : Nat} {s : Sh} (h : nth es f = some s) : f < es.length := nth_lt h

theorem shape_at {es : List Sh} {f : Nat} (h : f < es.length) : ∃ s, nth es f = some s := ⟨es[f], by rw [nth_eq]; exact List.getElem?_eq_getElem h⟩

theorem fitsL_nth : ∀ {es : List Sh} {l : List CV}, fitsL es l = true → es.length = l.length ∧ ∀ f s, nth es f = some s → ∃ c, nth l f = some c ∧ fits s c = true
  | [], [], _ => ⟨rfl, fun f s h => by simp [nth] at h⟩
  | s :: r, x :: l, h => by
    simp only [fitsL, Bool.and_eq_true] at h
    obtain ⟨h1, h2⟩ := fitsL_nth h.2
    refine ⟨by simp [h1], fun f s' hf => ?_⟩
    cases f with
    | zero => simp [nth] at hf; subst hf; exact ⟨x, rfl, h.1⟩
    | succ f => exact h2 f s' hf
  | [], _ :: _, h => by simp [fitsL] at h
  | _ :: _, [], h => by simp [fitsL] at h

theorem fitsFlat_nth {es : List Sh} : ∀ {n : Nat} {l : List CV}, fitsFlat es n l = true → l.length = n * es.length ∧ ∀ i f s, i < n → nth es f = some s → ∃ c, nth l (i * es.length + f) = some c ∧ fits s c = true
  | 0, [], _ => ⟨by simp, fun i f s h => by omega⟩
  | 0, _ :: _, h => by simp [fitsFlat] at h
  | n + 1, l, h => by
    simp only [fitsFlat] at h
    split at h
    · rename_i l' hl
      obtain ⟨rfl, hlen⟩ := takeN_some hl
      rw [dropN_eq, Bool.and_eq_true] at h
      obtain ⟨h1, h2⟩ := fitsL_nth h.1
      obtain ⟨h3, h4⟩ := fitsFlat_nth h.2
      simp only [List.length_drop] at h3
      have hmul : (n + 1) * es.length = n * es.length + es.length := by rw [Nat.add_mul, Nat.one_mul]
      refine ⟨by omega, fun i f s hi hf => ?_⟩
      have hfl := shape_lt hf
      cases i with
      | zero =>
        obtain ⟨c, hc, hfit⟩ := h2 f s hf
        refine ⟨c, ?_, hfit⟩
        rw [nth_eq, List.getElem?_take] at hc
        rw [if_pos hfl] at hc
        rw [Nat.zero_mul, Nat.zero_add, nth_eq]; exact hc
      | succ i =>
        obtain ⟨c, hc, hfit⟩ := h4 i f s (by omega) hf
        refine ⟨c, ?_, hfit⟩
        rw [nth_eq, List.getElem?_drop] at hc
        rw [nth_eq, Nat.add_mul, Nat.one_mul, ← hc]
        congr 1; omega
    · simp at h

/-- a row that is laid -/
theorem MemRel.lay {F w bs mem} (hm : MemRel P F w bs mem) {e : TypeId} {es : List Sh} {n cap : Nat} {ρ : Val} {arr : Array Value} (hcap : n ≤ cap) (hmax : cap ≤ maxLen) (hsize : arr.size = cap * es.length) (val : Nat → Nat → Value)
    (h3 : ∀ i f, i < n → f < es.length → arr[i * es.length + f]? = some (val i f)) (h4 : ∀ i f s, i < n → nth es f = some s → CV.Rel F w [] (cellOf s ((ρ.at i).at f)) (val i f)) :
    ∃ F', Ext bs.length F w bs F' (w.alloc (.cells arr e)) (bs ++ [⟨w.heap.size, n, cap⟩]) ∧ MemRel P F' (w.alloc (.cells arr e)) (bs ++ [⟨w.heap.size, n, cap⟩]) (mem ++ [some (e, [.row false es n ρ])]) := by
  have he := Ext.alloc (F := F) (bs := bs) bs.length (.cells arr e : Obj) (w := w)
  refine ⟨_, he.push (.inr (Nat.le_refl _)), ?_⟩
  refine (hm.alloc _).push ⟨w.heap.size, n, cap⟩ (fun _ => ⟨.inr rfl, by simp⟩) (fun _ k y T' cs' hk hc hv => ?_) (fun h => by simp [isRowL] at h) (fun fz es' n' ρ' h => ?_)
  · have := (hm.loc k y T' cs' hk hc hv).2
    simp only; omega
  · simp at h
    obtain ⟨rfl, rfl, rfl, rfl⟩ := h
    exact ⟨rfl, hcap, hmax, fun _ => ⟨arr, by show (w.heap.push _)[_]? = _; simp, hsize, val, h3, fun i f s hi hf => (h4 i f s hi hf).grow he.grow0⟩, fun _ h => by cases h⟩

/-- a row without elements -/
theorem MemRel.lay0 {F w bs mem} (hm : MemRel P F w bs mem) (e : TypeId) (es : List Sh) {n : Nat} (h0 : n = 0) (ρ : Val) :
    Ext bs.length F w bs F w (bs ++ [⟨w.heap.size, n, 0⟩]) ∧ MemRel P F w (bs ++ [⟨w.heap.size, n, 0⟩]) (mem ++ [some (e, [.row false es n ρ])]) := by
  refine ⟨Ext.refl.push (.inr (Nat.le_refl _)), hm.push _ (fun h => by have := h.2; simp at this) (fun h => by have := h.2; simp at this) (fun h => by simp [isRowL] at h) (fun fz es' n' ρ' h => ?_)⟩
  simp at h
  obtain ⟨rfl, rfl, rfl, rfl⟩ := h
  exact ⟨rfl, by omega, Nat.zero_le _, fun h => by simp at h, fun h => by simp at h⟩

theorem repC_length (z : List CV) : ∀ n, (repC z n).length = n * z.length
  | 0 => by simp [repC]
  | n + 1 => by simp [repC, repC_length z n, Nat.add_mul, Nat.add_comm]

theorem repC_nth (z : List CV) : ∀ (n i : Nat), i < n * z.length → nth (repC z n) i = nth z (i % z.length)
  | 0, i, h => by omega
  | n + 1, i, h => by
    rw [Nat.add_mul, Nat.one_mul] at h
    simp only [repC]
    rw [nth_eq, nth_eq]
    rcases Nat.lt_or_ge i z.length with hi | hi
    · rw [List.getElem?_append_left hi, Nat.mod_eq_of_lt hi]
    · rw [List.getElem?_append_right hi]
      have := repC_nth z n (i - z.length) (by omega)
      rw [nth_eq, nth_eq] at this
      rw [this, ← Nat.mod_eq_sub_mod hi]

theorem evFill_nil {sz : Nat} (h0 : 0 < sz) : ∀ {parts : List (Nat × A1)} {cs : List CV}, evFill (fun i => some (i * sz, sz)) [] parts = some cs → parts = []
  | [], _, _ => rfl
  | (i, v) :: r, cs, h => by
    simp only [evFill] at h
    have hc : ¬ (v.cells.length == sz && Nat.ble (i * sz + v.cells.length) ([] : List CV).length) = true := by
      intro hc
      simp only [Bool.and_eq_true, beq_iff_eq, Nat.ble_eq, List.length_nil] at hc
      omega
    rw [if_neg hc] at h
    cases h

theorem buildSlice_ok {F w bs mem} (hm : MemRel P F w bs mem) {t : TypeId} {n : Nat} {parts : List (Nat × A1)} {pv : Array (Nat × Value)} {r : AV} {mem' : Mem} (h : evBuildSlice P mem t n parts = some (r, mem'))
    (hp : All2 (fun x y => x.1 = y.1 ∧ A1.Rel F w bs x.2 y.2) parts pv.toList) :
    ∃ F' w' bs' v, Ext bs.length F w bs F' w' bs' ∧ MemRel P F' w' bs' mem' ∧ r.Rel F' w' bs' v ∧ (Instr.buildSlice t n pv).run P w = .ok v w' := by
  unfold evBuildSlice at h
  split at h
  · rename_i e hu
    split at h
    · rename_i j es z hj hes hz
      split at h
      · rename_i hcond
        simp only [Bool.and_eq_true, beq_iff_eq, Nat.ble_eq, Nat.blt_eq] at hcond
        obtain ⟨⟨⟨h1, h2⟩, h3⟩, h4⟩ := hcond
        split at h
        · rename_i cs hfill
          simp only at h
          split at h
          · rename_i hfit
            simp only [Option.some.injEq, Prod.mk.injEq] at h
            obtain ⟨rfl, rfl⟩ := h
            unfold zeroCellsOf at hz
            simp only [hj] at hz
            split at hz
            · rename_i zv hzv
              have hzc : All2 (CV.Rel F w bs) z zv.cells.toList := liftCells_ok hz
              have hzs : zv.cells.size = j.size := by have := hzc.length; simp at this; omega
              let base : List Value := (List.range (n * j.size)).map fun i => zv.cells[i % zv.cells.size]!
              have hbase : All2 (CV.Rel F w bs) (repC z n) base := by
                refine All2.of_nth (by simp [base, repC_length, h3]) fun i x v hx hv => ?_
                have hi := nth_lt hv
                simp only [base, List.length_map, List.length_range] at hi
                rw [repC_nth z n i (by rw [h3]; exact hi)] at hx
                rw [nth_eq] at hv
                simp only [base, List.getElem?_map, List.getElem?_range hi, Option.map_some, Option.some.injEq] at hv
                subst hv
                obtain ⟨u, hu, hr⟩ := hzc.nth hx
                rw [hzs, ← h3]
                simp only [Array.getElem?_toList] at hu
                rw [getElem!_def, hu]
                exact hr
              obtain ⟨rv, hrv, hf⟩ := fill_ok (places' := fun i => some (i * j.size, j.size)) (fun i p h => h) hfill hbase hp
              obtain ⟨F1, e1, m1, r1⟩ := frzCs_ok hm hrv
              obtain ⟨hl, hnth⟩ := fitsFlat_nth hfit
              have hlen : rv.length = n * j.size := by rw [← r1.length, hl, h1]
              have harr : ((Array.range (n * j.size)).map (zv.cells[· % zv.cells.size]!)) = base.toArray := by
                apply Array.ext'
                simp [base, Array.toList_map]
              have content : ∀ i f, i < n → f < es.length → rv.toArray[i * es.length + f]? = some (rv.toArray[i * es.length + f]?.getD undef) := by
                intro i f hi hf
                have : i * es.length + f < rv.length := by
                  rw [hlen, ← h1]
                  have : (i + 1) * es.length ≤ n * es.length := Nat.mul_le_mul_right _ hi
                  rw [Nat.add_mul, Nat.one_mul] at this
                  omega
                simp [this]
              have rel : ∀ i f s, i < n → nth es f = some s → CV.Rel F1 w [] (cellOf s (((Val.ofFlat j.size (frzCs mem cs).2).at i).at f)) (rv.toArray[i * es.length + f]?.getD undef) := by
                intro i f s hi hf
                obtain ⟨c, hc, hfit⟩ := hnth i f s hi hf
                obtain ⟨u, hu, hrel⟩ := r1.nth hc
                have := fits_rel hrel hfit
                have e1 : ((Val.ofFlat j.size (frzCs mem cs).2).at i).at f = Val.ofC c := by
                  show (match nth (frzCs mem cs).2 (i * j.size + f) with | some x => Val.ofC x | none => Val.zero) = _
                  rw [← h1, hc]
                rw [e1]
                simpa [hu] using this
              by_cases hn : n = 0
              · subst hn
                have hrv0 : rv = [] := List.eq_nil_of_length_eq_zero (by simpa using hlen)
                subst hrv0
                obtain ⟨F2, e2, m2⟩ := m1.lay (e := e) (es := es) (n := 0) (cap := 0) (ρ := Val.ofFlat j.size (frzCs mem cs).2) (arr := #[]) (Nat.le_refl _) (Nat.zero_le _) (by simp) (fun _ _ => undef) (fun i f h => by omega) (fun i f s h => by omega)
                refine ⟨F2, _, _, .slice (some ⟨w.heap.size, 0, none⟩) 0 0, e1.trans e2 (Nat.le_refl _), m2, CV.Rel.os (x := ⟨w.heap.size, 0, 0⟩) (by rw [← m1.len]; exact nth_append_last _ _) (fun _ => rfl), ?_⟩
                have hpv : pv = #[] := by
                  have := evFill_nil (cs := cs) (sz := j.size) h2 hfill
                  subst this
                  cases hp' : pv.toList with
                  | nil => rw [← Array.toArray_toList (xs := pv), hp']
                  | cons _ _ => rw [hp'] at hp; cases hp
                subst hpv
                have hr0 : Array.range 0 = #[] := Array.eq_empty_of_size_eq_zero (by simp)
                simp [Instr.buildSlice, run_underlying hu, sizeOf, typeInfo, hj, Instr.fill, newRow, hr0]
              · have hpos : n * j.size ≠ 0 := by
                  intro e
                  rcases Nat.mul_eq_zero.1 e with e | e <;> omega
                obtain ⟨F2, e2, m2⟩ := m1.lay (e := e) (es := es) (n := n) (cap := n) (ρ := Val.ofFlat j.size (frzCs mem cs).2) (arr := rv.toArray) (Nat.le_refl _) (by
                  have : n ≤ n * j.size := Nat.le_mul_of_pos_right _ h2
                  simp only [maxLen]; omega) (by simp [hlen, h1]) _ content rel
                refine ⟨F2, _, _, .slice (some ⟨w.heap.size, 0, none⟩) n n, e1.trans e2 (Nat.le_refl _), m2, CV.Rel.os (x := ⟨w.heap.size, n, n⟩) (by rw [← m1.len]; exact nth_append_last _ _) (fun _ => rfl), ?_⟩
                exact run_buildSlice w t e n pv rv.toArray j zv hu hj hzv (by omega) hpos (by rw [harr]; exact hf)
            · simp at hz
          · simp at h
        · simp at h
      · simp at h
    · simp at h
  · simp at h

end
end Go.Sx
/-
  The evaluator's soundness (part Q): appending.
-/
namespace Go.Sx
open Go Go.RowKit

section
variable {P : Program}

/-- a row's cells, one behind the other -/
def flatL (k m : Nat) (val : Nat → Nat → Value) : List Value := (List.range (m * k)).map fun q => val (q / k) (q % k)

theorem flatL_length (k m : Nat) (val : Nat → Nat → Value) : (flatL k m val).length = m * k := by simp [flatL]

theorem flat_lt {i f m k : Nat} (hi : i < m) (hf : f < k) : i * k + f < m * k := by
  have : (i + 1) * k ≤ m * k := Nat.mul_le_mul_right _ hi
  rw [Nat.add_mul, Nat.one_mul] at this
  omega

theorem flat_div {i f k : Nat} (hf : f < k) : (i * k + f) / k = i := by
  rw [Nat.mul_comm, Nat.mul_add_div (by omega), Nat.div_eq_of_lt hf, Nat.add_zero]

theorem flat_mod {i f k : Nat} (hf : f < k) : (i * k + f) % k = f := by
  rw [Nat.mul_comm, Nat.mul_add_mod, Nat.mod_eq_of_lt hf]

theorem flatL_at {k m : Nat} {val : Nat → Nat → Value} {i f : Nat} (hi : i < m) (hf : f < k) : (flatL k m val)[i * k + f]? = some (val i f) := by
  have := flat_lt hi hf
  simp only [flatL, List.getElem?_map, List.getElem?_range this, Option.map_some, flat_div hf, flat_mod hf]

theorem flatL_inv {k m : Nat} {val : Nat → Nat → Value} {j : Nat} {u : Value} (h : (flatL k m val)[j]? = some u) : ∃ i f, i < m ∧ f < k ∧ j = i * k + f ∧ u = val i f := by
  have hj : j < m * k := by
    rcases Nat.lt_or_ge j (m * k) with h' | h'
    · exact h'
    · rw [List.getElem?_eq_none (by rw [flatL_length]; exact h')] at h; cases h
  have hk : 0 < k := Nat.pos_of_ne_zero fun e => by subst e; omega
  simp only [flatL, List.getElem?_map, List.getElem?_range hj, Option.map_some, Option.some.injEq] at h
  refine ⟨j / k, j % k, Nat.div_lt_of_lt_mul (by rw [Nat.mul_comm]; exact hj), Nat.mod_lt _ hk, ?_, h.symm⟩
  rw [Nat.mul_comm]; exact (Nat.div_add_mod j k).symm

theorem addr_eq {a : Addr} (h : a.spot = none) (j : Nat) : a.add j = ⟨a.block, a.off + j, none⟩ := by
  obtain ⟨b, o, s⟩ := a
  simp only at h; subst h
  exact addr_add b o j

/-- what is appended -/
structure SrcOk (P : Program) (F : Nat → Prop) (w : World) (k : Nat) (t : TypeId) (es : List Sh) (m : Nat) (σ : Val) (u : Value) (val : Nat → Nat → Value) : Prop where
  src : Src P k t u m (flatL k m val) w
  addr : 0 < m → ∃ a c, u = .slice (some a) m c ∧ ∀ j z, (flatL k m val)[j]? = some z → w.cell? (a.add j) = some z
  rel : ∀ i f s, i < m → nth es f = some s → CV.Rel F w [] (cellOf s ((σ.at i).at f)) (val i f)

theorem flatL_one {F w} {k m : Nat} {es : List Sh} {σ : Val} {val : Nat → Nat → Value} (hk : es.length = k) (hr : ∀ i f s, i < m → nth es f = some s → CV.Rel F w [] (cellOf s ((σ.at i).at f)) (val i f)) : ∀ u ∈ flatL k m val, u.oneCell' = true := by
  intro u hu
  obtain ⟨j, hj⟩ := List.getElem?_of_mem hu
  obtain ⟨i, f, hi, hf, _, rfl⟩ := flatL_inv hj
  obtain ⟨s, hs⟩ := shape_at (es := es) (f := f) (by omega)
  exact (hr i f s hi hs).one

theorem srcOk {F w bs mem} (hm : MemRel P F w bs mem) {t e' : TypeId} (ht : P.underlying t = some (.slice e')) {x : A1} {es : List Sh} {m : Nat} {σ : Val} (h : srcOf mem x = some (es, m, σ)) {k : Nat} (hk : es.length = k) {u : Value} (hu : A1.Rel F w bs x u) :
    ∃ val, SrcOk P F w k t es m σ u val := by
  have nilcase : ∀ base c, m = 0 → u = .slice base 0 c → SrcOk P F w k t es m σ u (fun _ _ => undef) := by
    intro base c h0 he
    subst h0; subst he
    have hfl : flatL k 0 (fun _ _ => undef) = [] := by simp [flatL]
    refine ⟨?_, fun h => by omega, fun i f s hi => by omega⟩
    rw [hfl]
    cases base with
    | none => exact Src.ofNil w ht c
    | some a => exact Src.ofSlice w ht a 0 c [] (by simp) (by simp) (by simp)
  unfold srcOf at h
  split at h
  · rename_i es0 m ρ0
    simp at h
    obtain ⟨rfl, rfl, rfl⟩ := h
    cases hu with
    | slnil => exact ⟨_, nilcase none 0 rfl rfl⟩
    | sl val hn h0 hc hr =>
      rename_i cap a
      rcases Nat.eq_zero_or_pos m with hz | hz
      · subst hz; exact ⟨_, nilcase (some a) cap rfl rfl⟩
      · have hcell : ∀ j z, (flatL k m val)[j]? = some z → w.cell? (a.add j) = some z := by
          intro j z hj
          obtain ⟨i, f, hi, hf, rfl, rfl⟩ := flatL_inv hj
          rw [addr_eq (h0 hz).1, ← hk]
          exact hc i f hi (by omega)
        exact ⟨val, Src.ofSlice w ht a m cap _ (flatL_length _ _ _) hcell (flatL_one hk hr), fun _ => ⟨a, cap, rfl, hcell⟩, hr⟩
  · rename_i b sz
    split at h
    · rename_i T fz es' n' ρ' hrow
      split at h
      · simp at h
        obtain ⟨rfl, rfl, rfl⟩ := h
        have hrow := rowAt_some hrow
        cases hu with
        | os hb hbase =>
          rename_i x base
          have hr := hm.row b T fz _ _ _ x hrow hb
          have hn := hr.len
          rcases Nat.eq_zero_or_pos n' with hz | hz
          · exact ⟨_, nilcase base x.cap hz (by rw [hn, hz])⟩
          · obtain ⟨arr, ha, hs, val, h3, h4⟩ := hr.block hz
            have hbs := hbase (hr.room hz)
            subst hbs
            have hcell : ∀ j z, (flatL k n' val)[j]? = some z → w.cell? ((⟨x.p, 0, none⟩ : Addr).add j) = some z := by
              intro j z hj
              obtain ⟨i, f, hi, hf, rfl, rfl⟩ := flatL_inv hj
              rw [addr_eq rfl, cell_of_row w x.p _ arr T _ ha, Nat.zero_add, ← hk]
              exact h3 i f hi (by omega)
            rw [hn]
            exact ⟨val, Src.ofSlice w ht _ n' x.cap _ (flatL_length _ _ _) hcell (flatL_one hk h4), fun _ => ⟨_, x.cap, rfl, hcell⟩, h4⟩
      · simp at h
    · simp at h
  · simp at h

/-- nothing is appended -/
theorem append_zero {w : World} {t ty e : TypeId} {i : TypeInfo} (ht : P.underlying t = some (.slice e)) (hi : P.info? e = some i) (base : Option Addr) (n cap : Nat) (hn : n ≤ cap) {u : Value} (hs : Src P i.size t u 0 [] w) :
    (Builtin.append_ #[t, t] ty #[.slice base n cap, u]).run P w = .ok (.slice base n cap) w := by
  have hz := hs.cells
  cases base with
  | none => simp [Builtin.append_, run_underlying ht, sizeOf, typeInfo, hi, hs.len, hz, hn]
  | some a => simp [Builtin.append_, run_underlying ht, sizeOf, typeInfo, hi, hs.len, hz, hn, storeCells]

end
end Go.Sx
/-
  The evaluator's soundness (part R): appending, joined.
-/
namespace Go.Sx
open Go Go.RowKit

section
variable {P : Program}

theorem cat_lt {n i : Nat} (a b : Val) (h : i < n) : (Val.cat n a b).at i = a.at i := by
  show pickV (Nat.blt i n) _ _ = _
  have : Nat.blt i n = true := Nat.blt_eq.mpr h
  rw [this]; rfl

theorem cat_ge {n i : Nat} (a b : Val) (h : ¬ i < n) : (Val.cat n a b).at i = b.at (i - n) := by
  show pickV (Nat.blt i n) _ _ = _
  have : Nat.blt i n = false := by
    cases hb : Nat.blt i n
    · rfl
    · exact absurd (Nat.blt_eq.mp hb) h
  rw [this]; rfl

/-- two rows, one behind the other -/
theorem cat_rel {F w} {es : List Sh} {n m : Nat} {ρ σ : Val} {v1 v2 : Nat → Nat → Value} (h1 : ∀ i f s, i < n → nth es f = some s → CV.Rel F w [] (cellOf s ((ρ.at i).at f)) (v1 i f)) (h2 : ∀ i f s, i < m → nth es f = some s → CV.Rel F w [] (cellOf s ((σ.at i).at f)) (v2 i f)) :
    ∀ i f s, i < n + m → nth es f = some s → CV.Rel F w [] (cellOf s (((Val.cat n ρ σ).at i).at f)) (if i < n then v1 i f else v2 (i - n) f) := by
  intro i f s hi hf
  by_cases h : i < n
  · rw [cat_lt ρ σ h, if_pos h]; exact h1 i f s h hf
  · rw [cat_ge ρ σ h, if_neg h]; exact h2 _ f s (by omega) hf

theorem cat_cells {k n m : Nat} {v1 v2 : Nat → Nat → Value} {i f : Nat} (hi : i < n + m) (hf : f < k) : (flatL k n v1 ++ flatL k m v2)[i * k + f]? = some (if i < n then v1 i f else v2 (i - n) f) := by
  by_cases h : i < n
  · rw [if_pos h, List.getElem?_append_left (by rw [flatL_length]; exact flat_lt h hf), flatL_at h hf]
  · rw [if_neg h]
    have hle : n * k ≤ i * k := Nat.mul_le_mul_right _ (by omega)
    rw [List.getElem?_append_right (by rw [flatL_length]; omega), flatL_length]
    have : i * k + f - n * k = (i - n) * k + f := by rw [Nat.sub_mul]; omega
    rw [this, flatL_at (by omega) hf]

theorem drew_below (w : World) : Below w.heap.size w w.drew := Below.drew (Below.refl _ _)

/-- a row that grows: a new block -/
theorem grow_ok {F w bs mem} (hm : MemRel P F w bs mem) {t ty e : TypeId} {j : TypeInfo} {z : Value} (ht : P.underlying t = some (.slice e)) (hj : P.info? e = some j) (hz : j.zero = some z) (hzs : z.cells.size = j.size) (hby : 0 < j.bytes)
    {es : List Sh} (hes : es.length = j.size) {n m : Nat} {σ τ : Val} {base : Option Addr} {cap : Nat} {u : Value} {v1 v2 : Nat → Nat → Value}
    (hold : (Builtin.firstCells j.size n (.slice base n cap)).run P w.drew = .ok (flatL j.size n v1).toArray w.drew) (hτ : ∀ i f s, i < n + m → nth es f = some s → CV.Rel F w [] (cellOf s ((τ.at i).at f)) (if i < n then v1 i f else v2 (i - n) f))
    (hs : SrcOk P F w j.size t es m σ u v2) (hg : cap < n + m) (hlim : (n + m) * j.bytes ≤ 140737488355328) :
    ∃ F' w' bs' v, Ext bs.length F w bs F' w' bs' ∧ MemRel P F' w' bs' (mem ++ [some (e, [.row false es (n + m) τ])]) ∧ CV.Rel F' w' bs' (.os mem.length j.size) v ∧ (Builtin.append_ #[t, t] ty #[.slice base n cap, u]).run P w = .ok v w' := by
  have hsmall : n + m ≤ 140737488355328 := Nat.le_trans (Nat.le_mul_of_pos_right _ hby) hlim
  have hmax : n + m ≤ maxLen := by simp only [maxLen]; omega
  have hrun := run_append_grow_src (P := P) w t t ty e j z ht hj hz base n cap (flatL j.size n v1) hold u m (flatL j.size m v2) hs.src hg (by omega) (growslice_fits hg hlim)
  have hb := drew_below w
  have hm' := hm.below hb
  have hge := grownCap_ge w (n + m) cap e
  obtain ⟨F', he, hm2⟩ := hm'.lay (e := e) (es := es) (n := n + m) (cap := grownCap w (n + m) cap e) (ρ := τ) (arr := (flatL j.size n v1 ++ flatL j.size m v2).toArray ++ Builtin.zeroCells z.cells (grownCap w (n + m) cap e - (n + m)))
    hge (grownCap_le_maxLen w (n + m) cap e hmax) (by
      simp only [Array.size_append, List.size_toArray, List.length_append, flatL_length, size_zeroCells, hzs, ← Nat.add_mul, hes]
      congr 1; omega) (fun i f => if i < n then v1 i f else v2 (i - n) f) (fun i f hi hf => by
      rw [hes] at hf ⊢
      have hlt : i * j.size + f < (n + m) * j.size := flat_lt hi hf
      rw [Array.getElem?_append_left (by simp only [List.size_toArray, List.length_append, flatL_length, ← Nat.add_mul]; exact hlt)]
      rw [List.getElem?_toArray]
      exact cat_cells hi hf) (fun i f s hi hf => (hτ i f s hi hf).grow (Ext.of_below (K := 0) (F := F) (bs := []) hb).grow0)
  refine ⟨F', _, _, _, (Ext.of_below (F := F) (bs := bs) hb).trans he (Nat.le_refl _), hm2, ?_, hrun⟩
  exact CV.Rel.os (x := ⟨w.heap.size, n + m, grownCap w (n + m) cap e⟩) (by rw [← hm.len]; exact nth_append_last _ _) (fun _ => rfl)

theorem append_ok {F w bs mem} (hm : MemRel P F w bs mem) {t ty : TypeId} {a x : A1} {v u : Value} {r : AV} {mem' : Mem} (h : (evAppend P mem t a x).sel = some (r, mem')) (ha : A1.Rel F w bs a v) (hx : A1.Rel F w bs x u) :
    ∃ F' w' bs' z, Ext bs.length F w bs F' w' bs' ∧ MemRel P F' w' bs' mem' ∧ r.Rel F' w' bs' z ∧ (Builtin.append_ #[t, t] ty #[v, u]).run P w = .ok z w' := by
  unfold evAppend at h
  split at h
  · rename_i e ht
    split at h
    · rename_i j z hj hz
      split at h
      · simp [Tree.sel] at h
      · rename_i hcond
        simp only [Bool.not_eq_true', Bool.not_eq_false, Bool.and_eq_true, Nat.blt_eq, beq_iff_eq] at hcond
        obtain ⟨⟨hsz, hby⟩, hzl⟩ := hcond
        obtain ⟨zv, hzv, hzs⟩ : ∃ zv, j.zero = some zv ∧ zv.cells.size = j.size := by
          unfold zeroCellsOf at hz
          simp only [hj] at hz
          split at hz
          · rename_i zv hzv
            have := (liftCells_ok (F := F) (w := w) (bs := bs) hz).length
            simp at this
            exact ⟨zv, hzv, by omega⟩
          · simp at hz
        split at h
        · -- nil, nil
          simp only [Tree.sel, Option.some.injEq, Prod.mk.injEq] at h
          obtain ⟨rfl, rfl⟩ := h
          cases ha; cases hx
          exact ⟨F, w, bs, _, Ext.refl, hm, CV.Rel.nils, append_zero ht hj none 0 0 (Nat.le_refl _) (Src.ofNil w ht 0)⟩
        · -- own, nil
          rename_i b sz
          split at h
          · rename_i q hrow
            obtain ⟨T, fz, es, n, ρ⟩ := q
            simp only [Tree.sel, Option.some.injEq, Prod.mk.injEq] at h
            obtain ⟨rfl, rfl⟩ := h
            cases hx
            cases ha with
            | os hb hbase =>
              rename_i y base
              refine ⟨F, w, bs, _, Ext.refl, hm, CV.Rel.os hb hbase, append_zero ht hj base y.n y.cap ?_ (Src.ofNil w ht 0)⟩
              have hr := hm.row b T fz es n ρ y (rowAt_some hrow) hb
              rw [hr.len]
              exact hr.le
          · simp [Tree.sel] at h
        · -- nil
          split at h
          · rename_i es m σ hs
            split at h
            · rename_i hes
              simp only [Tree.sel] at h
              cases hlim : Nat.ble (m * j.bytes) 140737488355328 <;> simp [hlim] at h
              obtain ⟨rfl, rfl⟩ := h
              have hes : es.length = j.size := by simpa using hes
              have hlim := Nat.ble_eq.mp hlim
              cases ha
              obtain ⟨val, hsrc⟩ := srcOk hm ht hs hes hx
              rcases Nat.eq_zero_or_pos m with h0 | h0
              · obtain ⟨he, hm2⟩ := hm.lay0 e es h0 σ
                subst h0
                have hfl : flatL j.size 0 val = [] := by simp [flatL]
                have hsr := hsrc.src
                rw [hfl] at hsr
                exact ⟨F, w, _, _, he, hm2, CV.Rel.os (x := ⟨w.heap.size, 0, 0⟩) (by rw [← hm.len]; exact nth_append_last _ _) (fun h => by simp at h), append_zero ht hj none 0 0 (Nat.le_refl _) hsr⟩
              · have hfl : flatL j.size 0 val = [] := by simp [flatL]
                have := grow_ok (P := P) hm (ty := ty) ht hj hzv hzs hby hes (n := 0) (m := m) (σ := σ) (τ := σ) (base := none) (cap := 0) (v1 := val) (by rw [hfl]; exact run_firstCells_none _ _ _ _ _) (fun i f s hi hf => by rw [if_neg (by omega), Nat.sub_zero]; exact hsrc.rel i f s (by omega) hf) hsrc (by omega) (by simpa using hlim)
                obtain ⟨F', w', bs', v, he, hm2, hr, hrun⟩ := this
                refine ⟨F', w', bs', v, he, ?_, hr, hrun⟩
                rwa [Nat.zero_add] at hm2
            · simp [Tree.sel] at h
          · simp [Tree.sel] at h
        · -- own
          rename_i b sz hnn
          split at h
          · rename_i T es n ρ es' m σ hrow hs
            split at h
            · rename_i hcond
              simp only [Bool.and_eq_true, beq_iff_eq] at hcond
              obtain ⟨⟨⟨⟨hT, hes⟩, hsz'⟩, hse⟩, hbb⟩ := hcond
              subst hT
              have hse := shsEq_eq hse
              subst hse
              simp only [Tree.sel] at h
              cases hlim : Nat.ble ((n + m) * j.bytes) 140737488355328 <;> simp [hlim] at h
              obtain ⟨rfl, rfl⟩ := h
              have hlim := Nat.ble_eq.mp hlim
              obtain ⟨val, hsrc⟩ := srcOk hm ht hs hes hx
              have hrow := rowAt_some hrow
              cases ha with
              | os hb hbase =>
                rename_i y base
                have hr := hm.row b T false es n ρ y hrow hb
                have hn := hr.len
                have hkill := hm.kill b
                have hlen : (setN mem b none).length = mem.length := setN_length _ _ _
                have hle : y.n ≤ y.cap := by
                  rw [hn]
                  exact hr.le
                by_cases hg : y.cap < n + m
                · -- a new block
                  have hold : ∃ v1, (Builtin.firstCells j.size n (.slice base n y.cap)).run P w.drew = .ok (flatL j.size n v1).toArray w.drew ∧ ∀ i f s, i < n → nth es f = some s → CV.Rel F w [] (cellOf s ((ρ.at i).at f)) (v1 i f) := by
                    rcases Nat.eq_zero_or_pos n with h0 | h0
                    · subst h0
                      have hfl : flatL j.size 0 val = [] := by simp [flatL]
                      refine ⟨val, ?_, fun i f s hi => by omega⟩
                      rw [hfl]
                      cases base with
                      | none => exact run_firstCells_none _ _ _ _ _
                      | some a => exact run_firstCells_some _ j.size 0 a 0 y.cap [] (by simp) (by simp)
                    · obtain ⟨arr, ha, hs', v1, h3, h4⟩ := hr.block h0
                      have hbs := hbase (hr.room h0)
                      subst hbs
                      refine ⟨v1, run_firstCells_some _ j.size n _ n y.cap _ (flatL_length _ _ _) (fun q z hq => ?_), h4⟩
                      obtain ⟨i, f, hi, hf, rfl, rfl⟩ := flatL_inv hq
                      rw [addr_eq rfl]
                      show World.cell? w.drew ⟨y.p, 0 + (i * j.size + f), none⟩ = _
                      rw [cell_of_row w.drew y.p _ arr T _ ha, Nat.zero_add, ← hes]
                      exact h3 i f hi (by omega)
                  obtain ⟨v1, hold, h1⟩ := hold
                  have := grow_ok (P := P) hkill (ty := ty) ht hj hzv hzs hby hes hold (cat_rel h1 hsrc.rel) hsrc hg hlim
                  rw [hlen] at this
                  obtain ⟨F', w', bs', v, he, hm2, hr2, hrun⟩ := this
                  exact ⟨F', w', bs', v, he, hm2, hr2, by rw [hn]; exact hrun⟩
                · -- in place
                  rcases Nat.eq_zero_or_pos m with h0 | h0
                  · -- nothing is appended
                    subst h0
                    have hfl : flatL j.size 0 val = [] := by simp [flatL]
                    have hsr := hsrc.src
                    rw [hfl] at hsr
                    have hrel : ∀ i f s v, i < n → CV.Rel F w [] (cellOf s ((ρ.at i).at f)) v → CV.Rel F w [] (cellOf s (((Val.cat n ρ σ).at i).at f)) v := fun i f s v hi h => by rw [cat_lt ρ σ hi]; exact h
                    refine ⟨F, w, bs ++ [y], _, Ext.refl.push (.inl ⟨y, nth_mem hb, rfl⟩), hkill.push y (fun hl => ?_) (fun hl => ?_) (fun h => by simp [isRowL] at h) (fun fz' es' n' ρ' h => ?_), CV.Rel.os (x := y) (by rw [← hlen, ← hkill.len]; exact nth_append_last _ _) hbase, append_zero ht hj base y.n y.cap hle hsr⟩
                    · exact hm.loc b y T _ hb hrow ⟨rfl, hl.2⟩
                    · exact hm.rewrite_inj hb hrow ⟨rfl, hl.2⟩
                    · simp at h
                      obtain ⟨rfl, rfl, rfl, rfl⟩ := h
                      refine ⟨by simpa using hn, by simpa using hr.le, hr.mx, fun h0 => ?_, fun _ h => by cases h⟩
                      obtain ⟨arr, ha, hs', v1, h3, h4⟩ := hr.blk h0
                      exact ⟨arr, ha, hs', v1, h3, fun i f s hi hf => hrel i f s _ hi (h4 i f s hi hf)⟩
                  · have hn0 : 0 < y.cap := by omega
                    obtain ⟨arr, ha, hs', v1, h3, h4⟩ := hr.blk hn0
                    have hbs := hbase hn0
                    subst hbs
                    obtain ⟨ad, c, rfl, hcell⟩ := hsrc.addr h0
                    have hfit : n * j.size + (flatL j.size m val).length ≤ arr.size := by
                      rw [flatL_length, hs', hes, ← Nat.add_mul]
                      exact Nat.mul_le_mul_right _ (by omega)
                    have hrun := run_append_room (P := P) w t ty T j ht hj y.p n y.cap arr ha ad m c (flatL j.size m val) (flatL_length _ _ _) hcell hsrc.src.one (by omega) hfit
                    have hlive : liveL y [CV.row false es n ρ] := ⟨rfl, hn0⟩
                    obtain ⟨he, hm2⟩ := hm.rewrite hb hrow hlive (arr.toList.take (n * j.size) ++ flatL j.size m val ++ arr.toList.drop (n * j.size + (flatL j.size m val).length)).toArray
                    have hF := hm.loc b y T _ hb hrow hlive
                    have hinj := hm.rewrite_inj hb hrow hlive
                    refine ⟨F, _, bs ++ [⟨y.p, n + m, y.cap⟩], _, he.push (.inl ⟨y, nth_mem hb, rfl⟩), hm2.push ⟨y.p, n + m, y.cap⟩ (fun _ => ⟨hF.1, by simpa [World.setRow] using hF.2⟩) (fun _ => hinj) (fun h => by simp [isRowL] at h) (fun fz' es' n' ρ' h => ?_),
                      CV.Rel.os (x := ⟨y.p, n + m, y.cap⟩) (by rw [← hlen, ← hkill.len]; exact nth_append_last _ _) (fun _ => rfl), by rw [hn]; exact hrun⟩
                    simp at h
                    obtain ⟨rfl, rfl, rfl, rfl⟩ := h
                    refine ⟨rfl, by simp only; omega, hr.mx, fun _ => ⟨_, setRow_heap w y.p _ _ _ _ ha, ?_, fun i f => if i < n then v1 i f else val (i - n) f, fun i f hi hf => ?_, fun i f s hi hf => ?_⟩, fun _ h => by cases h⟩
                    · simp only [List.size_toArray, List.length_append, List.length_take, List.length_drop, Array.length_toList]
                      omega
                    · have hpre : arr.toList.take (n * j.size) = flatL j.size n v1 := by
                        apply List.ext_getElem?
                        intro q
                        rcases Nat.lt_or_ge q (n * j.size) with hq | hq
                        · rw [List.getElem?_take, if_pos hq]
                          have hk : 0 < j.size := hsz
                          have hdm : q = q / j.size * j.size + q % j.size := by rw [Nat.mul_comm]; exact (Nat.div_add_mod q j.size).symm
                          have hq1 : q / j.size < n := Nat.div_lt_of_lt_mul (by rw [Nat.mul_comm]; exact hq)
                          have hq2 : q % j.size < j.size := Nat.mod_lt _ hk
                          have h5 := h3 (q / j.size) (q % j.size) hq1 (by omega)
                          rw [hes, ← hdm] at h5
                          have h6 := flatL_at (val := v1) hq1 hq2
                          rw [← hdm] at h6
                          rw [h6]
                          simpa using h5
                        · rw [List.getElem?_take, if_neg (by omega), List.getElem?_eq_none (by rw [flatL_length]; exact hq)]
                      have hlt : i * j.size + f < (n + m) * j.size := flat_lt hi (by omega)
                      rw [hes, hpre, List.getElem?_toArray, List.getElem?_append_left (by rw [List.length_append, flatL_length, flatL_length, ← Nat.add_mul]; exact hlt)]
                      exact cat_cells hi (by omega)
                    · exact cat_rel (fun i f s hi hf => (h4 i f s hi hf).grow he.grow0) (fun i f s hi hf => (hsrc.rel i f s hi hf).grow he.grow0) i f s hi hf
            · simp [Tree.sel] at h
          · simp [Tree.sel] at h
        · simp [Tree.sel] at h
    · simp [Tree.sel] at h
  · simp [Tree.sel] at h

theorem evAppO_eq {mem : Mem} {t : TypeId} {a x : A1} (h : isOsh a = false) : evAppO P mem t a x = evAppend P mem t a x := by
  unfold evAppO
  split
  · cases h
  · rfl

/-- appending, also to a head of a slice of one's own -/
theorem appO_ok {F w bs mem} (hm : MemRel P F w bs mem) {t ty : TypeId} {a x : A1} {v u : Value} {r : AV} {mem' : Mem} (h : (evAppO P mem t a x).sel = some (r, mem')) (ha : A1.Rel F w bs a v) (hx : A1.Rel F w bs x u) :
    ∃ F' w' bs' z, Ext bs.length F w bs F' w' bs' ∧ MemRel P F' w' bs' mem' ∧ r.Rel F' w' bs' z ∧ (Builtin.append_ #[t, t] ty #[v, u]).run P w = .ok z w' := by
  unfold evAppO at h
  split at h
  · rename_i b sz m
    split at h
    · rename_i T es n ρ hrow
      split at h
      · rename_i hmn
        have hmn := Nat.le_of_ble_eq_true hmn
        have hlen : (setN mem b none).length = mem.length := setN_length _ _ _
        have hkill := hm.kill b
        cases ha with
        | osh hb hl hbase =>
          rename_i y base
          have hr := hm.row b T false es n ρ y hrow hb
          have hm2 : MemRel P F w (bs ++ [⟨y.p, m, y.cap⟩]) (setN mem b none ++ [some (T, [.row false es m ρ])]) := by
            refine hkill.push ⟨y.p, m, y.cap⟩ (fun hl => hm.loc b y T _ hb hrow ⟨rfl, hl.2⟩) (fun hl => by have hi := hm.rewrite_inj hb hrow (show liveL y _ from ⟨rfl, hl.2⟩); exact hi) (fun h => by simp [isRowL] at h) (fun fz' es' n' ρ' h => ?_)
            simp at h
            obtain ⟨rfl, rfl, rfl, rfl⟩ := h
            refine ⟨rfl, Nat.le_trans hmn hr.le, hr.mx, fun h0 => ?_, fun _ h => by cases h⟩
            obtain ⟨arr, ha, hs', v1, h3, h4⟩ := hr.blk h0
            exact ⟨arr, ha, hs', v1, fun i f hi hf => h3 i f (by omega) hf, fun i f s hi hf => h4 i f s (by omega) hf⟩
          have he : Ext bs.length F w bs F w (bs ++ [⟨y.p, m, y.cap⟩]) := Ext.refl.push (.inl ⟨y, nth_mem hb, rfl⟩)
          have ha2 : A1.Rel F w (bs ++ [⟨y.p, m, y.cap⟩]) (.c (.os mem.length sz)) (.slice base m y.cap) :=
            CV.Rel.os (x := ⟨y.p, m, y.cap⟩) (by rw [← hlen, ← hkill.len]; exact nth_append_last _ _) hbase
          obtain ⟨F', w', bs', z, he2, hm3, hr3, hrun⟩ := append_ok (ty := ty) hm2 h ha2 (hx.grow he.grow)
          exact ⟨F', w', bs', z, he.trans he2 (by simp), hm3, hr3, hrun⟩
      · simp [Tree.sel] at h
    · simp [Tree.sel] at h
  · exact append_ok hm h ha hx

end
end Go.Sx
/-
  The evaluator's soundness (part S): elements of slices of one's own; parts of slices.
-/
namespace Go.Sx
open Go Go.RowKit

section
variable {P : Program}

theorem CV.Rel.open {F w x v} (h : CV.Rel F w [] x v) (bs : List BI) : CV.Rel F w bs x v :=
  h.mono (Nat.le_refl _) (fun _ _ h => h) (fun _ _ _ => rfl) (fun k p h => by simp [nth] at h)

theorem cells_rel {F w} {es : List Sh} {ρ : Val} {val : Nat → Value} (hr : ∀ f s, nth es f = some s → CV.Rel F w [] (cellOf s (ρ.at f)) (val f)) (bs : List BI) : All2 (CV.Rel F w bs) (cellsOfL es 0 ρ) ((List.range es.length).map val) := by
  refine All2.of_nth (by simp [cellsOfL_length]) fun i x v hx hv => ?_
  rw [cellsOfL_nth] at hx
  split at hx
  · rename_i s hs
    simp at hx; subst hx
    have him := shape_lt hs
    rw [nth_eq] at hv
    simp only [List.getElem?_map, List.getElem?_range him, Option.map_some, Option.some.injEq] at hv
    subst hv
    simpa using (hr i s hs).open bs
  · simp at hx

theorem loadRow_ok {F w bs mem} (hm : MemRel P F w bs mem) {t : TypeId} {b sz i off : Nat} {r : AV} (h : evLoadRow P mem t b sz i off = some r) {v : Value} (hx : CV.Rel F w bs (.rowp b sz i off) v) :
    ∃ a p o z, r = .one a ∧ v = .pointer (some ⟨p, o, none⟩) ∧ a.Rel F w bs z ∧ (loadVar t ⟨p, o, none⟩).run P w = .ok z w := by
  unfold evLoadRow at h
  split at h
  · rename_i T fz es n ρ hrow
    split at h
    · rename_i hsz
      have hsz : es.length = sz := by simpa using hsz
      split at h
      · rename_i a ha
        simp at h; subst h
        cases hx with
        | rowp hb hi =>
          rename_i x
          have hr := hm.row b T fz es n ρ x (rowAt_some hrow) hb
          have hin : i < n := by rw [← hr.len]; exact hi
          obtain ⟨arr, harr, hs, val, h3, h4⟩ := hr.block (by omega)
          obtain ⟨z, hz, hrun⟩ := loadVar_ok ha (cells_rel (fun f s hf => h4 i f s hin hf) bs) x.p (i * sz)
          refine ⟨a, x.p, i * sz + off, z, rfl, rfl, hz, hrun w fun j v hv => ?_⟩
          have hj : j < es.length := by
            rcases Nat.lt_or_ge j es.length with h' | h'
            · exact h'
            · rw [List.getElem?_eq_none (by simpa using h')] at hv; cases hv
          simp only [List.getElem?_map, List.getElem?_range hj, Option.map_some, Option.some.injEq] at hv
          subst hv
          rw [cell_of_row w x.p _ arr T _ harr, ← hsz]
          exact h3 i j hin hj
      · simp at h
    · simp at h
  · simp at h

theorem beq_nat {a b : Nat} : Nat.beq a b = decide (a = b) := by
  by_cases h : a = b
  · subst h; simp
  · have : Nat.beq a b = false := by
      cases hb : Nat.beq a b
      · rfl
      · exact absurd (Nat.eq_of_beq_eq_true hb) h
    simp [this, h]

theorem upd_at (a : Val) (i f : Nat) (x : CV) (k g : Nat) : ((a.upd i f x).at k).at g = if k = i ∧ g = f then Val.ofC x else (a.at k).at g := by
  show pickV (Nat.beq k i) (pickV (Nat.beq g f) (Val.ofC x) ((a.at k).at g)) ((a.at k).at g) = _
  rw [beq_nat, beq_nat]
  by_cases h1 : k = i <;> by_cases h2 : g = f <;> simp [h1, h2, pickV_true, pickV_false]

theorem upds_at : ∀ (l : List CV) (a : Val) (i f k g : Nat), (((a.upds i f l).at k).at g) = if k = i ∧ f ≤ g then (match nth l (g - f) with | some x => Val.ofC x | none => (a.at k).at g) else (a.at k).at g
  | [], a, i, f, k, g => by simp [Val.upds, nth]
  | x :: r, a, i, f, k, g => by
    simp only [Val.upds]
    rw [upds_at r, upd_at]
    by_cases h1 : k = i
    · rcases Nat.lt_trichotomy g f with h2 | h2 | h2
      · rw [if_neg (by omega), if_neg (by omega), if_neg (by omega)]
      · subst h2
        rw [if_neg (by omega), if_pos ⟨h1, rfl⟩, if_pos ⟨h1, Nat.le_refl _⟩, Nat.sub_self]
        rfl
      · rw [if_pos ⟨h1, by omega⟩, if_neg (by omega), if_pos ⟨h1, by omega⟩]
        rw [show g - f = (g - (f + 1)) + 1 by omega]
        rfl
    · rw [if_neg (by omega), if_neg (by omega), if_neg (by omega)]

theorem storeRow_ok {F w bs mem} (hm : MemRel P F w bs mem) {t : TypeId} {b sz i off : Nat} {v : A1} {mem' : Mem} (h : evStoreRow P mem t b sz i off v = some mem') {px y : Value} (hx : CV.Rel F w bs (.rowp b sz i off) px) (hy : A1.Rel F w bs v y) :
    ∃ F' w' p o j, Ext bs.length F w bs F' w' bs ∧ MemRel P F' w' bs mem' ∧ px = .pointer (some ⟨p, o, none⟩) ∧ P.info? t = some j ∧ y.cells.size = j.size ∧ (storeCells ⟨p, o, none⟩ y.cells.toList 0).run P w = .ok () w' := by
  unfold evStoreRow at h
  split at h
  · rename_i j hj
    simp only at h
    have hyc := A1.Rel.cells hy
    obtain ⟨F1, e1, m1, r1⟩ := frzCs_ok hm hyc
    split at h
    · rename_i T es n ρ hrow
      split at h
      · rename_i hcond
        simp only [Bool.and_eq_true, beq_iff_eq, Nat.blt_eq] at hcond
        obtain ⟨⟨hsz, hlen⟩, hpos⟩ := hcond
        split at h
        · rename_i es' hes'
          split at h
          · rename_i hfit
            simp at h; subst h
            rw [dropN_eq] at hes'
            obtain ⟨rfl, hle⟩ := takeN_some hes'
            simp only [List.length_drop] at hle
            obtain ⟨hfl, hfn⟩ := fitsL_nth hfit
            have hrow := rowAt_some hrow
            have hys : y.cells.toList.length = j.size := by rw [← r1.length]; exact hlen
            cases hx with
            | rowp hb hi =>
              rename_i x
              have hr := m1.row b T false es n ρ x hrow hb
              have hin : i < n := by rw [← hr.len]; exact hi
              have hn0 : 0 < n := by omega
              obtain ⟨arr, harr, hs, val, h3, h4⟩ := hr.block hn0
              have hlive : liveL x [CV.row false es n ρ] := ⟨rfl, hr.room hn0⟩
              have hcap := (hr.cap hn0).1
              have hal : arr.toList.length = arr.size := by simp
              have hfitA : i * sz + off + 0 + y.cells.toList.length ≤ arr.size := by
                have h5 : (i + 1) * sz ≤ x.cap * sz := Nat.mul_le_mul_right _ (by omega)
                rw [Nat.add_mul, Nat.one_mul] at h5
                rw [hs, hys, hsz]
                omega
              have hone : ∀ u ∈ y.cells.toList, u.oneCell' = true := by
                intro u hu
                obtain ⟨k, hk⟩ := mem_nth hu
                rw [nth_eq] at hk
                obtain ⟨c, _, hc⟩ := r1.nth' hk
                exact hc.one
              have hst := run_storeCells_at (P := P) x.p (i * sz + off) T y.cells.toList 0 arr w harr hfitA hone
              simp only [Nat.add_zero] at hst
              obtain ⟨e2, m2⟩ := m1.rewrite hb hrow hlive (arr.toList.take (i * sz + off) ++ y.cells.toList ++ arr.toList.drop (i * sz + off + y.cells.toList.length)).toArray
              have hF := m1.loc b x T _ hb hrow hlive
              have hinj := m1.rewrite_inj hb hrow hlive
              refine ⟨F1, _, x.p, i * sz + off, j, e1.trans e2 (Nat.le_refl _), ?_, rfl, hj, by simpa using hys, hst⟩
              have := m2.put hb (T := T) (cs := [.row false es n (ρ.upds i off (frzCs mem v.cells).2)]) killed_no (fun _ => ⟨hF.1, by simpa [World.setRow] using hF.2⟩) (fun _ => hinj) (fun h => by simp [isRowL] at h) (fun fz' es'' n' ρ' h => ?_)
              · rwa [setN_setN] at this
              · simp at h
                obtain ⟨rfl, rfl, rfl, rfl⟩ := h
                refine ⟨hr.len, hr.le, hr.mx, fun _ => ⟨_, setRow_heap w x.p _ _ _ _ harr, ?_, fun i' f' => if i' = i ∧ off ≤ f' then (match nth y.cells.toList (f' - off) with | some u => u | none => val i' f') else val i' f', fun i' f' hi' hf' => ?_, fun i' f' s hi' hf' => ?_⟩, fun _ h => by cases h⟩
                · simp only [List.size_toArray, List.length_append, List.length_take, List.length_drop]
                  omega
                · dsimp only
                  have h6 := h3 i' f' hi' hf'
                  rw [hsz] at h6 ⊢
                  rw [List.getElem?_toArray]
                  have hne : i' ≠ i → ¬ (i * sz + off ≤ i' * sz + f' ∧ i' * sz + f' < i * sz + off + y.cells.toList.length) := by
                    intro hne
                    rcases Nat.lt_or_gt_of_ne hne with hlt | hgt
                    · have : (i' + 1) * sz ≤ i * sz := Nat.mul_le_mul_right _ hlt
                      rw [Nat.add_mul, Nat.one_mul] at this
                      omega
                    · have : (i + 1) * sz ≤ i' * sz := Nat.mul_le_mul_right _ hgt
                      rw [Nat.add_mul, Nat.one_mul] at this
                      omega
                  by_cases hin' : i * sz + off ≤ i' * sz + f' ∧ i' * sz + f' < i * sz + off + y.cells.toList.length
                  · have hii : i' = i := Classical.byContradiction fun h => hne h hin'
                    subst hii
                    rw [if_pos ⟨rfl, by omega⟩]
                    rw [List.append_assoc, List.getElem?_append_right (by simp only [List.length_take]; omega), List.getElem?_append_left (by simp only [List.length_take]; omega)]
                    have e5 : i' * sz + f' - (arr.toList.take (i' * sz + off)).length = f' - off := by simp only [List.length_take]; omega
                    rw [e5, nth_eq]
                    have : f' - off < y.cells.toList.length := by omega
                    rw [List.getElem?_eq_getElem this]
                  · have hval : (if i' = i ∧ off ≤ f' then (match nth y.cells.toList (f' - off) with | some u => u | none => val i' f') else val i' f') = val i' f' := by
                      by_cases hc : i' = i ∧ off ≤ f'
                      · obtain ⟨rfl, hof⟩ := hc
                        rw [if_pos ⟨rfl, hof⟩]
                        have : nth y.cells.toList (f' - off) = none := by rw [nth_eq, List.getElem?_eq_none]; omega
                        rw [this]
                      · rw [if_neg hc]
                    rw [hval]
                    rcases Nat.lt_or_ge (i' * sz + f') (i * sz + off) with hlt | hge
                    · rw [List.append_assoc, List.getElem?_append_left (by simp only [List.length_take]; omega), List.getElem?_take, if_pos hlt]
                      simpa using h6
                    · rw [List.getElem?_append_right (by simp only [List.length_append, List.length_take]; omega)]
                      rw [List.getElem?_drop]
                      have e5 : i * sz + off + y.cells.toList.length + (i' * sz + f' - (arr.toList.take (i * sz + off) ++ y.cells.toList).length) = i' * sz + f' := by
                        simp only [List.length_append, List.length_take]; omega
                      rw [e5]
                      simpa using h6
                · dsimp only
                  rw [upds_at]
                  by_cases hc : i' = i ∧ off ≤ f'
                  · obtain ⟨rfl, hof⟩ := hc
                    rw [if_pos ⟨rfl, hof⟩, if_pos ⟨rfl, hof⟩]
                    cases hu : nth (frzCs mem v.cells).2 (f' - off) with
                    | none =>
                      have : nth y.cells.toList (f' - off) = none := by
                        rw [nth_eq, List.getElem?_eq_none_iff] at hu ⊢
                        rw [← r1.length]; exact hu
                      rw [this]
                      exact (h4 i' f' s hi' hf').grow e2.grow0
                    | some c =>
                      obtain ⟨u, hu', hrel⟩ := r1.nth hu
                      have hu2 : nth y.cells.toList (f' - off) = some u := by rw [nth_eq]; exact hu'
                      rw [hu2]
                      have hes : nth ((es.drop off).take j.size) (f' - off) = some s := by
                        have hlt := nth_lt hu
                        rw [hlen] at hlt
                        rw [nth_eq, List.getElem?_take, if_pos hlt, List.getElem?_drop, show off + (f' - off) = f' by omega, ← nth_eq]
                        exact hf'
                      obtain ⟨c', hc', hfit'⟩ := hfn _ s hes
                      rw [hu] at hc'
                      simp at hc'; subst hc'
                      exact (fits_rel hrel hfit').grow e2.grow0
                  · rw [if_neg hc, if_neg hc]
                    exact (h4 i' f' s hi' hf').grow e2.grow0
          · simp at h
        · simp at h
      · simp at h
    · simp at h
  · simp at h

end
end Go.Sx
/-
  The evaluator's soundness (part T): parts of slices.
-/
namespace Go.Sx
open Go Go.RowKit

section
variable {P : Program}

inductive IntOpt : Option Int → Option Value → Prop
  | no : IntOpt none none
  | yes (k i) : IntOpt (some i) (some (.int k i))

theorem run_cut {w : World} {t e : TypeId} {j : TypeInfo} (ht : P.underlying t = some (.slice e)) (hj : P.info? e = some j) (a : Option Addr) {n cap : Nat} (hn : n ≤ cap) {lo hi : Option Int} {vlo vhi : Option Value} (h1 : IntOpt lo vlo) (h2 : IntOpt hi vhi)
    (hl0 : ∀ l, lo = some l → 0 ≤ l) (hl : (lo.getD 0).toNat ≤ (hi.getD n).toNat) (hh0 : ∀ h, hi = some h → 0 ≤ h) (hh : (hi.getD n).toNat ≤ n) :
    (Instr.slice t (.slice a n cap) vlo vhi none).run P w = .ok (.slice (if cap = (lo.getD 0).toNat then a else a.map (·.add ((lo.getD 0).toNat * j.size))) ((hi.getD n).toNat - (lo.getD 0).toNat) (cap - (lo.getD 0).toNat)) w := by
  have hs : (sizeOf e).run P w = .ok j.size w := by simp [sizeOf, typeInfo, hj]
  cases h1 with
  | no =>
    cases h2 with
    | no => simp [Instr.slice, run_underlying ht, Instr.sliceBounds, hs]
    | yes k h =>
      have := hh0 h rfl
      simp only [Option.getD_some] at hh
      simp [Instr.slice, run_underlying ht, Instr.sliceBounds, run_sliceBound w k h cap .sliceAcap this (by omega), hs]
  | yes k l =>
    have hl0 := hl0 l rfl
    cases h2 with
    | no =>
      simp only [Option.getD_some, Option.getD_none] at hl
      simp [Instr.slice, run_underlying ht, Instr.sliceBounds, run_sliceBound w k l n .sliceB hl0 (by omega), hs]
    | yes k' h =>
      have := hh0 h rfl
      simp only [Option.getD_some] at hh hl
      simp [Instr.slice, run_underlying ht, Instr.sliceBounds, run_sliceBound w k' h cap .sliceAcap this (by omega), run_sliceBound w k l h.toNat .sliceB hl0 (by omega), hs]

/-- a part of a slice that is read only -/
theorem cut_rel {F w} {bs : List BI} {es : List Sh} {n : Nat} {ρ : Val} {v : Value} (h : CV.Rel F w bs (.sl es n ρ) v) {l hh k : Nat} (hk : es.length = k) (hl : l ≤ hh) (hh' : hh ≤ n) {ρ' : Val} (hρ : ∀ i, ρ'.at i = ρ.at (l + i)) :
    ∃ a cap, v = .slice a n cap ∧ n ≤ cap ∧ CV.Rel F w bs (.sl es (hh - l) ρ') (.slice (if cap = l then a else a.map (·.add (l * k))) (hh - l) (cap - l)) := by
  cases h with
  | slnil =>
    obtain rfl : hh = 0 := by omega
    obtain rfl : l = 0 := by omega
    exact ⟨none, 0, rfl, Nat.le_refl _, .slnil⟩
  | sl val hn h0 hc hr =>
    rename_i cap a
    refine ⟨some a, cap, rfl, hn, ?_⟩
    have e : (if cap = l then some a else (some a).map (·.add (l * k))) = some (if cap = l then a else a.add (l * k)) := by split <;> rfl
    rw [e]
    refine .sl (fun i f => val (l + i) f) (by omega) (fun hp => ?_) (fun i f hi hf => ?_) (fun i f s hi hf => ?_)
    · obtain ⟨h1, h2, h3⟩ := h0 (by omega)
      rw [if_neg (by omega), addr_eq h1]
      exact ⟨rfl, h2, h3⟩
    · obtain ⟨h1, h2, h3⟩ := h0 (by omega)
      rw [if_neg (by omega), addr_eq h1]
      have := hc (l + i) f (by omega) hf
      rw [Nat.add_mul] at this
      rw [← hk]
      show w.cell? ⟨a.block, a.off + l * es.length + (i * es.length + f), none⟩ = _
      rw [← this]; congr 2; omega
    · rw [hρ]
      exact hr (l + i) f s (by omega) hf

theorem cutSl_ok {F w} {bs : List BI} {mem : Mem} {t e : TypeId} {j : TypeInfo} (ht : P.underlying t = some (.slice e)) (hj : P.info? e = some j) {es : List Sh} (hes : es.length = j.size) {n : Nat} {ρ : Val} {v : Value} (hv : CV.Rel F w bs (.sl es n ρ) v)
    {lo hi : Option Int} {vlo vhi : Option Value} (h1 : IntOpt lo vlo) (h2 : IntOpt hi vhi) {r : AV} {mem' : Mem} (h : (cutSl es n ρ lo hi mem).sel = some (r, mem')) :
    mem' = mem ∧ ∃ z, r.Rel F w bs z ∧ (Instr.slice t v vlo vhi none).run P w = .ok z w := by
  unfold cutSl at h
  split at h
  · simp only [Tree.sel, Option.some.injEq, Prod.mk.injEq] at h
    obtain ⟨rfl, rfl⟩ := h
    obtain ⟨a, cap, rfl, hc, hr⟩ := cut_rel hv hes (l := 0) (hh := n) (Nat.zero_le _) (Nat.le_refl _) (ρ' := ρ) (fun i => by rw [Nat.zero_add])
    refine ⟨rfl, _, ?_, run_cut ht hj a hc h1 h2 (fun _ h => by cases h) (by simp) (fun _ h => by cases h) (by simp)⟩
    exact hr
  · rename_i hh
    simp only [Tree.sel] at h
    cases hc : (le 0 hh && le hh (toInt64 n)) <;> simp [hc] at h
    obtain ⟨rfl, rfl⟩ := h
    rw [Bool.and_eq_true, le_iff, le_iff] at hc
    have hc2 : hh ≤ (n : Int) := hc.2
    obtain ⟨a, cap, rfl, hcap, hr⟩ := cut_rel hv hes (l := 0) (hh := hh.toNat) (Nat.zero_le _) (by omega) (ρ' := ρ) (fun i => by rw [Nat.zero_add])
    refine ⟨rfl, _, ?_, run_cut ht hj a hcap h1 h2 (fun _ h => by cases h) (by simp) (fun _ h => by cases h; exact hc.1) (by simp; omega)⟩
    exact hr
  · rename_i l
    simp only [Tree.sel] at h
    cases hc : (le 0 l && le l (toInt64 n)) <;> simp [hc] at h
    obtain ⟨rfl, rfl⟩ := h
    rw [Bool.and_eq_true, le_iff, le_iff] at hc
    have hc2 : l ≤ (n : Int) := hc.2
    obtain ⟨a, cap, rfl, hcap, hr⟩ := cut_rel hv hes (l := l.toNat) (hh := n) (by omega) (Nat.le_refl _) (ρ' := ρ.from l.toNat) (fun i => rfl)
    refine ⟨rfl, _, ?_, run_cut ht hj a hcap h1 h2 (fun _ h => by cases h; exact hc.1) (by simp; omega) (fun _ h => by cases h) (by simp)⟩
    exact hr
  · rename_i l hh
    simp only [Tree.sel] at h
    cases hc : (le 0 l && le l hh && le hh (toInt64 n)) <;> simp [hc] at h
    obtain ⟨rfl, rfl⟩ := h
    rw [Bool.and_eq_true, Bool.and_eq_true, le_iff, le_iff, le_iff] at hc
    have hc2 : hh ≤ (n : Int) := hc.2
    obtain ⟨a, cap, rfl, hcap, hr⟩ := cut_rel hv hes (l := l.toNat) (hh := hh.toNat) (by omega) (by omega) (ρ' := ρ.from l.toNat) (fun i => rfl)
    refine ⟨rfl, _, ?_, run_cut ht hj a hcap h1 h2 (fun _ h => by cases h; exact hc.1.1) (by simp; omega) (fun _ h => by cases h; omega) (by simp; omega)⟩
    exact hr

theorem IntOpt.zero {lo : Option Int} {vlo : Option Value} (h : IntOpt lo vlo) (hz : isZero lo = true) : vlo = none ∨ ∃ k, vlo = some (.int k 0) := by
  cases h with
  | no => exact .inl rfl
  | yes k i =>
    have : i = 0 := by simpa [isZero] using hz
    subst this
    exact .inr ⟨k, rfl⟩

theorem run_cut0 {w : World} {t e : TypeId} {j : TypeInfo} (ht : P.underlying t = some (.slice e)) (hj : P.info? e = some j) (a : Option Addr) (n cap : Nat) {vlo : Option Value} (h1 : vlo = none ∨ ∃ k, vlo = some (.int k 0)) (k k' : IntKind) :
    (Instr.slice t (.slice a n cap) vlo (some (.int k 0)) (some (.int k' 0))).run P w = .ok (.slice a 0 0) w := by
  have hs : (sizeOf e).run P w = .ok j.size w := by simp [sizeOf, typeInfo, hj]
  rcases h1 with rfl | ⟨k'', rfl⟩
  · simp [Instr.slice, run_underlying ht, Instr.sliceBounds, run_sliceBound, hs]
  · simp [Instr.slice, run_underlying ht, Instr.sliceBounds, run_sliceBound, hs]

theorem run_cutnil {w : World} {t e : TypeId} {j : TypeInfo} (ht : P.underlying t = some (.slice e)) (hj : P.info? e = some j) {vlo vhi : Option Value} (h1 : vlo = none ∨ ∃ k, vlo = some (.int k 0)) (h2 : vhi = none ∨ ∃ k, vhi = some (.int k 0)) :
    (Instr.slice t (.slice none 0 0) vlo vhi none).run P w = .ok (.slice none 0 0) w := by
  have hs : (sizeOf e).run P w = .ok j.size w := by simp [sizeOf, typeInfo, hj]
  rcases h1 with rfl | ⟨k, rfl⟩ <;> rcases h2 with rfl | ⟨k', rfl⟩ <;> simp [Instr.slice, run_underlying ht, Instr.sliceBounds, run_sliceBound, hs]

theorem slice_ok {F w bs mem} (hm : MemRel P F w bs mem) {t : TypeId} {a : A1} {lo hi mx : Option Int} {vlo vhi vmx : Option Value} (h1 : IntOpt lo vlo) (h2 : IntOpt hi vhi) (h3 : IntOpt mx vmx) {r : AV} {mem' : Mem} (h : (evSlice P mem t a lo hi mx).sel = some (r, mem')) {v : Value} (ha : A1.Rel F w bs a v) :
    ∃ F' bs' z, Ext bs.length F w bs F' w bs' ∧ MemRel P F' w bs' mem' ∧ r.Rel F' w bs' z ∧ (Instr.slice t v vlo vhi vmx).run P w = .ok z w := by
  unfold evSlice at h
  split at h
  · rename_i e ht
    split at h
    · rename_i j hj
      split at h
      · rename_i m
        split at h
        · rename_i hcond
          rw [Bool.and_eq_true, Bool.and_eq_true] at hcond
          obtain ⟨⟨hm0, hlo⟩, hhi⟩ := hcond
          have hm0 := eq_of_beq hm0
          subst hm0
          obtain ⟨km, rfl⟩ : ∃ k, vmx = some (.int k 0) := by cases h3; exact ⟨_, rfl⟩
          obtain ⟨kh, rfl⟩ : ∃ k, vhi = some (.int k 0) := by
            cases h2 with
            | no => cases hhi
            | yes k i =>
              have : i = 0 := by simpa [isZero0] using hhi
              subst this
              exact ⟨k, rfl⟩
          have hlo := h1.zero hlo
          have lay : ∀ (es : List Sh) (ρ : Val) (base : Option Addr) (n cap : Nat), v = .slice base n cap → ∃ F' bs' z, Ext bs.length F w bs F' w bs' ∧ MemRel P F' w bs' (mem ++ [some (e, [.row false es 0 ρ])]) ∧ AV.Rel F' w bs' (.one (.c (.os mem.length j.size))) z ∧ (Instr.slice t v vlo (some (.int kh 0)) (some (.int km 0))).run P w = .ok z w := by
            intro es ρ base n cap hv
            subst hv
            obtain ⟨he, hm2⟩ := hm.lay0 e es rfl ρ
            exact ⟨F, _, _, he, hm2, CV.Rel.os (x := ⟨w.heap.size, 0, 0⟩) (by rw [← hm.len]; exact nth_append_last _ _) (fun h => by simp at h), run_cut0 ht hj base n cap hlo kh km⟩
          split at h
          · simp only [Tree.sel, Option.some.injEq, Prod.mk.injEq] at h
            obtain ⟨rfl, rfl⟩ := h
            cases ha
            exact ⟨F, bs, _, Ext.refl, hm, CV.Rel.nils, run_cut0 ht hj none 0 0 hlo kh km⟩
          · split at h
            · simp only [Tree.sel, Option.some.injEq, Prod.mk.injEq] at h
              obtain ⟨rfl, rfl⟩ := h
              refine (show ∃ base n cap, v = .slice base n cap from ?_).elim fun base hb => hb.elim fun n hb => hb.elim fun cap hb => lay _ _ base n cap hb
              cases ha
              · exact ⟨_, _, _, rfl⟩
              · exact ⟨_, _, _, rfl⟩
            · simp [Tree.sel] at h
          · split at h
            · split at h
              · simp only [Tree.sel, Option.some.injEq, Prod.mk.injEq] at h
                obtain ⟨rfl, rfl⟩ := h
                refine (show ∃ base n cap, v = .slice base n cap from ?_).elim fun base hb => hb.elim fun n hb => hb.elim fun cap hb => lay _ _ base n cap hb
                cases ha
                exact ⟨_, _, _, rfl⟩
              · simp [Tree.sel] at h
            · simp [Tree.sel] at h
          · simp [Tree.sel] at h
        · simp [Tree.sel] at h
      · cases h3
        split at h
        · split at h
          · rename_i hes
            obtain ⟨rfl, z, hz, hrun⟩ := cutSl_ok ht hj (by simpa using hes) ha h1 h2 h
            exact ⟨F, bs, z, Ext.refl, hm, hz, hrun⟩
          · simp [Tree.sel] at h
        · split at h
          · rename_i hc
            rw [Bool.and_eq_true] at hc
            simp only [Tree.sel, Option.some.injEq, Prod.mk.injEq] at h
            obtain ⟨rfl, rfl⟩ := h
            cases ha
            exact ⟨F, bs, _, Ext.refl, hm, CV.Rel.nils, run_cutnil ht hj (h1.zero hc.1) (h2.zero hc.2)⟩
          · simp [Tree.sel] at h
        · rename_i b sz
          split at h
          · rename_i T fz es n ρ hrow
            split at h
            · rename_i hc
              simp only [Bool.and_eq_true, beq_iff_eq] at hc
              obtain ⟨⟨hes, hsz⟩, hT⟩ := hc
              subst hT
              have hrow := rowAt_some hrow
              obtain ⟨x, hb⟩ : ∃ x, nth bs b = some x := by cases ha; exact ⟨_, by assumption⟩
              split at h
              · -- a head that stays one's own
                rename_i hh _
                simp only [Tree.sel] at h
                cases hc : (lt 0 hh && le hh (toInt64 n)) <;> simp [hc] at h
                obtain ⟨rfl, rfl⟩ := h
                rw [Bool.and_eq_true, lt_iff, le_iff] at hc
                have hc2 : hh ≤ (n : Int) := hc.2
                have hr := hm.row b T false es n ρ x hrow hb
                have hn0 : 0 < n := by omega
                obtain ⟨arr, harr, hs', val, h3', h4'⟩ := hr.block hn0
                have hlive : liveL x [CV.row false es n ρ] := ⟨rfl, hr.room hn0⟩
                have hF := hm.loc b x T _ hb hrow hlive
                have hinj := hm.rewrite_inj hb hrow hlive
                have hlen : (setN mem b none).length = mem.length := setN_length _ _ _
                have hkill := hm.kill b
                refine ⟨F, bs ++ [⟨x.p, hh.toNat, x.cap⟩], .slice (some ⟨x.p, 0, none⟩) hh.toNat x.cap, Ext.refl.push (.inl ⟨x, nth_mem hb, rfl⟩), hkill.push ⟨x.p, hh.toNat, x.cap⟩ (fun _ => hF) (fun _ => hinj) (fun h => by simp [isRowL] at h) (fun fz' es' n' ρ' h => ?_),
                  CV.Rel.os (x := ⟨x.p, hh.toNat, x.cap⟩) (by rw [← hlen, ← hkill.len]; exact nth_append_last _ _) (fun _ => rfl), ?_⟩
                · simp at h
                  obtain ⟨rfl, rfl, rfl, rfl⟩ := h
                  have := (hr.cap hn0)
                  exact ⟨rfl, by simp only; omega, this.2, fun _ => ⟨arr, harr, hs', val, fun i f hi => h3' i f (by omega), fun i f s hi => h4' i f s (by omega)⟩, fun _ h => by cases h⟩
                · cases ha with
                  | os hb' hbase =>
                    rename_i y base
                    rw [hb] at hb'; simp at hb'; subst hb'
                    have hbs := hbase (hr.room hn0)
                    subst hbs
                    have := (hr.cap hn0).1
                    have hcut := run_cut (P := P) (w := w) ht hj (some ⟨x.p, 0, none⟩) (n := x.n) (cap := x.cap) (by rw [hr.len]; exact this) h1 h2 (fun _ h => by cases h) (by simp) (fun _ h => by cases h; omega) (by rw [hr.len]; simp; omega)
                    rw [hcut]
                    simp only [Option.getD_none, Option.getD_some, Int.toNat_zero, Nat.sub_zero, Nat.zero_mul]
                    rw [if_neg (by omega)]
                    simp [addr_eq]
              · -- frozen
                obtain ⟨F', he, hm2, hok, hF⟩ := hm.freeze hb hrow
                have hsl := os_sl hb hok hF (by omega) ha bs
                obtain ⟨rfl, z, hz, hrun⟩ := cutSl_ok ht hj hes hsl h1 h2 h
                exact ⟨F', bs, z, he, hm2, hz, hrun⟩
            · simp [Tree.sel] at h
          · simp [Tree.sel] at h
        · simp [Tree.sel] at h
    · simp [Tree.sel] at h
  · simp [Tree.sel] at h

theorem slice_type {mem : Mem} {t : TypeId} {a : A1} {lo hi mx : Option Int} {q : AV × Mem} (h : (evSlice P mem t a lo hi mx).sel = some q) : ∃ e, P.underlying t = some (.slice e) := by
  unfold evSlice at h
  split at h
  · rename_i e ht; exact ⟨e, ht⟩
  · simp [Tree.sel] at h

end
end Go.Sx
/-
  The evaluator's soundness: the tail of a slice of one's own, and its clearing.
-/
namespace Go.Sx
open Go Go.RowKit

section
variable {P : Program}

theorem ofCs_nth : ∀ (l : List CV) (i : Nat), Val.ofCs.nthC l i = nth l i
  | [], 0 => rfl
  | [], _ + 1 => rfl
  | _ :: _, 0 => rfl
  | _ :: r, i + 1 => ofCs_nth r i

theorem tail_ok {F w bs mem} (hm : MemRel P F w bs mem) {t : TypeId} {a : A1} {lo hi mx : Option Int} {vlo vhi vmx : Option Value} (h1 : IntOpt lo vlo) (h2 : IntOpt hi vhi) (h3 : IntOpt mx vmx) {T : Tree (AV × Mem)} (hT : evTail P mem t a lo hi mx = some T)
    {r : AV} {mem' : Mem} (h : T.sel = some (r, mem')) {v : Value} (ha : A1.Rel F w bs a v) :
    mem' = mem ∧ (∃ z, r.Rel F w bs z ∧ (Instr.slice t v vlo vhi vmx).run P w = .ok z w) ∧ ∃ e, P.underlying t = some (.slice e) := by
  unfold evTail at hT
  split at hT
  · rename_i b sz l
    split at hT
    · rename_i e T' es n ρ ht hrow
      split at hT
      · rename_i j hj
        split at hT
        · rename_i hc
          simp only [Bool.and_eq_true, beq_iff_eq] at hc
          obtain ⟨⟨hes, hsz⟩, hTe⟩ := hc
          subst hTe
          simp only [Option.some.injEq] at hT
          subst hT
          simp only [Tree.sel] at h
          cases hl : (le 0 l && lt l (toInt64 n)) <;> simp [hl] at h
          obtain ⟨rfl, rfl⟩ := h
          rw [Bool.and_eq_true, le_iff, lt_iff] at hl
          have hl2 : l < (n : Int) := hl.2
          have hrow := rowAt_some hrow
          cases h2
          cases h3
          cases h1 with
          | yes k _ =>
            cases ha with
            | os hb hbase =>
              rename_i x base
              have hr := hm.row b T' false es n ρ x hrow hb
              have hbs := hbase (hr.room (by omega))
              subst hbs
              have hcap := (hr.cap (by omega)).1
              refine ⟨rfl, ⟨.slice (some ⟨x.p, l.toNat * sz, none⟩) (x.n - l.toNat) (x.cap - l.toNat), CV.Rel.ost hb (by rw [hr.len]; omega), ?_⟩, T', ht⟩
              have hcut := run_cut (P := P) (w := w) ht hj (some ⟨x.p, 0, none⟩) (n := x.n) (cap := x.cap) (by rw [hr.len]; exact hcap) (.yes k l) .no (fun _ h => by cases h; exact hl.1) (by simp [hr.len]; omega) (fun _ h => by cases h) (by simp)
              rw [hcut]
              simp only [Option.getD_none, Option.getD_some]
              have hne : ¬ x.cap = l.toNat := by omega
              rw [if_neg hne, hsz]
              simp [addr_eq]
        · simp at hT
      · simp at hT
    · simp at hT
  · simp at hT

theorem clear_ok {F w bs mem} (hm : MemRel P F w bs mem) {t ty : TypeId} {a : A1} {r : AV} {mem' : Mem} (h : (evClear P mem t a).sel = some (r, mem')) {v : Value} (ha : A1.Rel F w bs a v) :
    ∃ w', Ext bs.length F w bs F w' bs ∧ MemRel P F w' bs mem' ∧ r = .any ∧ (Builtin.clear_ #[t] ty #[v]).run P w = .ok (.tuple #[]) w' := by
  unfold evClear at h
  split at h
  · rename_i b sz lo
    split at h
    · rename_i e T es n ρ ht hrow
      split at h
      · rename_i z hz
        split at h
        · rename_i hc
          simp only [Bool.and_eq_true, beq_iff_eq, Nat.blt_eq] at hc
          obtain ⟨⟨⟨⟨hes, hzl⟩, hpos⟩, hTe⟩, hfit⟩ := hc
          subst hTe
          simp only [Tree.sel, Option.some.injEq, Prod.mk.injEq] at h
          obtain ⟨rfl, rfl⟩ := h
          have hrow := rowAt_some hrow
          cases ha with
          | ost hb hlo =>
            rename_i x
            have hr := hm.row b T false es n ρ x hrow hb
            have hlo' : lo < n := by rw [← hr.len]; exact hlo
            have hn0 : 0 < n := by omega
            obtain ⟨arr, harr, hs, val, h3, h4⟩ := hr.block hn0
            have hlive : liveL x [CV.row false es n ρ] := ⟨rfl, hr.room hn0⟩
            have hcap := (hr.cap hn0).1
            obtain ⟨zv, hzv, hzr⟩ := zeroCellsOf_ok (F := F) (w := w) (bs := bs) hz
            have hzlen : zv.cells.size = sz := by
              have := hzr.length
              simp at this; omega
            have hzs : (Builtin.zeroCells zv.cells (x.n - lo)).toList.length = (n - lo) * sz := by
              rw [Array.length_toList, size_zeroCells, hzlen, hr.len]
            have hznth : ∀ i f, i < n - lo → f < sz → (Builtin.zeroCells zv.cells (x.n - lo)).toList[i * sz + f]? = zv.cells.toList[f]? := by
              intro i f hi hf
              have hlt : i * sz + f < (n - lo) * sz := by
                have : (i + 1) * sz ≤ (n - lo) * sz := Nat.mul_le_mul_right _ hi
                rw [Nat.add_mul, Nat.one_mul] at this
                omega
              have hmod : (i * sz + f) % sz = f := by
                rw [Nat.add_comm, Nat.add_mul_mod_self_right]
                exact Nat.mod_eq_of_lt hf
              simp only [Builtin.zeroCells, Array.getElem?_toList, Array.getElem?_map, hzlen, hr.len]
              rw [Array.getElem?_range, if_pos hlt]
              simp only [Option.map_some, hmod]
              rw [getElem!_pos zv.cells f (by omega), Array.getElem?_eq_getElem (by omega)]
            have hone : ∀ u ∈ (Builtin.zeroCells zv.cells (x.n - lo)).toList, u.oneCell' = true := by
              intro u hu
              simp only [Builtin.zeroCells, Array.toList_map, List.mem_map, Array.mem_toList_iff, Array.mem_range, hzlen] at hu
              obtain ⟨i, _, rfl⟩ := hu
              have hlt : i % sz < zv.cells.size := by rw [hzlen]; exact Nat.mod_lt _ hpos
              rw [getElem!_pos zv.cells _ hlt]
              obtain ⟨c, _, hc⟩ := hzr.nth' (i := i % sz) (b := zv.cells[i % sz]) (by rw [Array.getElem?_toList, Array.getElem?_eq_getElem hlt])
              exact hc.one
            have hal : arr.toList.length = arr.size := by simp
            have hmul : lo * sz + (n - lo) * sz = n * sz := by rw [← Nat.add_mul]; congr 1; omega
            have hcapm : n * sz ≤ x.cap * sz := Nat.mul_le_mul_right _ hcap
            have hfitA : lo * sz + 0 + (Builtin.zeroCells zv.cells (x.n - lo)).toList.length ≤ arr.size := by
              rw [hs, hzs, hes]; omega
            have hst := run_storeCells_at (P := P) x.p (lo * sz) T (Builtin.zeroCells zv.cells (x.n - lo)).toList 0 arr w harr hfitA hone
            simp only [Nat.add_zero] at hst
            obtain ⟨e2, m2⟩ := hm.rewrite hb hrow hlive (arr.toList.take (lo * sz) ++ (Builtin.zeroCells zv.cells (x.n - lo)).toList ++ arr.toList.drop (lo * sz + (Builtin.zeroCells zv.cells (x.n - lo)).toList.length)).toArray
            have hF := hm.loc b x T _ hb hrow hlive
            have hinj := hm.rewrite_inj hb hrow hlive
            refine ⟨_, e2, ?_, rfl, ?_⟩
            · have := m2.put hb (T := T) (cs := [.row false es n (Val.cat lo ρ (.byFst fun _ => Val.ofCs z))]) killed_no (fun _ => ⟨hF.1, by simpa [World.setRow] using hF.2⟩) (fun _ => hinj) (fun h => by simp [isRowL] at h) (fun fz' es'' n' ρ' h => ?_)
              · rwa [setN_setN] at this
              · simp at h
                obtain ⟨rfl, rfl, rfl, rfl⟩ := h
                refine ⟨hr.len, hr.le, hr.mx, fun _ => ⟨_, setRow_heap w x.p _ _ _ _ harr, ?_, fun i f => if i < lo then val i f else (match nth zv.cells.toList f with | some u => u | none => undef), fun i f hi hf => ?_, fun i f s hi hf => ?_⟩, fun _ h => by cases h⟩
                · simp only [List.size_toArray, List.length_append, List.length_take, List.length_drop]
                  omega
                · dsimp only
                  have h6 := h3 i f hi hf
                  rw [hes] at h6 hf ⊢
                  rw [List.getElem?_toArray]
                  by_cases hil : i < lo
                  · rw [if_pos hil]
                    have hlt : i * sz + f < lo * sz := by
                      have : (i + 1) * sz ≤ lo * sz := Nat.mul_le_mul_right _ hil
                      rw [Nat.add_mul, Nat.one_mul] at this
                      omega
                    rw [List.append_assoc, List.getElem?_append_left (by simp only [List.length_take]; omega), List.getElem?_take, if_pos hlt]
                    simpa using h6
                  · rw [if_neg hil]
                    have hge : lo * sz ≤ i * sz := Nat.mul_le_mul_right _ (by omega)
                    have hlt : i * sz + f < n * sz := by
                      have : (i + 1) * sz ≤ n * sz := Nat.mul_le_mul_right _ hi
                      rw [Nat.add_mul, Nat.one_mul] at this
                      omega
                    have htk : (arr.toList.take (lo * sz)).length = lo * sz := by simp only [List.length_take]; omega
                    rw [List.append_assoc, List.getElem?_append_right (by omega), List.getElem?_append_left (by rw [htk, hzs]; omega), htk]
                    have e5 : i * sz + f - lo * sz = (i - lo) * sz + f := by
                      rw [Nat.sub_mul]; omega
                    rw [e5, hznth (i - lo) f (by omega) hf, nth_eq]
                    have : f < zv.cells.toList.length := by rw [Array.length_toList]; omega
                    rw [List.getElem?_eq_getElem this]
                · dsimp only
                  have hfl := nth_lt hf
                  by_cases hil : i < lo
                  · rw [if_pos hil]
                    have e6 : (Val.cat lo ρ (.byFst fun _ => Val.ofCs z)).at i = ρ.at i := by
                      unfold Val.cat
                      rw [byFst_at]
                      have : Nat.blt i lo = true := by simpa using hil
                      rw [this]; rfl
                    rw [e6]
                    exact (h4 i f s hi hf).grow e2.grow0
                  · rw [if_neg hil]
                    have e6 : (Val.cat lo ρ (.byFst fun _ => Val.ofCs z)).at i = Val.ofCs z := by
                      unfold Val.cat
                      rw [byFst_at]
                      have : Nat.blt i lo = false := by
                        rw [← Bool.not_eq_true]; simpa using hil
                      rw [this]; rfl
                    rw [e6]
                    obtain ⟨_, hfn⟩ := fitsL_nth hfit
                    obtain ⟨c, hc, hfc⟩ := hfn f s hf
                    obtain ⟨u, hu, hrel⟩ := hzr.nth hc
                    have hu2 : nth zv.cells.toList f = some u := by rw [nth_eq]; exact hu
                    rw [hu2]
                    have e7 : (Val.ofCs z).at f = Val.ofC c := by
                      unfold Val.ofCs
                      rw [byFst_at, ofCs_nth, hc]
                    rw [e7]
                    exact (fits_rel hrel hfc).grow e2.grow0
            · obtain ⟨k, hk⟩ : ∃ k, x.n - lo = k + 1 := ⟨x.n - lo - 1, by omega⟩
              rw [hk] at hst ⊢
              simp [Builtin.clear_, run_underlying ht, hzv, hst]
        · simp [Tree.sel] at h
      · simp [Tree.sel] at h
    · simp [Tree.sel] at h
  · simp [Tree.sel] at h

end
end Go.Sx
/-
  The evaluator's soundness (part Tm): slices of zeros.
-/
namespace Go.Sx
open Go Go.RowKit

section
variable {P : Program}

theorem nthC_eq (l : List CV) : ∀ n, Val.ofCs.nthC l n = nth l n := by
  induction l with
  | nil => intro n; rfl
  | cons x r ih => intro n; cases n with
    | zero => rfl
    | succ n => exact ih n

theorem make_ok {F w bs mem} (hm : MemRel P F w bs mem) {t : TypeId} {a b : AV} {va vb : Value} {r : AV} {mem' : Mem} (h : (evMake P mem t a b).sel = some (r, mem')) (ha : a.Rel F w bs va) (hb : b.Rel F w bs vb) :
    ∃ F' w' bs' v, Ext bs.length F w bs F' w' bs' ∧ MemRel P F' w' bs' mem' ∧ r.Rel F' w' bs' v ∧ (Instr.makeSlice t va vb).run P w = .ok v w' := by
  unfold evMake at h
  split at h
  · rename_i kl l kc c
    split at h
    · rename_i e hu
      split at h
      · rename_i j es z hj hes hz
        split at h
        · rename_i hcond
          simp only [Bool.and_eq_true, beq_iff_eq, Nat.blt_eq] at hcond
          obtain ⟨⟨⟨⟨h1, h2⟩, hby⟩, h3⟩, hfit⟩ := hcond
          simp only [Tree.sel] at h
          cases hc : (le 0 l && le l c && le (c * toInt64 j.bytes) 140737488355328) <;> simp [hc] at h
          obtain ⟨rfl, rfl⟩ := h
          rw [Bool.and_eq_true, Bool.and_eq_true, le_iff, le_iff, le_iff] at hc
          obtain ⟨⟨hl0, hlc⟩, hmax⟩ := hc
          have hmax : c * (j.bytes : Int) ≤ 140737488355328 := hmax
          have hc0 : 0 ≤ c := Int.le_trans hl0 hlc
          have hcb : c ≤ 140737488355328 := by
            have h1 : c * 1 ≤ c * (j.bytes : Int) := Int.mul_le_mul_of_nonneg_left (by omega) hc0
            omega
          unfold zeroCellsOf at hz
          simp only [hj] at hz
          split at hz
          · rename_i zv hzv
            have hzc : All2 (CV.Rel F w bs) z zv.cells.toList := liftCells_ok hz
            have hzs : zv.cells.size = j.size := by have := hzc.length; simp at this; omega
            obtain ⟨hfl, hfn⟩ := fitsL_nth hfit
            cases ha
            cases hb
            have hrun := run_make (P := P) w t e j zv hu hj hzv kl kc l c hl0 hlc (by rw [Int.mul_comm]; omega) (by omega)
            have hat : ∀ i f, i < c.toNat → f < es.length → (madeCells zv.cells (c.toNat * j.size))[i * es.length + f]? = some (zv.cells[f]!) := by
              intro i f hi hf
              have hlt : i * es.length + f < c.toNat * j.size := by rw [← h1]; exact flat_lt hi hf
              have hlt2 : i * es.length + f < (madeCells zv.cells (c.toNat * j.size)).size := by rw [size_madeCells]; exact hlt
              rw [Array.getElem?_eq_getElem hlt2]
              simp only [madeCells, Array.getElem_map, Array.getElem_range]
              rw [hzs, ← h1, flat_mod hf]
            obtain ⟨F', he, hm'⟩ := hm.lay (e := e) (es := es) (n := l.toNat) (cap := c.toNat) (ρ := .byFst fun _ => Val.ofCs z) (arr := madeCells zv.cells (c.toNat * j.size)) (by omega) (by simp only [maxLen]; omega) (by rw [size_madeCells, h1]) (fun _ f => zv.cells[f]!)
              (fun i f hi hf => hat i f (by omega) hf) (fun i f s hi hf => by
                obtain ⟨x, hx, hfx⟩ := hfn f s hf
                obtain ⟨u, hu', hr⟩ := hzc.nth hx
                have e1 : ((Val.byFst fun _ => Val.ofCs z).at i).at f = Val.ofC x := by
                  show (match Val.ofCs.nthC z f with | some x => Val.ofC x | none => Val.zero) = _
                  rw [nthC_eq, hx]
                rw [e1]
                simp only [Array.getElem?_toList] at hu'
                rw [getElem!_def, hu']
                exact fits_rel hr hfx)
            exact ⟨F', _, _, _, he, hm', CV.Rel.os (x := ⟨w.heap.size, l.toNat, c.toNat⟩) (by rw [← hm.len]; exact nth_append_last _ _) (fun _ => rfl), hrun⟩
          · cases hz
        · simp [Tree.sel] at h
      · simp [Tree.sel] at h
    · simp [Tree.sel] at h
  · simp [Tree.sel] at h

end
end Go.Sx
/-
  The evaluator's soundness (part Td): literals of plain data, heads of own slices, copies.
-/
namespace Go.Sx
open Go Go.RowKit

section
variable {P : Program}

theorem head_ok {F w bs mem} (hm : MemRel P F w bs mem) {t : TypeId} {a : A1} {lo hi mx : Option Int} {vlo vhi vmx : Option Value} (h1 : IntOpt lo vlo) (h2 : IntOpt hi vhi) (h3 : IntOpt mx vmx) {T : Tree (AV × Mem)} (hT : evHead P mem t a lo hi mx = some T)
    {r : AV} {mem' : Mem} (h : T.sel = some (r, mem')) {v : Value} (ha : A1.Rel F w bs a v) :
    mem' = mem ∧ (∃ z, r.Rel F w bs z ∧ (Instr.slice t v vlo vhi vmx).run P w = .ok z w) ∧ ∃ e, P.underlying t = some (.slice e) := by
  unfold evHead at hT
  split at hT
  · rename_i b sz hh
    split at hT
    · rename_i e T' es n ρ ht hrow
      split at hT
      · rename_i j hj
        split at hT
        · rename_i hc
          simp only [Bool.and_eq_true, beq_iff_eq] at hc
          obtain ⟨⟨hes, hsz⟩, hTe⟩ := hc
          subst hTe
          simp only [Option.some.injEq] at hT
          subst hT
          simp only [Tree.sel] at h
          cases hl : (le 0 hh && le hh (toInt64 n)) <;> simp [hl] at h
          obtain ⟨rfl, rfl⟩ := h
          rw [Bool.and_eq_true, le_iff, le_iff] at hl
          have hl2 : hh ≤ (n : Int) := hl.2
          have hrow := rowAt_some hrow
          cases h1
          cases h3
          cases h2 with
          | yes k _ =>
            cases ha with
            | os hb hbase =>
              rename_i x base
              have hr := hm.row b T' false es n ρ x hrow hb
              refine ⟨rfl, ⟨.slice base hh.toNat x.cap, CV.Rel.osh hb (by rw [hr.len]; omega) hbase, ?_⟩, T', ht⟩
              have hcut := run_cut (P := P) (w := w) ht hj base (n := x.n) (cap := x.cap) (by rw [hr.len]; exact hr.le) .no (.yes k hh) (fun _ h => by cases h) (by simp) (fun _ h => by cases h; exact hl.1) (by simp [hr.len]; omega)
              rw [hcut]
              simp only [Option.getD_none, Option.getD_some, Int.toNat_zero, Nat.zero_mul, Nat.sub_zero]
              congr 2
              split
              · rfl
              · cases base with
                | none => rfl
                | some q =>
                  obtain ⟨q1, q2, q3⟩ := q
                  simp only [Option.map_some, Addr.add]
                  split <;> simp_all
        · simp at hT
      · simp at hT
    · simp at hT
  · simp at hT

theorem add_none {p o j : Nat} : (⟨p, o, none⟩ : Addr).add j = ⟨p, o + j, none⟩ := by
  unfold Addr.add; split <;> simp_all

/-- what a copy reads -/
theorem cpOf_ok {F w bs mem} (hm : MemRel P F w bs mem) {x : A1} {es : List Sh} {m : Nat} {σ : Val} (h : cpOf mem x = some (es, m, σ)) {u : Value} (hx : A1.Rel F w bs x u) :
    ∃ sb sc, u = .slice sb m sc ∧ ∃ val : Nat → Nat → Value, (∀ k, k ≤ m → (Builtin.firstCells es.length k u).run P w = .ok (((List.range (k * es.length)).map fun q => val (q / es.length) (q % es.length)).toArray) w) ∧
      (∀ i f s, i < m → nth es f = some s → CV.Rel F w [] (cellOf s ((σ.at i).at f)) (val i f)) := by
  have load : ∀ (blk off : Nat) (val : Nat → Nat → Value) (m : Nat), (∀ i f, i < m → f < es.length → w.cell? ⟨blk, off + (i * es.length + f), none⟩ = some (val i f)) → ∀ k, k ≤ m →
      (loadCells ⟨blk, off, none⟩ (k * es.length)).run P w = .ok (((List.range (k * es.length)).map fun q => val (q / es.length) (q % es.length)).toArray) w := by
    intro blk off val m hc k hk
    refine run_loadCells w _ _ _ fun q hq => ?_
    rw [add_none]
    have hpos : 0 < es.length := by
      rcases Nat.eq_zero_or_pos es.length with h0 | h0
      · rw [h0] at hq; omega
      · exact h0
    have hdiv : q / es.length < k := Nat.div_lt_of_lt_mul (by rw [Nat.mul_comm]; exact hq)
    have := hc (q / es.length) (q % es.length) (by omega) (Nat.mod_lt _ hpos)
    rwa [Nat.mul_comm, Nat.div_add_mod] at this
  unfold cpOf at h
  split at h
  · rename_i es' n ρ
    simp only [Option.some.injEq, Prod.mk.injEq] at h
    obtain ⟨rfl, rfl, rfl⟩ := h
    cases hx with
    | slnil =>
      refine ⟨none, 0, rfl, fun _ _ => undef, fun k hk => ?_, fun i f s hi => by omega⟩
      obtain rfl : k = 0 := by omega
      simp [Builtin.firstCells]
    | sl val hn h0 hc hr =>
      rename_i cap a
      refine ⟨some a, _, rfl, val, fun k hk => ?_, hr⟩
      show (loadCells a (k * es'.length)).run P w = _
      by_cases hn0 : n = 0
      · obtain rfl : k = 0 := by omega
        rw [Nat.zero_mul]
        exact run_loadCells w a 0 _ fun j hj => by omega
      · obtain ⟨hs, _, _⟩ := h0 (by omega)
        obtain ⟨blk, off, spot⟩ := a
        simp only at hs
        subst hs
        exact load blk off val n hc k hk
  · rename_i b sz m'
    split at h
    · rename_i T fz es' n ρ hrow
      split at h
      · rename_i hsz
        simp only [Option.some.injEq, Prod.mk.injEq] at h
        obtain ⟨rfl, rfl, rfl⟩ := h
        have hrow := rowAt_some hrow
        cases hx with
        | osh hb hl hbase =>
          rename_i xb base
          have hr := hm.row b T fz es' n ρ xb hrow hb
          have hmn : m' ≤ n := by rw [← hr.len]; exact hl
          by_cases hm0 : m' = 0
          · subst hm0
            refine ⟨base, _, rfl, fun _ _ => undef, fun k hk => ?_, fun i f s hi => by omega⟩
            obtain rfl : k = 0 := by omega
            cases base with
            | none => simp [Builtin.firstCells]
            | some a =>
              simp only [Builtin.firstCells, Nat.zero_mul]
              exact run_loadCells w a 0 _ fun j hj => by omega
          · have hn0 : 0 < n := by omega
            obtain ⟨arr, harr, hs, val, h3, h4⟩ := hr.block hn0
            have := hbase (hr.room hn0)
            subst this
            refine ⟨_, _, rfl, val, fun k hk => ?_, fun i f s hi hs => h4 i f s (by omega) hs⟩
            refine load xb.p 0 val m' (fun i f hi hf => ?_) k hk
            rw [Nat.zero_add]
            have := h3 i f (by omega) hf
            simp only [World.cell?, harr, Option.isSome_none, Bool.false_eq_true, if_false]
            exact this
      · simp at h
    · simp at h
  · simp at h

theorem splice_lt {lo k i : Nat} {ρ σ : Val} (h : i < lo ∨ lo + k ≤ i) : (splice lo k ρ σ).at i = ρ.at i := by
  unfold splice
  rw [byFst_at]
  cases h1 : Nat.blt i lo
  · have h2 : Nat.blt i (lo + k) = false := by
      rw [← Bool.not_eq_true] at h1 ⊢
      simp only [Nat.blt_eq] at h1 ⊢
      omega
    rw [h2]; rfl
  · rfl

theorem splice_in {lo k i : Nat} {ρ σ : Val} (h1 : lo ≤ i) (h2 : i < lo + k) : (splice lo k ρ σ).at i = σ.at (i - lo) := by
  unfold splice
  rw [byFst_at]
  have e1 : Nat.blt i lo = false := by rw [← Bool.not_eq_true]; simp only [Nat.blt_eq]; omega
  have e2 : Nat.blt i (lo + k) = true := by simp only [Nat.blt_eq]; exact h2
  rw [e1, e2]; rfl

theorem copy_ok {F w bs mem} (hm : MemRel P F w bs mem) {t ty : TypeId} {ts : List TypeId} {a x : A1} {r : AV} {mem' : Mem} (h : (evCopy P mem t a x).sel = some (r, mem')) {v u : Value} (ha : A1.Rel F w bs a v) (hx : A1.Rel F w bs x u) :
    ∃ w' z, Ext bs.length F w bs F w' bs ∧ MemRel P F w' bs mem' ∧ r.Rel F w' bs z ∧ (Builtin.copy_ (t :: ts).toArray ty #[v, u]).run P w = .ok z w' := by
  unfold evCopy at h
  split at h
  · rename_i b sz lo es' m σ hd hc
    split at h
    · rename_i e T es n ρ ht hrow
      split at h
      · rename_i j hj
        split at h
        · rename_i hcond
          simp only [Bool.and_eq_true, beq_iff_eq, Nat.blt_eq] at hcond
          obtain ⟨⟨⟨⟨hse, hes⟩, hszj⟩, hTe⟩, hpos⟩ := hcond
          have hse := shsEq_eq hse
          subst hse
          subst hTe
          simp only [Tree.sel, Option.some.injEq, Prod.mk.injEq] at h
          obtain ⟨rfl, rfl⟩ := h
          have hrow := rowAt_some hrow
          obtain ⟨sb, sc, rfl, val', hfirst, hrel'⟩ := cpOf_ok hm hc hx
          have hdst : ∃ (xb : BI) (base : Option Addr) (cap : Nat), nth bs b = some xb ∧ v = .slice base (xb.n - lo) cap ∧ (0 < xb.cap → base = some ⟨xb.p, lo * sz, none⟩) ∧ lo ≤ xb.n := by
            unfold dstOf at hd
            split at hd
            · simp only [Option.some.injEq, Prod.mk.injEq] at hd
              obtain ⟨rfl, rfl, rfl⟩ := hd
              cases ha with
              | os hb hbase => exact ⟨_, _, _, hb, rfl, fun h => by rw [hbase h]; simp, Nat.zero_le _⟩
            · simp only [Option.some.injEq, Prod.mk.injEq] at hd
              obtain ⟨rfl, rfl, rfl⟩ := hd
              cases ha with
              | ost hb hl => exact ⟨_, _, _, hb, rfl, fun _ => rfl, Nat.le_of_lt hl⟩
            · simp at hd
          obtain ⟨xb, base, cap, hb, rfl, hbase, hlo⟩ := hdst
          have hr := hm.row b T false es' n ρ xb hrow hb
          have hlo : lo ≤ n := by rw [← hr.len]; exact hlo
          generalize hk : Nat.min m (n - lo) = k
          have hkm : k ≤ m := by rw [← hk]; exact Nat.min_le_left _ _
          have hkn : k ≤ n - lo := by rw [← hk]; exact Nat.min_le_right _ _
          have hcells := hfirst k hkm
          have hcs : ((List.range (k * es'.length)).map fun q => val' (q / es'.length) (q % es'.length)).length = k * sz := by simp [hes, hszj]
          have hrun : ∀ w', (∀ a, base = some a → (storeCells a ((List.range (k * es'.length)).map fun q => val' (q / es'.length) (q % es'.length)) 0).run P w = .ok () w') → (base = none → w' = w) →
              (Builtin.copy_ (t :: ts).toArray ty #[.slice base (xb.n - lo) cap, .slice sb m sc]).run P w = .ok (goInt k) w' := by
            intro w' h1 h2
            have hes' : j.size = es'.length := hes.symm
            have hsz : (sizeOf T).run P w = .ok es'.length w := by simp [sizeOf, typeInfo, hj, hes']
            cases base with
            | none => rw [h2 rfl]; simp [Builtin.copy_, run_underlying ht, Builtin.lenOf, hsz, hr.len, hk, hcells]
            | some a =>
              have := h1 a rfl
              simp [Builtin.copy_, run_underlying ht, Builtin.lenOf, hsz, hr.len, hk, hcells, this]
          by_cases hk0 : k = 0
          · subst hk0
            refine ⟨w, goInt 0, Ext.refl, ?_, CV.Rel.int _ _, hrun w (fun a _ => by simp [storeCells]) fun _ => rfl⟩
            have he : ∀ i f s, i < n → nth es' f = some s → cellOf s ((ρ.at i).at f) = cellOf s (((splice lo 0 ρ σ).at i).at f) := fun i f s _ _ => by rw [splice_lt (by omega)]
            have m2 := (hm.kill b).put hb (T := T) (cs := [.row false es' n (splice lo 0 ρ σ)]) killed_no (fun hl => hm.loc b xb T _ hb hrow hl) (fun hl k' y T' cs' hk' hc' hv => ?_) (fun h => by simp [isRowL] at h) (fun fz' es'' n' ρ' h => ?_)
            · rwa [setN_setN] at m2
            · rcases nth_setN hc' with ⟨_, h⟩ | ⟨hne, h⟩
              · cases h
              · exact fun e => hne (hm.inj k' b y xb T' cs' T _ hk' hb h hrow hv hl e)
            · simp only [List.cons.injEq, CV.row.injEq, and_true] at h
              obtain ⟨rfl, rfl, rfl, rfl⟩ := h
              refine ⟨hr.len, hr.le, hr.mx, fun h0 => ?_, hr.frz⟩
              obtain ⟨arr, a1, a2, val, a3, a4⟩ := hr.blk h0
              exact ⟨arr, a1, a2, val, a3, fun i f s hi hs => he i f s hi hs ▸ a4 i f s hi hs⟩
          · have hn0 : 0 < n := by omega
            have hb0 := hbase (hr.room hn0)
            subst hb0
            obtain ⟨arr, harr, hs, val, h3, h4⟩ := hr.block hn0
            have hlive : liveL xb [CV.row false es' n ρ] := ⟨rfl, hr.room hn0⟩
            have hcap := (hr.cap hn0).1
            have hlen : es'.length = sz := by rw [hes, hszj]
            generalize hcl : ((List.range (k * es'.length)).map fun q => val' (q / es'.length) (q % es'.length)) = cs at *
            have hcnth : ∀ i f, i < k → f < sz → cs[i * sz + f]? = some (val' i f) := by
              intro i f hi hf
              have hlt : i * sz + f < k * sz := by
                have : (i + 1) * sz ≤ k * sz := Nat.mul_le_mul_right _ hi
                rw [Nat.add_mul, Nat.one_mul] at this
                omega
              rw [← hcl, List.getElem?_map, hlen, List.getElem?_range hlt]
              simp only [Option.map_some]
              rw [Nat.mul_comm, Nat.mul_add_div hpos, Nat.div_eq_of_lt hf, Nat.mul_add_mod, Nat.mod_eq_of_lt hf, Nat.add_zero]
            have hone : ∀ z ∈ cs, z.oneCell' = true := by
              intro z hz
              rw [← hcl, List.mem_map] at hz
              obtain ⟨q, hq, rfl⟩ := hz
              rw [List.mem_range, hlen] at hq
              rw [hlen]
              have hdiv : q / sz < k := Nat.div_lt_of_lt_mul (by rw [Nat.mul_comm]; exact hq)
              have hmod : q % sz < es'.length := by rw [hlen]; exact Nat.mod_lt _ hpos
              obtain ⟨s, hs⟩ : ∃ s, nth es' (q % sz) = some s := ⟨es'[q % sz], by rw [nth_eq]; exact List.getElem?_eq_getElem hmod⟩
              exact (hrel' (q / sz) (q % sz) s (by omega) hs).one
            have hcapm : n * sz ≤ xb.cap * sz := Nat.mul_le_mul_right _ hcap
            have hlok : lo * sz + k * sz ≤ n * sz := by
              rw [← Nat.add_mul]; exact Nat.mul_le_mul_right _ (by omega)
            have hal : arr.toList.length = arr.size := by simp
            have hfitA : lo * sz + 0 + cs.length ≤ arr.size := by rw [hs, hcs, hlen]; omega
            have hst := run_storeCells_at (P := P) xb.p (lo * sz) T cs 0 arr w harr hfitA hone
            simp only [Nat.add_zero] at hst
            obtain ⟨e2, m2⟩ := hm.rewrite hb hrow hlive (arr.toList.take (lo * sz) ++ cs ++ arr.toList.drop (lo * sz + cs.length)).toArray
            have hF := hm.loc b xb T _ hb hrow hlive
            have hinj := hm.rewrite_inj hb hrow hlive
            refine ⟨_, goInt k, e2, ?_, CV.Rel.int _ _, hrun _ (fun a h => by cases h; exact hst) fun h => by cases h⟩
            have := m2.put hb (T := T) (cs := [.row false es' n (splice lo k ρ σ)]) killed_no (fun _ => ⟨hF.1, by simpa [World.setRow] using hF.2⟩) (fun _ => hinj) (fun h => by simp [isRowL] at h) (fun fz' es'' n' ρ' h => ?_)
            · rwa [setN_setN] at this
            · simp only [List.cons.injEq, CV.row.injEq, and_true] at h
              obtain ⟨rfl, rfl, rfl, rfl⟩ := h
              refine ⟨hr.len, hr.le, hr.mx, fun _ => ⟨_, setRow_heap w xb.p _ _ _ _ harr, ?_, fun i f => if i < lo ∨ lo + k ≤ i then val i f else val' (i - lo) f, fun i f hi hf => ?_, fun i f s hi hf => ?_⟩, fun _ h => by cases h⟩
              · simp only [List.size_toArray, List.length_append, List.length_take, List.length_drop]
                omega
              · dsimp only
                have h6 := h3 i f hi hf
                rw [hlen] at h6 hf ⊢
                rw [List.getElem?_toArray]
                have htk : (arr.toList.take (lo * sz)).length = lo * sz := by simp only [List.length_take]; rw [hal, hs, hlen]; omega
                by_cases hil : i < lo
                · rw [if_pos (.inl hil)]
                  have hlt : i * sz + f < lo * sz := by
                    have : (i + 1) * sz ≤ lo * sz := Nat.mul_le_mul_right _ hil
                    rw [Nat.add_mul, Nat.one_mul] at this
                    omega
                  rw [List.append_assoc, List.getElem?_append_left (by rw [htk]; exact hlt), List.getElem?_take, if_pos hlt]
                  simpa using h6
                · have hge : lo * sz ≤ i * sz := Nat.mul_le_mul_right _ (by omega)
                  by_cases hik : lo + k ≤ i
                  · rw [if_pos (.inr hik)]
                    have hge2 : (lo + k) * sz ≤ i * sz := Nat.mul_le_mul_right _ hik
                    rw [Nat.add_mul] at hge2
                    rw [List.append_assoc, List.getElem?_append_right (by omega), htk, List.getElem?_append_right (by rw [hcs]; omega), hcs, List.getElem?_drop]
                    rw [show lo * sz + k * sz + (i * sz + f - lo * sz - k * sz) = i * sz + f by omega]
                    simpa using h6
                  · rw [if_neg (by omega)]
                    have hlt : (i - lo) * sz + f < k * sz := by
                      have : (i - lo + 1) * sz ≤ k * sz := Nat.mul_le_mul_right _ (by omega)
                      rw [Nat.add_mul, Nat.one_mul] at this
                      omega
                    rw [List.append_assoc, List.getElem?_append_right (by omega), List.getElem?_append_left (by rw [htk, hcs]; rw [Nat.sub_mul] at hlt; omega), htk]
                    have e5 : i * sz + f - lo * sz = (i - lo) * sz + f := by
                      rw [Nat.sub_mul]; omega
                    rw [e5, hcnth (i - lo) f (by omega) hf]
              · dsimp only
                by_cases hil : i < lo ∨ lo + k ≤ i
                · rw [if_pos hil, splice_lt hil]
                  exact (h4 i f s hi hf).grow e2.grow0
                · rw [if_neg hil, splice_in (by omega) (by omega)]
                  exact (hrel' (i - lo) f s (by omega) hf).grow e2.grow0
        · simp [Tree.sel] at h
      · simp [Tree.sel] at h
    · simp [Tree.sel] at h
  · simp [Tree.sel] at h

theorem lit_ok {F w bs mem} (hm : MemRel P F w bs mem) {t : TypeId} {n : Nat} {parts : List (Nat × A1)} {pv : Array (Nat × Value)} {r : AV} (h : evLit P t n parts = some r)
    (hp : All2 (fun x y => x.1 = y.1 ∧ A1.Rel F w bs x.2 y.2) parts pv.toList) :
    ∃ F' w' v, Ext bs.length F w bs F' w' bs ∧ MemRel P F' w' bs mem ∧ r.Rel F' w' bs v ∧ (Instr.buildSlice t n pv).run P w = .ok v w' := by
  unfold evLit at h
  split at h
  · rename_i e hu
    split at h
    · rename_i j es z hj hes hz
      split at h
      · rename_i hcond
        simp only [Bool.and_eq_true, beq_iff_eq, Nat.ble_eq, Nat.blt_eq] at hcond
        obtain ⟨⟨⟨h1, h2⟩, h3⟩, h4⟩ := hcond
        split at h
        · rename_i cs hfill
          split at h
          · rename_i hfit
            simp only [Bool.and_eq_true, List.all_eq_true] at hfit
            obtain ⟨hcl, hfit⟩ := hfit
            simp only [Option.some.injEq] at h
            subst h
            unfold zeroCellsOf at hz
            simp only [hj] at hz
            split at hz
            · rename_i zv hzv
              have hzc : All2 (CV.Rel F w bs) z zv.cells.toList := liftCells_ok hz
              have hzs : zv.cells.size = j.size := by have := hzc.length; simp at this; omega
              let base : List Value := (List.range (n * j.size)).map fun i => zv.cells[i % zv.cells.size]!
              have hbase : All2 (CV.Rel F w bs) (repC z n) base := by
                refine All2.of_nth (by simp [base, repC_length, h3]) fun i x v hx hv => ?_
                have hi := nth_lt hv
                simp only [base, List.length_map, List.length_range] at hi
                rw [repC_nth z n i (by rw [h3]; exact hi)] at hx
                rw [nth_eq] at hv
                simp only [base, List.getElem?_map, List.getElem?_range hi, Option.map_some, Option.some.injEq] at hv
                subst hv
                obtain ⟨u, hu, hr⟩ := hzc.nth hx
                rw [hzs, ← h3]
                simp only [Array.getElem?_toList] at hu
                rw [getElem!_def, hu]
                exact hr
              obtain ⟨rv, hrv, hf⟩ := fill_ok (places' := fun i => some (i * j.size, j.size)) (fun i p h => h) hfill hbase hp
              obtain ⟨hl, hnth⟩ := fitsFlat_nth hfit
              have hlen : rv.length = n * j.size := by rw [← hrv.length, hl, h1]
              have harr : ((Array.range (n * j.size)).map (zv.cells[· % zv.cells.size]!)) = base.toArray := by
                apply Array.ext'
                simp [base, Array.toList_map]
              let F' : Nat → Prop := fun p => F p ∧ p < w.heap.size
              have ext : ∀ o : Obj, Ext bs.length F w bs F' (w.alloc o) bs := fun o => ⟨by simp, fun _ _ h => h.1, fun p h hp _ => ⟨h, hp⟩, fun p hp _ => Below.heap_alloc _ _ _ hp, rfl, rfl, rfl, fun _ _ _ h => h, fun x h => .inl ⟨x, h, rfl⟩⟩
              have mm : ∀ o : Obj, MemRel P F' (w.alloc o) bs mem := fun o => hm.move (ext o) fun k x T cs hk hc hv => ⟨hm.loc k x T cs hk hc hv, Below.heap_alloc _ _ _ (hm.loc k x T cs hk hc hv).2⟩
              by_cases hn : n = 0
              · subst hn
                have hrv0 : rv = [] := List.eq_nil_of_length_eq_zero (by simpa using hlen)
                subst hrv0
                refine ⟨F', w.alloc (.cells #[] e), .slice (some ⟨w.heap.size, 0, none⟩) 0 0, ext _, mm _, CV.Rel.sl (fun _ _ => undef) (Nat.le_refl _) (fun h => by omega) (fun i f h => by omega) (fun i f s h => by omega), ?_⟩
                have hpv : pv = #[] := by
                  have := evFill_nil (cs := cs) (sz := j.size) h2 hfill
                  subst this
                  cases hp' : pv.toList with
                  | nil => rw [← Array.toArray_toList (xs := pv), hp']
                  | cons _ _ => rw [hp'] at hp; cases hp
                subst hpv
                have hr0 : Array.range 0 = #[] := Array.eq_empty_of_size_eq_zero (by simp)
                simp [Instr.buildSlice, run_underlying hu, sizeOf, typeInfo, hj, Instr.fill, newRow, hr0]
              · have hpos : n * j.size ≠ 0 := by
                  intro e
                  rcases Nat.mul_eq_zero.1 e with e | e <;> omega
                have hnew : (w.alloc (.cells rv.toArray e)).heap[w.heap.size]? = some (.cells rv.toArray e (0, 0)) := World.alloc_heap_new w _
                refine ⟨F', w.alloc (.cells rv.toArray e), .slice (some ⟨w.heap.size, 0, none⟩) n n, ext _, mm _, CV.Rel.sl (fun i f => rv.toArray[i * es.length + f]?.getD undef) (Nat.le_refl _) (fun _ => ⟨rfl, by simp, fun h => Nat.lt_irrefl _ h.2⟩) (fun i f hi hf => ?_) (fun i f s hi hs => ?_), ?_⟩
                · have hlt : i * es.length + f < rv.length := by
                    rw [hlen, ← h1]
                    have : (i + 1) * es.length ≤ n * es.length := Nat.mul_le_mul_right _ hi
                    rw [Nat.add_mul, Nat.one_mul] at this
                    omega
                  show (w.alloc (.cells rv.toArray e)).cell? ⟨w.heap.size, 0 + (i * es.length + f), none⟩ = _
                  unfold World.cell?
                  simp only [hnew, Nat.zero_add, Option.isSome_none, Bool.false_eq_true, if_false]
                  simp [hlt]
                · obtain ⟨c, hc, hfitc⟩ := hnth i f s hi hs
                  obtain ⟨u, hu, hrel⟩ := hrv.nth hc
                  have hrel := (hrel.grow (ext (.cells rv.toArray e)).grow)
                  have := fits_rel hrel hfitc
                  have e1 : ((Val.ofFlat j.size cs).at i).at f = Val.ofC c := by
                    show (match nth cs (i * j.size + f) with | some x => Val.ofC x | none => Val.zero) = _
                    rw [← h1, hc]
                  rw [e1]
                  simpa [hu] using this
                · exact run_buildSlice w t e n pv rv.toArray j zv hu hj hzv (by omega) hpos (by rw [harr]; exact hf)
            · simp at hz
          · simp at h
        · simp at h
      · simp at h
    · simp at h
  · simp at h

end
end Go.Sx
/-
  The evaluator's soundness (part G): operations, regions, code, functions.
-/
namespace Go.Sx
open Go Go.RowKit

variable {D : List Deferred}

section
variable {P : Program}

/-- what is known of a pure summary -/
def PcOk (P : Program) (pc : List (Nat × (List A1 → Tree AV))) : Prop :=
  ∀ f G, lookPc pc f = some G → ∀ args r, (G args).sel = some r → args.all closedA = true → ∀ F w vs, All2 (A1.Rel F w []) args vs →
    ∃ v, AV.Rel F w [] r v ∧ ∀ w1, Below w.heap.size w w1 → Calls P f vs.toArray w1 (fun e w2 => e = .returned v ∧ Below w1.heap.size w1 w2)

/-- what is known of the summary of a function that lays what it returns -/
def HcOk (P : Program) (hc : List (Nat × (List A1 → Tree AV))) : Prop :=
  ∀ f G, lookPc hc f = some G → ∀ args r, (G args).sel = some r → args.all closedA = true → ∀ F w vs, All2 (A1.Rel F w []) args vs →
    Calls P f vs.toArray w (fun e w2 => ∃ v, e = .returned v ∧ Below w.heap.size w w2 ∧ AV.Rel (fun p => F p ∧ p < w.heap.size) w2 [] r v)

/-- what is known of the summary of a function that works on the memory -/
def McOk (P : Program) (mc : List (Nat × (List A1 → Mem → Tree (AV × Mem)))) : Prop :=
  ∀ f G, lookMc mc f = some G → ∀ args mem r mem', (G args mem).sel = some (r, mem') → ∀ F w bs vs, MemRel P F w bs mem → All2 (A1.Rel F w bs) args vs →
    Calls P f vs.toArray w (fun e w' => ∃ v F' bs', e = .returned v ∧ Ext bs.length F w bs F' w' bs' ∧ MemRel P F' w' bs' mem' ∧ AV.Rel F' w' bs' r v)

structure SumOk (P : Program) (H : Hd) : Prop where
  pc : PcOk P H.pc
  hc : HcOk P H.hc
  mc : McOk P H.mc

/-- yield's temporaries at the start of a round -/
def argTmps (R : Loop) (args : Array Value) : Array Value := (R.params.zip args).foldl (fun tmps (t, a) => tmps.setIfInBounds t a) R.tmps

/-- what is known of calls: of functions, and of yields (10^9 and the block of the loop's record) -/
structure CallOk (P : Program) (call : CallH) : Prop where
  fn : ∀ f args mem r mem', f < 1000000000 → (call f args mem).sel = some (r, mem') → ∀ F w bs vs, MemRel P F w bs mem → All2 (A1.Rel F w bs) args vs →
    Calls P f vs.toArray w (fun e w' => ∃ v F' bs', e = .returned v ∧ Ext bs.length F w bs F' w' bs' ∧ MemRel P F' w' bs' mem' ∧ AV.Rel F' w' bs' r v)
  yl : ∀ b args mem r mem', (call (1000000000 + b) args mem).sel = some (r, mem') → ∀ F w bs vs x, MemRel P F w bs mem → All2 (A1.Rel F w bs) args vs → nth bs b = some x →
    ∃ R : Loop, w.heap[x.p]? = some (.loop R) ∧ vs.length = R.params.size ∧ ∀ n, RoundIn Fence.wide n P x.p R.fn (argTmps R vs.toArray) R.assign R.body w
      (fun e w' => ∃ v F' bs', e = .returned v ∧ Ext bs.length F w bs F' w' bs' ∧ MemRel P F' w' bs' mem' ∧ AV.Rel F' w' bs' r v)

theorem callable_lt {f : Nat} (h : callable P f = true) : f < 1000000000 := by
  unfold callable at h
  split at h
  · simp only [Bool.and_eq_true] at h
    simpa using h.2
  · simp at h

theorem evTarget_ok {F : Nat → Prop} {w : World} {bs : List BI} {ρ : Operand → Option AV} {a : Act} (hρ : ∀ x av, ρ x = some av → av.Rel F w bs (a.eval x)) {o : Oper} {c : Call} (ho : o.op = .call c) {f : Nat} {args : List A1}
    (h : evTarget ρ c = some (f, args)) (hc : callable P f = true) : ∃ vs : List Value, All2 (A1.Rel F w bs) args vs ∧ ∀ w', (execOp a.eval o).run P w' = .ok (.enter f vs.toArray) w' := by
  unfold evTarget at h
  split at h
  · rename_i x hcal
    split at h
    · rename_i g first cap l hx hl
      simp at h
      obtain ⟨rfl, rfl⟩ := h
      have hxr := hρ _ _ hx
      have hargs := evArgs_ok hρ hl
      generalize he : a.eval x = z at hxr
      cases hxr with
      | fn l1 l2 r1 r2 =>
        rename_i vf vc
        have h1 : All2 (A1.Rel F w bs) (first.map .c) vf := by
          refine All2.of_nth (by simpa using l1) fun i u v hu hv => ?_
          rw [nth_eq, List.getElem?_map] at hu
          simp only [Option.map_eq_some_iff] at hu
          obtain ⟨y, hy, rfl⟩ := hu
          exact r1 i y v (by rw [nth_eq]; exact hy) hv
        have h2 : All2 (A1.Rel F w bs) (cap.map .c) vc := by
          refine All2.of_nth (by simpa using l2) fun i u v hu hv => ?_
          rw [nth_eq, List.getElem?_map] at hu
          simp only [Option.map_eq_some_iff] at hu
          obtain ⟨y, hy, rfl⟩ := hu
          exact r2 i y v (by rw [nth_eq]; exact hy) hv
        refine ⟨vf ++ (c.args.toList.map a.eval ++ vc), h1.append (hargs.append h2), fun w' => ?_⟩
        unfold callable at hc
        split at hc
        · rename_i fn hfn
          simp only [Bool.and_eq_true, bne_iff_ne, ne_eq] at hc
          obtain ⟨⟨hn, hb⟩, _⟩ := hc
          rw [nth_eq] at hfn
          simp only [Array.getElem?_toList] at hfn
          have hb' : fn.body.isNone = false := by cases hh : fn.body <;> simp [hh] at hb ⊢
          have hn' : (fn.name == "runtime.NumGoroutine") = false := by simpa using hn
          unfold execOp
          rw [ho]
          simp only [resolve, hcal, he, Deferred.ofValue, Sem.run_bind, Sem.run_pure, Result.andThen_ok, invoke, callFunc, run_program, hfn, hn', Bool.false_eq_true, if_false, hb']
          congr 2
          rw [map_toArray]
          apply Array.ext'
          simp
        · simp at hc
    · simp at h
  · simp at h

theorem Calls.weak {f : FuncId} {args : Array Value} {w : World} {R R' : Ending → World → Prop} (h : Calls P f args w R) (hr : ∀ e w', R e w' → R' e w') : Calls P f args w R' := Calls.mono h hr

/-- a quiet operation: one value in every world that has only grown -/
theorem quiet_ok {H : Hd} (hpc : SumOk P H) {call : CallH} {mem : Mem} {F : Nat → Prop} {w : World} {bs : List BI} (hm : MemRel P F w bs mem) {ρ : List (Nat × Bool) → Operand → Option AV} {a : Act}
    (hρ : ∀ K x av, KH a K → ρ K x = some av → av.Rel F w bs (a.eval x)) {o : Oper} {r : AV} {mem' : Mem} {ρ' : Operand → Option AV} (hρ' : ρ' = ρ [])
    (hq : quietOp H ρ' o.op = true) (h : (evOp P H call mem ρ o.op).sel = some (r, mem')) :
    mem' = mem ∧ ∃ v, r.Rel F w bs v ∧ ∀ w', Below w.heap.size w w' → o.quietAt P a (Below w.heap.size w) w' v := by
  subst hρ'
  have h0 : ∀ x av, ρ [] x = some av → av.Rel F w bs (a.eval x) := fun x av => hρ [] x av KH_nil
  have pure_case : ((evPure P (conc H) ρ o.op).bind fun v => Tree.leaf (v, mem)).sel = some (r, mem') → mem' = mem ∧ ∃ v, r.Rel F w bs v ∧ ∀ w', Below w.heap.size w w' → o.quietAt P a (Below w.heap.size w) w' v := by
    intro h
    obtain ⟨av, hav, hb⟩ := sel_bind h
    simp only [Tree.sel, Option.some.injEq, Prod.mk.injEq] at hb
    obtain ⟨rfl, rfl⟩ := hb
    obtain ⟨v, hv, hrun⟩ := evPure_ok hρ hav
    refine ⟨rfl, v, hv, fun w' hw' => ?_⟩
    unfold Oper.quietAt
    rw [hrun w' hw']
    exact ⟨rfl, rfl⟩
  unfold evOp at h
  split at h
  · rename_i e ho; rw [ho] at hq; simp [quietOp] at hq
  · rename_i e x ho; rw [ho] at hq; simp [quietOp] at hq
  · rename_i t x ho
    split at h
    · rename_i b sz i off hu
      rw [ho] at hq; simp [quietOp, hu] at hq
    · rename_i u hu
      split at h
      · rename_i v hv
        simp only [Tree.sel, Option.some.injEq, Prod.mk.injEq] at h
        obtain ⟨rfl, rfl⟩ := h
        obtain ⟨b, p, off, z, rfl, he, hz, hrun⟩ := evLoad_ok hv hm (h0 _ _ hu)
        refine ⟨rfl, z, hz, fun w' hw' => ?_⟩
        unfold Oper.quietAt execOp
        simp only [ho, Sem.run_bind, Instr.loadAt, he, Instr.sureAddr, Sem.run_pure, Result.andThen_ok, hrun w' hw']
        exact ⟨rfl, rfl⟩
      · simp [Tree.sel] at h
    · simp [Tree.sel] at h
  · rename_i t x y ho; rw [ho] at hq; simp [quietOp] at hq
  · rename_i t n parts ho; rw [ho] at hq; simp [quietOp] at hq
  · rename_i t x y ho; rw [ho] at hq; simp [quietOp] at hq
  · rename_i t x lo hi mx ho; rw [ho] at hq; simp [quietOp] at hq
  · rename_i t x i ho
    split at h
    · rename_i b sz k i' hx hi
      rw [ho] at hq; simp [quietOp, hx] at hq
    · rw [← ho] at h
      exact pure_case h
  · rename_i c ho
    split at h
    · rename_i x hcal
      rw [ho] at hq
      simp only [quietOp, hcal] at hq
      split at h
      · rename_i f args ht
        simp only [ht, Bool.and_eq_true] at hq
        obtain ⟨hq, hclosed⟩ := hq
        split at h
        · rename_i hcl
          split at h
          · rename_i G hG
            have hv : args.map (view1 mem) = args := (List.map_congr_left fun x hx => view1_closed (List.all_eq_true.1 hclosed x hx)).trans (List.map_id _)
            simp only [hv, hclosed, if_true, Bool.true_or] at h
            replace h := sel_bind h
            obtain ⟨rr, hr, h⟩ := h
            simp only [Tree.sel, Option.some.injEq, Prod.mk.injEq] at h
            obtain ⟨rfl, rfl⟩ := h
            obtain ⟨vs, hvs, hrun⟩ := evTarget_ok h0 ho ht hcl
            have hvs' : All2 (A1.Rel F w []) args vs := by
              clear hrun ht hr hv
              induction hvs with
              | nil => exact .nil
              | cons ha _ ih =>
                simp only [List.all_cons, Bool.and_eq_true] at hclosed
                exact .cons (ha.closed hclosed.1) (ih hclosed.2)
            obtain ⟨v, hv, hcalls⟩ := hpc.pc f G hG args rr hr hclosed F w vs hvs'
            refine ⟨rfl, v, ?_, fun w' hw' => ?_⟩
            · exact AV.Rel.grow (bs := []) (bs' := bs) (F := F) (F' := F) (w := w) (w' := w) ⟨Nat.le_refl _, fun _ _ h => h, fun _ _ _ => rfl, fun k p h => by simp [nth] at h⟩ hv
            · unfold Oper.quietAt
              rw [hrun]
              exact ⟨rfl, (hcalls w' hw').mono fun e w2 ⟨he, hb⟩ => ⟨he, hw'.trans (hb.mono hw'.size)⟩⟩
          · rename_i hG
            simp [hG] at hq
        · simp [Tree.sel] at h
      · simp [Tree.sel] at h
    · rename_i hcal
      rw [ho] at hq; simp [quietOp, hcal] at hq
    · rename_i hcal
      rw [ho] at hq; simp [quietOp, hcal] at hq
    · rename_i hcal
      rw [ho] at hq; simp [quietOp, hcal] at hq
    · rename_i hcal
      split at h
      · rename_i hargs _
        rw [ho] at hq; simp [quietOp, hcal, hargs] at hq
      · rw [← ho] at h
        exact pure_case h
    · rw [← ho] at h
      exact pure_case h
  · exact pure_case h

/-- carrying out an operation whose run is a value -/
theorem wp_value {o : Oper} {a : Act} {w w' : World} {v : Value} {K : Act → World → Prop} {Q : Exit → Act → World → Prop} (hrun : (execOp a.eval o).run P w = .ok (.value v) w') (h : K (a.put o.dst v) w') : o.wp P a w K Q := by
  unfold Oper.wp
  rw [hrun]
  exact h

theorem wp_skip' {o : Oper} {a : Act} {w w' : World} {K : Act → World → Prop} {Q : Exit → Act → World → Prop} (hrun : (execOp a.eval o).run P w = .ok .skip w') (h : K (a.put o.dst undef) w') : o.wp P a w K Q := by
  unfold Oper.wp
  rw [hrun]
  exact h

theorem All2.noRow {F w bs} {cs : List CV} {vs : List Value} (h : All2 (CV.Rel F w bs) cs vs) : isRowL cs = false := by
  cases h with
  | nil => rfl
  | cons h1 h2 => cases h2 with
    | nil => cases h1 <;> rfl
    | cons _ _ =>
      unfold isRowL
      split
      · simp_all
      · rename_i he
        simp only [List.cons.injEq] at he
        obtain ⟨rfl, _⟩ := he
        cases h1
      · rfl

theorem boundOf_ok {F w bs} {ρ : Operand → Option AV} {a : Act} (h0 : ∀ x av, ρ x = some av → av.Rel F w bs (a.eval x)) {x : Option Operand} {i : Option Int} (h : boundOf ρ x = some i) : IntOpt i (x.map a.eval) := by
  unfold boundOf at h
  split at h
  · simp at h; subst h; exact .no
  · rename_i x
    split at h
    · rename_i k n hx
      simp at h; subst h
      have := h0 _ _ hx
      rw [Option.map_some]
      generalize a.eval x = z at this ⊢
      cases this
      exact .yes k n
    · simp at h

/-- any operation -/
theorem evOp_at {H : Hd} (hpc : SumOk P H) {call : CallH} (hcall : CallOk P call) {F : Nat → Prop} {w : World} {bs : List BI} {a : Act} {mem : Mem} (hm : MemRel P F w bs mem) {ρ : List (Nat × Bool) → Operand → Option AV}
    (hρ : ∀ K x av, KH a K → ρ K x = some av → av.Rel F w bs (a.eval x)) {o : Oper} {r : AV} {mem' : Mem}
    (h : (evOp P H call mem ρ o.op).sel = some (r, mem')) {K : Act → World → Prop} {Q : Exit → Act → World → Prop}
    (hK : ∀ F' w' bs' v, Ext bs.length F w bs F' w' bs' → MemRel P F' w' bs' mem' → r.Rel F' w' bs' v → K (a.put o.dst v) w') : o.wp P a w K Q := by
  have h0 : ∀ x av, ρ [] x = some av → av.Rel F w bs (a.eval x) := fun x av => hρ [] x av KH_nil
  by_cases hq : quietOp H (ρ []) o.op = true
  · obtain ⟨rfl, v, hv, hat⟩ := quiet_ok hpc hm hρ rfl hq h
    refine Oper.wp_of_quiet (C := Below w.heap.size w) (K := fun a' => a' = a.put o.dst v) (Below.refl _ _) (fun a' w' hw' he => ?_) ⟨v, hat, rfl⟩
    subst he
    have hext : Ext bs.length F w bs F w' bs := Ext.of_below hw'
    exact hK F w' bs v hext (hm.below hw') (AV.Rel.grow hext.grow hv)
  · unfold evOp at h
    split at h
    · rename_i e ho
      split at h
      · rename_i z hz
        simp only [Tree.sel, Option.some.injEq, Prod.mk.injEq] at h
        obtain ⟨rfl, rfl⟩ := h
        obtain ⟨v, hzv, hr⟩ := zeroCellsOf_ok (F := F) (w := w) (bs := bs) hz
        obtain ⟨F', bs', hext, hm', hn⟩ := alloc_ok hm e hr hr.noRow
        refine wp_value (w' := w.alloc (.cells v.cells e)) (v := .pointer (some ⟨w.heap.size, 0, none⟩)) ?_ ?_
        · unfold execOp
          simp [ho, Instr.alloc, hzv, newVar, newRow]
        · have e2 : (.cells v.cells.toList.toArray e : Obj) = .cells v.cells e := by rw [Array.toArray_toList]
          rw [e2] at hext hm'
          exact hK F' _ bs' _ hext hm' (CV.Rel.ptr hn)
      · simp [Tree.sel] at h
    · rename_i e x ho
      split at h
      · rename_i b hb
        split at h
        · simp [Tree.sel] at h
        · simp only [Tree.sel, Option.some.injEq, Prod.mk.injEq] at h
          obtain ⟨rfl, rfl⟩ := h
          have hbr := h0 _ _ hb
          have hbc := A1.Rel.cells hbr
          obtain ⟨F', bs', hext, hm', hn⟩ := alloc_ok hm e hbc hbc.noRow
          refine wp_value (w' := w.alloc (.cells (a.eval x).cells e)) (v := .pointer (some ⟨w.heap.size, 0, none⟩)) ?_ ?_
          · unfold execOp
            simp [ho, Instr.box, newVar, newRow]
          · rw [Array.toArray_toList] at hext hm'
            exact hK F' _ bs' _ hext hm' (CV.Rel.ptr hn)
      · simp [Tree.sel] at h
    · rename_i t x ho
      split at h
      · rename_i b sz i off hu
        split at h
        · rename_i v hv
          simp only [Tree.sel, Option.some.injEq, Prod.mk.injEq] at h
          obtain ⟨rfl, rfl⟩ := h
          have hur := h0 _ _ hu
          obtain ⟨aa, p, oo, z, rfl, he, hz, hrun⟩ := loadRow_ok (P := P) hm hv hur
          refine wp_value (w' := w) (v := z) ?_ (hK F w bs z Ext.refl hm hz)
          unfold execOp
          simp only [ho, Sem.run_bind, Instr.loadAt, he, Instr.sureAddr, Sem.run_pure, Result.andThen_ok, hrun]
        · simp [Tree.sel] at h
      · rename_i u hnr hu
        exfalso
        apply hq
        rw [ho]
        simp only [quietOp]
        split
        · rename_i heq
          rw [hu] at heq
          simp at heq
          exact (hnr _ _ _ _ heq).elim
        · rfl
      · simp [Tree.sel] at h
    · rename_i t x y ho
      split at h
      · rename_i b sz i off v hx hy
        split at h
        · rename_i mm hst
          simp only [Tree.sel, Option.some.injEq, Prod.mk.injEq] at h
          obtain ⟨rfl, rfl⟩ := h
          obtain ⟨F', w', p, oo, j, hext, hm', he, hj, hsz, hrun⟩ := storeRow_ok (P := P) hm hst (h0 _ _ hx) (show v.Rel F w bs (a.eval y) from h0 _ _ hy)
          refine wp_skip' (w' := w') ?_ (hK F' _ bs _ hext hm' trivial)
          unfold execOp
          have hszn : ¬ (a.eval y).cells.size ≠ j.size := by omega
          simp only [ho, Instr.storeAt, he, Instr.sureAddr, Sem.run_bind, Sem.run_pure, Result.andThen_ok, storeVar, run_sizeOf' hj, Sem.run_ite, hszn, if_false, hrun]
        · simp [Tree.sel] at h
      · rename_i b off v hx hy
        split at h
        · rename_i T cs i hmem hi
          split at h
          · rename_i hcond
            simp only [Tree.sel, Option.some.injEq, Prod.mk.injEq] at h
            obtain ⟨rfl, rfl⟩ := h
            simp only [Bool.and_eq_true, beq_iff_eq, Nat.ble_eq, Bool.not_eq_true'] at hcond
            have hxr := h0 _ _ hx
            have hyr := A1.Rel.cells (show v.Rel F w bs (a.eval y) from h0 _ _ hy)
            generalize he : a.eval x = z at hxr
            cases hxr with
            | ptr hb =>
              rename_i p
              obtain ⟨us, hu, hr⟩ := hm.cont b T cs p hmem hcond.1.1.1 hb
              have hl := hyr.length
              have hl2 := hr.length
              have hput := putCells_at (o := off) hr hyr (by omega)
              obtain ⟨hext, hm'⟩ := setRow_ok hm hb hmem hcond.1.1.1 hput hput.noRow
              refine wp_skip' (w' := w.setRow p.p (us.take off ++ (a.eval y).cells.toList ++ us.drop (off + (a.eval y).cells.toList.length)).toArray) ?_ (hK F _ bs _ hext hm' trivial)
              have hone : ∀ u ∈ (a.eval y).cells.toList, u.oneCell' = true := by
                intro u hu'
                obtain ⟨k, hk⟩ := mem_nth hu'
                rw [nth_eq] at hk
                obtain ⟨c, _, hc⟩ := hyr.nth' hk
                exact hc.one
              have hst := run_storeCells_at (P := P) p.p off T (a.eval y).cells.toList 0 us.toArray w hu (by simp at hl ⊢; omega) hone
              simp only [Nat.add_zero] at hst
              have hsz : ¬ (a.eval y).cells.size ≠ i.size := by
                simp at hl
                omega
              unfold execOp
              simp only [ho, Instr.storeAt, he, Instr.sureAddr, Sem.run_bind, Sem.run_pure, Result.andThen_ok, storeVar, run_sizeOf' hi, Sem.run_ite, hsz, if_false, hst]
          · simp [Tree.sel] at h
        · simp [Tree.sel] at h
      · simp [Tree.sel] at h
    · rename_i t n parts ho
      split at h
      · rename_i l hl
        have hp := evParts_ok h0 hl
        split at h
        · split at h
          · rename_i q hq2
            simp only [Tree.sel, Option.some.injEq, Prod.mk.injEq] at h
            obtain ⟨rfl, rfl⟩ := h
            obtain ⟨F', w', v, hext, hm', hr, hrun⟩ := lit_ok (P := P) hm (pv := parts.map fun (i, x) => (i, a.eval x)) hq2 (by simpa [Array.toList_map] using hp)
            refine wp_value (w' := w') (v := v) ?_ (hK F' w' bs v hext hm' hr)
            unfold execOp
            simp only [ho, Sem.run_bind, hrun, Result.andThen_ok, Sem.run_pure]
          · simp [Tree.sel] at h
        split at h
        · rename_i q hq2
          simp only [Tree.sel, Option.some.injEq] at h
          subst h
          obtain ⟨F', w', bs', v, hext, hm', hr, hrun⟩ := buildSlice_ok (P := P) hm (pv := parts.map fun (i, x) => (i, a.eval x)) hq2 (by simpa [Array.toList_map] using hp)
          refine wp_value (w' := w') (v := v) ?_ (hK F' w' bs' v hext hm' hr)
          unfold execOp
          simp only [ho, Sem.run_bind, hrun, Result.andThen_ok, Sem.run_pure]
        · simp [Tree.sel] at h
      · simp [Tree.sel] at h
    · rename_i t x y ho
      split at h
      · rename_i l c hl hc
        obtain ⟨F', w', bs', v, hext, hm', hr, hrun⟩ := make_ok (P := P) hm h (h0 _ _ hl) (h0 _ _ hc)
        refine wp_value (w' := w') (v := v) ?_ (hK F' w' bs' v hext hm' hr)
        unfold execOp
        simp only [ho, Sem.run_bind, hrun, Result.andThen_ok, Sem.run_pure]
      · simp [Tree.sel] at h
    · rename_i t x lo hi mx ho
      split at h
      · rename_i b l hh m hx h1 h2 h3
        have fin : ∀ F' bs' z, Ext bs.length F w bs F' w bs' → MemRel P F' w bs' mem' → r.Rel F' w bs' z → (∃ e, P.underlying t = some (.slice e)) → (Instr.slice t (a.eval x) (lo.map a.eval) (hi.map a.eval) (mx.map a.eval)).run P w = .ok z w → o.wp P a w K Q := by
          intro F' bs' z hext hm' hr ⟨e, ht⟩ hrun
          refine wp_value (w' := w) (v := z) ?_ (hK F' w bs' z hext hm' hr)
          have hat : (Instr.sliceAt t (a.eval x) (lo.map a.eval) (hi.map a.eval) (mx.map a.eval)).run P w = .ok z w := by
            rw [← hrun]
            simp [Instr.sliceAt, run_underlying ht]
          unfold execOp
          simp only [ho, Sem.run_bind, hat, Result.andThen_ok, Sem.run_pure]
        split at h
        · rename_i T hT
          split at hT
          · obtain ⟨rfl, ⟨z, hz, hrun⟩, hte⟩ := tail_ok (P := P) hm (boundOf_ok h0 h1) (boundOf_ok h0 h2) (boundOf_ok h0 h3) hT h (h0 _ _ hx)
            exact fin F bs z Ext.refl hm hz hte hrun
          · cases hT
        · split at h
          · rename_i T hT
            split at hT
            · obtain ⟨rfl, ⟨z, hz, hrun⟩, hte⟩ := head_ok (P := P) hm (boundOf_ok h0 h1) (boundOf_ok h0 h2) (boundOf_ok h0 h3) hT h (h0 _ _ hx)
              exact fin F bs z Ext.refl hm hz hte hrun
            · cases hT
          · split at h
            · simp [Tree.sel] at h
            · obtain ⟨F', bs', z, hext, hm', hr, hrun⟩ := slice_ok (P := P) hm (boundOf_ok h0 h1) (boundOf_ok h0 h2) (boundOf_ok h0 h3) h (h0 _ _ hx)
              exact fin F' bs' z hext hm' hr (slice_type h) hrun
      · simp [Tree.sel] at h
    · rename_i t x i ho
      split at h
      · rename_i b sz kk k hx hi
        split at h
        · rename_i e T fz es n ρ0 hu hrow
          split at h
          · rename_i j hj
            split at h
            · rename_i hcond
              simp only [Bool.and_eq_true, beq_iff_eq] at hcond
              simp only [Tree.sel] at h
              cases hr : inRange k n <;> simp [hr] at h
              obtain ⟨rfl, rfl⟩ := h
              obtain ⟨hr1, hr2⟩ := inRange_iff.1 hr
              have hxr := h0 _ _ hx
              have hir := h0 _ _ hi
              generalize he : a.eval x = z at hxr
              generalize he2 : a.eval i = z' at hir
              cases hir
              cases hxr with
              | os hb hbase =>
                rename_i y base
                have hro := hm.row b T fz es n ρ0 y (rowAt_some hrow) hb
                have hyn := hro.len
                have hbs := hbase (hro.room (by omega))
                subst hbs
                refine wp_value (w' := w) (v := .pointer (some ⟨y.p, 0 + k.toNat * j.size, none⟩)) ?_ (hK F w bs _ Ext.refl hm ?_)
                · unfold execOp
                  have := run_indexAt_slice (P := P) (t := t) hu hj (p := y.p) (o := 0) (n := y.n) (cap := y.cap) (k := kk) hr1 (by rw [hyn]; exact hr2) w
                  simp only [ho, he, he2, Sem.run_bind, this, Result.andThen_ok, Sem.run_pure]
                · have e5 : 0 + k.toNat * j.size = k.toNat * sz + 0 := by rw [hcond.1]; omega
                  rw [e5]
                  exact CV.Rel.rowp hb (by omega)
            · simp [Tree.sel] at h
          · simp [Tree.sel] at h
        · simp [Tree.sel] at h
      · rename_i hnos
        exfalso
        apply hq
        rw [ho]
        simp only [quietOp]
        split
        · rename_i b sz hx
          obtain ⟨v, hv, _⟩ := sel_bind h
          simp only [evPure, arrAt, ite_self, evPure0, hx] at hv
          split at hv <;> simp_all [Tree.sel]
        · rfl
    · rename_i c ho
      split at h
      · rename_i x hcal
        split at h
        · rename_i f args ht
          split at h
          · rename_i hcl
            obtain ⟨vs, hvs, hrun⟩ := evTarget_ok h0 ho ht hcl
            split at h
            · rename_i G hG
              simp only at h
              split at h
              · rename_i hclosed
                · replace h := sel_bind h
                  obtain ⟨rr, hr, h⟩ := h
                  split at h
                  · rename_i hfl0
                    simp only [Tree.sel, Option.some.injEq, Prod.mk.injEq] at h
                    obtain ⟨rfl, rfl⟩ := h
                    have hnc : ¬ args.all closedA = true := fun hc => hq (by rw [ho]; simp [quietOp, hcal, ht, hG, hc])
                    have hfl : flatA rr = true := by
                      rw [Bool.or_eq_true] at hfl0
                      exact hfl0.resolve_left hnc
                    have hvs' : All2 (A1.Rel (outF F bs) w []) (args.map (view1 mem)) vs := by
                      clear hrun ht hr hnc hfl hfl0
                      induction hvs with
                      | nil => exact .nil
                      | cons ha _ ih =>
                        simp only [List.map_cons, List.all_cons, Bool.and_eq_true] at hclosed
                        exact .cons (view1_ok hm ha hclosed.1) (ih hclosed.2)
                    obtain ⟨v, hv, hcalls⟩ := hpc.pc f G hG _ rr hr hclosed _ w vs hvs'
                    unfold Oper.wp
                    rw [hrun]
                    refine (hcalls w (Below.refl _ _)).mono fun e w' ⟨he, hb⟩ => ?_
                    subst he
                    exact hK F w' bs v (Ext.of_below hb) (hm.below hb) (flatA_any hv hfl _ _ _)
                  · simp [Tree.sel] at h
              · split at h
                · simp [Tree.sel] at h
                · have := hcall.fn f args mem r mem' (callable_lt (by assumption)) h F w bs vs hm hvs
                  unfold Oper.wp
                  rw [hrun]
                  refine this.mono fun e w' ⟨v, F', bs', he, hext, hm', hr⟩ => ?_
                  subst he
                  exact hK F' w' bs' v hext hm' hr
            · split at h
              · rename_i G hG
                simp only at h
                split at h
                · rename_i hclosed
                  · replace h := sel_bind h
                    obtain ⟨rr, hr, h⟩ := h
                    simp only [Tree.sel, Option.some.injEq, Prod.mk.injEq] at h
                    obtain ⟨rfl, rfl⟩ := h
                    obtain ⟨F1, e1, m1, r1⟩ := frz1s_ok hm hvs
                    have hvs' : All2 (A1.Rel F1 w []) (frz1s mem args).2 vs := by
                      clear hr hrun hvs
                      generalize (frz1s mem args).2 = l at r1 hclosed
                      induction r1 with
                      | nil => exact .nil
                      | cons ha _ ih =>
                        simp only [List.all_cons, Bool.and_eq_true] at hclosed
                        exact .cons (ha.closed hclosed.1) (ih hclosed.2)
                    have hcalls := hpc.hc f G hG _ rr hr hclosed F1 w vs hvs'
                    unfold Oper.wp
                    rw [hrun]
                    refine hcalls.mono fun e w' ⟨v, he, hb, hv⟩ => ?_
                    subst he
                    have e2 : Ext bs.length F1 w bs (fun p => F1 p ∧ p < w.heap.size) w' bs := ⟨hb.size, fun _ _ h => h.1, fun p h hp _ => ⟨h, hp⟩, fun p hp _ => hb.block p hp, hb.os, hb.tape, hb.output, fun _ _ _ h => h, fun x h => .inl ⟨x, h, rfl⟩⟩
                    have m2 := m1.move e2 fun k x T cs hk hc hl => ⟨m1.loc k x T cs hk hc hl, hb.block _ (m1.loc k x T cs hk hc hl).2⟩
                    exact hK _ w' bs v (e1.trans e2 (Nat.le_refl _)) m2 (AV.Rel.grow ⟨Nat.le_refl _, fun _ _ h => h, fun _ _ _ => rfl, fun k p h => by simp [nth] at h⟩ hv)
                · simp [Tree.sel] at h
              · have := hcall.fn f args mem r mem' (callable_lt (by assumption)) h F w bs vs hm hvs
                unfold Oper.wp
                rw [hrun]
                refine this.mono fun e w' ⟨v, F', bs', he, hext, hm', hr⟩ => ?_
                subst he
                exact hK F' w' bs' v hext hm' hr
          · simp [Tree.sel] at h
        · simp [Tree.sel] at h
      · rename_i hcal
        split at h
        · rename_i b x t t' hargs htys
          split at h
          · rename_i htt
            have htt := eq_of_beq htt
            subst htt
            have hr := evArgs_ok h0 hargs
            obtain ⟨u1, u2, hu1, hu2, hmap⟩ : ∃ u1 u2, A1.Rel F w bs b u1 ∧ A1.Rel F w bs x u2 ∧ c.args.map a.eval = #[u1, u2] := by
              generalize hl : c.args.toList.map a.eval = l at hr
              cases hr with
              | cons h1 hr => cases hr with
                | cons h2 hr =>
                  cases hr
                  exact ⟨_, _, h1, h2, by rw [← Array.toArray_toList (xs := c.args.map a.eval), Array.toList_map, hl]⟩
            have hty : c.argTypes = #[t, t] := by rw [← Array.toArray_toList (xs := c.argTypes), htys]
            obtain ⟨F', w', bs', z, hext, hm', hrr, hrun⟩ := appO_ok (P := P) (ty := o.type) hm h hu1 hu2
            refine wp_value (w' := w') (v := z) ?_ (hK F' w' bs' z hext hm' hrr)
            unfold execOp
            simp only [ho, resolve, invoke, builtin, hcal, hmap, hty, Sem.run_bind, Sem.run_pure, Result.andThen_ok, hrun]
          · simp [Tree.sel] at h
        · simp [Tree.sel] at h
      · rename_i hcal
        split at h
        · rename_i b t hargs htys
          have hr := evArgs_ok h0 hargs
          obtain ⟨u1, hu1, hmap⟩ : ∃ u1, A1.Rel F w bs b u1 ∧ c.args.map a.eval = #[u1] := by
            generalize hl : c.args.toList.map a.eval = l at hr
            cases hr with
            | cons h1 hr =>
              cases hr
              exact ⟨_, h1, by rw [← Array.toArray_toList (xs := c.args.map a.eval), Array.toList_map, hl]⟩
          have hty : c.argTypes = #[t] := by rw [← Array.toArray_toList (xs := c.argTypes), htys]
          obtain ⟨w', hext, hm', rfl, hrun⟩ := clear_ok (P := P) (ty := o.type) hm h hu1
          refine wp_value (w' := w') (v := .tuple #[]) ?_ (hK F w' bs _ hext hm' trivial)
          unfold execOp
          simp only [ho, resolve, invoke, builtin, hcal, hmap, hty, Sem.run_bind, Sem.run_pure, Result.andThen_ok, hrun]
        · simp [Tree.sel] at h
      · rename_i hcal
        split at h
        · rename_i b y t ts hargs htys
          have hr := evArgs_ok h0 hargs
          obtain ⟨u1, u2, hu1, hu2, hmap⟩ : ∃ u1 u2, A1.Rel F w bs b u1 ∧ A1.Rel F w bs y u2 ∧ c.args.map a.eval = #[u1, u2] := by
            generalize hl : c.args.toList.map a.eval = l at hr
            cases hr with
            | cons h1 hr =>
              cases hr with
              | cons h2 hr =>
                cases hr
                exact ⟨_, _, h1, h2, by rw [← Array.toArray_toList (xs := c.args.map a.eval), Array.toList_map, hl]⟩
          have hty : c.argTypes = (t :: ts).toArray := by rw [← Array.toArray_toList (xs := c.argTypes), htys]
          obtain ⟨w', z, hext, hm', hz, hrun⟩ := copy_ok (P := P) (ty := o.type) (ts := ts) hm h hu1 hu2
          refine wp_value (w' := w') (v := z) ?_ (hK F w' bs _ hext hm' hz)
          unfold execOp
          simp only [ho, resolve, invoke, builtin, hcal, hmap, hty, Sem.run_bind, Sem.run_pure, Result.andThen_ok, hrun]
        · simp [Tree.sel] at h
      · rename_i hcal
        split at h
        · rename_i b sz t hargs htys
          split at h
          · rename_i e T fz es n ρ0 hu hrow
            simp only [Tree.sel, Option.some.injEq, Prod.mk.injEq] at h
            obtain ⟨rfl, rfl⟩ := h
            have hr := evArgs_ok h0 hargs
            obtain ⟨u1, hu1, hmap⟩ : ∃ u1, A1.Rel F w bs (.c (.os b sz)) u1 ∧ c.args.map a.eval = #[u1] := by
              generalize hl : c.args.toList.map a.eval = l at hr
              cases hr with
              | cons h1 hr =>
                cases hr
                exact ⟨_, h1, by rw [← Array.toArray_toList (xs := c.args.map a.eval), Array.toList_map, hl]⟩
            have hty : c.argTypes = #[t] := by rw [← Array.toArray_toList (xs := c.argTypes), htys]
            cases hu1 with
            | os hb hbase =>
              rename_i y base
              have hro := hm.row b T fz es n ρ0 y (rowAt_some hrow) hb
              refine wp_value (w' := w) (v := .int .i64 (toInt64 n)) ?_ (hK F w bs _ Ext.refl hm (CV.Rel.int _ _))
              unfold execOp
              simp [ho, resolve, invoke, builtin, hcal, hmap, hty, Builtin.len_, run_underlying hu, goInt, hro.len, toInt64]
          · simp [Tree.sel] at h
        · rename_i hnos
          exfalso
          apply hq
          rw [ho]
          simp only [quietOp, hcal]
          split
          · rename_i b sz hargs
            obtain ⟨v, hv, _⟩ := sel_bind h
            cases c
            simp only at hcal
            subst hcal
            simp only [evPure, evPure0] at hv
            simp only at hargs
            rw [hargs] at hv
            split at hv
            · rename_i heq _
              simp at heq
              subst heq
              simp [evLen, Tree.sel] at hv
            · simp [Tree.sel] at hv
          · rfl
      · exfalso
        apply hq
        rw [ho]
        simp only [quietOp]
    · rename_i hq2
      exfalso
      apply hq
      unfold quietOp
      split <;> simp_all
      rename_i hx _
      exact hx _ _ _ _ _ rfl rfl rfl rfl rfl

theorem frzC_closed {mem : Mem} {x : CV} (h : closedC x = true) : frzC mem x = (mem, x) := by
  unfold frzC
  split
  · simp [closedC] at h
  · rfl

theorem frzCs_closed : ∀ {l : List CV} {mem : Mem}, l.all closedC = true → frzCs mem l = (mem, l)
  | [], _, _ => rfl
  | x :: r, mem, h => by
    simp only [List.all_cons, Bool.and_eq_true] at h
    have h2 := frzCs_closed (l := r) (mem := mem) h.2
    simp only [frzCs, frzC_closed h.1, h2]

theorem frz1s_closed : ∀ {l : List A1} {mem : Mem}, l.all closedA = true → frz1s mem l = (mem, l)
  | [], _, _ => rfl
  | x :: r, mem, h => by
    simp only [List.all_cons, Bool.and_eq_true] at h
    have h2 := frz1s_closed (l := r) (mem := mem) h.2
    have h1 : frz1 mem x = (mem, x) := by
      cases x with
      | c x => simp only [frz1, frzC_closed (show closedC x = true from h.1)]
      | agg l => simp only [frz1, frzCs_closed (show l.all closedC = true from h.1)]
    simp only [frz1s, h1, h2]

/-- an operation that leaves the memory as it is -/
theorem still_mem {H : Hd} (hpc : SumOk P H) {call : CallH} {mem : Mem} {F : Nat → Prop} {w : World} {bs : List BI} (hm : MemRel P F w bs mem) {ρ : List (Nat × Bool) → Operand → Option AV} {a : Act}
    (hρ : ∀ K x av, KH a K → ρ K x = some av → av.Rel F w bs (a.eval x)) {o : Oper} {r : AV} {mem' : Mem} (hq : stillOp H (ρ []) o.op = true) (h : (evOp P H call mem ρ o.op).sel = some (r, mem')) : mem' = mem := by
  unfold stillOp at hq
  rw [Bool.or_eq_true] at hq
  rcases hq with hq | hq
  · exact (quiet_ok hpc hm hρ rfl hq h).1
  · have pure_case : ∀ e : Tree AV, (e.bind fun v => Tree.leaf (v, mem)).sel = some (r, mem') → mem' = mem := by
      intro e he
      obtain ⟨v, _, h2⟩ := sel_bind he
      simp only [Tree.sel, Option.some.injEq, Prod.mk.injEq] at h2
      exact h2.2.symm
    have need_case : ∀ (c : Bool) (v : AV), (Tree.need c (.leaf (v, mem))).sel = some (r, mem') → mem' = mem := by
      intro c v hs
      cases c <;> simp [Tree.sel] at hs
      exact hs.2.symm
    split at hq
    · rename_i t n parts ho
      rw [ho] at h
      simp only [evOp] at h
      simp only [litOp, Bool.and_eq_true] at hq
      obtain ⟨hl, hq⟩ := hq
      split at h
      · rename_i l hp
        rw [hp] at hq
        simp only at hq
        rw [if_pos (by rw [Bool.and_eq_true]; exact ⟨hl, hq⟩)] at h
        split at h
        · simp only [Tree.sel, Option.some.injEq, Prod.mk.injEq] at h
          exact h.2.symm
        · simp [Tree.sel] at h
      · simp [Tree.sel] at h
    · rename_i t x ho
      rw [ho] at h
      simp only [evOp] at h
      split at h
      · split at h
        · simp only [Tree.sel, Option.some.injEq, Prod.mk.injEq] at h
          exact h.2.symm
        · simp [Tree.sel] at h
      · split at h
        · simp only [Tree.sel, Option.some.injEq, Prod.mk.injEq] at h
          exact h.2.symm
        · simp [Tree.sel] at h
      · simp [Tree.sel] at h
    · rename_i t x i ho
      rw [ho] at h
      simp only [evOp] at h
      split at h
      · split at h
        · split at h
          · split at h
            · exact need_case _ _ h
            · simp [Tree.sel] at h
          · simp [Tree.sel] at h
        · simp [Tree.sel] at h
      · exact pure_case _ h
    · rename_i c ho
      rw [ho] at h
      split at hq
      · rename_i hcal
        simp only [evOp, hcal] at h
        split at h
        · split at h
          · simp only [Tree.sel, Option.some.injEq, Prod.mk.injEq] at h
            exact h.2.symm
          · simp [Tree.sel] at h
        · exact pure_case _ h
      · unfold laysOp at hq
        split at hq
        · rename_i x hcal
          split at hq
          · rename_i f args ht
            rw [Bool.and_eq_true, Bool.and_eq_true] at hq
            obtain ⟨⟨h1, h2⟩, h3⟩ := hq
            simp only [evOp, hcal, ht] at h
            split at h
            · rw [Option.isNone_iff_eq_none.1 h1] at h
              obtain ⟨G, hG⟩ := Option.isSome_iff_exists.1 h2
              rw [hG] at h
              simp only [frz1s_closed h3, h3, if_true] at h
              obtain ⟨v, _, h4⟩ := sel_bind h
              simp only [Tree.sel, Option.some.injEq, Prod.mk.injEq] at h4
              exact h4.2.symm
            · simp [Tree.sel] at h
          · cases hq
        · cases hq
    · cases hq

/-- any operation, in the order of the text -/
theorem evOp_ok {H : Hd} (hpc : SumOk P H) {call : CallH} (hcall : CallOk P call) {s : St} {F : Nat → Prop} {w : World} {bs : List BI} {a : Act} (hs : StRel P D F w bs s a) {o : Oper} {r : AV} {mem' : Mem}
    (h : (evOp P H call s.mem (fun K => opnd s K) o.op).sel = some (r, mem')) {K : Act → World → Prop} {Q : Exit → Act → World → Prop}
    (hK : ∀ F' w' bs' v, Ext bs.length F w bs F' w' bs' → MemRel P F' w' bs' mem' → r.Rel F' w' bs' v → K (a.put o.dst v) w') : o.wp P a w K Q :=
  evOp_at hpc hcall hs.mem (fun _ _ _ hk h => opnd_ok hs hk h) h hK

end
end Go.Sx
