/-
  The evaluator's soundness (part F): memory, calls, regions.
-/
import Derived.Test.YtjiennnkbompkaaEngE
namespace Go.Sx
open Go Go.RowKit

section
variable {P : Program}

/-- is the block one that may still be written? -/
def liveL : List CV → Prop
  | [.row fz _ n _] => fz = false ∧ 0 < n
  | _ => True

/-- a row: a slice's block -/
structure RowOk (F : Nat → Prop) (w : World) (x : BI) (T : TypeId) (fz : Bool) (es : List Sh) (n : Nat) (ρ : Val) : Prop where
  len : x.n = n
  cap0 : n = 0 → x.cap = 0
  cap : 0 < n → n ≤ x.cap ∧ x.cap ≤ maxLen
  block : 0 < n → ∃ arr : Array Value, w.heap[x.p]? = some (.cells arr T (0, 0)) ∧ arr.size = x.cap * es.length ∧ ∃ val : Nat → Nat → Value, (∀ i f, i < n → f < es.length → arr[i * es.length + f]? = some (val i f)) ∧
    (∀ i f s, i < n → nth es f = some s → CV.Rel F w [] (cellOf s ((ρ.at i).at f)) (val i f))
  frozen : 0 < n → fz = true → ¬ F x.p ∧ x.p < w.heap.size

structure MemRel (F : Nat → Prop) (w : World) (bs : List BI) (mem : Mem) : Prop where
  len : bs.length = mem.length
  loc : ∀ k x T cs, nth bs k = some x → nth mem k = some (some (T, cs)) → liveL cs → F x.p ∧ x.p < w.heap.size
  inj : ∀ k k' x x' T cs T' cs', nth bs k = some x → nth bs k' = some x' → nth mem k = some (some (T, cs)) → nth mem k' = some (some (T', cs')) → liveL cs → liveL cs' → x.p = x'.p → k = k'
  cont : ∀ k T cs x, nth mem k = some (some (T, cs)) → isRowL cs = false → nth bs k = some x → ∃ vs : List Value, w.heap[x.p]? = some (.cells vs.toArray T (0, 0)) ∧ All2 (CV.Rel F w bs) cs vs
  row : ∀ k T fz es n ρ x, nth mem k = some (some (T, [.row fz es n ρ])) → nth bs k = some x → RowOk F w x T fz es n ρ

theorem liveL_of {cs : List CV} (h : isRowL cs = false) : liveL cs := by
  unfold liveL
  split
  · simp [isRowL] at h
  · trivial

/-- how far a world and what is known of it may have gone on; the first K blocks are where they were -/
structure Ext (K : Nat) (F : Nat → Prop) (w : World) (bs : List BI) (F' : Nat → Prop) (w' : World) (bs' : List BI) : Prop where
  size : w.heap.size ≤ w'.heap.size
  F1 : ∀ p, p < w.heap.size → F' p → F p
  F2 : ∀ p, F p → p < w.heap.size → (∀ x ∈ bs, x.p ≠ p) → F' p
  same : ∀ p, p < w.heap.size → (¬ F p ∨ ∀ x ∈ bs, x.p ≠ p) → w'.heap[p]? = w.heap[p]?
  os : w'.os = w.os
  tape : w'.tape = w.tape
  output : w'.output = w.output
  pre : ∀ k x, k < K → nth bs k = some x → nth bs' k = some x
  mem : ∀ x ∈ bs', (∃ y ∈ bs, y.p = x.p) ∨ w.heap.size ≤ x.p

theorem nth_append {α : Type} {l r : List α} {k : Nat} {p : α} (h : nth l k = some p) : nth (l ++ r) k = some p := by
  rw [nth_eq] at h ⊢
  rw [List.getElem?_append_left (by rcases Nat.lt_or_ge k l.length with h' | h'; exact h'; simp [List.getElem?_eq_none h'] at h)]
  exact h

theorem nth_mem {α : Type} {l : List α} {k : Nat} {p : α} (h : nth l k = some p) : p ∈ l := by
  rw [nth_eq] at h
  exact List.mem_of_getElem? h

theorem mem_nth {α : Type} {l : List α} {p : α} (h : p ∈ l) : ∃ k, nth l k = some p := by
  obtain ⟨k, hk⟩ := List.getElem?_of_mem h
  exact ⟨k, by rw [nth_eq]; exact hk⟩

theorem nth_lt {α : Type} {l : List α} {k : Nat} {p : α} (h : nth l k = some p) : k < l.length := by
  rw [nth_eq] at h
  rcases Nat.lt_or_ge k l.length with h' | h'
  · exact h'
  · simp [List.getElem?_eq_none h'] at h

theorem Ext.refl {K F w bs} : Ext K F w bs F w bs := ⟨Nat.le_refl _, fun _ _ h => h, fun _ h _ _ => h, fun _ _ _ => rfl, rfl, rfl, rfl, fun _ _ _ h => h, fun x h => .inl ⟨x, h, rfl⟩⟩

theorem Ext.weak {K K' F w bs F' w' bs'} (h : Ext K F w bs F' w' bs') (hK : K' ≤ K) : Ext K' F w bs F' w' bs' :=
  ⟨h.size, h.F1, h.F2, h.same, h.os, h.tape, h.output, fun k x hk => h.pre k x (by omega), h.mem⟩

theorem Ext.away {K F w bs F' w' bs'} (h : Ext K F w bs F' w' bs') {p : Nat} (hp : p < w.heap.size) (hb : ∀ x ∈ bs, x.p ≠ p) : ∀ x ∈ bs', x.p ≠ p := by
  intro x hx e
  rcases h.mem x hx with ⟨y, hy, he⟩ | hs
  · exact hb y hy (he.trans e)
  · omega

theorem Ext.trans {K K' F w bs F' w' bs' F'' w'' bs''} (h : Ext K F w bs F' w' bs') (g : Ext K' F' w' bs' F'' w'' bs'') (hK : K ≤ K') : Ext K F w bs F'' w'' bs'' := by
  refine ⟨Nat.le_trans h.size g.size, fun p hp hf => h.F1 p hp (g.F1 p (Nat.lt_of_lt_of_le hp h.size) hf), fun p hp hps hb => g.F2 p (h.F2 p hp hps hb) (Nat.lt_of_lt_of_le hps h.size) (h.away hps hb), fun p hp hb => ?_,
    g.os.trans h.os, g.tape.trans h.tape, g.output.trans h.output, fun k x hk hx => g.pre k x (by omega) (h.pre k x hk hx), fun x hx => ?_⟩
  · rw [g.same p (Nat.lt_of_lt_of_le hp h.size) (hb.imp (fun hn hf => hn (h.F1 p hp hf)) (h.away hp))]
    exact h.same p hp hb
  · rcases g.mem x hx with ⟨y, hy, he⟩ | hs
    · rcases h.mem y hy with ⟨z, hz, he'⟩ | hs'
      · exact .inl ⟨z, hz, he'.trans he⟩
      · exact .inr (by omega)
    · exact .inr (Nat.le_trans h.size hs)

theorem Ext.grow {F w bs F' w' bs'} (h : Ext bs.length F w bs F' w' bs') : Grow F F' bs bs' w w' :=
  ⟨h.size, h.F1, fun p hp hF => h.same p hp (.inl hF), fun k p hk => h.pre k p (nth_lt hk) hk⟩

/-- what holds of plain data goes on holding -/
theorem Ext.grow0 {K F w bs F' w' bs'} (h : Ext K F w bs F' w' bs') : Grow F F' [] [] w w' :=
  ⟨h.size, h.F1, fun p hp hF => h.same p hp (.inl hF), fun k p hk => by simp [nth] at hk⟩

theorem Ext.below {K F w F' w' bs'} (h : Ext K F w [] F' w' bs') : Below w.heap.size w w' :=
  ⟨h.os, h.tape, h.output, h.size, fun p hp => h.same p hp (.inr (by simp))⟩

/-- a growth that keeps all the blocks that there are -/
theorem Ext.of_below {K F w bs w'} (h : Below w.heap.size w w') : Ext K F w bs F w' bs :=
  ⟨h.size, fun _ _ h => h, fun _ h _ _ => h, fun p hp _ => h.block p hp, h.os, h.tape, h.output, fun _ _ _ h => h, fun x h => .inl ⟨x, h, rfl⟩⟩

theorem RowOk.grow {F F' w w' x T fz es n ρ} (h : RowOk F w x T fz es n ρ) (g : Grow F F' [] [] w w') (hb : 0 < n → w'.heap[x.p]? = w.heap[x.p]?) : RowOk F' w' x T fz es n ρ := by
  refine ⟨h.len, h.cap0, h.cap, fun hn => ?_, fun hn hz => ⟨fun hF => (h.frozen hn hz).1 (g.F1 _ (h.frozen hn hz).2 hF), Nat.lt_of_lt_of_le (h.frozen hn hz).2 g.size⟩⟩
  obtain ⟨arr, h1, h2, val, h3, h4⟩ := h.block hn
  exact ⟨arr, by rw [hb hn]; exact h1, h2, val, h3, fun i f s hi hf => (h4 i f s hi hf).grow g⟩

theorem MemRel.below {F w bs mem w'} (hm : MemRel F w bs mem) (h : Below w.heap.size w w') : MemRel F w' bs mem := by
  have g := (Ext.of_below (F := F) (bs := bs) (K := bs.length) h).grow
  refine ⟨hm.len, fun k x T cs hk hc hl => ⟨(hm.loc k x T cs hk hc hl).1, Nat.lt_of_lt_of_le (hm.loc k x T cs hk hc hl).2 h.size⟩, hm.inj, fun k T cs x hc hr hp => ?_, fun k T fz es n ρ x hc hp => ?_⟩
  · obtain ⟨vs, hv, hr'⟩ := hm.cont k T cs x hc hr hp
    exact ⟨vs, by rw [h.block x.p (hm.loc k x T cs hp hc (liveL_of hr)).2]; exact hv, hr'.imp fun _ _ hx => hx.grow g⟩
  · have hr := hm.row k T fz es n ρ x hc hp
    refine hr.grow (Ext.of_below (F := F) (bs := bs) (K := bs.length) h).grow0 fun hn => ?_
    obtain ⟨arr, h1, _⟩ := hr.block hn
    exact h.block _ (Array.getElem?_eq_some_iff.1 h1).1

theorem cellsOfL_nth : ∀ (es : List Sh) (i k : Nat) (ρ : Val), nth (cellsOfL es i ρ) k = match nth es k with | some s => some (cellOf s (ρ.at (i + k))) | none => none
  | [], _, _, _ => by simp [cellsOfL, nth]
  | s :: r, i, 0, ρ => by simp [cellsOfL, nth]
  | s :: r, i, k + 1, ρ => by
    simp only [cellsOfL, nth]
    rw [cellsOfL_nth r (i + 1) k ρ, show i + 1 + k = i + (k + 1) by omega]

theorem cellsOfL_length : ∀ (es : List Sh) (i : Nat) (ρ : Val), (cellsOfL es i ρ).length = es.length
  | [], _, _ => rfl
  | _ :: r, i, ρ => by simp [cellsOfL, cellsOfL_length r (i + 1) ρ]

/-- what a load reads -/
theorem loadVar_ok {F : Nat → Prop} {w : World} {bs : List BI} {t : TypeId} {cs : List CV} {o : Nat} {a : A1} {vs : List Value} (h : partOf P t cs o = some a) (hr : All2 (CV.Rel F w bs) cs vs) (p q : Nat) :
    ∃ z, a.Rel F w bs z ∧ ∀ w' : World, (∀ j v, vs[j]? = some v → w'.cell? ⟨p, q + j, none⟩ = some v) → (loadVar t ⟨p, q + o, none⟩).run P w' = .ok z w' := by
  unfold partOf at h
  split at h
  · rename_i hi
    split at h
    · rename_i l hl
      simp at h; subst h
      rw [dropN_eq] at hl
      obtain ⟨hl, hlen⟩ := takeN_some hl
      obtain ⟨j, hj⟩ := info_of_isAggT hi
      rw [cellsOf_eq hj] at hl hlen
      refine ⟨.agg ((vs.drop o).take j.size).toArray, ⟨_, rfl, by rw [hl]; exact (hr.drop o).take _⟩, fun w' hw' => ?_⟩
      have hlen2 : ((vs.drop o).take j.size).length = j.size := by
        have := hr.length
        simp at hlen ⊢
        omega
      have hload := run_loadCells_list (P := P) w' ⟨p, q + o, none⟩ ((vs.drop o).take j.size) (fun k v hk => by
        rw [addr_add, Nat.add_assoc]
        refine hw' (o + k) v ?_
        rw [List.getElem?_take] at hk
        split at hk
        · simpa [List.getElem?_drop] using hk
        · simp at hk)
      rw [hlen2] at hload
      unfold loadVar
      simp only [Sem.run_bind, isAggT_ok hi, Result.andThen_ok, if_true, run_sizeOf' hj, hload, Sem.run_pure]
    · simp at h
  · rename_i hi
    split at h
    · rename_i x hx
      simp at h; subst h
      obtain ⟨v, hv, hrel⟩ := hr.nth hx
      refine ⟨v, hrel, fun w' hw' => ?_⟩
      unfold loadVar
      simp only [Sem.run_bind, isAggT_ok hi, Result.andThen_ok, Bool.false_eq_true, if_false, run_load, hw' o v hv]
    · simp at h
  · simp at h

theorem evLoad_ok {F : Nat → Prop} {w : World} {bs : List BI} {mem : Mem} {t : TypeId} {x r : AV} (h : evLoad P mem t x = some r) (hm : MemRel F w bs mem) {v : Value} (hx : x.Rel F w bs v) :
    ∃ a p o z, r = .one a ∧ v = .pointer (some ⟨p, o, none⟩) ∧ a.Rel F w bs z ∧ ∀ w', Below w.heap.size w w' → (loadVar t ⟨p, o, none⟩).run P w' = .ok z w' := by
  unfold evLoad at h
  split at h
  · rename_i b o
    split at h
    · rename_i T cs hmem
      split at h
      · simp at h
      · rename_i hrow
        split at h
        · rename_i a ha
          simp at h; subst h
          cases hx with
          | ptr hb =>
            rename_i p
            have hrow : isRowL cs = false := by simpa using hrow
            obtain ⟨vs, hheap, hr⟩ := hm.cont b T cs p hmem hrow hb
            obtain ⟨z, hz, hrun⟩ := loadVar_ok ha hr p.p 0
            refine ⟨a, p.p, o, z, rfl, rfl, hz, fun w' hw' => ?_⟩
            have := hrun w' (fun j v hv => by
              have hb2 : w'.heap[p.p]? = some (.cells vs.toArray T (0, 0)) := by rw [hw'.block p.p (hm.loc b p T cs hb hmem (liveL_of hrow)).2]; exact hheap
              rw [cell_of_row w' p.p (0 + j) _ _ _ hb2]
              simpa using hv)
            rwa [Nat.zero_add] at this
        · simp at h
    · simp at h
  · rename_i es off ρ0
    split at h
    · rename_i a ha
      simp at h; subst h
      cases hx with
      | rop val hb hF hc hr =>
        rename_i p o
        have hrel : All2 (CV.Rel F w bs) (cellsOfL es 0 ρ0) ((List.range es.length).map val) := by
          refine All2.of_nth (by simp [cellsOfL_length]) fun i x v hx hv => ?_
          rw [cellsOfL_nth] at hx
          split at hx
          · rename_i s hs
            simp at hx; subst hx
            have him : i < es.length := by
              rw [nth_eq] at hs
              rcases Nat.lt_or_ge i es.length with h' | h'
              · exact h'
              · simp [List.getElem?_eq_none h'] at hs
            rw [nth_eq] at hv
            simp only [List.getElem?_map] at hv
            rw [List.getElem?_range him] at hv
            simp at hv; subst hv
            exact (hr i s hs).mono (Nat.le_refl _) (fun _ _ h => h) (fun _ _ _ => rfl) (fun k p h => by simp [nth] at h)
          · simp at hx
        obtain ⟨z, hz, hrun⟩ := loadVar_ok ha hrel p o
        refine ⟨a, p, o + off, z, rfl, rfl, hz, fun w' hw' => ?_⟩
        refine hrun w' (fun j v hv => ?_)
        simp only [List.getElem?_map] at hv
        rcases Nat.lt_or_ge j es.length with hjm | hjm
        · rw [List.getElem?_range hjm] at hv
          simp at hv; subst hv
          rw [hw'.cell hb]
          exact hc j hjm
        · rw [List.getElem?_eq_none (by simpa using hjm)] at hv
          simp at hv
    · simp at h
  · simp at h

theorem putCells_at {F : Nat → Prop} {w : World} {bs : List BI} : ∀ {news cs : List CV} {o : Nat} {vs nv : List Value}, All2 (CV.Rel F w bs) cs vs → All2 (CV.Rel F w bs) news nv → o + nv.length ≤ vs.length →
    All2 (CV.Rel F w bs) (putCells cs o news) (vs.take o ++ nv ++ vs.drop (o + nv.length))
  | [], cs, o, vs, nv, h, hn, hl => by cases hn; simpa [putCells] using h
  | x :: r, cs, o, vs, nv, h, hn, hl => by
    cases hn with
    | cons hx hr =>
      rename_i y nv
      have := putCells_at (o := o + 1) (h.set o hx) hr (by simp at hl ⊢; omega)
      simp only [putCells]
      have e : (vs.set o y).take (o + 1) ++ nv ++ (vs.set o y).drop (o + 1 + nv.length) = vs.take o ++ y :: nv ++ vs.drop (o + (y :: nv).length) := by
        have ho : o < vs.length := by simp at hl; omega
        rw [List.take_set, List.drop_set_of_lt (by omega)]
        rw [List.take_succ_eq_append_getElem ho]
        rw [List.set_append_right _ _ (by simp; omega)]
        simp [Nat.min_eq_left (Nat.le_of_lt ho), Nat.add_assoc, Nat.add_comm 1]
      rwa [e] at this

def SlotRel (F : Nat → Prop) (w : World) (bs : List BI) (a : Act) (s : Slot) (x : Value) : Prop := (KH a s.keys → s.v.Rel F w bs x) ∧ (¬ KH a s.keys → x = undef)

structure StRel (F : Nat → Prop) (w : World) (bs : List BI) (s : St) (a : Act) : Prop where
  defers : a.defers = []
  len : s.tmps.length = a.tmps.size
  slots : ∀ i sl x, nth s.tmps i = some sl → a.tmps[i]? = some x → SlotRel F w bs a sl x
  mem : MemRel F w bs s.mem

theorem KH_nil {a : Act} : KH a [] := fun _ h => by cases h

theorem keyIn_ok {K : List (Nat × Bool)} {p : Nat × Bool} (h : keyIn K p = true) : p ∈ K := by
  simp only [keyIn, List.any_eq_true, Bool.and_eq_true, beq_iff_eq] at h
  obtain ⟨q, hq, h1, h2⟩ := h
  obtain ⟨a, b⟩ := q
  obtain ⟨c, d⟩ := p
  simp at h1 h2
  subst h1; subst h2
  exact hq

theorem opnd_ok {F w bs s} {a : Act} (hs : StRel F w bs s a) {K : List (Nat × Bool)} (hK : KH a K) {x : Operand} {av : AV} (h : opnd s K x = some av) : av.Rel F w bs (a.eval x) := by
  unfold opnd at h
  split at h
  · rename_i t
    split at h
    · rename_i ks v hn
      split at h
      · rename_i hall
        simp at h; subst h
        have hi : t < a.tmps.size := by
          rw [← hs.len]
          rw [nth_eq] at hn
          rcases Nat.lt_or_ge t s.tmps.length with h' | h'
          · exact h'
          · simp [List.getElem?_eq_none h'] at hn
        have hx : a.tmps[t]? = some a.tmps[t] := Array.getElem?_eq_getElem hi
        have := (hs.slots t _ _ hn hx).1 (fun p hp => hK p (keyIn_ok (List.all_eq_true.1 hall p hp)))
        simpa [Act.eval, Array.getD_eq_getD_getElem?, hx] using this
      · simp at h
    · simp at h
  · exact liftV_ok h
  · rename_i f
    simp at h; subst h
    exact CV.Rel.fn (vf := []) (vc := []) rfl rfl (fun i x v h => by simp [nth] at h) (fun i x v h => by simp [nth] at h)
  · simp at h

/-- the state behind an operation -/
theorem StRel.put {F w bs s} {a : Act} (hs : StRel F w bs s a) {dst : Option Tmp} {ks : List (Nat × Bool)} {v : AV} {x : Value} (hd : ∀ p ∈ ks, some p.1 ≠ dst) (h1 : KH a ks → v.Rel F w bs x) (h2 : ¬ KH a ks → x = undef) :
    StRel F w bs (s.put dst ks v) (a.put dst x) := by
  cases dst with
  | none => exact hs
  | some d =>
    refine ⟨hs.defers, ?_, fun i sl y hsl hy => ?_, hs.mem⟩
    · simp [St.put, Act.put, setN_eq, hs.len]
    · simp only [St.put, Act.put] at hsl hy ⊢
      rw [setN_eq, nth_eq, List.getElem?_set] at hsl
      rw [Array.getElem?_setIfInBounds] at hy
      have kh : ∀ K : List (Nat × Bool), (∀ p ∈ K, p.1 ≠ d) → (KH { a with tmps := a.tmps.setIfInBounds d x } K ↔ KH a K) := by
        intro K hK
        constructor
        · intro h p hp
          have := h p hp
          simp only [Array.getElem?_setIfInBounds] at this
          rw [if_neg (fun e => hK p hp e.symm)] at this
          exact this
        · intro h p hp
          simp only [Array.getElem?_setIfInBounds]
          rw [if_neg (fun e => hK p hp e.symm)]
          exact h p hp
      by_cases hid : d = i
      · subst hid
        simp only [if_true] at hsl hy
        split at hsl
        · simp at hsl; subst hsl
          split at hy
          · simp at hy; subst hy
            have hk := kh ks (fun p hp e => hd p hp (by rw [e]))
            exact ⟨fun h => h1 (hk.1 h), fun h => h2 (fun h' => h (hk.2 h'))⟩
          · simp at hy
        · simp at hsl
      · rw [if_neg hid] at hsl hy
        simp only [List.getElem?_map, Option.map_eq_some_iff] at hsl
        obtain ⟨sl0, hsl0, rfl⟩ := hsl
        have h0 := hs.slots i sl0 y (by rw [nth_eq]; exact hsl0) hy
        unfold dropKey
        split
        · exact ⟨fun _ => trivial, fun h => (h KH_nil).elim⟩
        · rename_i hany
          have hno : ∀ p ∈ sl0.keys, p.1 ≠ d := fun p hp e => hany (List.any_eq_true.2 ⟨p, hp, by simp [e]⟩)
          have hk := kh sl0.keys hno
          exact ⟨fun h => h0.1 (hk.1 h), fun h => h0.2 (fun h' => h (hk.2 h'))⟩

theorem StRel.ext {F w bs F' w' bs' s mem'} {a : Act} (hs : StRel F w bs s a) (he : Ext bs.length F w bs F' w' bs') (hm : MemRel F' w' bs' mem') : StRel F' w' bs' { s with mem := mem' } a :=
  ⟨hs.defers, hs.len, fun i sl x h1 h2 => ⟨fun hk => AV.Rel.grow he.grow ((hs.slots i sl x h1 h2).1 hk), (hs.slots i sl x h1 h2).2⟩, hm⟩

end
end Go.Sx
