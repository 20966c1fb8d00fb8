/-
  The evaluator's soundness (part G): operations, regions, code, functions.
-/
import Derived.Test.YtcplkefmilpmpaaEngF
namespace Go.Sx
open Go Go.RowKit

section
variable {P : Program}

/-- what is known of a pure summary -/
def PcOk (P : Program) (pc : List (Nat × (List A1 → Option AV))) : Prop :=
  ∀ f G, lookPc pc f = some G → ∀ args r, G args = some r → args.all closedA = true → ∀ F w vs, All2 (A1.Rel F w []) args vs →
    ∃ v, AV.Rel F w [] r v ∧ ∀ w1, Below w.heap.size w w1 → Calls P f vs.toArray w1 (fun e w2 => e = .returned v ∧ Below w1.heap.size w1 w2)

def CallOk (P : Program) (call : CallH) : Prop :=
  ∀ f args mem r mem', (call f args mem).sel = some (r, mem') → ∀ F w bs vs, MemRel F w bs mem → All2 (A1.Rel F w bs) args vs →
    Calls P f vs.toArray w (fun e w' => ∃ v F' bs', e = .returned v ∧ Ext F w bs F' w' bs' ∧ MemRel F' w' bs' mem' ∧ AV.Rel F' w' bs' r v)

theorem evTarget_ok {F : Nat → Prop} {w : World} {bs : List Nat} {ρ : Operand → Option AV} {a : Act} (hρ : ∀ x av, ρ x = some av → av.Rel F w bs (a.eval x)) {o : Oper} {c : Call} (ho : o.op = .call c) {f : Nat} {args : List A1}
    (h : evTarget ρ c = some (f, args)) (hc : callable P f = true) : ∃ vs : List Value, All2 (A1.Rel F w bs) args vs ∧ ∀ w', (execOp a.eval o).run P w' = .ok (.enter f vs.toArray) w' := by
  unfold evTarget at h
  split at h
  · rename_i x hcal
    split at h
    · rename_i g first cap l hx hl
      simp at h
      obtain ⟨rfl, rfl⟩ := h
      have hxr := hρ _ _ hx
      have hargs := evArgs_ok hρ hl
      generalize he : a.eval x = z at hxr
      cases hxr with
      | fn l1 l2 r1 r2 =>
        rename_i vf vc
        have h1 : All2 (A1.Rel F w bs) (first.map .c) vf := by
          refine All2.of_nth (by simpa using l1) fun i u v hu hv => ?_
          rw [nth_eq, List.getElem?_map] at hu
          simp only [Option.map_eq_some_iff] at hu
          obtain ⟨y, hy, rfl⟩ := hu
          exact r1 i y v (by rw [nth_eq]; exact hy) hv
        have h2 : All2 (A1.Rel F w bs) (cap.map .c) vc := by
          refine All2.of_nth (by simpa using l2) fun i u v hu hv => ?_
          rw [nth_eq, List.getElem?_map] at hu
          simp only [Option.map_eq_some_iff] at hu
          obtain ⟨y, hy, rfl⟩ := hu
          exact r2 i y v (by rw [nth_eq]; exact hy) hv
        refine ⟨vf ++ (c.args.toList.map a.eval ++ vc), h1.append (hargs.append h2), fun w' => ?_⟩
        unfold callable at hc
        split at hc
        · rename_i fn hfn
          simp only [Bool.and_eq_true, bne_iff_ne, ne_eq] at hc
          obtain ⟨hn, hb⟩ := hc
          rw [nth_eq] at hfn
          simp only [Array.getElem?_toList] at hfn
          have hb' : fn.body.isNone = false := by cases hh : fn.body <;> simp [hh] at hb ⊢
          have hn' : (fn.name == "runtime.NumGoroutine") = false := by simpa using hn
          unfold execOp
          rw [ho]
          simp only [resolve, hcal, he, Deferred.ofValue, Sem.run_bind, Sem.run_pure, Result.andThen_ok, invoke, callFunc, run_program, hfn, hn', Bool.false_eq_true, if_false, hb']
          congr 2
          rw [map_toArray]
          apply Array.ext'
          simp
        · simp at hc
    · simp at h
  · simp at h

theorem Calls.weak {f : FuncId} {args : Array Value} {w : World} {R R' : Ending → World → Prop} (h : Calls P f args w R) (hr : ∀ e w', R e w' → R' e w') : Calls P f args w R' := Calls.mono h hr

/-- a quiet operation: one value in every world that has only grown -/
theorem quiet_ok {H : Hd} (hpc : PcOk P H.pc) {call : CallH} {mem : Mem} {F : Nat → Prop} {w : World} {bs : List Nat} (hm : MemRel F w bs mem) {ρ : List (Nat × Bool) → Operand → Option AV} {a : Act}
    (hρ : ∀ K x av, KH a K → ρ K x = some av → av.Rel F w bs (a.eval x)) {o : Oper} {r : AV} {mem' : Mem} {ρ' : Operand → Option AV} (hρ' : ρ' = ρ [])
    (hq : quietOp H ρ' o.op = true) (h : (evOp P H call mem ρ o.op).sel = some (r, mem')) :
    mem' = mem ∧ ∃ v, r.Rel F w bs v ∧ ∀ w', Below w.heap.size w w' → o.quietAt P a (Below w.heap.size w) w' v := by
  subst hρ'
  have h0 : ∀ x av, ρ [] x = some av → av.Rel F w bs (a.eval x) := fun x av => hρ [] x av KH_nil
  have pure_case : ((evPure P ρ o.op).bind fun v => Tree.leaf (v, mem)).sel = some (r, mem') → mem' = mem ∧ ∃ v, r.Rel F w bs v ∧ ∀ w', Below w.heap.size w w' → o.quietAt P a (Below w.heap.size w) w' v := by
    intro h
    obtain ⟨av, hav, hb⟩ := sel_bind h
    simp only [Tree.sel, Option.some.injEq, Prod.mk.injEq] at hb
    obtain ⟨rfl, rfl⟩ := hb
    obtain ⟨v, hv, hrun⟩ := evPure_ok hρ hav
    refine ⟨rfl, v, hv, fun w' _ => ?_⟩
    unfold Oper.quietAt
    rw [hrun]
    exact ⟨rfl, rfl⟩
  unfold evOp at h
  split at h
  · rename_i e ho; rw [ho] at hq; simp [quietOp] at hq
  · rename_i e x ho; rw [ho] at hq; simp [quietOp] at hq
  · rename_i t x ho
    split at h
    · rename_i u hu
      split at h
      · rename_i v hv
        simp only [Tree.sel, Option.some.injEq, Prod.mk.injEq] at h
        obtain ⟨rfl, rfl⟩ := h
        obtain ⟨b, p, off, z, rfl, he, hz, hrun⟩ := evLoad_ok hv hm (h0 _ _ hu)
        refine ⟨rfl, z, hz, fun w' hw' => ?_⟩
        unfold Oper.quietAt execOp
        simp only [ho, Sem.run_bind, Instr.loadAt, he, Instr.sureAddr, Sem.run_pure, Result.andThen_ok, hrun w' hw']
        exact ⟨rfl, rfl⟩
      · simp [Tree.sel] at h
    · simp [Tree.sel] at h
  · rename_i t x y ho; rw [ho] at hq; simp [quietOp] at hq
  · rename_i c ho
    split at h
    · rename_i x hcal
      rw [ho] at hq
      simp only [quietOp, hcal] at hq
      split at h
      · rename_i f args ht
        simp only [ht] at hq
        split at h
        · rename_i hcl
          split at h
          · rename_i G hG
            split at h
            · rename_i hclosed
              split at h
              · rename_i rr hr
                simp only [Tree.sel, Option.some.injEq, Prod.mk.injEq] at h
                obtain ⟨rfl, rfl⟩ := h
                obtain ⟨vs, hvs, hrun⟩ := evTarget_ok h0 ho ht hcl
                have hvs' : All2 (A1.Rel F w []) args vs := by
                  clear hrun ht hr
                  induction hvs with
                  | nil => exact .nil
                  | cons ha _ ih =>
                    simp only [List.all_cons, Bool.and_eq_true] at hclosed
                    exact .cons (ha.closed hclosed.1) (ih hclosed.2)
                obtain ⟨v, hv, hcalls⟩ := hpc f G hG args rr hr hclosed F w vs hvs'
                refine ⟨rfl, v, ?_, fun w' hw' => ?_⟩
                · exact AV.Rel.grow (bs := []) (bs' := bs) (F := F) (F' := F) (w := w) (w' := w) ⟨Nat.le_refl _, fun _ _ h => h, fun _ _ _ => rfl, fun k p h => by simp [nth] at h⟩ hv
                · unfold Oper.quietAt
                  rw [hrun]
                  exact ⟨rfl, (hcalls w' hw').mono fun e w2 ⟨he, hb⟩ => ⟨he, hw'.trans (hb.mono hw'.size)⟩⟩
              · simp [Tree.sel] at h
            · simp [Tree.sel] at h
          · rename_i hG
            simp [hG] at hq
        · simp [Tree.sel] at h
      · simp [Tree.sel] at h
    · rename_i hcal
      rw [← ho] at h
      exact pure_case h
  · exact pure_case h

/-- carrying out an operation whose run is a value -/
theorem wp_value {o : Oper} {a : Act} {w w' : World} {v : Value} {K : Act → World → Prop} {Q : Exit → Act → World → Prop} (hrun : (execOp a.eval o).run P w = .ok (.value v) w') (h : K (a.put o.dst v) w') : o.wp P a w K Q := by
  unfold Oper.wp
  rw [hrun]
  exact h

theorem wp_skip' {o : Oper} {a : Act} {w w' : World} {K : Act → World → Prop} {Q : Exit → Act → World → Prop} (hrun : (execOp a.eval o).run P w = .ok .skip w') (h : K (a.put o.dst undef) w') : o.wp P a w K Q := by
  unfold Oper.wp
  rw [hrun]
  exact h

theorem nth_append_last {α : Type} (l : List α) (x : α) : nth (l ++ [x]) l.length = some x := by
  rw [nth_eq]; simp

theorem nth_append_split {α : Type} {l : List α} {x : α} {k : Nat} {p : α} (h : nth (l ++ [x]) k = some p) : nth l k = some p ∨ (k = l.length ∧ p = x) := by
  rw [nth_eq] at h
  rcases Nat.lt_or_ge k l.length with hk | hk
  · left; rw [nth_eq]; rwa [List.getElem?_append_left hk] at h
  · right
    rw [List.getElem?_append_right hk] at h
    rcases Nat.eq_zero_or_pos (k - l.length) with h0 | h0
    · rw [h0] at h; simp at h; exact ⟨by omega, h.symm⟩
    · rw [List.getElem?_eq_none (by simp; omega)] at h; simp at h

/-- a new block -/
theorem alloc_ok {F w bs mem} (hm : MemRel F w bs mem) (e : TypeId) {cs : List CV} {vs : List Value} (hr : All2 (CV.Rel F w bs) cs vs) :
    ∃ F' bs', Ext F w bs F' (w.alloc (.cells vs.toArray e)) bs' ∧ MemRel F' (w.alloc (.cells vs.toArray e)) bs' (mem ++ [some (e, cs)]) ∧ nth bs' mem.length = some w.heap.size := by
  have hext : Ext F w bs (fun p => F p ∨ p = w.heap.size) (w.alloc (.cells vs.toArray e)) (bs ++ [w.heap.size]) := by
    refine ⟨by simp, fun p hp h => ?_, fun p h => .inl h, fun p hp _ => Below.heap_alloc _ _ _ hp, rfl, rfl, rfl, [w.heap.size], rfl, by simp⟩
    rcases h with h | h
    · exact h
    · omega
  have hgrow := hext.grow hm
  refine ⟨_, _, hext, ⟨by simp [hm.len], fun k p hk => ?_, fun k k' p hk hk' => ?_, fun k T cs' hc p hp => ?_⟩, by rw [← hm.len]; exact nth_append_last _ _⟩
  · rcases nth_append_split hk with h | ⟨_, h⟩
    · exact ⟨.inl (hm.loc k p h).1, by have := (hm.loc k p h).2; simp; omega⟩
    · exact ⟨.inr h, by simp; omega⟩
  · rcases nth_append_split hk with h | ⟨h1, h2⟩ <;> rcases nth_append_split hk' with h' | ⟨h1', h2'⟩
    · exact hm.inj k k' p h h'
    · have := (hm.loc k p h).2; omega
    · have := (hm.loc k' p h').2; omega
    · omega
  · rcases nth_append_split hc with h | ⟨h1, h2⟩
    · have hp' : nth bs k = some p := by
        rcases nth_append_split hp with h' | ⟨h', _⟩
        · exact h'
        · rw [nth_eq, List.getElem?_eq_none (by rw [h', hm.len]; exact Nat.le_refl _)] at h
          simp at h
      obtain ⟨us, hu, hrr⟩ := hm.cont k T cs' h p hp'
      exact ⟨us, by rw [Below.heap_alloc _ _ _ (hm.loc k p hp').2]; exact hu, hrr.imp fun _ _ hx => hx.grow hgrow⟩
    · simp at h2
      obtain ⟨rfl, rfl⟩ := h2
      have hp' : p = w.heap.size := by
        rw [h1, ← hm.len, nth_append_last] at hp
        simpa using hp.symm
      subst hp'
      exact ⟨vs, by show (w.heap.push _)[_]? = _; simp, hr.imp fun _ _ hx => hx.grow hgrow⟩

/-- a store into a block of one's own -/
theorem setRow_ok {F w bs mem} (hm : MemRel F w bs mem) {b p : Nat} (hb : nth bs b = some p) {T : TypeId} {old : List CV} (hold : nth mem b = some (some (T, old))) {cs : List CV} {vs : List Value} (hr : All2 (CV.Rel F w bs) cs vs) :
    Ext F w bs F (w.setRow p vs.toArray) bs ∧ MemRel F (w.setRow p vs.toArray) bs (setN mem b (some (T, cs))) := by
  have hsz : (w.setRow p vs.toArray).heap.size = w.heap.size := by simp [World.setRow]
  have hext : Ext F w bs F (w.setRow p vs.toArray) bs := by
    refine ⟨by rw [hsz]; exact Nat.le_refl _, fun _ _ h => h, fun _ h => h, fun q hq hn => setRow_other w p q _ (fun e => hn (e ▸ nth_mem hb)), rfl, rfl, rfl, [], by simp, by simp⟩
  have hgrow := hext.grow hm
  refine ⟨hext, ⟨by simp [setN_eq, hm.len], fun k q hk => ⟨(hm.loc k q hk).1, by rw [hsz]; exact (hm.loc k q hk).2⟩, hm.inj, fun k T' cs' hc q hq => ?_⟩⟩
  rw [setN_eq, nth_eq, List.getElem?_set] at hc
  by_cases hbk : b = k
  · subst hbk
    rw [hb] at hq
    simp at hq; subst hq
    simp only [if_true] at hc
    split at hc
    · simp at hc
      obtain ⟨rfl, rfl⟩ := hc
      obtain ⟨us, hu, _⟩ := hm.cont b T old hold p hb
      exact ⟨vs, setRow_heap w p _ _ _ _ hu, hr.imp fun _ _ hx => hx.grow hgrow⟩
    · simp at hc
  · rw [if_neg hbk] at hc
    obtain ⟨us, hu, hrr⟩ := hm.cont k T' cs' (by rw [nth_eq]; exact hc) q hq
    exact ⟨us, by rw [setRow_other w p q _ (fun e => hbk (by subst e; exact hm.inj b k q hb hq))]; exact hu, hrr.imp fun _ _ hx => hx.grow hgrow⟩

/-- any operation -/
theorem evOp_at {H : Hd} (hpc : PcOk P H.pc) {call : CallH} (hcall : CallOk P call) {F : Nat → Prop} {w : World} {bs : List Nat} {a : Act} {mem : Mem} (hm : MemRel F w bs mem) {ρ : List (Nat × Bool) → Operand → Option AV}
    (hρ : ∀ K x av, KH a K → ρ K x = some av → av.Rel F w bs (a.eval x)) {o : Oper} {r : AV} {mem' : Mem}
    (h : (evOp P H call mem ρ o.op).sel = some (r, mem')) {K : Act → World → Prop} {Q : Exit → Act → World → Prop}
    (hK : ∀ F' w' bs' v, Ext F w bs F' w' bs' → MemRel F' w' bs' mem' → r.Rel F' w' bs' v → K (a.put o.dst v) w') : o.wp P a w K Q := by
  have h0 : ∀ x av, ρ [] x = some av → av.Rel F w bs (a.eval x) := fun x av => hρ [] x av KH_nil
  by_cases hq : quietOp H (ρ []) o.op = true
  · obtain ⟨rfl, v, hv, hat⟩ := quiet_ok hpc hm hρ rfl hq h
    refine Oper.wp_of_quiet (C := Below w.heap.size w) (K := fun a' => a' = a.put o.dst v) (Below.refl _ _) (fun a' w' hw' he => ?_) ⟨v, hat, rfl⟩
    subst he
    have hext : Ext F w bs F w' bs := Ext.of_below hw'
    exact hK F w' bs v hext (hm.below hw') (AV.Rel.grow (hext.grow hm) hv)
  · unfold evOp at h
    split at h
    · rename_i e ho
      split at h
      · rename_i z hz
        simp only [Tree.sel, Option.some.injEq, Prod.mk.injEq] at h
        obtain ⟨rfl, rfl⟩ := h
        obtain ⟨v, hzv, hr⟩ := zeroCellsOf_ok (F := F) (w := w) (bs := bs) hz
        obtain ⟨F', bs', hext, hm', hn⟩ := alloc_ok hm e hr
        refine wp_value (w' := w.alloc (.cells v.cells e)) (v := .pointer (some ⟨w.heap.size, 0, none⟩)) ?_ ?_
        · unfold execOp
          simp [ho, Instr.alloc, hzv, newVar, newRow]
        · have e2 : (.cells v.cells.toList.toArray e : Obj) = .cells v.cells e := by rw [Array.toArray_toList]
          rw [e2] at hext hm'
          exact hK F' _ bs' _ hext hm' (CV.Rel.ptr hn)
      · simp [Tree.sel] at h
    · rename_i e x ho
      split at h
      · rename_i b hb
        simp only [Tree.sel, Option.some.injEq, Prod.mk.injEq] at h
        obtain ⟨rfl, rfl⟩ := h
        have hbr := h0 _ _ hb
        obtain ⟨F', bs', hext, hm', hn⟩ := alloc_ok hm e (A1.Rel.cells hbr)
        refine wp_value (w' := w.alloc (.cells (a.eval x).cells e)) (v := .pointer (some ⟨w.heap.size, 0, none⟩)) ?_ ?_
        · unfold execOp
          simp [ho, Instr.box, newVar, newRow]
        · rw [Array.toArray_toList] at hext hm'
          exact hK F' _ bs' _ hext hm' (CV.Rel.ptr hn)
      · simp [Tree.sel] at h
    · rename_i t x ho; rw [ho] at hq; exact (hq rfl).elim
    · rename_i t x y ho
      split at h
      · rename_i b off v hx hy
        split at h
        · rename_i T cs i hmem hi
          split at h
          · rename_i hcond
            simp only [Tree.sel, Option.some.injEq, Prod.mk.injEq] at h
            obtain ⟨rfl, rfl⟩ := h
            simp only [Bool.and_eq_true, beq_iff_eq, Nat.ble_eq] at hcond
            have hxr := h0 _ _ hx
            have hyr := A1.Rel.cells (show v.Rel F w bs (a.eval y) from h0 _ _ hy)
            generalize he : a.eval x = z at hxr
            cases hxr with
            | ptr hb =>
              rename_i p
              obtain ⟨us, hu, hr⟩ := hm.cont b T cs hmem p hb
              have hl := hyr.length
              have hl2 := hr.length
              have hput := putCells_at (o := off) hr hyr (by omega)
              obtain ⟨hext, hm'⟩ := setRow_ok hm hb hmem hput
              refine wp_skip' (w' := w.setRow p (us.take off ++ (a.eval y).cells.toList ++ us.drop (off + (a.eval y).cells.toList.length)).toArray) ?_ (hK F _ bs _ hext hm' trivial)
              have hone : ∀ u ∈ (a.eval y).cells.toList, u.oneCell' = true := by
                intro u hu'
                obtain ⟨k, hk⟩ := mem_nth hu'
                rw [nth_eq] at hk
                obtain ⟨c, _, hc⟩ := hyr.nth' hk
                exact hc.one
              have hst := run_storeCells_at (P := P) p off T (a.eval y).cells.toList 0 us.toArray w hu (by simp at hl ⊢; omega) hone
              simp only [Nat.add_zero] at hst
              have hsz : ¬ (a.eval y).cells.size ≠ i.size := by
                simp at hl
                omega
              unfold execOp
              simp only [ho, Instr.storeAt, he, Instr.sureAddr, Sem.run_bind, Sem.run_pure, Result.andThen_ok, storeVar, run_sizeOf' hi, Sem.run_ite, hsz, if_false, hst]
          · simp [Tree.sel] at h
        · simp [Tree.sel] at h
      · simp [Tree.sel] at h
    · rename_i c ho
      split at h
      · rename_i x hcal
        split at h
        · rename_i f args ht
          split at h
          · rename_i hcl
            split at h
            · rename_i G hG
              rw [ho] at hq
              simp [quietOp, hcal, ht, hG] at hq
            · obtain ⟨vs, hvs, hrun⟩ := evTarget_ok h0 ho ht hcl
              have := hcall f args mem r mem' h F w bs vs hm hvs
              unfold Oper.wp
              rw [hrun]
              refine this.mono fun e w' ⟨v, F', bs', he, hext, hm', hr⟩ => ?_
              subst he
              exact hK F' w' bs' v hext hm' hr
          · simp [Tree.sel] at h
        · simp [Tree.sel] at h
      · rename_i hcal
        rw [ho] at hq
        exfalso
        apply hq
        simp only [quietOp]
    · rename_i hq2
      exfalso
      apply hq
      unfold quietOp
      split <;> simp_all

/-- any operation, in the order of the text -/
theorem evOp_ok {H : Hd} (hpc : PcOk P H.pc) {call : CallH} (hcall : CallOk P call) {s : St} {F : Nat → Prop} {w : World} {bs : List Nat} {a : Act} (hs : StRel F w bs s a) {o : Oper} {r : AV} {mem' : Mem}
    (h : (evOp P H call s.mem (fun K => opnd s K) o.op).sel = some (r, mem')) {K : Act → World → Prop} {Q : Exit → Act → World → Prop}
    (hK : ∀ F' w' bs' v, Ext F w bs F' w' bs' → MemRel F' w' bs' mem' → r.Rel F' w' bs' v → K (a.put o.dst v) w') : o.wp P a w K Q :=
  evOp_at hpc hcall hs.mem (fun _ _ _ hk h => opnd_ok hs hk h) h hK

end
end Go.Sx
