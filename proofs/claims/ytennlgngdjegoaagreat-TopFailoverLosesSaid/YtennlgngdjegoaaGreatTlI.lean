/-
  Part TlI of the proof: EngNs EngH.
-/
import Derived.Test.YtennlgngdjegoaaGreatTlF
import Derived.Test.YtennlgngdjegoaaGreatTlH
namespace Go.Sx
open Go Go.RowKit
variable {D : List Deferred}
section
variable {P : Program}
theorem zero_cells {F w bs} {e : TypeId} {j : TypeInfo} {z : List CV} (hj : P.info? e = some j) (hz : zeroCellsOf P e = some z) : ∃ zv, j.zero = some zv ∧ All2 (CV.Rel F w bs) z zv.cells.toList := by
  unfold zeroCellsOf at hz
  simp only [hj] at hz
  split at hz
  · rename_i zv hzv
    exact ⟨zv, hzv, liftCells_ok hz⟩
  · cases hz
theorem repC_rel {F w bs} {z : List CV} {zv : Array Value} (h : All2 (CV.Rel F w bs) z zv.toList) (n : Nat) : All2 (CV.Rel F w bs) (repC z n) ((List.range (n * zv.size)).map fun i => zv[i % zv.size]!) := by
  have hs : zv.size = z.length := by have := h.length; simp at this; omega
  refine All2.of_nth (by simp [repC_length, hs]) fun i x v hx hv => ?_
  have hi := nth_lt hv
  simp only [List.length_map, List.length_range] at hi
  rw [repC_nth z n i (by rw [← hs]; exact hi)] at hx
  rw [nth_eq] at hv
  simp only [List.getElem?_map, List.getElem?_range hi, Option.map_some, Option.some.injEq] at hv
  subst hv
  obtain ⟨u, hu, hr⟩ := h.nth hx
  rw [hs]
  simp only [Array.getElem?_toList] at hu
  rw [getElem!_def, hu]
  exact hr
theorem buildN_ok {F w bs mem} (hm : MemRel P F w bs mem) {t : TypeId} {n : Nat} {parts : List (Nat × A1)} {pv : Array (Nat × Value)} {T : Tree (AV × Mem)} {r : AV} {mem' : Mem} (h : evBuildN P mem t n parts = some T) (hT : T.sel = some (r, mem'))
    (hp : All2 (fun x y => x.1 = y.1 ∧ A1.Rel F w bs x.2 y.2) parts pv.toList) :
    ∃ F' w' bs' v, Ext bs.length F w bs F' w' bs' ∧ MemRel P F' w' bs' mem' ∧ r.Rel F' w' bs' v ∧ (Instr.buildSlice t n pv).run P w = .ok v w' := by
  unfold evBuildN at h
  split at h
  · rename_i e hu
    split at h
    · rename_i j z hj hz
      split at h
      · rename_i hcond
        simp only [Bool.and_eq_true, beq_iff_eq, Nat.ble_eq, Nat.blt_eq] at hcond
        obtain ⟨⟨⟨h1, h2⟩, h3⟩, h4⟩ := hcond
        split at h
        · rename_i cs hfill
          simp only [Option.some.injEq] at h
          subst h
          simp only [Tree.sel, Option.some.injEq, Prod.mk.injEq] at hT
          obtain ⟨rfl, rfl⟩ := hT
          obtain ⟨zv, hzv, hzc⟩ := zero_cells (F := F) (w := w) (bs := bs) hj hz
          have hzs : zv.cells.size = 1 := by have := hzc.length; simp at this; omega
          have hbase := repC_rel hzc n
          obtain ⟨rv, hrv, hf⟩ := fill_ok (places' := fun i => some (i * j.size, j.size)) (fun i p h => h) hfill hbase hp
          have harr : ((Array.range (n * j.size)).map (zv.cells[· % zv.cells.size]!)) = ((List.range (n * zv.cells.size)).map fun i => zv.cells[i % zv.cells.size]!).toArray := by
            apply Array.ext'
            simp [Array.toList_map, h1, hzs]
          obtain ⟨F', bs', he, hm', hb⟩ := alloc_ok (P := P) hm e hrv hrv.noRow
          refine ⟨F', _, bs', .slice (some ⟨w.heap.size, 0, none⟩) n n, he, hm', CV.Rel.oc (x := ⟨w.heap.size, 0, 0⟩) hb (Nat.le_refl _), ?_⟩
          exact run_buildSlice w t e n pv rv.toArray j zv hu hj hzv (by rw [h1]; omega) (by rw [h1]; omega) (by rw [harr]; exact hf)
        · cases h
      · cases h
    · cases h
  · cases h
theorem makeN_ok {F w bs mem} (hm : MemRel P F w bs mem) {t : TypeId} {a b : AV} {va vb : Value} {T : Tree (AV × Mem)} {r : AV} {mem' : Mem} (h : evMakeN P mem t a b = some T) (hT : T.sel = some (r, mem')) (ha : a.Rel F w bs va) (hb : b.Rel F w bs vb) :
    ∃ F' w' bs' v, Ext bs.length F w bs F' w' bs' ∧ MemRel P F' w' bs' mem' ∧ r.Rel F' w' bs' v ∧ (Instr.makeSlice t va vb).run P w = .ok v w' := by
  unfold evMakeN at h
  split at h
  · rename_i kl l kc c
    split at h
    · rename_i e hu
      split at h
      · rename_i j z es hj hz _
        split at h
        · rename_i hcond
          simp only [Bool.and_eq_true, beq_iff_eq, Nat.blt_eq] at hcond
          obtain ⟨⟨h1, hby⟩, h3⟩ := hcond
          simp only [Option.some.injEq] at h
          subst h
          simp only [Tree.sel] at hT
          cases hc : (le 0 l && le l c && le (c * toInt64 j.bytes) 140737488355328) <;> simp [hc] at hT
          obtain ⟨rfl, rfl⟩ := hT
          rw [Bool.and_eq_true, Bool.and_eq_true, le_iff, le_iff, le_iff] at hc
          obtain ⟨⟨hl0, hlc⟩, hmax⟩ := hc
          have hmax : c * (j.bytes : Int) ≤ 140737488355328 := hmax
          have hc0 : 0 ≤ c := Int.le_trans hl0 hlc
          have hcb : c ≤ 140737488355328 := by
            have h1 : c * 1 ≤ c * (j.bytes : Int) := Int.mul_le_mul_of_nonneg_left (by omega) hc0
            omega
          obtain ⟨zv, hzv, hzc⟩ := zero_cells (F := F) (w := w) (bs := bs) hj hz
          have hzs : zv.cells.size = 1 := by have := hzc.length; simp at this; omega
          cases ha
          cases hb
          have hrun := run_make (P := P) w t e j zv hu hj hzv kl kc l c hl0 hlc (by rw [Int.mul_comm]; omega) (by omega)
          have hbase := repC_rel hzc c.toNat
          have harr : madeCells zv.cells (c.toNat * j.size) = ((List.range (c.toNat * zv.cells.size)).map fun i => zv.cells[i % zv.cells.size]!).toArray := by
            apply Array.ext'
            simp [madeCells, Array.toList_map, h1, hzs]
          rw [harr] at hrun
          obtain ⟨F', bs', he, hm', hb⟩ := alloc_ok (P := P) hm e hbase hbase.noRow
          exact ⟨F', _, bs', _, he, hm', CV.Rel.oc (x := ⟨w.heap.size, 0, 0⟩) hb (by omega), hrun⟩
        · cases h
      · cases h
    · cases h
  · cases h
theorem appN_ok {F w bs mem} (hm : MemRel P F w bs mem) {t ty : TypeId} {l : List A1} {vs : List Value} {T : Tree (AV × Mem)} {r : AV} {mem' : Mem} (h : evAppN P mem t l = some T) (hT : T.sel = some (r, mem')) (hl : All2 (A1.Rel F w bs) l vs) :
    ∃ F' w' bs' z, Ext bs.length F w bs F' w' bs' ∧ MemRel P F' w' bs' mem' ∧ r.Rel F' w' bs' z ∧ (Builtin.append_ #[t, t] ty vs.toArray).run P w = .ok z w' := by
  unfold evAppN at h
  split at h
  · rename_i b m c b' c'
    split at h
    · rename_i e hu
      split at h
      · rename_i j T1 cs T2 x hj hb1 hb2
        split at h
        · rename_i hcond
          simp only [Bool.and_eq_true, beq_iff_eq, Nat.blt_eq, Bool.not_eq_true'] at hcond
          obtain ⟨⟨⟨⟨⟨⟨h1, h2⟩, h3⟩, h4⟩, h5⟩, h6⟩, h7⟩ := hcond
          subst h4
          simp only [Option.some.injEq] at h
          subst h
          simp only [Tree.sel, Option.some.injEq, Prod.mk.injEq] at hT
          obtain ⟨rfl, rfl⟩ := hT
          cases hl with
          | cons ha hl =>
            cases hl with
            | cons hx hl =>
              cases hl
              cases ha with
              | oc hb hmc =>
                rename_i y
                cases hx with
                | oc hb' hmc' =>
                  rename_i y'
                  obtain ⟨us, hheap, hus⟩ := hm.cont b T1 cs y hb1 h5 hb
                  obtain ⟨us', hheap', hus'⟩ := hm.cont b' T2 [x] y' hb2 h6 hb'
                  cases hus' with
                  | cons hxu hn =>
                    cases hn
                    rename_i u
                    have hlen : us.length = c := by rw [← hus.length]; exact h3
                    have hrun := run_append_room (P := P) w t ty T1 j hu hj y.p m c us.toArray hheap ⟨y'.p, 0, none⟩ 1 c' [u] (by rw [h1]; rfl) (fun k z hk => by
                      cases k with
                      | zero =>
                        simp only [List.getElem?_cons_zero, Option.some.injEq] at hk
                        subst hk
                        rw [addr_eq rfl, cell_of_row w y'.p _ _ _ _ hheap']
                        simp
                      | succ k => simp at hk) (fun z hz => by simp at hz; subst hz; exact hxu.one) (by omega) (by simp [h1]; omega)
                    have hset : us.toArray.toList.take (m * j.size) ++ [u] ++ us.toArray.toList.drop (m * j.size + [u].length) = us.set m u := by
                      rw [h1, Nat.mul_one]
                      apply List.ext_getElem?
                      intro k
                      simp only [List.length_cons, List.length_nil]
                      rw [List.getElem?_set]
                      rcases Nat.lt_trichotomy k m with hk | hk | hk
                      · rw [List.getElem?_append_left (by simp; omega), List.getElem?_append_left (by simp; omega), List.getElem?_take, if_pos hk, if_neg (by omega)]
                      · subst hk
                        have e : (us.toArray.toList.take k).length = k := by simp; omega
                        rw [List.getElem?_append_left (by rw [List.length_append, e]; simp), List.getElem?_append_right (by rw [e]; exact Nat.le_refl _), e, Nat.sub_self, if_pos rfl, if_pos (by omega)]
                        rfl
                      · rw [List.getElem?_append_right (by simp; omega), List.getElem?_drop, if_neg (by omega)]
                        congr 1
                        simp; omega
                    rw [hset] at hrun
                    have hnew : All2 (CV.Rel F w bs) (setN cs m x) (us.set m u) := hus.set m hxu
                    obtain ⟨he, hm'⟩ := setRow_ok (P := P) hm hb hb1 h5 hnew hnew.noRow
                    exact ⟨F, _, bs, _, he, hm', CV.Rel.oc hb (by omega), hrun⟩
        · cases h
      · cases h
    · cases h
  · cases h
theorem nestOp_at {H : Hd} {F : Nat → Prop} {w : World} {bs : List BI} {a : Act} {mem : Mem} (hm : MemRel P F w bs mem) {ρ : Operand → Option AV}
    (h0 : ∀ x av, ρ x = some av → av.Rel F w bs (a.eval x)) {o : Oper} {T : Tree (AV × Mem)} {r : AV} {mem' : Mem}
    (h : nestOp P H mem ρ o.op = some T) (hT : T.sel = some (r, mem')) {K : Act → World → Prop} {Q : Exit → Act → World → Prop}
    (hK : ∀ F' w' bs' v, Ext bs.length F w bs F' w' bs' → MemRel P F' w' bs' mem' → r.Rel F' w' bs' v → K (a.put o.dst v) w') : o.wp P a w K Q := by
  unfold nestOp at h
  split at h
  · rename_i t x y ho
    split at h
    · split at h
      · rename_i l c hl hc
        obtain ⟨F', w', bs', v, hext, hm', hr, hrun⟩ := makeN_ok (P := P) hm h hT (h0 _ _ hl) (h0 _ _ hc)
        refine wp_value (w' := w') (v := v) ?_ (hK F' w' bs' v hext hm' hr)
        unfold execOp
        simp only [ho, Sem.run_bind, hrun, Result.andThen_ok, Sem.run_pure]
      · cases h
    · cases h
  · rename_i t n parts ho
    split at h
    · split at h
      · rename_i l hl
        have hp := evParts_ok h0 hl
        split at h
        · obtain ⟨F', w', bs', v, hext, hm', hr, hrun⟩ := buildN_ok (P := P) hm (pv := parts.map fun (i, x) => (i, a.eval x)) h hT (by simpa [Array.toList_map] using hp)
          refine wp_value (w' := w') (v := v) ?_ (hK F' w' bs' v hext hm' hr)
          unfold execOp
          simp only [ho, Sem.run_bind, hrun, Result.andThen_ok, Sem.run_pure]
        · cases h
      · cases h
    · cases h
  · rename_i c ho
    split at h
    · rename_i hcal
      split at h
      · split at h
        · rename_i l t t' hl hty
          split at h
          · rename_i htt
            have htt : t = t' := by simpa using htt
            subst htt
            have hargs := evArgs_ok h0 hl
            obtain ⟨F', w', bs', z, hext, hm', hrr, hrun⟩ := appN_ok (P := P) (ty := o.type) hm h hT hargs
            refine wp_value (w' := w') (v := z) ?_ (hK F' w' bs' z hext hm' hrr)
            have e1 : c.argTypes = #[t, t] := by
              apply Array.ext'; rw [hty]
            have e2 : c.args.map a.eval = (c.args.toList.map a.eval).toArray := by
              apply Array.ext'; simp
            unfold execOp
            simp only [ho, resolve, hcal, Sem.run_bind, Sem.run_pure, Result.andThen_ok, invoke, builtin, e1, e2, hrun]
          · cases h
        · cases h
      · cases h
    · cases h
  · cases h
theorem gdec_ok {F w bs s} {a : Act} (hs : StRel P D F w bs s a) : ∀ {K : List (Nat × Bool)} {g : Bool}, gdec s K = some g → (g = true ↔ KH a K)
  | [], g, h => by simp [gdec] at h; subst h; exact ⟨fun _ => KH_nil, fun _ => rfl⟩
  | (d, b) :: r, g, h => by
    simp only [gdec] at h
    split at h
    · rename_i ks c gr hn hgr
      split at h
      · rename_i hall
        simp at h; subst h
        have ih := gdec_ok hs hgr
        cases gr
        · refine ⟨fun h => by simp [and'] at h, fun hk => ?_⟩
          have := ih.2 fun p hp => hk p (by simp [hp])
          cases this
        · have hr := ih.1 rfl
          have hks : KH a ks := fun p hp => by
            rw [List.all_eq_true] at hall
            exact hr p (keyIn_ok (hall p hp))
          obtain ⟨x, hx⟩ : ∃ x, a.tmps[d]? = some x := by
            have hlt : d < s.tmps.length := nth_lt hn
            rw [hs.len] at hlt
            exact ⟨a.tmps[d], by simp [hlt]⟩
          have hv := (hs.slots d _ x hn hx).1 hks
          have hx' : x = .bool c := by cases hv; rfl
          subst hx'
          simp only [and']
          refine ⟨fun hcb => ?_, fun hk => ?_⟩
          · have hcb : c = b := by simpa using hcb
            subst hcb
            intro p hp
            simp only [List.mem_cons] at hp
            rcases hp with rfl | hp
            · exact hx
            · exact hr p hp
          · have := hk (d, b) (by simp)
            simp only [hx, Option.some.injEq, Value.bool.injEq] at this
            simp [this]
      · simp at h
    · simp at h
theorem yldOf_ok {F : Nat → Prop} {w : World} {bs : List BI} {ρ : Operand → Option AV} {a : Act} (hρ : ∀ x av, ρ x = some av → av.Rel F w bs (a.eval x)) {o : Oper} {b : Nat} {args : List A1} (h : yldOf ρ o.op = some (b, args)) :
    ∃ (x : BI) (vs : List Value), nth bs b = some x ∧ All2 (A1.Rel F w bs) args vs ∧ ∀ R : Loop, w.heap[x.p]? = some (.loop R) → vs.length = R.params.size →
      (execOp a.eval o).run P w = .ok (.round x.p R.fn (argTmps R vs.toArray) R.assign R.body) w := by
  unfold yldOf at h
  split at h
  · rename_i c ho
    split at h
    · rename_i x hcal
      split at h
      · rename_i b' l hx hl
        simp only [Option.some.injEq, Prod.mk.injEq] at h
        obtain ⟨rfl, rfl⟩ := h
        have hxr := hρ _ _ hx
        have hargs := evArgs_ok hρ hl
        generalize he : a.eval x = z at hxr
        cases hxr with
        | yld hb =>
          rename_i xb
          refine ⟨xb, c.args.toList.map a.eval, hb, hargs, fun R hR hs => ?_⟩
          unfold execOp
          rw [ho]
          have hs' : (c.args.map a.eval).size = R.params.size := by simpa using hs
          simp only [resolve, hcal, he, Deferred.ofValue, Sem.run_bind, Sem.run_pure, Result.andThen_ok, invoke, Array.empty_append, argTmps, map_toArray]
          exact run_yield hR (by simpa using hs')
      · simp at h
    · simp at h
  · simp at h
theorem evOpY_at {H : Hd} (hpc : SumOk P H) {call : CallH} (hcall : CallOk P call) {lr : Option Nat} {nn : Nat} {F : Nat → Prop} {w : World} {bs : List BI} {a : Act} {mem : Mem} (hm : MemRel P F w bs mem) {ρ : List (Nat × Bool) → Operand → Option AV}
    (hρ : ∀ K x av, KH a K → ρ K x = some av → av.Rel F w bs (a.eval x)) {o : Oper} (hd : notDefer o.op = true) {r : AV} {mem' : Mem}
    (h : (evOpY P H call mem ρ o.op).sel = some (r, mem')) {K : Act → World → Prop} {Q : Exit → Act → World → Prop}
    (hK : ∀ F' w' bs' v, Ext bs.length F w bs F' w' bs' → MemRel P F' w' bs' mem' → r.Rel F' w' bs' v → K (a.put o.dst v) w') : o.wpIn (FW lr) nn P a w K Q := by
  unfold evOpY at h
  split at h
  · rename_i b l hy
    obtain ⟨x, vs, hb, hvs, hrun⟩ := yldOf_ok (P := P) (fun x av => hρ [] x av KH_nil) hy
    obtain ⟨R, hR, hsz, hround⟩ := hcall.yl b l mem r mem' h F w bs vs x hm hvs hb
    refine wpIn_of_round hd (hrun R hR hsz) (hround _) fun e w' ⟨v, F', bs', he, hx, hm', hr⟩ => ⟨v, he, hK F' w' bs' v hx hm' hr⟩
  · split at h
    · rename_i T hT
      exact wpIn_of_wp hd (nestOp_at hm (fun x av => hρ [] x av KH_nil) hT h hK)
    · exact wpIn_of_wp hd (evOp_at hpc hcall hm hρ h hK)
theorem evOps_ok {H : Hd} (hpc : SumOk P H) {call : CallH} (hcall : CallOk P call) {lr : Option Nat} {nn : Nat} {ops : Array Oper} {Q : Exit → Act → World → Prop} {s' : St} : ∀ (l : List Oper) (s : St) {F : Nat → Prop} {w : World} {bs : List BI} {a : Act},
    l.all (fun o => notDefer o.op) = true → (evOps P H call false ops.toList l s).sel = some s' → StRel P D F w bs s a → (∀ F' w' bs' a', Ext bs.length F w bs F' w' bs' → StRel P D F' w' bs' s' a' → Q .normal a' w') → wpListIn (FW lr) nn P ops Q l a w
  | [], s, F, w, bs, a, _, h, hs, hQ => by
    simp only [evOps, Tree.sel, Option.some.injEq] at h
    subst h
    exact wpListIn_nil (hQ F w bs a Ext.refl hs)
  | o :: r, s, F, w, bs, a, hnd, h, hs, hQ => by
    simp only [List.all_cons, Bool.and_eq_true] at hnd
    obtain ⟨hd, hnd⟩ := hnd
    simp only [evOps] at h
    split at h
    · rename_i hg
      simp only [Bool.false_and, Bool.false_eq_true, if_false] at h
      obtain ⟨⟨rv, mem'⟩, h1, h2⟩ := sel_bind h
      refine wpListIn_plain hg fun K hK => evOpY_at hpc hcall hs.mem (fun _ _ _ hk h => opnd_ok hs hk h) hd h1 fun F' w' bs' v hext hm hr => hK _ _ ?_
      refine evOps_ok hpc hcall r _ hnd h2 (StRel.put (hs.ext hext hm) (fun _ hp => by cases hp) (fun _ => hr) (fun h => (h KH_nil).elim)) fun F'' w'' bs'' a'' he hs'' => hQ _ _ _ _ (hext.trans he hext.le) hs''
    · rename_i j b hg
      split at h
      · rename_i K hkeys
        split at h
        · simp [Tree.sel] at h
        rename_i hdst
        simp only [Bool.not_eq_true] at hdst
        have hkd : ∀ p ∈ K, some p.1 ≠ o.dst := by
          intro p hp e
          rw [List.any_eq_false] at hdst
          exact hdst p hp (by simp [e])
        have hiff := keys_ok hs hkeys
        split at h
        · rename_i hq
          obtain ⟨⟨rv, mem'⟩, h1, h2⟩ := sel_bind h
          refine wpListIn_step fun KK hKK => ?_
          by_cases hk : KH a K
          · have hw : Region.wanted o (yielded ops a.tmps) = true := (wanted_iff hg _).2 (hiff.1 hk)
            rw [if_pos hw]
            have h1' := toNeed_sel h1 (gterm_ok hs hk)
            have hρ : ∀ K' x av, KH a K' → opnd s (K' ++ K) x = some av → av.Rel F w bs (a.eval x) := fun K' x av hk' hh => opnd_ok hs (fun p hp => (List.mem_append.1 hp).elim (hk' p) (hk p)) hh
            have hme := still_mem (ρ := fun K' => opnd s (K' ++ K)) hpc hs.mem hρ hq h1'
            subst hme
            refine wpIn_of_wp hd (evOp_at hpc hcall hs.mem hρ h1' fun F' w' bs' v hext hm hr => hKK _ _ ?_)
            exact evOps_ok hpc hcall r _ hnd h2 (StRel.put (hs.ext hext hm) hkd (fun _ => hr) (fun h => (h hk).elim)) fun F'' w'' bs'' a'' he hs'' => hQ _ _ _ _ (hext.trans he hext.le) hs''
          · have hw : ¬ Region.wanted o (yielded ops a.tmps) = true := fun h => hk (hiff.2 ((wanted_iff hg _).1 h))
            rw [if_neg hw]
            exact ⟨fun _ _ => trivial, hKK _ _ (evOps_ok hpc hcall r _ hnd h2 (StRel.put hs hkd (fun h => (hk h).elim) (fun _ => rfl)) hQ)⟩
        · simp only [Bool.false_eq_true, if_false] at h
          split at h
          · rename_i g hgd
            have hgk := gdec_ok hs hgd
            simp only [Tree.sel] at h
            refine wpListIn_step fun KK hKK => ?_
            by_cases hk : KH a K
            · have hw : Region.wanted o (yielded ops a.tmps) = true := (wanted_iff hg _).2 (hiff.1 hk)
              rw [if_pos hw]
              rw [hgk.2 hk, cond_true] at h
              obtain ⟨⟨rv, mem'⟩, h1, h2⟩ := sel_bind h
              have hρ : ∀ K' x av, KH a K' → opnd s (K' ++ K) x = some av → av.Rel F w bs (a.eval x) := fun K' x av hk' hh => opnd_ok hs (fun p hp => (List.mem_append.1 hp).elim (hk' p) (hk p)) hh
              refine evOpY_at hpc hcall hs.mem hρ hd h1 fun F' w' bs' v hext hm hr => hKK _ _ ?_
              exact evOps_ok hpc hcall r _ hnd h2 (StRel.put (hs.ext hext hm) (fun _ hp => by cases hp) (fun _ => hr) (fun h => (h KH_nil).elim)) fun F'' w'' bs'' a'' he hs'' => hQ _ _ _ _ (hext.trans he hext.le) hs''
            · have hw : ¬ Region.wanted o (yielded ops a.tmps) = true := fun h => hk (hiff.2 ((wanted_iff hg _).1 h))
              rw [if_neg hw]
              have hg0 : g = false := by cases hgv : g; rfl; exact (hk (hgk.1 hgv)).elim
              rw [hg0, cond_false] at h
              exact ⟨fun _ _ => trivial, hKK _ _ (evOps_ok hpc hcall r _ hnd h (StRel.put hs hkd (fun h => (hk h).elim) (fun _ => rfl)) hQ)⟩
          · simp [Tree.sel] at h
      · simp [Tree.sel] at h
def xe : XE → Exit
  | .normal => .normal
  | .exit k => .exit k
  | .ret => .ret
def LoopOk (P : Program) (b : Code) (h : Nat → St → Tree (XE × St)) : Prop :=
  ∀ K s x, (h K s).sel = some x → ∀ (lr : Option Nat) (nn : Nat) (D : List Deferred) F w bs a, K ≤ bs.length → StRel P D F w bs s a → ∀ Q : Exit → Act → World → Prop,
    (∀ F' w' bs' a', Ext K F w bs F' w' bs' → StRel P D F' w' bs' x.2 a' → Q (xe x.1) a' w') → (Code.loop b).wpIn (FW lr) nn P Q a w
theorem StRel.unkey {F w bs s} {a : Act} (hs : StRel P D F w bs s a) : StRel P D F w bs { s with tmps := s.tmps.map Sx.unkey } a := by
  refine ⟨hs.defers, by simp [hs.len], fun i sl x h1 h2 => ?_, hs.mem⟩
  rw [nth_eq, List.getElem?_map] at h1
  simp only [Option.map_eq_some_iff] at h1
  obtain ⟨s0, h0, rfl⟩ := h1
  have := hs.slots i s0 x (by rw [nth_eq]; exact h0) h2
  unfold Sx.unkey
  split
  · exact this
  · exact ⟨fun _ => trivial, fun h => (h KH_nil).elim⟩
theorem evCode_ok {H : Hd} (hpc : SumOk P H) {call : CallH} (hcall : CallOk P call) {lr : Option Nat} {nn : Nat} (f K : Nat) : ∀ (c : Code) (n : Nat) (s : St) {x : XE × St},
    (evCode P H call f K n c s).sel = some x → (∀ i b h, nthLoop c i = some b → lookLh H.lh f (n + i) = some h → LoopOk P b h) → ∀ {F : Nat → Prop} {w : World} {bs : List BI} {a : Act}, K ≤ bs.length → StRel P D F w bs s a → ∀ {Q : Exit → Act → World → Prop},
    (∀ F' w' bs' a', Ext K F w bs F' w' bs' → StRel P D F' w' bs' x.2 a' → Q (xe x.1) a' w') → c.wpIn (FW lr) nn P Q a w := by
  intro c
  induction c with
  | skip =>
    intro n s x h _ F w bs a hK hs Q hQ
    simp only [evCode, Tree.sel, Option.some.injEq] at h
    subst h
    exact wpIn_skip (hQ F w bs a Ext.refl hs)
  | region id ops draw =>
    intro n s x h _ F w bs a hK hs Q hQ
    simp only [evCode] at h
    split at h
    · simp [Tree.sel] at h
    rename_i hnd
    have hnd : ops.toList.all (fun o => notDefer o.op) = true := by
      cases hb : ops.toList.all (fun o => notDefer o.op)
      · rw [hb] at hnd; simp at hnd
      · rfl
    cases draw
    · simp only [Bool.false_eq_true, if_false] at h
      obtain ⟨s', h1, h2⟩ := sel_bind h
      simp only [Tree.sel, Option.some.injEq] at h2
      subst h2
      exact wpIn_region_list (evOps_ok hpc hcall _ _ hnd h1 hs fun F' w' bs' a' he hs' => hQ F' w' bs' a' (he.weak hK) hs'.unkey)
    · simp only [if_true] at h
      split at h
      · rename_i hm
        obtain ⟨⟨s', is⟩, h1, h2⟩ := sel_bind h
        simp only at h2
        split at h2
        · rename_i hd
          simp only [Tree.sel, Option.some.injEq] at h2
          subst h2
          refine draw_okIn hpc hcall hnd hm h1 hd (fun sl hsl => ?_) hs.unkey fun F' w' bs' a' he hs' => hQ F' w' bs' a' (he.weak hK) hs'.unkey
          simp only [List.mem_map] at hsl
          obtain ⟨s0, _, rfl⟩ := hsl
          unfold Sx.unkey
          split
          · rename_i hk; simpa using hk
          · rfl
        · simp [Tree.sel] at h2
      · simp [Tree.sel] at h
  | seq a b iha ihb =>
    intro n s x h hl F w bs a' hK hs Q hQ
    simp only [evCode] at h
    obtain ⟨y, h1, h2⟩ := sel_bind h
    refine wpIn_seq (iha n s h1 (fun i bb hh hi hk => hl i bb hh (by
      simp only [nthLoop]
      have : i < nloops a := by
        rcases Nat.lt_or_ge i (nloops a) with h' | h'
        · exact h'
        · exact absurd hi (by rw [nthLoop_none a i h']; simp)
      rw [if_pos this]; exact hi) hk) hK hs fun F' w' bs' a'' he hs' => ?_)
    obtain ⟨e, s'⟩ := y
    cases e with
    | normal =>
      simp only [xe, Exit.then]
      refine ihb (n + nloops a) s' h2 (fun i bb hh hi hk => hl (nloops a + i) bb hh (by
        simp only [nthLoop]
        rw [if_neg (by omega)]
        rw [show nloops a + i - nloops a = i by omega]; exact hi) (by rw [← Nat.add_assoc]; exact hk)) (he.le hK) hs' fun F'' w'' bs'' a3 he' hs'' => hQ _ _ _ _ (he.trans he' (Nat.le_refl _)) hs''
    | exit k =>
      simp only [Tree.sel, Option.some.injEq] at h2
      subst h2
      exact hQ _ _ _ _ he hs'
    | ret =>
      simp only [Tree.sel, Option.some.injEq] at h2
      subst h2
      exact hQ _ _ _ _ he hs'
  | cond c a b iha ihb =>
    intro n s x h hl F w bs a' hK hs Q hQ
    simp only [evCode] at h
    split at h
    · rename_i t ht
      have hr := opnd_ok hs KH_nil ht
      have hc : a'.eval c = .bool t := by
        generalize a'.eval c = z at hr ⊢
        cases hr; rfl
      obtain ⟨y, hy, hxe, hwk⟩ := joinC_ok h
      have hQ' : ∀ F' w' bs' a', Ext K F w bs F' w' bs' → StRel P D F' w' bs' y.2 a' → Q (xe y.1) a' w' := fun F' w' bs' a' he hs' => by
        obtain ⟨d, hd⟩ := hwk hs'
        rw [← hxe]
        exact hQ F' w' _ a' (he.trans (Ext.dummies (K := K) d) (Nat.le_refl _)) hd
      cases t
      · simp only [cond_false] at hy
        refine wpIn_cond_false hc (ihb (n + nloops a) s hy (fun i bb hh hi hk => hl (nloops a + i) bb hh (by
          simp only [nthLoop]
          rw [if_neg (by omega)]
          rw [show nloops a + i - nloops a = i by omega]; exact hi) (by rw [← Nat.add_assoc]; exact hk)) hK hs hQ')
      · simp only [cond_true] at hy
        refine wpIn_cond_true hc (iha n s hy (fun i bb hh hi hk => hl i bb hh (by
          simp only [nthLoop]
          have : i < nloops a := by
            rcases Nat.lt_or_ge i (nloops a) with h' | h'
            · exact h'
            · exact absurd hi (by rw [nthLoop_none a i h']; simp)
          rw [if_pos this]; exact hi) hk) hK hs hQ')
    · simp [Tree.sel] at h
  | block id b ih =>
    intro n s x h hl F w bs a' hK hs Q hQ
    simp only [evCode] at h
    obtain ⟨y, h1, h2⟩ := sel_bind h
    refine wpIn_block (ih n s h1 (fun i bb hh hi hk => hl i bb hh hi hk) hK hs fun F' w' bs' a'' he hs' => ?_)
    obtain ⟨e, s'⟩ := y
    cases e with
    | normal =>
      simp only [Tree.sel, Option.some.injEq] at h2
      subst h2
      exact hQ _ _ _ _ he hs'
    | exit k =>
      simp only [Tree.sel, Option.some.injEq] at h2
      subst h2
      simp only [xe, Exit.inBlock]
      have := hQ _ _ _ _ he hs'
      by_cases hk : k = id
      · simpa [hk, xe] using this
      · simpa [hk, xe] using this
    | ret =>
      simp only [Tree.sel, Option.some.injEq] at h2
      subst h2
      exact hQ _ _ _ _ he hs'
  | loop b _ =>
    intro n s x h hl F w bs a' hK hs Q hQ
    simp only [evCode] at h
    split at h
    · rename_i hh hk
      exact hl 0 b hh rfl (by simpa using hk) K s x h lr nn D F w bs a' hK hs Q hQ
    · simp [Tree.sel] at h
  | exit id =>
    intro n s x h _ F w bs a hK hs Q hQ
    simp only [evCode, Tree.sel, Option.some.injEq] at h
    subst h
    exact wpIn_exit (hQ F w bs a Ext.refl hs)
  | ret =>
    intro n s x h _ F w bs a hK hs Q hQ
    simp only [evCode, Tree.sel, Option.some.injEq] at h
    subst h
    exact wpIn_ret (hQ F w bs a Ext.refl hs)
  | rangeFunc _ _ _ _ _ _ => intro n s x h; simp [evCode, Tree.sel] at h
  | scope _ _ => intro n s x h; simp [evCode, Tree.sel] at h
  | label _ => intro n s x h; simp [evCode, Tree.sel] at h
  | goto _ => intro n s x h; simp [evCode, Tree.sel] at h
  | refuse _ => intro n s x h; simp [evCode, Tree.sel] at h
 where nthLoop_none : ∀ (c : Code) (i : Nat), nloops c ≤ i → nthLoop c i = none
  | .skip, _, _ => rfl
  | .region _ _ _, _, _ => rfl
  | .seq a b, i, h => by
    simp only [nloops] at h
    simp only [nthLoop]
    rw [if_neg (by omega)]
    exact nthLoop_none b _ (by omega)
  | .cond _ a b, i, h => by
    simp only [nloops] at h
    simp only [nthLoop]
    rw [if_neg (by omega)]
    exact nthLoop_none b _ (by omega)
  | .block _ b, i, h => by simpa [nthLoop] using nthLoop_none b i h
  | .loop b, i, h => by
    simp only [nloops] at h
    cases i with
    | zero => omega
    | succ i => simpa [nthLoop] using nthLoop_none b i (by omega)
  | .rangeFunc _ _ a b, i, h => by
    simp only [nloops] at h
    simp only [nthLoop]
    rw [if_neg (by omega)]
    exact nthLoop_none b _ (by omega)
  | .exit _, _, _ => rfl
  | .scope b, i, h => by simpa [nthLoop] using nthLoop_none b i h
  | .label _, _, _ => rfl
  | .goto _, _, _ => rfl
  | .ret, _, _ => rfl
  | .refuse _, _, _ => rfl
structure HdOk (P : Program) (H : Hd) : Prop where
  pc : SumOk P H
  lh : ∀ f fn c i b h, P.funcs[f]? = some fn → fn.body = some c → nthLoop c i = some b → lookLh H.lh f i = some h → LoopOk P b h
def resSem (tmps : Array Value) : ResultVar → Sem Value
  | .tmp t => pure (tmps.getD t undef)
  | .cell p t => do loadVar t (← asAddr (tmps.getD p undef))
theorem run_result {F w bs s} {a : Act} (hs : StRel P D F w bs s a) {x : ResultVar} {r : A1} (h : evResult P s x = some r) :
    ∃ z, r.Rel F w bs z ∧ (resSem a.tmps x).run P w = .ok z w := by
  have slot : ∀ {t : Nat} {v : AV}, nth s.tmps t = some ⟨[], v⟩ → v.Rel F w bs (a.tmps.getD t undef) := by
    intro t v hn
    have := opnd_ok (x := .tmp t) (av := v) hs KH_nil (by simp [opnd, hn])
    simpa [Act.eval] using this
  unfold evResult at h
  cases x with
  | tmp t =>
    simp only at h
    split at h
    · rename_i b hn
      simp at h; subst h
      exact ⟨_, slot hn, rfl⟩
    · simp at h
  | cell p t =>
    simp only at h
    split at h
    · rename_i v hn
      split at h
      · rename_i b hb
        simp at h; subst h
        obtain ⟨b', q, o, z, he, hv, hz, hrun⟩ := evLoad_ok hb hs.mem (slot hn)
        simp at he; subst he
        refine ⟨z, hz, ?_⟩
        simp only [resSem, Sem.run_bind, hv, asAddr, Sem.run_pure, Result.andThen_ok, hrun w (Below.refl _ _)]
      · simp at h
    · simp at h
theorem run_results {F w bs s} {a : Act} (hs : StRel P D F w bs s a) {fn : Func} {l : List A1} (h : evResults P s fn.results.toList = some l) :
    ∃ z, (resOf l).Rel F w bs z ∧ (results fn a.tmps).run P w = .ok z w := by
  have key : ∀ (rs : List ResultVar) (l : List A1), evResults P s rs = some l → ∃ zs : List Value, All2 (A1.Rel F w bs) l zs ∧
      (rs.mapM (resSem a.tmps)).run P w = .ok zs w := by
    intro rs
    induction rs with
    | nil => intro l h; simp [evResults] at h; subst h; exact ⟨[], .nil, by simp⟩
    | cons x rs ih =>
      intro l h
      simp only [evResults] at h
      split at h
      · rename_i b l' hb hl
        simp at h; subst h
        obtain ⟨zs, h1, h2⟩ := ih l' hl
        obtain ⟨z, hz, hrun⟩ := run_result hs hb
        exact ⟨z :: zs, .cons hz h1, by simp only [List.mapM_cons, Sem.run_bind, hrun, Result.andThen_ok, h2, Sem.run_pure]⟩
      · simp at h
  obtain ⟨zs, h1, h2⟩ := key _ _ h
  have hres : (results fn a.tmps).run P w = .ok (if h : zs.toArray.size = 1 then zs.toArray[0] else .tuple zs.toArray) w := by
    have hu : results fn a.tmps = (do let vs ← fn.results.mapM (resSem a.tmps); pure (if h : vs.size = 1 then vs[0] else .tuple vs)) := rfl
    rw [hu, Array.mapM_eq_mapM_toList]
    simp only [Sem.run_bind, Sem.run_map, h2, Result.andThen_ok, Sem.run_pure]
  rw [hres]
  refine ⟨_, ?_, rfl⟩
  unfold resOf
  split
  · rename_i b
    cases h1 with
    | cons hb hr => cases hr; simpa [AV.Rel] using hb
  · rename_i hne
    have : ¬ zs.toArray.size = 1 := by
      intro e
      have hl := h1.length
      simp at e
      match l, hl with
      | [], hl => simp [e] at hl
      | [x], _ => exact hne x rfl
      | _ :: _ :: _, hl => simp [e] at hl
    rw [dif_neg this]
    exact ⟨zs, rfl, h1⟩
end
end Go.Sx
