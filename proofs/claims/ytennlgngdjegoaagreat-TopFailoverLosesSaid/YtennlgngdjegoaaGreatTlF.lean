/-
  Part TlF of the proof: EngTd EngG.
-/
import Derived.Test.YtennlgngdjegoaaGreatTlE
import Derived.Laws.CopyRow
import Derived.RangeFuncRecord
namespace Go.Sx
open Go Go.RowKit
section
variable {P : Program}
theorem head_ok {F w bs mem} (hm : MemRel P F w bs mem) {t : TypeId} {a : A1} {lo hi mx : Option Int} {vlo vhi vmx : Option Value} (h1 : IntOpt lo vlo) (h2 : IntOpt hi vhi) (h3 : IntOpt mx vmx) {T : Tree (AV × Mem)} (hT : evHead P mem t a lo hi mx = some T)
    {r : AV} {mem' : Mem} (h : T.sel = some (r, mem')) {v : Value} (ha : A1.Rel F w bs a v) :
    mem' = mem ∧ (∃ z, r.Rel F w bs z ∧ (Instr.slice t v vlo vhi vmx).run P w = .ok z w) ∧ ∃ e, P.underlying t = some (.slice e) := by
  unfold evHead at hT
  split at hT
  · rename_i b sz hh
    split at hT
    · rename_i e T' es n ρ ht hrow
      split at hT
      · rename_i j hj
        split at hT
        · rename_i hc
          simp only [Bool.and_eq_true, beq_iff_eq] at hc
          obtain ⟨⟨hes, hsz⟩, hTe⟩ := hc
          subst hTe
          simp only [Option.some.injEq] at hT
          subst hT
          simp only [Tree.sel] at h
          cases hl : (le 0 hh && le hh (toInt64 n)) <;> simp [hl] at h
          obtain ⟨rfl, rfl⟩ := h
          rw [Bool.and_eq_true, le_iff, le_iff] at hl
          have hl2 : hh ≤ (n : Int) := hl.2
          have hrow := rowAt_some hrow
          cases h1
          cases h3
          cases h2 with
          | yes k _ =>
            cases ha with
            | os hb hbase =>
              rename_i x base
              have hr := hm.row b T' false es n ρ x hrow hb
              refine ⟨rfl, ⟨.slice base hh.toNat x.cap, CV.Rel.osh hb (by rw [hr.len]; omega) hbase, ?_⟩, T', ht⟩
              have hcut := run_cut (P := P) (w := w) ht hj base (n := x.n) (cap := x.cap) (by rw [hr.len]; exact hr.le) .no (.yes k hh) (fun _ h => by cases h) (by simp) (fun _ h => by cases h; exact hl.1) (by simp [hr.len]; omega)
              rw [hcut]
              simp only [Option.getD_none, Option.getD_some, Int.toNat_zero, Nat.zero_mul, Nat.sub_zero]
              congr 2
              split
              · rfl
              · cases base with
                | none => rfl
                | some q =>
                  obtain ⟨q1, q2, q3⟩ := q
                  simp only [Option.map_some, Addr.add]
                  split <;> simp_all
        · simp at hT
      · simp at hT
    · simp at hT
  · simp at hT
theorem add_none {p o j : Nat} : (⟨p, o, none⟩ : Addr).add j = ⟨p, o + j, none⟩ := by
  unfold Addr.add; split <;> simp_all
theorem cpOf_ok {F w bs mem} (hm : MemRel P F w bs mem) {x : A1} {es : List Sh} {m : Nat} {σ : Val} (h : cpOf mem x = some (es, m, σ)) {u : Value} (hx : A1.Rel F w bs x u) :
    ∃ sb sc, u = .slice sb m sc ∧ ∃ val : Nat → Nat → Value, (∀ k, k ≤ m → (Builtin.firstCells es.length k u).run P w = .ok (((List.range (k * es.length)).map fun q => val (q / es.length) (q % es.length)).toArray) w) ∧
      (∀ i f s, i < m → nth es f = some s → CV.Rel F w [] (cellOf s ((σ.at i).at f)) (val i f)) := by
  have load : ∀ (blk off : Nat) (val : Nat → Nat → Value) (m : Nat), (∀ i f, i < m → f < es.length → w.cell? ⟨blk, off + (i * es.length + f), none⟩ = some (val i f)) → ∀ k, k ≤ m →
      (loadCells ⟨blk, off, none⟩ (k * es.length)).run P w = .ok (((List.range (k * es.length)).map fun q => val (q / es.length) (q % es.length)).toArray) w := by
    intro blk off val m hc k hk
    refine run_loadCells w _ _ _ fun q hq => ?_
    rw [add_none]
    have hpos : 0 < es.length := by
      rcases Nat.eq_zero_or_pos es.length with h0 | h0
      · rw [h0] at hq; omega
      · exact h0
    have hdiv : q / es.length < k := Nat.div_lt_of_lt_mul (by rw [Nat.mul_comm]; exact hq)
    have := hc (q / es.length) (q % es.length) (by omega) (Nat.mod_lt _ hpos)
    rwa [Nat.mul_comm, Nat.div_add_mod] at this
  unfold cpOf at h
  split at h
  · rename_i es' n ρ
    simp only [Option.some.injEq, Prod.mk.injEq] at h
    obtain ⟨rfl, rfl, rfl⟩ := h
    cases hx with
    | slnil =>
      refine ⟨none, 0, rfl, fun _ _ => undef, fun k hk => ?_, fun i f s hi => by omega⟩
      obtain rfl : k = 0 := by omega
      simp [Builtin.firstCells]
    | sl val hn h0 hc hr =>
      rename_i cap a
      refine ⟨some a, _, rfl, val, fun k hk => ?_, hr⟩
      show (loadCells a (k * es'.length)).run P w = _
      by_cases hn0 : n = 0
      · obtain rfl : k = 0 := by omega
        rw [Nat.zero_mul]
        exact run_loadCells w a 0 _ fun j hj => by omega
      · obtain ⟨hs, _, _⟩ := h0 (by omega)
        obtain ⟨blk, off, spot⟩ := a
        simp only at hs
        subst hs
        exact load blk off val n hc k hk
  · rename_i b sz m'
    split at h
    · rename_i T fz es' n ρ hrow
      split at h
      · rename_i hsz
        simp only [Option.some.injEq, Prod.mk.injEq] at h
        obtain ⟨rfl, rfl, rfl⟩ := h
        have hrow := rowAt_some hrow
        cases hx with
        | osh hb hl hbase =>
          rename_i xb base
          have hr := hm.row b T fz es' n ρ xb hrow hb
          have hmn : m' ≤ n := by rw [← hr.len]; exact hl
          by_cases hm0 : m' = 0
          · subst hm0
            refine ⟨base, _, rfl, fun _ _ => undef, fun k hk => ?_, fun i f s hi => by omega⟩
            obtain rfl : k = 0 := by omega
            cases base with
            | none => simp [Builtin.firstCells]
            | some a =>
              simp only [Builtin.firstCells, Nat.zero_mul]
              exact run_loadCells w a 0 _ fun j hj => by omega
          · have hn0 : 0 < n := by omega
            obtain ⟨arr, harr, hs, val, h3, h4⟩ := hr.block hn0
            have := hbase (hr.room hn0)
            subst this
            refine ⟨_, _, rfl, val, fun k hk => ?_, fun i f s hi hs => h4 i f s (by omega) hs⟩
            refine load xb.p 0 val m' (fun i f hi hf => ?_) k hk
            rw [Nat.zero_add]
            have := h3 i f (by omega) hf
            simp only [World.cell?, harr, Option.isSome_none, Bool.false_eq_true, if_false]
            exact this
      · simp at h
    · simp at h
  · simp at h
theorem splice_lt {lo k i : Nat} {ρ σ : Val} (h : i < lo ∨ lo + k ≤ i) : (splice lo k ρ σ).at i = ρ.at i := by
  unfold splice
  rw [byFst_at]
  cases h1 : Nat.blt i lo
  · have h2 : Nat.blt i (lo + k) = false := by
      rw [← Bool.not_eq_true] at h1 ⊢
      simp only [Nat.blt_eq] at h1 ⊢
      omega
    rw [h2]; rfl
  · rfl
theorem splice_in {lo k i : Nat} {ρ σ : Val} (h1 : lo ≤ i) (h2 : i < lo + k) : (splice lo k ρ σ).at i = σ.at (i - lo) := by
  unfold splice
  rw [byFst_at]
  have e1 : Nat.blt i lo = false := by rw [← Bool.not_eq_true]; simp only [Nat.blt_eq]; omega
  have e2 : Nat.blt i (lo + k) = true := by simp only [Nat.blt_eq]; exact h2
  rw [e1, e2]; rfl
theorem copy_ok {F w bs mem} (hm : MemRel P F w bs mem) {t ty : TypeId} {ts : List TypeId} {a x : A1} {r : AV} {mem' : Mem} (h : (evCopy P mem t a x).sel = some (r, mem')) {v u : Value} (ha : A1.Rel F w bs a v) (hx : A1.Rel F w bs x u) :
    ∃ w' z, Ext bs.length F w bs F w' bs ∧ MemRel P F w' bs mem' ∧ r.Rel F w' bs z ∧ (Builtin.copy_ (t :: ts).toArray ty #[v, u]).run P w = .ok z w' := by
  unfold evCopy at h
  split at h
  · rename_i b sz lo es' m σ hd hc
    split at h
    · rename_i e T es n ρ ht hrow
      split at h
      · rename_i j hj
        split at h
        · rename_i hcond
          simp only [Bool.and_eq_true, beq_iff_eq, Nat.blt_eq] at hcond
          obtain ⟨⟨⟨⟨hse, hes⟩, hszj⟩, hTe⟩, hpos⟩ := hcond
          have hse := shsEq_eq hse
          subst hse
          subst hTe
          simp only [Tree.sel, Option.some.injEq, Prod.mk.injEq] at h
          obtain ⟨rfl, rfl⟩ := h
          have hrow := rowAt_some hrow
          obtain ⟨sb, sc, rfl, val', hfirst, hrel'⟩ := cpOf_ok hm hc hx
          have hdst : ∃ (xb : BI) (base : Option Addr) (cap : Nat), nth bs b = some xb ∧ v = .slice base (xb.n - lo) cap ∧ (0 < xb.cap → base = some ⟨xb.p, lo * sz, none⟩) ∧ lo ≤ xb.n := by
            unfold dstOf at hd
            split at hd
            · simp only [Option.some.injEq, Prod.mk.injEq] at hd
              obtain ⟨rfl, rfl, rfl⟩ := hd
              cases ha with
              | os hb hbase => exact ⟨_, _, _, hb, rfl, fun h => by rw [hbase h]; simp, Nat.zero_le _⟩
            · simp only [Option.some.injEq, Prod.mk.injEq] at hd
              obtain ⟨rfl, rfl, rfl⟩ := hd
              cases ha with
              | ost hb hl => exact ⟨_, _, _, hb, rfl, fun _ => rfl, Nat.le_of_lt hl⟩
            · simp at hd
          obtain ⟨xb, base, cap, hb, rfl, hbase, hlo⟩ := hdst
          have hr := hm.row b T false es' n ρ xb hrow hb
          have hlo : lo ≤ n := by rw [← hr.len]; exact hlo
          generalize hk : Nat.min m (n - lo) = k
          have hkm : k ≤ m := by rw [← hk]; exact Nat.min_le_left _ _
          have hkn : k ≤ n - lo := by rw [← hk]; exact Nat.min_le_right _ _
          have hcells := hfirst k hkm
          have hcs : ((List.range (k * es'.length)).map fun q => val' (q / es'.length) (q % es'.length)).length = k * sz := by simp [hes, hszj]
          have hrun : ∀ w', (∀ a, base = some a → (storeCells a ((List.range (k * es'.length)).map fun q => val' (q / es'.length) (q % es'.length)) 0).run P w = .ok () w') → (base = none → w' = w) →
              (Builtin.copy_ (t :: ts).toArray ty #[.slice base (xb.n - lo) cap, .slice sb m sc]).run P w = .ok (goInt k) w' := by
            intro w' h1 h2
            have hes' : j.size = es'.length := hes.symm
            have hsz : (sizeOf T).run P w = .ok es'.length w := by simp [sizeOf, typeInfo, hj, hes']
            cases base with
            | none => rw [h2 rfl]; simp [Builtin.copy_, run_underlying ht, Builtin.lenOf, hsz, hr.len, hk, hcells]
            | some a =>
              have := h1 a rfl
              simp [Builtin.copy_, run_underlying ht, Builtin.lenOf, hsz, hr.len, hk, hcells, this]
          by_cases hk0 : k = 0
          · subst hk0
            refine ⟨w, goInt 0, Ext.refl, ?_, CV.Rel.int _ _, hrun w (fun a _ => by simp [storeCells]) fun _ => rfl⟩
            have he : ∀ i f s, i < n → nth es' f = some s → cellOf s ((ρ.at i).at f) = cellOf s (((splice lo 0 ρ σ).at i).at f) := fun i f s _ _ => by rw [splice_lt (by omega)]
            have m2 := (hm.kill b).put hb (T := T) (cs := [.row false es' n (splice lo 0 ρ σ)]) killed_no (fun hl => hm.loc b xb T _ hb hrow hl) (fun hl k' y T' cs' hk' hc' hv => ?_) (fun h => by simp [isRowL] at h) (fun fz' es'' n' ρ' h => ?_)
            · rwa [setN_setN] at m2
            · rcases nth_setN hc' with ⟨_, h⟩ | ⟨hne, h⟩
              · cases h
              · exact fun e => hne (hm.inj k' b y xb T' cs' T _ hk' hb h hrow hv hl e)
            · simp only [List.cons.injEq, CV.row.injEq, and_true] at h
              obtain ⟨rfl, rfl, rfl, rfl⟩ := h
              refine ⟨hr.len, hr.le, hr.mx, fun h0 => ?_, hr.frz⟩
              obtain ⟨arr, a1, a2, val, a3, a4⟩ := hr.blk h0
              exact ⟨arr, a1, a2, val, a3, fun i f s hi hs => he i f s hi hs ▸ a4 i f s hi hs⟩
          · have hn0 : 0 < n := by omega
            have hb0 := hbase (hr.room hn0)
            subst hb0
            obtain ⟨arr, harr, hs, val, h3, h4⟩ := hr.block hn0
            have hlive : liveL xb [CV.row false es' n ρ] := ⟨rfl, hr.room hn0⟩
            have hcap := (hr.cap hn0).1
            have hlen : es'.length = sz := by rw [hes, hszj]
            generalize hcl : ((List.range (k * es'.length)).map fun q => val' (q / es'.length) (q % es'.length)) = cs at *
            have hcnth : ∀ i f, i < k → f < sz → cs[i * sz + f]? = some (val' i f) := by
              intro i f hi hf
              have hlt : i * sz + f < k * sz := by
                have : (i + 1) * sz ≤ k * sz := Nat.mul_le_mul_right _ hi
                rw [Nat.add_mul, Nat.one_mul] at this
                omega
              rw [← hcl, List.getElem?_map, hlen, List.getElem?_range hlt]
              simp only [Option.map_some]
              rw [Nat.mul_comm, Nat.mul_add_div hpos, Nat.div_eq_of_lt hf, Nat.mul_add_mod, Nat.mod_eq_of_lt hf, Nat.add_zero]
            have hone : ∀ z ∈ cs, z.oneCell' = true := by
              intro z hz
              rw [← hcl, List.mem_map] at hz
              obtain ⟨q, hq, rfl⟩ := hz
              rw [List.mem_range, hlen] at hq
              rw [hlen]
              have hdiv : q / sz < k := Nat.div_lt_of_lt_mul (by rw [Nat.mul_comm]; exact hq)
              have hmod : q % sz < es'.length := by rw [hlen]; exact Nat.mod_lt _ hpos
              obtain ⟨s, hs⟩ : ∃ s, nth es' (q % sz) = some s := ⟨es'[q % sz], by rw [nth_eq]; exact List.getElem?_eq_getElem hmod⟩
              exact (hrel' (q / sz) (q % sz) s (by omega) hs).one
            have hcapm : n * sz ≤ xb.cap * sz := Nat.mul_le_mul_right _ hcap
            have hlok : lo * sz + k * sz ≤ n * sz := by
              rw [← Nat.add_mul]; exact Nat.mul_le_mul_right _ (by omega)
            have hal : arr.toList.length = arr.size := by simp
            have hfitA : lo * sz + 0 + cs.length ≤ arr.size := by rw [hs, hcs, hlen]; omega
            have hst := run_storeCells_at (P := P) xb.p (lo * sz) T cs 0 arr w harr hfitA hone
            simp only [Nat.add_zero] at hst
            obtain ⟨e2, m2⟩ := hm.rewrite hb hrow hlive (arr.toList.take (lo * sz) ++ cs ++ arr.toList.drop (lo * sz + cs.length)).toArray
            have hF := hm.loc b xb T _ hb hrow hlive
            have hinj := hm.rewrite_inj hb hrow hlive
            refine ⟨_, goInt k, e2, ?_, CV.Rel.int _ _, hrun _ (fun a h => by cases h; exact hst) fun h => by cases h⟩
            have := m2.put hb (T := T) (cs := [.row false es' n (splice lo k ρ σ)]) killed_no (fun _ => ⟨hF.1, by simpa [World.setRow] using hF.2⟩) (fun _ => hinj) (fun h => by simp [isRowL] at h) (fun fz' es'' n' ρ' h => ?_)
            · rwa [setN_setN] at this
            · simp only [List.cons.injEq, CV.row.injEq, and_true] at h
              obtain ⟨rfl, rfl, rfl, rfl⟩ := h
              refine ⟨hr.len, hr.le, hr.mx, fun _ => ⟨_, setRow_heap w xb.p _ _ _ _ harr, ?_, fun i f => if i < lo ∨ lo + k ≤ i then val i f else val' (i - lo) f, fun i f hi hf => ?_, fun i f s hi hf => ?_⟩, fun _ h => by cases h⟩
              · simp only [List.size_toArray, List.length_append, List.length_take, List.length_drop]
                omega
              · dsimp only
                have h6 := h3 i f hi hf
                rw [hlen] at h6 hf ⊢
                rw [List.getElem?_toArray]
                have htk : (arr.toList.take (lo * sz)).length = lo * sz := by simp only [List.length_take]; rw [hal, hs, hlen]; omega
                by_cases hil : i < lo
                · rw [if_pos (.inl hil)]
                  have hlt : i * sz + f < lo * sz := by
                    have : (i + 1) * sz ≤ lo * sz := Nat.mul_le_mul_right _ hil
                    rw [Nat.add_mul, Nat.one_mul] at this
                    omega
                  rw [List.append_assoc, List.getElem?_append_left (by rw [htk]; exact hlt), List.getElem?_take, if_pos hlt]
                  simpa using h6
                · have hge : lo * sz ≤ i * sz := Nat.mul_le_mul_right _ (by omega)
                  by_cases hik : lo + k ≤ i
                  · rw [if_pos (.inr hik)]
                    have hge2 : (lo + k) * sz ≤ i * sz := Nat.mul_le_mul_right _ hik
                    rw [Nat.add_mul] at hge2
                    rw [List.append_assoc, List.getElem?_append_right (by omega), htk, List.getElem?_append_right (by rw [hcs]; omega), hcs, List.getElem?_drop]
                    rw [show lo * sz + k * sz + (i * sz + f - lo * sz - k * sz) = i * sz + f by omega]
                    simpa using h6
                  · rw [if_neg (by omega)]
                    have hlt : (i - lo) * sz + f < k * sz := by
                      have : (i - lo + 1) * sz ≤ k * sz := Nat.mul_le_mul_right _ (by omega)
                      rw [Nat.add_mul, Nat.one_mul] at this
                      omega
                    rw [List.append_assoc, List.getElem?_append_right (by omega), List.getElem?_append_left (by rw [htk, hcs]; rw [Nat.sub_mul] at hlt; omega), htk]
                    have e5 : i * sz + f - lo * sz = (i - lo) * sz + f := by
                      rw [Nat.sub_mul]; omega
                    rw [e5, hcnth (i - lo) f (by omega) hf]
              · dsimp only
                by_cases hil : i < lo ∨ lo + k ≤ i
                · rw [if_pos hil, splice_lt hil]
                  exact (h4 i f s hi hf).grow e2.grow0
                · rw [if_neg hil, splice_in (by omega) (by omega)]
                  exact (hrel' (i - lo) f s (by omega) hf).grow e2.grow0
        · simp [Tree.sel] at h
      · simp [Tree.sel] at h
    · simp [Tree.sel] at h
  · simp [Tree.sel] at h
theorem lit_ok {F w bs mem} (hm : MemRel P F w bs mem) {t : TypeId} {n : Nat} {parts : List (Nat × A1)} {pv : Array (Nat × Value)} {r : AV} (h : evLit P t n parts = some r)
    (hp : All2 (fun x y => x.1 = y.1 ∧ A1.Rel F w bs x.2 y.2) parts pv.toList) :
    ∃ F' w' v, Ext bs.length F w bs F' w' bs ∧ MemRel P F' w' bs mem ∧ r.Rel F' w' bs v ∧ (Instr.buildSlice t n pv).run P w = .ok v w' := by
  unfold evLit at h
  split at h
  · rename_i e hu
    split at h
    · rename_i j es z hj hes hz
      split at h
      · rename_i hcond
        simp only [Bool.and_eq_true, beq_iff_eq, Nat.ble_eq, Nat.blt_eq] at hcond
        obtain ⟨⟨⟨h1, h2⟩, h3⟩, h4⟩ := hcond
        split at h
        · rename_i cs hfill
          split at h
          · rename_i hfit
            simp only [Bool.and_eq_true, List.all_eq_true] at hfit
            obtain ⟨hcl, hfit⟩ := hfit
            simp only [Option.some.injEq] at h
            subst h
            unfold zeroCellsOf at hz
            simp only [hj] at hz
            split at hz
            · rename_i zv hzv
              have hzc : All2 (CV.Rel F w bs) z zv.cells.toList := liftCells_ok hz
              have hzs : zv.cells.size = j.size := by have := hzc.length; simp at this; omega
              let base : List Value := (List.range (n * j.size)).map fun i => zv.cells[i % zv.cells.size]!
              have hbase : All2 (CV.Rel F w bs) (repC z n) base := by
                refine All2.of_nth (by simp [base, repC_length, h3]) fun i x v hx hv => ?_
                have hi := nth_lt hv
                simp only [base, List.length_map, List.length_range] at hi
                rw [repC_nth z n i (by rw [h3]; exact hi)] at hx
                rw [nth_eq] at hv
                simp only [base, List.getElem?_map, List.getElem?_range hi, Option.map_some, Option.some.injEq] at hv
                subst hv
                obtain ⟨u, hu, hr⟩ := hzc.nth hx
                rw [hzs, ← h3]
                simp only [Array.getElem?_toList] at hu
                rw [getElem!_def, hu]
                exact hr
              obtain ⟨rv, hrv, hf⟩ := fill_ok (places' := fun i => some (i * j.size, j.size)) (fun i p h => h) hfill hbase hp
              obtain ⟨hl, hnth⟩ := fitsFlat_nth hfit
              have hlen : rv.length = n * j.size := by rw [← hrv.length, hl, h1]
              have harr : ((Array.range (n * j.size)).map (zv.cells[· % zv.cells.size]!)) = base.toArray := by
                apply Array.ext'
                simp [base, Array.toList_map]
              let F' : Nat → Prop := fun p => F p ∧ p < w.heap.size
              have ext : ∀ o : Obj, Ext bs.length F w bs F' (w.alloc o) bs := fun o => ⟨by simp, fun _ _ h => h.1, fun p h hp _ => ⟨h, hp⟩, fun p hp _ => Below.heap_alloc _ _ _ hp, rfl, rfl, rfl, fun _ _ _ h => h, fun x h => .inl ⟨x, h, rfl⟩⟩
              have mm : ∀ o : Obj, MemRel P F' (w.alloc o) bs mem := fun o => hm.move (ext o) fun k x T cs hk hc hv => ⟨hm.loc k x T cs hk hc hv, Below.heap_alloc _ _ _ (hm.loc k x T cs hk hc hv).2⟩
              by_cases hn : n = 0
              · subst hn
                have hrv0 : rv = [] := List.eq_nil_of_length_eq_zero (by simpa using hlen)
                subst hrv0
                refine ⟨F', w.alloc (.cells #[] e), .slice (some ⟨w.heap.size, 0, none⟩) 0 0, ext _, mm _, CV.Rel.sl (fun _ _ => undef) (Nat.le_refl _) (fun h => by omega) (fun i f h => by omega) (fun i f s h => by omega), ?_⟩
                have hpv : pv = #[] := by
                  have := evFill_nil (cs := cs) (sz := j.size) h2 hfill
                  subst this
                  cases hp' : pv.toList with
                  | nil => rw [← Array.toArray_toList (xs := pv), hp']
                  | cons _ _ => rw [hp'] at hp; cases hp
                subst hpv
                have hr0 : Array.range 0 = #[] := Array.eq_empty_of_size_eq_zero (by simp)
                simp [Instr.buildSlice, run_underlying hu, sizeOf, typeInfo, hj, Instr.fill, newRow, hr0]
              · have hpos : n * j.size ≠ 0 := by
                  intro e
                  rcases Nat.mul_eq_zero.1 e with e | e <;> omega
                have hnew : (w.alloc (.cells rv.toArray e)).heap[w.heap.size]? = some (.cells rv.toArray e (0, 0)) := World.alloc_heap_new w _
                refine ⟨F', w.alloc (.cells rv.toArray e), .slice (some ⟨w.heap.size, 0, none⟩) n n, ext _, mm _, CV.Rel.sl (fun i f => rv.toArray[i * es.length + f]?.getD undef) (Nat.le_refl _) (fun _ => ⟨rfl, by simp, fun h => Nat.lt_irrefl _ h.2⟩) (fun i f hi hf => ?_) (fun i f s hi hs => ?_), ?_⟩
                · have hlt : i * es.length + f < rv.length := by
                    rw [hlen, ← h1]
                    have : (i + 1) * es.length ≤ n * es.length := Nat.mul_le_mul_right _ hi
                    rw [Nat.add_mul, Nat.one_mul] at this
                    omega
                  show (w.alloc (.cells rv.toArray e)).cell? ⟨w.heap.size, 0 + (i * es.length + f), none⟩ = _
                  unfold World.cell?
                  simp only [hnew, Nat.zero_add, Option.isSome_none, Bool.false_eq_true, if_false]
                  simp [hlt]
                · obtain ⟨c, hc, hfitc⟩ := hnth i f s hi hs
                  obtain ⟨u, hu, hrel⟩ := hrv.nth hc
                  have hrel := (hrel.grow (ext (.cells rv.toArray e)).grow)
                  have := fits_rel hrel hfitc
                  have e1 : ((Val.ofFlat j.size cs).at i).at f = Val.ofC c := by
                    show (match nth cs (i * j.size + f) with | some x => Val.ofC x | none => Val.zero) = _
                    rw [← h1, hc]
                  rw [e1]
                  simpa [hu] using this
                · exact run_buildSlice w t e n pv rv.toArray j zv hu hj hzv (by omega) hpos (by rw [harr]; exact hf)
            · simp at hz
          · simp at h
        · simp at h
      · simp at h
    · simp at h
  · simp at h
end
end Go.Sx
namespace Go.Sx
open Go Go.RowKit
variable {D : List Deferred}
section
variable {P : Program}
def PcOk (P : Program) (pc : List (Nat × (List A1 → Tree AV))) : Prop :=
  ∀ f G, lookPc pc f = some G → ∀ args r, (G args).sel = some r → args.all closedA = true → ∀ F w vs, All2 (A1.Rel F w []) args vs →
    ∃ v, AV.Rel F w [] r v ∧ ∀ w1, Below w.heap.size w w1 → Calls P f vs.toArray w1 (fun e w2 => e = .returned v ∧ Below w1.heap.size w1 w2)
def HcOk (P : Program) (hc : List (Nat × (List A1 → Tree AV))) : Prop :=
  ∀ f G, lookPc hc f = some G → ∀ args r, (G args).sel = some r → args.all closedA = true → ∀ F w vs, All2 (A1.Rel F w []) args vs →
    Calls P f vs.toArray w (fun e w2 => ∃ v, e = .returned v ∧ Below w.heap.size w w2 ∧ AV.Rel (fun p => F p ∧ p < w.heap.size) w2 [] r v)
def McOk (P : Program) (mc : List (Nat × (List A1 → Mem → Tree (AV × Mem)))) : Prop :=
  ∀ f G, lookMc mc f = some G → ∀ args mem r mem', (G args mem).sel = some (r, mem') → ∀ F w bs vs, MemRel P F w bs mem → All2 (A1.Rel F w bs) args vs →
    Calls P f vs.toArray w (fun e w' => ∃ v F' bs', e = .returned v ∧ Ext bs.length F w bs F' w' bs' ∧ MemRel P F' w' bs' mem' ∧ AV.Rel F' w' bs' r v)
structure SumOk (P : Program) (H : Hd) : Prop where
  pc : PcOk P H.pc
  hc : HcOk P H.hc
  mc : McOk P H.mc
def argTmps (R : Loop) (args : Array Value) : Array Value := (R.params.zip args).foldl (fun tmps (t, a) => tmps.setIfInBounds t a) R.tmps
structure CallOk (P : Program) (call : CallH) : Prop where
  fn : ∀ f args mem r mem', f < 1000000000 → (call f args mem).sel = some (r, mem') → ∀ F w bs vs, MemRel P F w bs mem → All2 (A1.Rel F w bs) args vs →
    Calls P f vs.toArray w (fun e w' => ∃ v F' bs', e = .returned v ∧ Ext bs.length F w bs F' w' bs' ∧ MemRel P F' w' bs' mem' ∧ AV.Rel F' w' bs' r v)
  yl : ∀ b args mem r mem', (call (1000000000 + b) args mem).sel = some (r, mem') → ∀ F w bs vs x, MemRel P F w bs mem → All2 (A1.Rel F w bs) args vs → nth bs b = some x →
    ∃ R : Loop, w.heap[x.p]? = some (.loop R) ∧ vs.length = R.params.size ∧ ∀ n, RoundIn Fence.wide n P x.p R.fn (argTmps R vs.toArray) R.assign R.body w
      (fun e w' => ∃ v F' bs', e = .returned v ∧ Ext bs.length F w bs F' w' bs' ∧ MemRel P F' w' bs' mem' ∧ AV.Rel F' w' bs' r v)
theorem callable_lt {f : Nat} (h : callable P f = true) : f < 1000000000 := by
  unfold callable at h
  split at h
  · simp only [Bool.and_eq_true] at h
    simpa using h.2
  · simp at h
theorem evTarget_ok {F : Nat → Prop} {w : World} {bs : List BI} {ρ : Operand → Option AV} {a : Act} (hρ : ∀ x av, ρ x = some av → av.Rel F w bs (a.eval x)) {o : Oper} {c : Call} (ho : o.op = .call c) {f : Nat} {args : List A1}
    (h : evTarget ρ c = some (f, args)) (hc : callable P f = true) : ∃ vs : List Value, All2 (A1.Rel F w bs) args vs ∧ ∀ w', (execOp a.eval o).run P w' = .ok (.enter f vs.toArray) w' := by
  unfold evTarget at h
  split at h
  · rename_i x hcal
    split at h
    · rename_i g first cap l hx hl
      simp at h
      obtain ⟨rfl, rfl⟩ := h
      have hxr := hρ _ _ hx
      have hargs := evArgs_ok hρ hl
      generalize he : a.eval x = z at hxr
      cases hxr with
      | fn l1 l2 r1 r2 =>
        rename_i vf vc
        have h1 : All2 (A1.Rel F w bs) (first.map .c) vf := by
          refine All2.of_nth (by simpa using l1) fun i u v hu hv => ?_
          rw [nth_eq, List.getElem?_map] at hu
          simp only [Option.map_eq_some_iff] at hu
          obtain ⟨y, hy, rfl⟩ := hu
          exact r1 i y v (by rw [nth_eq]; exact hy) hv
        have h2 : All2 (A1.Rel F w bs) (cap.map .c) vc := by
          refine All2.of_nth (by simpa using l2) fun i u v hu hv => ?_
          rw [nth_eq, List.getElem?_map] at hu
          simp only [Option.map_eq_some_iff] at hu
          obtain ⟨y, hy, rfl⟩ := hu
          exact r2 i y v (by rw [nth_eq]; exact hy) hv
        refine ⟨vf ++ (c.args.toList.map a.eval ++ vc), h1.append (hargs.append h2), fun w' => ?_⟩
        unfold callable at hc
        split at hc
        · rename_i fn hfn
          simp only [Bool.and_eq_true, bne_iff_ne, ne_eq] at hc
          obtain ⟨⟨hn, hb⟩, _⟩ := hc
          rw [nth_eq] at hfn
          simp only [Array.getElem?_toList] at hfn
          have hb' : fn.body.isNone = false := by cases hh : fn.body <;> simp [hh] at hb ⊢
          have hn' : (fn.name == "runtime.NumGoroutine") = false := by simpa using hn
          unfold execOp
          rw [ho]
          simp only [resolve, hcal, he, Deferred.ofValue, Sem.run_bind, Sem.run_pure, Result.andThen_ok, invoke, callFunc, run_program, hfn, hn', Bool.false_eq_true, if_false, hb']
          congr 2
          rw [map_toArray]
          apply Array.ext'
          simp
        · simp at hc
    · simp at h
  · simp at h
theorem quiet_ok {H : Hd} (hpc : SumOk P H) {call : CallH} {mem : Mem} {F : Nat → Prop} {w : World} {bs : List BI} (hm : MemRel P F w bs mem) {ρ : List (Nat × Bool) → Operand → Option AV} {a : Act}
    (hρ : ∀ K x av, KH a K → ρ K x = some av → av.Rel F w bs (a.eval x)) {o : Oper} {r : AV} {mem' : Mem} {ρ' : Operand → Option AV} (hρ' : ρ' = ρ [])
    (hq : quietOp H ρ' o.op = true) (h : (evOp P H call mem ρ o.op).sel = some (r, mem')) :
    mem' = mem ∧ ∃ v, r.Rel F w bs v ∧ ∀ w', Below w.heap.size w w' → o.quietAt P a (Below w.heap.size w) w' v := by
  subst hρ'
  have h0 : ∀ x av, ρ [] x = some av → av.Rel F w bs (a.eval x) := fun x av => hρ [] x av KH_nil
  have pure_case : ((evPure P (conc H) ρ o.op).bind fun v => Tree.leaf (v, mem)).sel = some (r, mem') → mem' = mem ∧ ∃ v, r.Rel F w bs v ∧ ∀ w', Below w.heap.size w w' → o.quietAt P a (Below w.heap.size w) w' v := by
    intro h
    obtain ⟨av, hav, hb⟩ := sel_bind h
    simp only [Tree.sel, Option.some.injEq, Prod.mk.injEq] at hb
    obtain ⟨rfl, rfl⟩ := hb
    obtain ⟨v, hv, hrun⟩ := evPure_ok hρ hav
    refine ⟨rfl, v, hv, fun w' hw' => ?_⟩
    unfold Oper.quietAt
    rw [hrun w' hw']
    exact ⟨rfl, rfl⟩
  unfold evOp at h
  split at h
  · rename_i e ho; rw [ho] at hq; simp [quietOp] at hq
  · rename_i e x ho; rw [ho] at hq; simp [quietOp] at hq
  · rename_i t x ho
    split at h
    · rename_i b sz i off hu
      rw [ho] at hq; simp [quietOp, hu] at hq
    · rename_i u hu
      split at h
      · rename_i v hv
        simp only [Tree.sel, Option.some.injEq, Prod.mk.injEq] at h
        obtain ⟨rfl, rfl⟩ := h
        obtain ⟨b, p, off, z, rfl, he, hz, hrun⟩ := evLoad_ok hv hm (h0 _ _ hu)
        refine ⟨rfl, z, hz, fun w' hw' => ?_⟩
        unfold Oper.quietAt execOp
        simp only [ho, Sem.run_bind, Instr.loadAt, he, Instr.sureAddr, Sem.run_pure, Result.andThen_ok, hrun w' hw']
        exact ⟨rfl, rfl⟩
      · simp [Tree.sel] at h
    · simp [Tree.sel] at h
  · rename_i t x y ho; rw [ho] at hq; simp [quietOp] at hq
  · rename_i t n parts ho; rw [ho] at hq; simp [quietOp] at hq
  · rename_i t x y ho; rw [ho] at hq; simp [quietOp] at hq
  · rename_i t x lo hi mx ho; rw [ho] at hq; simp [quietOp] at hq
  · rename_i t x i ho
    split at h
    · rename_i b sz k i' hx hi
      rw [ho] at hq; simp [quietOp, hx] at hq
    · rw [← ho] at h
      exact pure_case h
  · rename_i c ho
    split at h
    · rename_i x hcal
      rw [ho] at hq
      simp only [quietOp, hcal] at hq
      split at h
      · rename_i f args ht
        simp only [ht, Bool.and_eq_true] at hq
        obtain ⟨hq, hclosed⟩ := hq
        split at h
        · rename_i hcl
          split at h
          · rename_i G hG
            have hv : args.map (view1 mem) = args := (List.map_congr_left fun x hx => view1_closed (List.all_eq_true.1 hclosed x hx)).trans (List.map_id _)
            simp only [hv, hclosed, if_true, Bool.true_or] at h
            replace h := sel_bind h
            obtain ⟨rr, hr, h⟩ := h
            simp only [Tree.sel, Option.some.injEq, Prod.mk.injEq] at h
            obtain ⟨rfl, rfl⟩ := h
            obtain ⟨vs, hvs, hrun⟩ := evTarget_ok h0 ho ht hcl
            have hvs' : All2 (A1.Rel F w []) args vs := by
              clear hrun ht hr hv
              induction hvs with
              | nil => exact .nil
              | cons ha _ ih =>
                simp only [List.all_cons, Bool.and_eq_true] at hclosed
                exact .cons (ha.closed hclosed.1) (ih hclosed.2)
            obtain ⟨v, hv, hcalls⟩ := hpc.pc f G hG args rr hr hclosed F w vs hvs'
            refine ⟨rfl, v, ?_, fun w' hw' => ?_⟩
            · exact AV.Rel.grow (bs := []) (bs' := bs) (F := F) (F' := F) (w := w) (w' := w) ⟨Nat.le_refl _, fun _ _ h => h, fun _ _ _ => rfl, fun k p h => by simp [nth] at h⟩ hv
            · unfold Oper.quietAt
              rw [hrun]
              exact ⟨rfl, (hcalls w' hw').mono fun e w2 ⟨he, hb⟩ => ⟨he, hw'.trans (hb.mono hw'.size)⟩⟩
          · rename_i hG
            simp [hG] at hq
        · simp [Tree.sel] at h
      · simp [Tree.sel] at h
    · rename_i hcal
      rw [ho] at hq; simp [quietOp, hcal] at hq
    · rename_i hcal
      rw [ho] at hq; simp [quietOp, hcal] at hq
    · rename_i hcal
      rw [ho] at hq; simp [quietOp, hcal] at hq
    · rename_i hcal
      split at h
      · rename_i hargs _
        rw [ho] at hq; simp [quietOp, hcal, hargs] at hq
      · rw [← ho] at h
        exact pure_case h
    · rw [← ho] at h
      exact pure_case h
  · exact pure_case h
theorem wp_value {o : Oper} {a : Act} {w w' : World} {v : Value} {K : Act → World → Prop} {Q : Exit → Act → World → Prop} (hrun : (execOp a.eval o).run P w = .ok (.value v) w') (h : K (a.put o.dst v) w') : o.wp P a w K Q := by
  unfold Oper.wp
  rw [hrun]
  exact h
theorem wp_skip' {o : Oper} {a : Act} {w w' : World} {K : Act → World → Prop} {Q : Exit → Act → World → Prop} (hrun : (execOp a.eval o).run P w = .ok .skip w') (h : K (a.put o.dst undef) w') : o.wp P a w K Q := by
  unfold Oper.wp
  rw [hrun]
  exact h
theorem All2.noRow {F w bs} {cs : List CV} {vs : List Value} (h : All2 (CV.Rel F w bs) cs vs) : isRowL cs = false := by
  cases h with
  | nil => rfl
  | cons h1 h2 => cases h2 with
    | nil => cases h1 <;> rfl
    | cons _ _ =>
      unfold isRowL
      split
      · simp_all
      · rename_i he
        simp only [List.cons.injEq] at he
        obtain ⟨rfl, _⟩ := he
        cases h1
      · rfl
theorem boundOf_ok {F w bs} {ρ : Operand → Option AV} {a : Act} (h0 : ∀ x av, ρ x = some av → av.Rel F w bs (a.eval x)) {x : Option Operand} {i : Option Int} (h : boundOf ρ x = some i) : IntOpt i (x.map a.eval) := by
  unfold boundOf at h
  split at h
  · simp at h; subst h; exact .no
  · rename_i x
    split at h
    · rename_i k n hx
      simp at h; subst h
      have := h0 _ _ hx
      rw [Option.map_some]
      generalize a.eval x = z at this ⊢
      cases this
      exact .yes k n
    · simp at h
theorem evOp_at {H : Hd} (hpc : SumOk P H) {call : CallH} (hcall : CallOk P call) {F : Nat → Prop} {w : World} {bs : List BI} {a : Act} {mem : Mem} (hm : MemRel P F w bs mem) {ρ : List (Nat × Bool) → Operand → Option AV}
    (hρ : ∀ K x av, KH a K → ρ K x = some av → av.Rel F w bs (a.eval x)) {o : Oper} {r : AV} {mem' : Mem}
    (h : (evOp P H call mem ρ o.op).sel = some (r, mem')) {K : Act → World → Prop} {Q : Exit → Act → World → Prop}
    (hK : ∀ F' w' bs' v, Ext bs.length F w bs F' w' bs' → MemRel P F' w' bs' mem' → r.Rel F' w' bs' v → K (a.put o.dst v) w') : o.wp P a w K Q := by
  have h0 : ∀ x av, ρ [] x = some av → av.Rel F w bs (a.eval x) := fun x av => hρ [] x av KH_nil
  by_cases hq : quietOp H (ρ []) o.op = true
  · obtain ⟨rfl, v, hv, hat⟩ := quiet_ok hpc hm hρ rfl hq h
    refine Oper.wp_of_quiet (C := Below w.heap.size w) (K := fun a' => a' = a.put o.dst v) (Below.refl _ _) (fun a' w' hw' he => ?_) ⟨v, hat, rfl⟩
    subst he
    have hext : Ext bs.length F w bs F w' bs := Ext.of_below hw'
    exact hK F w' bs v hext (hm.below hw') (AV.Rel.grow hext.grow hv)
  · unfold evOp at h
    split at h
    · rename_i e ho
      split at h
      · rename_i z hz
        simp only [Tree.sel, Option.some.injEq, Prod.mk.injEq] at h
        obtain ⟨rfl, rfl⟩ := h
        obtain ⟨v, hzv, hr⟩ := zeroCellsOf_ok (F := F) (w := w) (bs := bs) hz
        obtain ⟨F', bs', hext, hm', hn⟩ := alloc_ok hm e hr hr.noRow
        refine wp_value (w' := w.alloc (.cells v.cells e)) (v := .pointer (some ⟨w.heap.size, 0, none⟩)) ?_ ?_
        · unfold execOp
          simp [ho, Instr.alloc, hzv, newVar, newRow]
        · have e2 : (.cells v.cells.toList.toArray e : Obj) = .cells v.cells e := by rw [Array.toArray_toList]
          rw [e2] at hext hm'
          exact hK F' _ bs' _ hext hm' (CV.Rel.ptr hn)
      · simp [Tree.sel] at h
    · rename_i e x ho
      split at h
      · rename_i b hb
        split at h
        · simp [Tree.sel] at h
        · simp only [Tree.sel, Option.some.injEq, Prod.mk.injEq] at h
          obtain ⟨rfl, rfl⟩ := h
          have hbr := h0 _ _ hb
          have hbc := A1.Rel.cells hbr
          obtain ⟨F', bs', hext, hm', hn⟩ := alloc_ok hm e hbc hbc.noRow
          refine wp_value (w' := w.alloc (.cells (a.eval x).cells e)) (v := .pointer (some ⟨w.heap.size, 0, none⟩)) ?_ ?_
          · unfold execOp
            simp [ho, Instr.box, newVar, newRow]
          · rw [Array.toArray_toList] at hext hm'
            exact hK F' _ bs' _ hext hm' (CV.Rel.ptr hn)
      · simp [Tree.sel] at h
    · rename_i t x ho
      split at h
      · rename_i b sz i off hu
        split at h
        · rename_i v hv
          simp only [Tree.sel, Option.some.injEq, Prod.mk.injEq] at h
          obtain ⟨rfl, rfl⟩ := h
          have hur := h0 _ _ hu
          obtain ⟨aa, p, oo, z, rfl, he, hz, hrun⟩ := loadRow_ok (P := P) hm hv hur
          refine wp_value (w' := w) (v := z) ?_ (hK F w bs z Ext.refl hm hz)
          unfold execOp
          simp only [ho, Sem.run_bind, Instr.loadAt, he, Instr.sureAddr, Sem.run_pure, Result.andThen_ok, hrun]
        · simp [Tree.sel] at h
      · rename_i u hnr hu
        exfalso
        apply hq
        rw [ho]
        simp only [quietOp]
        split
        · rename_i heq
          rw [hu] at heq
          simp at heq
          exact (hnr _ _ _ _ heq).elim
        · rfl
      · simp [Tree.sel] at h
    · rename_i t x y ho
      split at h
      · rename_i b sz i off v hx hy
        split at h
        · rename_i mm hst
          simp only [Tree.sel, Option.some.injEq, Prod.mk.injEq] at h
          obtain ⟨rfl, rfl⟩ := h
          obtain ⟨F', w', p, oo, j, hext, hm', he, hj, hsz, hrun⟩ := storeRow_ok (P := P) hm hst (h0 _ _ hx) (show v.Rel F w bs (a.eval y) from h0 _ _ hy)
          refine wp_skip' (w' := w') ?_ (hK F' _ bs _ hext hm' trivial)
          unfold execOp
          have hszn : ¬ (a.eval y).cells.size ≠ j.size := by omega
          simp only [ho, Instr.storeAt, he, Instr.sureAddr, Sem.run_bind, Sem.run_pure, Result.andThen_ok, storeVar, run_sizeOf' hj, Sem.run_ite, hszn, if_false, hrun]
        · simp [Tree.sel] at h
      · rename_i b off v hx hy
        split at h
        · rename_i T cs i hmem hi
          split at h
          · rename_i hcond
            simp only [Tree.sel, Option.some.injEq, Prod.mk.injEq] at h
            obtain ⟨rfl, rfl⟩ := h
            simp only [Bool.and_eq_true, beq_iff_eq, Nat.ble_eq, Bool.not_eq_true'] at hcond
            have hxr := h0 _ _ hx
            have hyr := A1.Rel.cells (show v.Rel F w bs (a.eval y) from h0 _ _ hy)
            generalize he : a.eval x = z at hxr
            cases hxr with
            | ptr hb =>
              rename_i p
              obtain ⟨us, hu, hr⟩ := hm.cont b T cs p hmem hcond.1.1.1 hb
              have hl := hyr.length
              have hl2 := hr.length
              have hput := putCells_at (o := off) hr hyr (by omega)
              obtain ⟨hext, hm'⟩ := setRow_ok hm hb hmem hcond.1.1.1 hput hput.noRow
              refine wp_skip' (w' := w.setRow p.p (us.take off ++ (a.eval y).cells.toList ++ us.drop (off + (a.eval y).cells.toList.length)).toArray) ?_ (hK F _ bs _ hext hm' trivial)
              have hone : ∀ u ∈ (a.eval y).cells.toList, u.oneCell' = true := by
                intro u hu'
                obtain ⟨k, hk⟩ := mem_nth hu'
                rw [nth_eq] at hk
                obtain ⟨c, _, hc⟩ := hyr.nth' hk
                exact hc.one
              have hst := run_storeCells_at (P := P) p.p off T (a.eval y).cells.toList 0 us.toArray w hu (by simp at hl ⊢; omega) hone
              simp only [Nat.add_zero] at hst
              have hsz : ¬ (a.eval y).cells.size ≠ i.size := by
                simp at hl
                omega
              unfold execOp
              simp only [ho, Instr.storeAt, he, Instr.sureAddr, Sem.run_bind, Sem.run_pure, Result.andThen_ok, storeVar, run_sizeOf' hi, Sem.run_ite, hsz, if_false, hst]
          · simp [Tree.sel] at h
        · simp [Tree.sel] at h
      · simp [Tree.sel] at h
    · rename_i t n parts ho
      split at h
      · rename_i l hl
        have hp := evParts_ok h0 hl
        split at h
        · split at h
          · rename_i q hq2
            simp only [Tree.sel, Option.some.injEq, Prod.mk.injEq] at h
            obtain ⟨rfl, rfl⟩ := h
            obtain ⟨F', w', v, hext, hm', hr, hrun⟩ := lit_ok (P := P) hm (pv := parts.map fun (i, x) => (i, a.eval x)) hq2 (by simpa [Array.toList_map] using hp)
            refine wp_value (w' := w') (v := v) ?_ (hK F' w' bs v hext hm' hr)
            unfold execOp
            simp only [ho, Sem.run_bind, hrun, Result.andThen_ok, Sem.run_pure]
          · simp [Tree.sel] at h
        split at h
        · rename_i q hq2
          simp only [Tree.sel, Option.some.injEq] at h
          subst h
          obtain ⟨F', w', bs', v, hext, hm', hr, hrun⟩ := buildSlice_ok (P := P) hm (pv := parts.map fun (i, x) => (i, a.eval x)) hq2 (by simpa [Array.toList_map] using hp)
          refine wp_value (w' := w') (v := v) ?_ (hK F' w' bs' v hext hm' hr)
          unfold execOp
          simp only [ho, Sem.run_bind, hrun, Result.andThen_ok, Sem.run_pure]
        · simp [Tree.sel] at h
      · simp [Tree.sel] at h
    · rename_i t x y ho
      split at h
      · rename_i l c hl hc
        obtain ⟨F', w', bs', v, hext, hm', hr, hrun⟩ := make_ok (P := P) hm h (h0 _ _ hl) (h0 _ _ hc)
        refine wp_value (w' := w') (v := v) ?_ (hK F' w' bs' v hext hm' hr)
        unfold execOp
        simp only [ho, Sem.run_bind, hrun, Result.andThen_ok, Sem.run_pure]
      · simp [Tree.sel] at h
    · rename_i t x lo hi mx ho
      split at h
      · rename_i b l hh m hx h1 h2 h3
        have fin : ∀ F' bs' z, Ext bs.length F w bs F' w bs' → MemRel P F' w bs' mem' → r.Rel F' w bs' z → (∃ e, P.underlying t = some (.slice e)) → (Instr.slice t (a.eval x) (lo.map a.eval) (hi.map a.eval) (mx.map a.eval)).run P w = .ok z w → o.wp P a w K Q := by
          intro F' bs' z hext hm' hr ⟨e, ht⟩ hrun
          refine wp_value (w' := w) (v := z) ?_ (hK F' w bs' z hext hm' hr)
          have hat : (Instr.sliceAt t (a.eval x) (lo.map a.eval) (hi.map a.eval) (mx.map a.eval)).run P w = .ok z w := by
            rw [← hrun]
            simp [Instr.sliceAt, run_underlying ht]
          unfold execOp
          simp only [ho, Sem.run_bind, hat, Result.andThen_ok, Sem.run_pure]
        split at h
        · rename_i T hT
          split at hT
          · obtain ⟨rfl, ⟨z, hz, hrun⟩, hte⟩ := tail_ok (P := P) hm (boundOf_ok h0 h1) (boundOf_ok h0 h2) (boundOf_ok h0 h3) hT h (h0 _ _ hx)
            exact fin F bs z Ext.refl hm hz hte hrun
          · cases hT
        · split at h
          · rename_i T hT
            split at hT
            · obtain ⟨rfl, ⟨z, hz, hrun⟩, hte⟩ := head_ok (P := P) hm (boundOf_ok h0 h1) (boundOf_ok h0 h2) (boundOf_ok h0 h3) hT h (h0 _ _ hx)
              exact fin F bs z Ext.refl hm hz hte hrun
            · cases hT
          · split at h
            · simp [Tree.sel] at h
            · obtain ⟨F', bs', z, hext, hm', hr, hrun⟩ := slice_ok (P := P) hm (boundOf_ok h0 h1) (boundOf_ok h0 h2) (boundOf_ok h0 h3) h (h0 _ _ hx)
              exact fin F' bs' z hext hm' hr (slice_type h) hrun
      · simp [Tree.sel] at h
    · rename_i t x i ho
      split at h
      · rename_i b sz kk k hx hi
        split at h
        · rename_i e T fz es n ρ0 hu hrow
          split at h
          · rename_i j hj
            split at h
            · rename_i hcond
              simp only [Bool.and_eq_true, beq_iff_eq] at hcond
              simp only [Tree.sel] at h
              cases hr : inRange k n <;> simp [hr] at h
              obtain ⟨rfl, rfl⟩ := h
              obtain ⟨hr1, hr2⟩ := inRange_iff.1 hr
              have hxr := h0 _ _ hx
              have hir := h0 _ _ hi
              generalize he : a.eval x = z at hxr
              generalize he2 : a.eval i = z' at hir
              cases hir
              cases hxr with
              | os hb hbase =>
                rename_i y base
                have hro := hm.row b T fz es n ρ0 y (rowAt_some hrow) hb
                have hyn := hro.len
                have hbs := hbase (hro.room (by omega))
                subst hbs
                refine wp_value (w' := w) (v := .pointer (some ⟨y.p, 0 + k.toNat * j.size, none⟩)) ?_ (hK F w bs _ Ext.refl hm ?_)
                · unfold execOp
                  have := run_indexAt_slice (P := P) (t := t) hu hj (p := y.p) (o := 0) (n := y.n) (cap := y.cap) (k := kk) hr1 (by rw [hyn]; exact hr2) w
                  simp only [ho, he, he2, Sem.run_bind, this, Result.andThen_ok, Sem.run_pure]
                · have e5 : 0 + k.toNat * j.size = k.toNat * sz + 0 := by rw [hcond.1]; omega
                  rw [e5]
                  exact CV.Rel.rowp hb (by omega)
            · simp [Tree.sel] at h
          · simp [Tree.sel] at h
        · simp [Tree.sel] at h
      · rename_i hnos
        exfalso
        apply hq
        rw [ho]
        simp only [quietOp]
        split
        · rename_i b sz hx
          obtain ⟨v, hv, _⟩ := sel_bind h
          simp only [evPure, arrAt, ite_self, evPure0, hx] at hv
          split at hv <;> simp_all [Tree.sel]
        · rfl
    · rename_i c ho
      split at h
      · rename_i x hcal
        split at h
        · rename_i f args ht
          split at h
          · rename_i hcl
            obtain ⟨vs, hvs, hrun⟩ := evTarget_ok h0 ho ht hcl
            split at h
            · rename_i G hG
              simp only at h
              split at h
              · rename_i hclosed
                · replace h := sel_bind h
                  obtain ⟨rr, hr, h⟩ := h
                  split at h
                  · rename_i hfl0
                    simp only [Tree.sel, Option.some.injEq, Prod.mk.injEq] at h
                    obtain ⟨rfl, rfl⟩ := h
                    have hnc : ¬ args.all closedA = true := fun hc => hq (by rw [ho]; simp [quietOp, hcal, ht, hG, hc])
                    have hfl : flatA rr = true := by
                      rw [Bool.or_eq_true] at hfl0
                      exact hfl0.resolve_left hnc
                    have hvs' : All2 (A1.Rel (outF F bs) w []) (args.map (view1 mem)) vs := by
                      clear hrun ht hr hnc hfl hfl0
                      induction hvs with
                      | nil => exact .nil
                      | cons ha _ ih =>
                        simp only [List.map_cons, List.all_cons, Bool.and_eq_true] at hclosed
                        exact .cons (view1_ok hm ha hclosed.1) (ih hclosed.2)
                    obtain ⟨v, hv, hcalls⟩ := hpc.pc f G hG _ rr hr hclosed _ w vs hvs'
                    unfold Oper.wp
                    rw [hrun]
                    refine (hcalls w (Below.refl _ _)).mono fun e w' ⟨he, hb⟩ => ?_
                    subst he
                    exact hK F w' bs v (Ext.of_below hb) (hm.below hb) (flatA_any hv hfl _ _ _)
                  · simp [Tree.sel] at h
              · split at h
                · simp [Tree.sel] at h
                · have := hcall.fn f args mem r mem' (callable_lt (by assumption)) h F w bs vs hm hvs
                  unfold Oper.wp
                  rw [hrun]
                  refine this.mono fun e w' ⟨v, F', bs', he, hext, hm', hr⟩ => ?_
                  subst he
                  exact hK F' w' bs' v hext hm' hr
            · split at h
              · rename_i G hG
                simp only at h
                split at h
                · rename_i hclosed
                  · replace h := sel_bind h
                    obtain ⟨rr, hr, h⟩ := h
                    simp only [Tree.sel, Option.some.injEq, Prod.mk.injEq] at h
                    obtain ⟨rfl, rfl⟩ := h
                    obtain ⟨F1, e1, m1, r1⟩ := frz1s_ok hm hvs
                    have hvs' : All2 (A1.Rel F1 w []) (frz1s mem args).2 vs := by
                      clear hr hrun hvs
                      generalize (frz1s mem args).2 = l at r1 hclosed
                      induction r1 with
                      | nil => exact .nil
                      | cons ha _ ih =>
                        simp only [List.all_cons, Bool.and_eq_true] at hclosed
                        exact .cons (ha.closed hclosed.1) (ih hclosed.2)
                    have hcalls := hpc.hc f G hG _ rr hr hclosed F1 w vs hvs'
                    unfold Oper.wp
                    rw [hrun]
                    refine hcalls.mono fun e w' ⟨v, he, hb, hv⟩ => ?_
                    subst he
                    have e2 : Ext bs.length F1 w bs (fun p => F1 p ∧ p < w.heap.size) w' bs := ⟨hb.size, fun _ _ h => h.1, fun p h hp _ => ⟨h, hp⟩, fun p hp _ => hb.block p hp, hb.os, hb.tape, hb.output, fun _ _ _ h => h, fun x h => .inl ⟨x, h, rfl⟩⟩
                    have m2 := m1.move e2 fun k x T cs hk hc hl => ⟨m1.loc k x T cs hk hc hl, hb.block _ (m1.loc k x T cs hk hc hl).2⟩
                    exact hK _ w' bs v (e1.trans e2 (Nat.le_refl _)) m2 (AV.Rel.grow ⟨Nat.le_refl _, fun _ _ h => h, fun _ _ _ => rfl, fun k p h => by simp [nth] at h⟩ hv)
                · simp [Tree.sel] at h
              · have := hcall.fn f args mem r mem' (callable_lt (by assumption)) h F w bs vs hm hvs
                unfold Oper.wp
                rw [hrun]
                refine this.mono fun e w' ⟨v, F', bs', he, hext, hm', hr⟩ => ?_
                subst he
                exact hK F' w' bs' v hext hm' hr
          · simp [Tree.sel] at h
        · simp [Tree.sel] at h
      · rename_i hcal
        split at h
        · rename_i b x t t' hargs htys
          split at h
          · rename_i htt
            have htt := eq_of_beq htt
            subst htt
            have hr := evArgs_ok h0 hargs
            obtain ⟨u1, u2, hu1, hu2, hmap⟩ : ∃ u1 u2, A1.Rel F w bs b u1 ∧ A1.Rel F w bs x u2 ∧ c.args.map a.eval = #[u1, u2] := by
              generalize hl : c.args.toList.map a.eval = l at hr
              cases hr with
              | cons h1 hr => cases hr with
                | cons h2 hr =>
                  cases hr
                  exact ⟨_, _, h1, h2, by rw [← Array.toArray_toList (xs := c.args.map a.eval), Array.toList_map, hl]⟩
            have hty : c.argTypes = #[t, t] := by rw [← Array.toArray_toList (xs := c.argTypes), htys]
            obtain ⟨F', w', bs', z, hext, hm', hrr, hrun⟩ := appO_ok (P := P) (ty := o.type) hm h hu1 hu2
            refine wp_value (w' := w') (v := z) ?_ (hK F' w' bs' z hext hm' hrr)
            unfold execOp
            simp only [ho, resolve, invoke, builtin, hcal, hmap, hty, Sem.run_bind, Sem.run_pure, Result.andThen_ok, hrun]
          · simp [Tree.sel] at h
        · simp [Tree.sel] at h
      · rename_i hcal
        split at h
        · rename_i b t hargs htys
          have hr := evArgs_ok h0 hargs
          obtain ⟨u1, hu1, hmap⟩ : ∃ u1, A1.Rel F w bs b u1 ∧ c.args.map a.eval = #[u1] := by
            generalize hl : c.args.toList.map a.eval = l at hr
            cases hr with
            | cons h1 hr =>
              cases hr
              exact ⟨_, h1, by rw [← Array.toArray_toList (xs := c.args.map a.eval), Array.toList_map, hl]⟩
          have hty : c.argTypes = #[t] := by rw [← Array.toArray_toList (xs := c.argTypes), htys]
          obtain ⟨w', hext, hm', rfl, hrun⟩ := clear_ok (P := P) (ty := o.type) hm h hu1
          refine wp_value (w' := w') (v := .tuple #[]) ?_ (hK F w' bs _ hext hm' trivial)
          unfold execOp
          simp only [ho, resolve, invoke, builtin, hcal, hmap, hty, Sem.run_bind, Sem.run_pure, Result.andThen_ok, hrun]
        · simp [Tree.sel] at h
      · rename_i hcal
        split at h
        · rename_i b y t ts hargs htys
          have hr := evArgs_ok h0 hargs
          obtain ⟨u1, u2, hu1, hu2, hmap⟩ : ∃ u1 u2, A1.Rel F w bs b u1 ∧ A1.Rel F w bs y u2 ∧ c.args.map a.eval = #[u1, u2] := by
            generalize hl : c.args.toList.map a.eval = l at hr
            cases hr with
            | cons h1 hr =>
              cases hr with
              | cons h2 hr =>
                cases hr
                exact ⟨_, _, h1, h2, by rw [← Array.toArray_toList (xs := c.args.map a.eval), Array.toList_map, hl]⟩
          have hty : c.argTypes = (t :: ts).toArray := by rw [← Array.toArray_toList (xs := c.argTypes), htys]
          obtain ⟨w', z, hext, hm', hz, hrun⟩ := copy_ok (P := P) (ty := o.type) (ts := ts) hm h hu1 hu2
          refine wp_value (w' := w') (v := z) ?_ (hK F w' bs _ hext hm' hz)
          unfold execOp
          simp only [ho, resolve, invoke, builtin, hcal, hmap, hty, Sem.run_bind, Sem.run_pure, Result.andThen_ok, hrun]
        · simp [Tree.sel] at h
      · rename_i hcal
        split at h
        · rename_i b sz t hargs htys
          split at h
          · rename_i e T fz es n ρ0 hu hrow
            simp only [Tree.sel, Option.some.injEq, Prod.mk.injEq] at h
            obtain ⟨rfl, rfl⟩ := h
            have hr := evArgs_ok h0 hargs
            obtain ⟨u1, hu1, hmap⟩ : ∃ u1, A1.Rel F w bs (.c (.os b sz)) u1 ∧ c.args.map a.eval = #[u1] := by
              generalize hl : c.args.toList.map a.eval = l at hr
              cases hr with
              | cons h1 hr =>
                cases hr
                exact ⟨_, h1, by rw [← Array.toArray_toList (xs := c.args.map a.eval), Array.toList_map, hl]⟩
            have hty : c.argTypes = #[t] := by rw [← Array.toArray_toList (xs := c.argTypes), htys]
            cases hu1 with
            | os hb hbase =>
              rename_i y base
              have hro := hm.row b T fz es n ρ0 y (rowAt_some hrow) hb
              refine wp_value (w' := w) (v := .int .i64 (toInt64 n)) ?_ (hK F w bs _ Ext.refl hm (CV.Rel.int _ _))
              unfold execOp
              simp [ho, resolve, invoke, builtin, hcal, hmap, hty, Builtin.len_, run_underlying hu, goInt, hro.len, toInt64]
          · simp [Tree.sel] at h
        · rename_i hnos
          exfalso
          apply hq
          rw [ho]
          simp only [quietOp, hcal]
          split
          · rename_i b sz hargs
            obtain ⟨v, hv, _⟩ := sel_bind h
            cases c
            simp only at hcal
            subst hcal
            simp only [evPure, evPure0] at hv
            simp only at hargs
            rw [hargs] at hv
            split at hv
            · rename_i heq _
              simp at heq
              subst heq
              simp [evLen, Tree.sel] at hv
            · simp [Tree.sel] at hv
          · rfl
      · exfalso
        apply hq
        rw [ho]
        simp only [quietOp]
    · rename_i hq2
      exfalso
      apply hq
      unfold quietOp
      split <;> simp_all
      rename_i hx _
      exact hx _ _ _ _ _ rfl rfl rfl rfl rfl
theorem frzC_closed {mem : Mem} {x : CV} (h : closedC x = true) : frzC mem x = (mem, x) := by
  unfold frzC
  split
  · simp [closedC] at h
  · rfl
theorem frzCs_closed : ∀ {l : List CV} {mem : Mem}, l.all closedC = true → frzCs mem l = (mem, l)
  | [], _, _ => rfl
  | x :: r, mem, h => by
    simp only [List.all_cons, Bool.and_eq_true] at h
    have h2 := frzCs_closed (l := r) (mem := mem) h.2
    simp only [frzCs, frzC_closed h.1, h2]
theorem frz1s_closed : ∀ {l : List A1} {mem : Mem}, l.all closedA = true → frz1s mem l = (mem, l)
  | [], _, _ => rfl
  | x :: r, mem, h => by
    simp only [List.all_cons, Bool.and_eq_true] at h
    have h2 := frz1s_closed (l := r) (mem := mem) h.2
    have h1 : frz1 mem x = (mem, x) := by
      cases x with
      | c x => simp only [frz1, frzC_closed (show closedC x = true from h.1)]
      | agg l => simp only [frz1, frzCs_closed (show l.all closedC = true from h.1)]
    simp only [frz1s, h1, h2]
theorem still_mem {H : Hd} (hpc : SumOk P H) {call : CallH} {mem : Mem} {F : Nat → Prop} {w : World} {bs : List BI} (hm : MemRel P F w bs mem) {ρ : List (Nat × Bool) → Operand → Option AV} {a : Act}
    (hρ : ∀ K x av, KH a K → ρ K x = some av → av.Rel F w bs (a.eval x)) {o : Oper} {r : AV} {mem' : Mem} (hq : stillOp H (ρ []) o.op = true) (h : (evOp P H call mem ρ o.op).sel = some (r, mem')) : mem' = mem := by
  unfold stillOp at hq
  rw [Bool.or_eq_true] at hq
  rcases hq with hq | hq
  · exact (quiet_ok hpc hm hρ rfl hq h).1
  · have pure_case : ∀ e : Tree AV, (e.bind fun v => Tree.leaf (v, mem)).sel = some (r, mem') → mem' = mem := by
      intro e he
      obtain ⟨v, _, h2⟩ := sel_bind he
      simp only [Tree.sel, Option.some.injEq, Prod.mk.injEq] at h2
      exact h2.2.symm
    have need_case : ∀ (c : Bool) (v : AV), (Tree.need c (.leaf (v, mem))).sel = some (r, mem') → mem' = mem := by
      intro c v hs
      cases c <;> simp [Tree.sel] at hs
      exact hs.2.symm
    split at hq
    · rename_i t n parts ho
      rw [ho] at h
      simp only [evOp] at h
      simp only [litOp, Bool.and_eq_true] at hq
      obtain ⟨hl, hq⟩ := hq
      split at h
      · rename_i l hp
        rw [hp] at hq
        simp only at hq
        rw [if_pos (by rw [Bool.and_eq_true]; exact ⟨hl, hq⟩)] at h
        split at h
        · simp only [Tree.sel, Option.some.injEq, Prod.mk.injEq] at h
          exact h.2.symm
        · simp [Tree.sel] at h
      · simp [Tree.sel] at h
    · rename_i t x ho
      rw [ho] at h
      simp only [evOp] at h
      split at h
      · split at h
        · simp only [Tree.sel, Option.some.injEq, Prod.mk.injEq] at h
          exact h.2.symm
        · simp [Tree.sel] at h
      · split at h
        · simp only [Tree.sel, Option.some.injEq, Prod.mk.injEq] at h
          exact h.2.symm
        · simp [Tree.sel] at h
      · simp [Tree.sel] at h
    · rename_i t x i ho
      rw [ho] at h
      simp only [evOp] at h
      split at h
      · split at h
        · split at h
          · split at h
            · exact need_case _ _ h
            · simp [Tree.sel] at h
          · simp [Tree.sel] at h
        · simp [Tree.sel] at h
      · exact pure_case _ h
    · rename_i c ho
      rw [ho] at h
      split at hq
      · rename_i hcal
        simp only [evOp, hcal] at h
        split at h
        · split at h
          · simp only [Tree.sel, Option.some.injEq, Prod.mk.injEq] at h
            exact h.2.symm
          · simp [Tree.sel] at h
        · exact pure_case _ h
      · unfold laysOp at hq
        split at hq
        · rename_i x hcal
          split at hq
          · rename_i f args ht
            rw [Bool.and_eq_true, Bool.and_eq_true] at hq
            obtain ⟨⟨h1, h2⟩, h3⟩ := hq
            simp only [evOp, hcal, ht] at h
            split at h
            · rw [Option.isNone_iff_eq_none.1 h1] at h
              obtain ⟨G, hG⟩ := Option.isSome_iff_exists.1 h2
              rw [hG] at h
              simp only [frz1s_closed h3, h3, if_true] at h
              obtain ⟨v, _, h4⟩ := sel_bind h
              simp only [Tree.sel, Option.some.injEq, Prod.mk.injEq] at h4
              exact h4.2.symm
            · simp [Tree.sel] at h
          · cases hq
        · cases hq
    · cases hq
end
end Go.Sx
