/-
  The evaluator's soundness: the tail of a slice of one's own, and its clearing.
-/
import Derived.Test.YtjiennnkbompkaaEngT
namespace Go.Sx
open Go Go.RowKit

section
variable {P : Program}

theorem ofCs_nth : ∀ (l : List CV) (i : Nat), Val.ofCs.nthC l i = nth l i
  | [], 0 => rfl
  | [], _ + 1 => rfl
  | _ :: _, 0 => rfl
  | _ :: r, i + 1 => ofCs_nth r i

theorem tail_ok {F w bs mem} (hm : MemRel F w bs mem) {t : TypeId} {a : A1} {lo hi mx : Option Int} {vlo vhi vmx : Option Value} (h1 : IntOpt lo vlo) (h2 : IntOpt hi vhi) (h3 : IntOpt mx vmx) {T : Tree (AV × Mem)} (hT : evTail P mem t a lo hi mx = some T)
    {r : AV} {mem' : Mem} (h : T.sel = some (r, mem')) {v : Value} (ha : A1.Rel F w bs a v) :
    mem' = mem ∧ (∃ z, r.Rel F w bs z ∧ (Instr.slice t v vlo vhi vmx).run P w = .ok z w) ∧ ∃ e, P.underlying t = some (.slice e) := by
  unfold evTail at hT
  split at hT
  · rename_i b sz l
    split at hT
    · rename_i e T' es n ρ ht hrow
      split at hT
      · rename_i j hj
        split at hT
        · rename_i hc
          simp only [Bool.and_eq_true, beq_iff_eq] at hc
          obtain ⟨⟨hes, hsz⟩, hTe⟩ := hc
          subst hTe
          simp only [Option.some.injEq] at hT
          subst hT
          simp only [Tree.sel] at h
          cases hl : (le 0 l && lt l (toInt64 n)) <;> simp [hl] at h
          obtain ⟨rfl, rfl⟩ := h
          rw [Bool.and_eq_true, le_iff, lt_iff] at hl
          have hl2 : l < (n : Int) := hl.2
          have hrow := rowAt_some hrow
          cases h2
          cases h3
          cases h1 with
          | yes k _ =>
            cases ha with
            | os hb hbase =>
              rename_i x base
              have hr := hm.row b T' false es n ρ x hrow hb
              have hbs := hbase (by rw [hr.len]; omega)
              subst hbs
              have hcap := (hr.cap (by omega)).1
              refine ⟨rfl, ⟨.slice (some ⟨x.p, l.toNat * sz, none⟩) (x.n - l.toNat) (x.cap - l.toNat), CV.Rel.ost hb (by rw [hr.len]; omega), ?_⟩, T', ht⟩
              have hcut := run_cut (P := P) (w := w) ht hj (some ⟨x.p, 0, none⟩) (n := x.n) (cap := x.cap) (by rw [hr.len]; exact hcap) (.yes k l) .no (fun _ h => by cases h; exact hl.1) (by simp [hr.len]; omega) (fun _ h => by cases h) (by simp)
              rw [hcut]
              simp only [Option.getD_none, Option.getD_some]
              have hne : ¬ x.cap = l.toNat := by omega
              rw [if_neg hne, hsz]
              simp [addr_eq]
        · simp at hT
      · simp at hT
    · simp at hT
  · simp at hT

theorem clear_ok {F w bs mem} (hm : MemRel F w bs mem) {t ty : TypeId} {a : A1} {r : AV} {mem' : Mem} (h : (evClear P mem t a).sel = some (r, mem')) {v : Value} (ha : A1.Rel F w bs a v) :
    ∃ w', Ext bs.length F w bs F w' bs ∧ MemRel F w' bs mem' ∧ r = .any ∧ (Builtin.clear_ #[t] ty #[v]).run P w = .ok (.tuple #[]) w' := by
  unfold evClear at h
  split at h
  · rename_i b sz lo
    split at h
    · rename_i e T es n ρ ht hrow
      split at h
      · rename_i z hz
        split at h
        · rename_i hc
          simp only [Bool.and_eq_true, beq_iff_eq, Nat.blt_eq] at hc
          obtain ⟨⟨⟨⟨hes, hzl⟩, hpos⟩, hTe⟩, hfit⟩ := hc
          subst hTe
          simp only [Tree.sel, Option.some.injEq, Prod.mk.injEq] at h
          obtain ⟨rfl, rfl⟩ := h
          have hrow := rowAt_some hrow
          cases ha with
          | ost hb hlo =>
            rename_i x
            have hr := hm.row b T false es n ρ x hrow hb
            have hlo' : lo < n := by rw [← hr.len]; exact hlo
            have hn0 : 0 < n := by omega
            obtain ⟨arr, harr, hs, val, h3, h4⟩ := hr.block hn0
            have hlive : liveL [CV.row false es n ρ] := ⟨rfl, hn0⟩
            have hcap := (hr.cap hn0).1
            obtain ⟨zv, hzv, hzr⟩ := zeroCellsOf_ok (F := F) (w := w) (bs := bs) hz
            have hzlen : zv.cells.size = sz := by
              have := hzr.length
              simp at this; omega
            have hzs : (Builtin.zeroCells zv.cells (x.n - lo)).toList.length = (n - lo) * sz := by
              rw [Array.length_toList, size_zeroCells, hzlen, hr.len]
            have hznth : ∀ i f, i < n - lo → f < sz → (Builtin.zeroCells zv.cells (x.n - lo)).toList[i * sz + f]? = zv.cells.toList[f]? := by
              intro i f hi hf
              have hlt : i * sz + f < (n - lo) * sz := by
                have : (i + 1) * sz ≤ (n - lo) * sz := Nat.mul_le_mul_right _ hi
                rw [Nat.add_mul, Nat.one_mul] at this
                omega
              have hmod : (i * sz + f) % sz = f := by
                rw [Nat.add_comm, Nat.add_mul_mod_self_right]
                exact Nat.mod_eq_of_lt hf
              simp only [Builtin.zeroCells, Array.getElem?_toList, Array.getElem?_map, hzlen, hr.len]
              rw [Array.getElem?_range, if_pos hlt]
              simp only [Option.map_some, hmod]
              rw [getElem!_pos zv.cells f (by omega), Array.getElem?_eq_getElem (by omega)]
            have hone : ∀ u ∈ (Builtin.zeroCells zv.cells (x.n - lo)).toList, u.oneCell' = true := by
              intro u hu
              simp only [Builtin.zeroCells, Array.toList_map, List.mem_map, Array.mem_toList_iff, Array.mem_range, hzlen] at hu
              obtain ⟨i, _, rfl⟩ := hu
              have hlt : i % sz < zv.cells.size := by rw [hzlen]; exact Nat.mod_lt _ hpos
              rw [getElem!_pos zv.cells _ hlt]
              obtain ⟨c, _, hc⟩ := hzr.nth' (i := i % sz) (b := zv.cells[i % sz]) (by rw [Array.getElem?_toList, Array.getElem?_eq_getElem hlt])
              exact hc.one
            have hal : arr.toList.length = arr.size := by simp
            have hmul : lo * sz + (n - lo) * sz = n * sz := by rw [← Nat.add_mul]; congr 1; omega
            have hcapm : n * sz ≤ x.cap * sz := Nat.mul_le_mul_right _ hcap
            have hfitA : lo * sz + 0 + (Builtin.zeroCells zv.cells (x.n - lo)).toList.length ≤ arr.size := by
              rw [hs, hzs, hes]; omega
            have hst := run_storeCells_at (P := P) x.p (lo * sz) T (Builtin.zeroCells zv.cells (x.n - lo)).toList 0 arr w harr hfitA hone
            simp only [Nat.add_zero] at hst
            obtain ⟨e2, m2⟩ := hm.rewrite hb hrow hlive (arr.toList.take (lo * sz) ++ (Builtin.zeroCells zv.cells (x.n - lo)).toList ++ arr.toList.drop (lo * sz + (Builtin.zeroCells zv.cells (x.n - lo)).toList.length)).toArray
            have hF := hm.loc b x T _ hb hrow hlive
            have hinj := hm.rewrite_inj hb hrow hlive
            refine ⟨_, e2, ?_, rfl, ?_⟩
            · have := m2.put hb (T := T) (cs := [.row false es n (Val.cat lo ρ (.byFst fun _ => Val.ofCs z))]) killed_no (fun _ => ⟨hF.1, by simpa [World.setRow] using hF.2⟩) (fun _ => hinj) (fun h => by simp [isRowL] at h) (fun fz' es'' n' ρ' h => ?_)
              · rwa [setN_setN] at this
              · simp at h
                obtain ⟨rfl, rfl, rfl, rfl⟩ := h
                refine ⟨hr.len, hr.cap0, hr.cap, fun _ => ⟨_, setRow_heap w x.p _ _ _ _ harr, ?_, fun i f => if i < lo then val i f else (match nth zv.cells.toList f with | some u => u | none => undef), fun i f hi hf => ?_, fun i f s hi hf => ?_⟩, fun _ h => by cases h⟩
                · simp only [List.size_toArray, List.length_append, List.length_take, List.length_drop]
                  omega
                · dsimp only
                  have h6 := h3 i f hi hf
                  rw [hes] at h6 hf ⊢
                  rw [List.getElem?_toArray]
                  by_cases hil : i < lo
                  · rw [if_pos hil]
                    have hlt : i * sz + f < lo * sz := by
                      have : (i + 1) * sz ≤ lo * sz := Nat.mul_le_mul_right _ hil
                      rw [Nat.add_mul, Nat.one_mul] at this
                      omega
                    rw [List.append_assoc, List.getElem?_append_left (by simp only [List.length_take]; omega), List.getElem?_take, if_pos hlt]
                    simpa using h6
                  · rw [if_neg hil]
                    have hge : lo * sz ≤ i * sz := Nat.mul_le_mul_right _ (by omega)
                    have hlt : i * sz + f < n * sz := by
                      have : (i + 1) * sz ≤ n * sz := Nat.mul_le_mul_right _ hi
                      rw [Nat.add_mul, Nat.one_mul] at this
                      omega
                    have htk : (arr.toList.take (lo * sz)).length = lo * sz := by simp only [List.length_take]; omega
                    rw [List.append_assoc, List.getElem?_append_right (by omega), List.getElem?_append_left (by rw [htk, hzs]; omega), htk]
                    have e5 : i * sz + f - lo * sz = (i - lo) * sz + f := by
                      rw [Nat.sub_mul]; omega
                    rw [e5, hznth (i - lo) f (by omega) hf, nth_eq]
                    have : f < zv.cells.toList.length := by rw [Array.length_toList]; omega
                    rw [List.getElem?_eq_getElem this]
                · dsimp only
                  have hfl := nth_lt hf
                  by_cases hil : i < lo
                  · rw [if_pos hil]
                    have e6 : (Val.cat lo ρ (.byFst fun _ => Val.ofCs z)).at i = ρ.at i := by
                      unfold Val.cat
                      rw [byFst_at]
                      have : Nat.blt i lo = true := by simpa using hil
                      rw [this]; rfl
                    rw [e6]
                    exact (h4 i f s hi hf).grow e2.grow0
                  · rw [if_neg hil]
                    have e6 : (Val.cat lo ρ (.byFst fun _ => Val.ofCs z)).at i = Val.ofCs z := by
                      unfold Val.cat
                      rw [byFst_at]
                      have : Nat.blt i lo = false := by
                        rw [← Bool.not_eq_true]; simpa using hil
                      rw [this]; rfl
                    rw [e6]
                    obtain ⟨_, hfn⟩ := fitsL_nth hfit
                    obtain ⟨c, hc, hfc⟩ := hfn f s hf
                    obtain ⟨u, hu, hrel⟩ := hzr.nth hc
                    have hu2 : nth zv.cells.toList f = some u := by rw [nth_eq]; exact hu
                    rw [hu2]
                    have e7 : (Val.ofCs z).at f = Val.ofC c := by
                      unfold Val.ofCs
                      rw [byFst_at, ofCs_nth, hc]
                    rw [e7]
                    exact (fits_rel hrel hfc).grow e2.grow0
            · obtain ⟨k, hk⟩ : ∃ k, x.n - lo = k + 1 := ⟨x.n - lo - 1, by omega⟩
              rw [hk] at hst ⊢
              simp [Builtin.clear_, run_underlying ht, hzv, hst]
        · simp [Tree.sel] at h
      · simp [Tree.sel] at h
    · simp [Tree.sel] at h
  · simp [Tree.sel] at h

end
end Go.Sx
