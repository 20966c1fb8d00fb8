/-
  The evaluator's soundness (part R): appending, joined.
-/
import Derived.Test.YtjiennnkbompkaaEngQ
namespace Go.Sx
open Go Go.RowKit

section
variable {P : Program}

theorem cat_lt {n i : Nat} (a b : Val) (h : i < n) : (Val.cat n a b).at i = a.at i := by
  show pickV (Nat.blt i n) _ _ = _
  have : Nat.blt i n = true := Nat.blt_eq.mpr h
  rw [this]; rfl

theorem cat_ge {n i : Nat} (a b : Val) (h : ¬ i < n) : (Val.cat n a b).at i = b.at (i - n) := by
  show pickV (Nat.blt i n) _ _ = _
  have : Nat.blt i n = false := by
    cases hb : Nat.blt i n
    · rfl
    · exact absurd (Nat.blt_eq.mp hb) h
  rw [this]; rfl

/-- two rows, one behind the other -/
theorem cat_rel {F w} {es : List Sh} {n m : Nat} {ρ σ : Val} {v1 v2 : Nat → Nat → Value} (h1 : ∀ i f s, i < n → nth es f = some s → CV.Rel F w [] (cellOf s ((ρ.at i).at f)) (v1 i f)) (h2 : ∀ i f s, i < m → nth es f = some s → CV.Rel F w [] (cellOf s ((σ.at i).at f)) (v2 i f)) :
    ∀ i f s, i < n + m → nth es f = some s → CV.Rel F w [] (cellOf s (((Val.cat n ρ σ).at i).at f)) (if i < n then v1 i f else v2 (i - n) f) := by
  intro i f s hi hf
  by_cases h : i < n
  · rw [cat_lt ρ σ h, if_pos h]; exact h1 i f s h hf
  · rw [cat_ge ρ σ h, if_neg h]; exact h2 _ f s (by omega) hf

theorem cat_cells {k n m : Nat} {v1 v2 : Nat → Nat → Value} {i f : Nat} (hi : i < n + m) (hf : f < k) : (flatL k n v1 ++ flatL k m v2)[i * k + f]? = some (if i < n then v1 i f else v2 (i - n) f) := by
  by_cases h : i < n
  · rw [if_pos h, List.getElem?_append_left (by rw [flatL_length]; exact flat_lt h hf), flatL_at h hf]
  · rw [if_neg h]
    have hle : n * k ≤ i * k := Nat.mul_le_mul_right _ (by omega)
    rw [List.getElem?_append_right (by rw [flatL_length]; omega), flatL_length]
    have : i * k + f - n * k = (i - n) * k + f := by rw [Nat.sub_mul]; omega
    rw [this, flatL_at (by omega) hf]

theorem drew_below (w : World) : Below w.heap.size w w.drew := Below.drew (Below.refl _ _)

/-- a row that grows: a new block -/
theorem grow_ok {F w bs mem} (hm : MemRel F w bs mem) {t ty e : TypeId} {j : TypeInfo} {z : Value} (ht : P.underlying t = some (.slice e)) (hj : P.info? e = some j) (hz : j.zero = some z) (hzs : z.cells.size = j.size) (hby : 0 < j.bytes)
    {es : List Sh} (hes : es.length = j.size) {n m : Nat} {σ τ : Val} {base : Option Addr} {cap : Nat} {u : Value} {v1 v2 : Nat → Nat → Value}
    (hold : (Builtin.firstCells j.size n (.slice base n cap)).run P w.drew = .ok (flatL j.size n v1).toArray w.drew) (hτ : ∀ i f s, i < n + m → nth es f = some s → CV.Rel F w [] (cellOf s ((τ.at i).at f)) (if i < n then v1 i f else v2 (i - n) f))
    (hs : SrcOk P F w j.size t es m σ u v2) (hg : cap < n + m) (hlim : (n + m) * j.bytes ≤ 140737488355328) :
    ∃ F' w' bs' v, Ext bs.length F w bs F' w' bs' ∧ MemRel F' w' bs' (mem ++ [some (e, [.row false es (n + m) τ])]) ∧ CV.Rel F' w' bs' (.os mem.length j.size) v ∧ (Builtin.append_ #[t, t] ty #[.slice base n cap, u]).run P w = .ok v w' := by
  have hsmall : n + m ≤ 140737488355328 := Nat.le_trans (Nat.le_mul_of_pos_right _ hby) hlim
  have hmax : n + m ≤ maxLen := by simp only [maxLen]; omega
  have hrun := run_append_grow_src (P := P) w t t ty e j z ht hj hz base n cap (flatL j.size n v1) hold u m (flatL j.size m v2) hs.src hg (by omega) (growslice_fits hg hlim)
  have hb := drew_below w
  have hm' := hm.below hb
  have hge := grownCap_ge w (n + m) cap e
  obtain ⟨F', he, hm2⟩ := hm'.lay (e := e) (es := es) (n := n + m) (cap := grownCap w (n + m) cap e) (ρ := τ) (arr := (flatL j.size n v1 ++ flatL j.size m v2).toArray ++ Builtin.zeroCells z.cells (grownCap w (n + m) cap e - (n + m)))
    (fun h => by omega) hge (grownCap_le_maxLen w (n + m) cap e hmax) (by
      simp only [Array.size_append, List.size_toArray, List.length_append, flatL_length, size_zeroCells, hzs, ← Nat.add_mul, hes]
      congr 1; omega) (fun i f => if i < n then v1 i f else v2 (i - n) f) (fun i f hi hf => by
      rw [hes] at hf ⊢
      have hlt : i * j.size + f < (n + m) * j.size := flat_lt hi hf
      rw [Array.getElem?_append_left (by simp only [List.size_toArray, List.length_append, flatL_length, ← Nat.add_mul]; exact hlt)]
      rw [List.getElem?_toArray]
      exact cat_cells hi hf) (fun i f s hi hf => (hτ i f s hi hf).grow (Ext.of_below (K := 0) (F := F) (bs := []) hb).grow0)
  refine ⟨F', _, _, _, (Ext.of_below (F := F) (bs := bs) hb).trans he (Nat.le_refl _), hm2, ?_, hrun⟩
  exact CV.Rel.os (x := ⟨w.heap.size, n + m, grownCap w (n + m) cap e⟩) (by rw [← hm.len]; exact nth_append_last _ _) (fun _ => rfl)

theorem append_ok {F w bs mem} (hm : MemRel F w bs mem) {t ty : TypeId} {a x : A1} {v u : Value} {r : AV} {mem' : Mem} (h : (evAppend P mem t a x).sel = some (r, mem')) (ha : A1.Rel F w bs a v) (hx : A1.Rel F w bs x u) :
    ∃ F' w' bs' z, Ext bs.length F w bs F' w' bs' ∧ MemRel F' w' bs' mem' ∧ r.Rel F' w' bs' z ∧ (Builtin.append_ #[t, t] ty #[v, u]).run P w = .ok z w' := by
  unfold evAppend at h
  split at h
  · rename_i e ht
    split at h
    · rename_i j z hj hz
      split at h
      · simp [Tree.sel] at h
      · rename_i hcond
        simp only [Bool.not_eq_true', Bool.not_eq_false, Bool.and_eq_true, Nat.blt_eq, beq_iff_eq] at hcond
        obtain ⟨⟨hsz, hby⟩, hzl⟩ := hcond
        obtain ⟨zv, hzv, hzs⟩ : ∃ zv, j.zero = some zv ∧ zv.cells.size = j.size := by
          unfold zeroCellsOf at hz
          simp only [hj] at hz
          split at hz
          · rename_i zv hzv
            have := (liftCells_ok (F := F) (w := w) (bs := bs) hz).length
            simp at this
            exact ⟨zv, hzv, by omega⟩
          · simp at hz
        split at h
        · -- nil, nil
          simp only [Tree.sel, Option.some.injEq, Prod.mk.injEq] at h
          obtain ⟨rfl, rfl⟩ := h
          cases ha; cases hx
          exact ⟨F, w, bs, _, Ext.refl, hm, CV.Rel.nils, append_zero ht hj none 0 0 (Nat.le_refl _) (Src.ofNil w ht 0)⟩
        · -- own, nil
          rename_i b sz
          split at h
          · rename_i q hrow
            obtain ⟨T, fz, es, n, ρ⟩ := q
            simp only [Tree.sel, Option.some.injEq, Prod.mk.injEq] at h
            obtain ⟨rfl, rfl⟩ := h
            cases hx
            cases ha with
            | os hb hbase =>
              rename_i y base
              refine ⟨F, w, bs, _, Ext.refl, hm, CV.Rel.os hb hbase, append_zero ht hj base y.n y.cap ?_ (Src.ofNil w ht 0)⟩
              have hr := hm.row b T fz es n ρ y (rowAt_some hrow) hb
              rw [hr.len]
              rcases Nat.eq_zero_or_pos n with h0 | h0
              · omega
              · exact (hr.cap h0).1
          · simp [Tree.sel] at h
        · -- nil
          split at h
          · rename_i es m σ hs
            split at h
            · rename_i hes
              simp only [Tree.sel] at h
              cases hlim : Nat.ble (m * j.bytes) 140737488355328 <;> simp [hlim] at h
              obtain ⟨rfl, rfl⟩ := h
              have hes : es.length = j.size := by simpa using hes
              have hlim := Nat.ble_eq.mp hlim
              cases ha
              obtain ⟨val, hsrc⟩ := srcOk hm ht hs hes hx
              rcases Nat.eq_zero_or_pos m with h0 | h0
              · obtain ⟨he, hm2⟩ := hm.lay0 e es h0 σ
                subst h0
                have hfl : flatL j.size 0 val = [] := by simp [flatL]
                have hsr := hsrc.src
                rw [hfl] at hsr
                exact ⟨F, w, _, _, he, hm2, CV.Rel.os (x := ⟨w.heap.size, 0, 0⟩) (by rw [← hm.len]; exact nth_append_last _ _) (fun h => by simp at h), append_zero ht hj none 0 0 (Nat.le_refl _) hsr⟩
              · have hfl : flatL j.size 0 val = [] := by simp [flatL]
                have := grow_ok (P := P) hm (ty := ty) ht hj hzv hzs hby hes (n := 0) (m := m) (σ := σ) (τ := σ) (base := none) (cap := 0) (v1 := val) (by rw [hfl]; exact run_firstCells_none _ _ _ _ _) (fun i f s hi hf => by rw [if_neg (by omega), Nat.sub_zero]; exact hsrc.rel i f s (by omega) hf) hsrc (by omega) (by simpa using hlim)
                obtain ⟨F', w', bs', v, he, hm2, hr, hrun⟩ := this
                refine ⟨F', w', bs', v, he, ?_, hr, hrun⟩
                rwa [Nat.zero_add] at hm2
            · simp [Tree.sel] at h
          · simp [Tree.sel] at h
        · -- own
          rename_i b sz hnn
          split at h
          · rename_i T es n ρ es' m σ hrow hs
            split at h
            · rename_i hcond
              simp only [Bool.and_eq_true, beq_iff_eq] at hcond
              obtain ⟨⟨⟨⟨hT, hes⟩, hsz'⟩, hse⟩, hbb⟩ := hcond
              subst hT
              have hse := shsEq_eq hse
              subst hse
              simp only [Tree.sel] at h
              cases hlim : Nat.ble ((n + m) * j.bytes) 140737488355328 <;> simp [hlim] at h
              obtain ⟨rfl, rfl⟩ := h
              have hlim := Nat.ble_eq.mp hlim
              obtain ⟨val, hsrc⟩ := srcOk hm ht hs hes hx
              have hrow := rowAt_some hrow
              cases ha with
              | os hb hbase =>
                rename_i y base
                have hr := hm.row b T false es n ρ y hrow hb
                have hn := hr.len
                have hkill := hm.kill b
                have hlen : (setN mem b none).length = mem.length := setN_length _ _ _
                have hle : y.n ≤ y.cap := by
                  rw [hn]
                  rcases Nat.eq_zero_or_pos n with h0 | h0
                  · omega
                  · exact (hr.cap h0).1
                by_cases hg : y.cap < n + m
                · -- a new block
                  have hold : ∃ v1, (Builtin.firstCells j.size n (.slice base n y.cap)).run P w.drew = .ok (flatL j.size n v1).toArray w.drew ∧ ∀ i f s, i < n → nth es f = some s → CV.Rel F w [] (cellOf s ((ρ.at i).at f)) (v1 i f) := by
                    rcases Nat.eq_zero_or_pos n with h0 | h0
                    · subst h0
                      have hfl : flatL j.size 0 val = [] := by simp [flatL]
                      refine ⟨val, ?_, fun i f s hi => by omega⟩
                      rw [hfl]
                      cases base with
                      | none => exact run_firstCells_none _ _ _ _ _
                      | some a => exact run_firstCells_some _ j.size 0 a 0 y.cap [] (by simp) (by simp)
                    · obtain ⟨arr, ha, hs', v1, h3, h4⟩ := hr.block h0
                      have hbs := hbase (by omega)
                      subst hbs
                      refine ⟨v1, run_firstCells_some _ j.size n _ n y.cap _ (flatL_length _ _ _) (fun q z hq => ?_), h4⟩
                      obtain ⟨i, f, hi, hf, rfl, rfl⟩ := flatL_inv hq
                      rw [addr_eq rfl]
                      show World.cell? w.drew ⟨y.p, 0 + (i * j.size + f), none⟩ = _
                      rw [cell_of_row w.drew y.p _ arr T _ ha, Nat.zero_add, ← hes]
                      exact h3 i f hi (by omega)
                  obtain ⟨v1, hold, h1⟩ := hold
                  have := grow_ok (P := P) hkill (ty := ty) ht hj hzv hzs hby hes hold (cat_rel h1 hsrc.rel) hsrc hg hlim
                  rw [hlen] at this
                  obtain ⟨F', w', bs', v, he, hm2, hr2, hrun⟩ := this
                  exact ⟨F', w', bs', v, he, hm2, hr2, by rw [hn]; exact hrun⟩
                · -- in place
                  rcases Nat.eq_zero_or_pos m with h0 | h0
                  · -- nothing is appended
                    subst h0
                    have hfl : flatL j.size 0 val = [] := by simp [flatL]
                    have hsr := hsrc.src
                    rw [hfl] at hsr
                    have hrel : ∀ i f s v, i < n → CV.Rel F w [] (cellOf s ((ρ.at i).at f)) v → CV.Rel F w [] (cellOf s (((Val.cat n ρ σ).at i).at f)) v := fun i f s v hi h => by rw [cat_lt ρ σ hi]; exact h
                    refine ⟨F, w, bs ++ [y], _, Ext.refl.push (.inl ⟨y, nth_mem hb, rfl⟩), hkill.push y (fun hl => ?_) (fun hl => ?_) (fun h => by simp [isRowL] at h) (fun fz' es' n' ρ' h => ?_), CV.Rel.os (x := y) (by rw [← hlen, ← hkill.len]; exact nth_append_last _ _) hbase, append_zero ht hj base y.n y.cap hle hsr⟩
                    · exact hm.loc b y T _ hb hrow ⟨rfl, by simpa using hl.2⟩
                    · exact hm.rewrite_inj hb hrow ⟨rfl, by simpa using hl.2⟩
                    · simp at h
                      obtain ⟨rfl, rfl, rfl, rfl⟩ := h
                      refine ⟨by simpa using hn, hr.cap0, hr.cap, fun h0 => ?_, fun _ h => by cases h⟩
                      obtain ⟨arr, ha, hs', v1, h3, h4⟩ := hr.block h0
                      exact ⟨arr, ha, hs', v1, h3, fun i f s hi hf => hrel i f s _ hi (h4 i f s hi hf)⟩
                  · have hn0 : 0 < n := by
                      rcases Nat.eq_zero_or_pos n with h0' | h0'
                      · have := hr.cap0 h0'; omega
                      · exact h0'
                    obtain ⟨arr, ha, hs', v1, h3, h4⟩ := hr.block hn0
                    have hbs := hbase (by omega)
                    subst hbs
                    obtain ⟨ad, c, rfl, hcell⟩ := hsrc.addr h0
                    have hfit : n * j.size + (flatL j.size m val).length ≤ arr.size := by
                      rw [flatL_length, hs', hes, ← Nat.add_mul]
                      exact Nat.mul_le_mul_right _ (by omega)
                    have hrun := run_append_room (P := P) w t ty T j ht hj y.p n y.cap arr ha ad m c (flatL j.size m val) (flatL_length _ _ _) hcell hsrc.src.one (by omega) hfit
                    have hlive : liveL [CV.row false es n ρ] := ⟨rfl, hn0⟩
                    obtain ⟨he, hm2⟩ := hm.rewrite hb hrow hlive (arr.toList.take (n * j.size) ++ flatL j.size m val ++ arr.toList.drop (n * j.size + (flatL j.size m val).length)).toArray
                    have hF := hm.loc b y T _ hb hrow hlive
                    have hinj := hm.rewrite_inj hb hrow hlive
                    refine ⟨F, _, bs ++ [⟨y.p, n + m, y.cap⟩], _, he.push (.inl ⟨y, nth_mem hb, rfl⟩), hm2.push ⟨y.p, n + m, y.cap⟩ (fun _ => ⟨hF.1, by simpa [World.setRow] using hF.2⟩) (fun _ => hinj) (fun h => by simp [isRowL] at h) (fun fz' es' n' ρ' h => ?_),
                      CV.Rel.os (x := ⟨y.p, n + m, y.cap⟩) (by rw [← hlen, ← hkill.len]; exact nth_append_last _ _) (fun _ => rfl), by rw [hn]; exact hrun⟩
                    simp at h
                    obtain ⟨rfl, rfl, rfl, rfl⟩ := h
                    refine ⟨rfl, fun h => by omega, fun _ => ⟨by simp only; omega, (hr.cap hn0).2⟩, fun _ => ⟨_, setRow_heap w y.p _ _ _ _ ha, ?_, fun i f => if i < n then v1 i f else val (i - n) f, fun i f hi hf => ?_, fun i f s hi hf => ?_⟩, fun _ h => by cases h⟩
                    · simp only [List.size_toArray, List.length_append, List.length_take, List.length_drop, Array.length_toList]
                      omega
                    · have hpre : arr.toList.take (n * j.size) = flatL j.size n v1 := by
                        apply List.ext_getElem?
                        intro q
                        rcases Nat.lt_or_ge q (n * j.size) with hq | hq
                        · rw [List.getElem?_take, if_pos hq]
                          have hk : 0 < j.size := hsz
                          have hdm : q = q / j.size * j.size + q % j.size := by rw [Nat.mul_comm]; exact (Nat.div_add_mod q j.size).symm
                          have hq1 : q / j.size < n := Nat.div_lt_of_lt_mul (by rw [Nat.mul_comm]; exact hq)
                          have hq2 : q % j.size < j.size := Nat.mod_lt _ hk
                          have h5 := h3 (q / j.size) (q % j.size) hq1 (by omega)
                          rw [hes, ← hdm] at h5
                          have h6 := flatL_at (val := v1) hq1 hq2
                          rw [← hdm] at h6
                          rw [h6]
                          simpa using h5
                        · rw [List.getElem?_take, if_neg (by omega), List.getElem?_eq_none (by rw [flatL_length]; exact hq)]
                      have hlt : i * j.size + f < (n + m) * j.size := flat_lt hi (by omega)
                      rw [hes, hpre, List.getElem?_toArray, List.getElem?_append_left (by rw [List.length_append, flatL_length, flatL_length, ← Nat.add_mul]; exact hlt)]
                      exact cat_cells hi (by omega)
                    · exact cat_rel (fun i f s hi hf => (h4 i f s hi hf).grow he.grow0) (fun i f s hi hf => (hsrc.rel i f s hi hf).grow he.grow0) i f s hi hf
            · simp [Tree.sel] at h
          · simp [Tree.sel] at h
        · simp [Tree.sel] at h
    · simp [Tree.sel] at h
  · simp [Tree.sel] at h

end
end Go.Sx
