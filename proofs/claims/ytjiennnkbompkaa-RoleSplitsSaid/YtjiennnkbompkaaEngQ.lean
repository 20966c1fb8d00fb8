/-
  The evaluator's soundness (part Q): appending.
-/
import Derived.Test.YtjiennnkbompkaaEngP
namespace Go.Sx
open Go Go.RowKit

section
variable {P : Program}

/-- a row's cells, one behind the other -/
def flatL (k m : Nat) (val : Nat → Nat → Value) : List Value := (List.range (m * k)).map fun q => val (q / k) (q % k)

theorem flatL_length (k m : Nat) (val : Nat → Nat → Value) : (flatL k m val).length = m * k := by simp [flatL]

theorem flat_lt {i f m k : Nat} (hi : i < m) (hf : f < k) : i * k + f < m * k := by
  have : (i + 1) * k ≤ m * k := Nat.mul_le_mul_right _ hi
  rw [Nat.add_mul, Nat.one_mul] at this
  omega

theorem flat_div {i f k : Nat} (hf : f < k) : (i * k + f) / k = i := by
  rw [Nat.mul_comm, Nat.mul_add_div (by omega), Nat.div_eq_of_lt hf, Nat.add_zero]

theorem flat_mod {i f k : Nat} (hf : f < k) : (i * k + f) % k = f := by
  rw [Nat.mul_comm, Nat.mul_add_mod, Nat.mod_eq_of_lt hf]

theorem flatL_at {k m : Nat} {val : Nat → Nat → Value} {i f : Nat} (hi : i < m) (hf : f < k) : (flatL k m val)[i * k + f]? = some (val i f) := by
  have := flat_lt hi hf
  simp only [flatL, List.getElem?_map, List.getElem?_range this, Option.map_some, flat_div hf, flat_mod hf]

theorem flatL_inv {k m : Nat} {val : Nat → Nat → Value} {j : Nat} {u : Value} (h : (flatL k m val)[j]? = some u) : ∃ i f, i < m ∧ f < k ∧ j = i * k + f ∧ u = val i f := by
  have hj : j < m * k := by
    rcases Nat.lt_or_ge j (m * k) with h' | h'
    · exact h'
    · rw [List.getElem?_eq_none (by rw [flatL_length]; exact h')] at h; cases h
  have hk : 0 < k := Nat.pos_of_ne_zero fun e => by subst e; omega
  simp only [flatL, List.getElem?_map, List.getElem?_range hj, Option.map_some, Option.some.injEq] at h
  refine ⟨j / k, j % k, Nat.div_lt_of_lt_mul (by rw [Nat.mul_comm]; exact hj), Nat.mod_lt _ hk, ?_, h.symm⟩
  rw [Nat.mul_comm]; exact (Nat.div_add_mod j k).symm

theorem addr_eq {a : Addr} (h : a.spot = none) (j : Nat) : a.add j = ⟨a.block, a.off + j, none⟩ := by
  obtain ⟨b, o, s⟩ := a
  simp only at h; subst h
  exact addr_add b o j

/-- what is appended -/
structure SrcOk (P : Program) (F : Nat → Prop) (w : World) (k : Nat) (t : TypeId) (es : List Sh) (m : Nat) (σ : Val) (u : Value) (val : Nat → Nat → Value) : Prop where
  src : Src P k t u m (flatL k m val) w
  addr : 0 < m → ∃ a c, u = .slice (some a) m c ∧ ∀ j z, (flatL k m val)[j]? = some z → w.cell? (a.add j) = some z
  rel : ∀ i f s, i < m → nth es f = some s → CV.Rel F w [] (cellOf s ((σ.at i).at f)) (val i f)

theorem flatL_one {F w} {k m : Nat} {es : List Sh} {σ : Val} {val : Nat → Nat → Value} (hk : es.length = k) (hr : ∀ i f s, i < m → nth es f = some s → CV.Rel F w [] (cellOf s ((σ.at i).at f)) (val i f)) : ∀ u ∈ flatL k m val, u.oneCell' = true := by
  intro u hu
  obtain ⟨j, hj⟩ := List.getElem?_of_mem hu
  obtain ⟨i, f, hi, hf, _, rfl⟩ := flatL_inv hj
  obtain ⟨s, hs⟩ := shape_at (es := es) (f := f) (by omega)
  exact (hr i f s hi hs).one

theorem srcOk {F w bs mem} (hm : MemRel F w bs mem) {t e' : TypeId} (ht : P.underlying t = some (.slice e')) {x : A1} {es : List Sh} {m : Nat} {σ : Val} (h : srcOf mem x = some (es, m, σ)) {k : Nat} (hk : es.length = k) {u : Value} (hu : A1.Rel F w bs x u) :
    ∃ val, SrcOk P F w k t es m σ u val := by
  have nilcase : ∀ base c, m = 0 → u = .slice base 0 c → SrcOk P F w k t es m σ u (fun _ _ => undef) := by
    intro base c h0 he
    subst h0; subst he
    have hfl : flatL k 0 (fun _ _ => undef) = [] := by simp [flatL]
    refine ⟨?_, fun h => by omega, fun i f s hi => by omega⟩
    rw [hfl]
    cases base with
    | none => exact Src.ofNil w ht c
    | some a => exact Src.ofSlice w ht a 0 c [] (by simp) (by simp) (by simp)
  unfold srcOf at h
  split at h
  · rename_i es0 m ρ0
    simp at h
    obtain ⟨rfl, rfl, rfl⟩ := h
    cases hu with
    | slnil => exact ⟨_, nilcase none 0 rfl rfl⟩
    | sl val hn h0 hc hr =>
      rename_i cap a
      rcases Nat.eq_zero_or_pos m with hz | hz
      · subst hz; exact ⟨_, nilcase (some a) cap rfl rfl⟩
      · have hcell : ∀ j z, (flatL k m val)[j]? = some z → w.cell? (a.add j) = some z := by
          intro j z hj
          obtain ⟨i, f, hi, hf, rfl, rfl⟩ := flatL_inv hj
          rw [addr_eq (h0 hz).1, ← hk]
          exact hc i f hi (by omega)
        exact ⟨val, Src.ofSlice w ht a m cap _ (flatL_length _ _ _) hcell (flatL_one hk hr), fun _ => ⟨a, cap, rfl, hcell⟩, hr⟩
  · rename_i b sz
    split at h
    · rename_i T fz es' n' ρ' hrow
      split at h
      · simp at h
        obtain ⟨rfl, rfl, rfl⟩ := h
        have hrow := rowAt_some hrow
        cases hu with
        | os hb hbase =>
          rename_i x base
          have hr := hm.row b T fz _ _ _ x hrow hb
          have hn := hr.len
          rcases Nat.eq_zero_or_pos n' with hz | hz
          · have hc := hr.cap0 hz
            exact ⟨_, nilcase base 0 hz (by rw [hn, hc, hz])⟩
          · obtain ⟨arr, ha, hs, val, h3, h4⟩ := hr.block hz
            have hbs := hbase (by omega)
            subst hbs
            have hcell : ∀ j z, (flatL k n' val)[j]? = some z → w.cell? ((⟨x.p, 0, none⟩ : Addr).add j) = some z := by
              intro j z hj
              obtain ⟨i, f, hi, hf, rfl, rfl⟩ := flatL_inv hj
              rw [addr_eq rfl, cell_of_row w x.p _ arr T _ ha, Nat.zero_add, ← hk]
              exact h3 i f hi (by omega)
            rw [hn]
            exact ⟨val, Src.ofSlice w ht _ n' x.cap _ (flatL_length _ _ _) hcell (flatL_one hk h4), fun _ => ⟨_, x.cap, rfl, hcell⟩, h4⟩
      · simp at h
    · simp at h
  · simp at h

/-- nothing is appended -/
theorem append_zero {w : World} {t ty e : TypeId} {i : TypeInfo} (ht : P.underlying t = some (.slice e)) (hi : P.info? e = some i) (base : Option Addr) (n cap : Nat) (hn : n ≤ cap) {u : Value} (hs : Src P i.size t u 0 [] w) :
    (Builtin.append_ #[t, t] ty #[.slice base n cap, u]).run P w = .ok (.slice base n cap) w := by
  have hz := hs.cells
  cases base with
  | none => simp [Builtin.append_, run_underlying ht, sizeOf, typeInfo, hi, hs.len, hz, hn]
  | some a => simp [Builtin.append_, run_underlying ht, sizeOf, typeInfo, hi, hs.len, hz, hn, storeCells]

end
end Go.Sx
