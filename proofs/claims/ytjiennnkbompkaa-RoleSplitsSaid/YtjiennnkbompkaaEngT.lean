/-
  The evaluator's soundness (part T): parts of slices.
-/
import Derived.Test.YtjiennnkbompkaaEngS
namespace Go.Sx
open Go Go.RowKit

section
variable {P : Program}

inductive IntOpt : Option Int → Option Value → Prop
  | no : IntOpt none none
  | yes (k i) : IntOpt (some i) (some (.int k i))

theorem run_cut {w : World} {t e : TypeId} {j : TypeInfo} (ht : P.underlying t = some (.slice e)) (hj : P.info? e = some j) (a : Option Addr) {n cap : Nat} (hn : n ≤ cap) {lo hi : Option Int} {vlo vhi : Option Value} (h1 : IntOpt lo vlo) (h2 : IntOpt hi vhi)
    (hl0 : ∀ l, lo = some l → 0 ≤ l) (hl : (lo.getD 0).toNat ≤ (hi.getD n).toNat) (hh0 : ∀ h, hi = some h → 0 ≤ h) (hh : (hi.getD n).toNat ≤ n) :
    (Instr.slice t (.slice a n cap) vlo vhi none).run P w = .ok (.slice (if cap = (lo.getD 0).toNat then a else a.map (·.add ((lo.getD 0).toNat * j.size))) ((hi.getD n).toNat - (lo.getD 0).toNat) (cap - (lo.getD 0).toNat)) w := by
  have hs : (sizeOf e).run P w = .ok j.size w := by simp [sizeOf, typeInfo, hj]
  cases h1 with
  | no =>
    cases h2 with
    | no => simp [Instr.slice, run_underlying ht, Instr.sliceBounds, hs]
    | yes k h =>
      have := hh0 h rfl
      simp only [Option.getD_some] at hh
      simp [Instr.slice, run_underlying ht, Instr.sliceBounds, run_sliceBound w k h cap .sliceAcap this (by omega), hs]
  | yes k l =>
    have hl0 := hl0 l rfl
    cases h2 with
    | no =>
      simp only [Option.getD_some, Option.getD_none] at hl
      simp [Instr.slice, run_underlying ht, Instr.sliceBounds, run_sliceBound w k l n .sliceB hl0 (by omega), hs]
    | yes k' h =>
      have := hh0 h rfl
      simp only [Option.getD_some] at hh hl
      simp [Instr.slice, run_underlying ht, Instr.sliceBounds, run_sliceBound w k' h cap .sliceAcap this (by omega), run_sliceBound w k l h.toNat .sliceB hl0 (by omega), hs]

/-- a part of a slice that is read only -/
theorem cut_rel {F w} {bs : List BI} {es : List Sh} {n : Nat} {ρ : Val} {v : Value} (h : CV.Rel F w bs (.sl es n ρ) v) {l hh k : Nat} (hk : es.length = k) (hl : l ≤ hh) (hh' : hh ≤ n) {ρ' : Val} (hρ : ∀ i, ρ'.at i = ρ.at (l + i)) :
    ∃ a cap, v = .slice a n cap ∧ n ≤ cap ∧ CV.Rel F w bs (.sl es (hh - l) ρ') (.slice (if cap = l then a else a.map (·.add (l * k))) (hh - l) (cap - l)) := by
  cases h with
  | slnil =>
    obtain rfl : hh = 0 := by omega
    obtain rfl : l = 0 := by omega
    exact ⟨none, 0, rfl, Nat.le_refl _, .slnil⟩
  | sl val hn h0 hc hr =>
    rename_i cap a
    refine ⟨some a, cap, rfl, hn, ?_⟩
    have e : (if cap = l then some a else (some a).map (·.add (l * k))) = some (if cap = l then a else a.add (l * k)) := by split <;> rfl
    rw [e]
    refine .sl (fun i f => val (l + i) f) (by omega) (fun hp => ?_) (fun i f hi hf => ?_) (fun i f s hi hf => ?_)
    · obtain ⟨h1, h2, h3⟩ := h0 (by omega)
      rw [if_neg (by omega), addr_eq h1]
      exact ⟨rfl, h2, h3⟩
    · obtain ⟨h1, h2, h3⟩ := h0 (by omega)
      rw [if_neg (by omega), addr_eq h1]
      have := hc (l + i) f (by omega) hf
      rw [Nat.add_mul] at this
      rw [← hk]
      show w.cell? ⟨a.block, a.off + l * es.length + (i * es.length + f), none⟩ = _
      rw [← this]; congr 2; omega
    · rw [hρ]
      exact hr (l + i) f s (by omega) hf

theorem cutSl_ok {F w} {bs : List BI} {mem : Mem} {t e : TypeId} {j : TypeInfo} (ht : P.underlying t = some (.slice e)) (hj : P.info? e = some j) {es : List Sh} (hes : es.length = j.size) {n : Nat} {ρ : Val} {v : Value} (hv : CV.Rel F w bs (.sl es n ρ) v)
    {lo hi : Option Int} {vlo vhi : Option Value} (h1 : IntOpt lo vlo) (h2 : IntOpt hi vhi) {r : AV} {mem' : Mem} (h : (cutSl es n ρ lo hi mem).sel = some (r, mem')) :
    mem' = mem ∧ ∃ z, r.Rel F w bs z ∧ (Instr.slice t v vlo vhi none).run P w = .ok z w := by
  unfold cutSl at h
  split at h
  · simp only [Tree.sel, Option.some.injEq, Prod.mk.injEq] at h
    obtain ⟨rfl, rfl⟩ := h
    obtain ⟨a, cap, rfl, hc, hr⟩ := cut_rel hv hes (l := 0) (hh := n) (Nat.zero_le _) (Nat.le_refl _) (ρ' := ρ) (fun i => by rw [Nat.zero_add])
    refine ⟨rfl, _, ?_, run_cut ht hj a hc h1 h2 (fun _ h => by cases h) (by simp) (fun _ h => by cases h) (by simp)⟩
    exact hr
  · rename_i hh
    simp only [Tree.sel] at h
    cases hc : (le 0 hh && le hh (toInt64 n)) <;> simp [hc] at h
    obtain ⟨rfl, rfl⟩ := h
    rw [Bool.and_eq_true, le_iff, le_iff] at hc
    have hc2 : hh ≤ (n : Int) := hc.2
    obtain ⟨a, cap, rfl, hcap, hr⟩ := cut_rel hv hes (l := 0) (hh := hh.toNat) (Nat.zero_le _) (by omega) (ρ' := ρ) (fun i => by rw [Nat.zero_add])
    refine ⟨rfl, _, ?_, run_cut ht hj a hcap h1 h2 (fun _ h => by cases h) (by simp) (fun _ h => by cases h; exact hc.1) (by simp; omega)⟩
    exact hr
  · rename_i l
    simp only [Tree.sel] at h
    cases hc : (le 0 l && le l (toInt64 n)) <;> simp [hc] at h
    obtain ⟨rfl, rfl⟩ := h
    rw [Bool.and_eq_true, le_iff, le_iff] at hc
    have hc2 : l ≤ (n : Int) := hc.2
    obtain ⟨a, cap, rfl, hcap, hr⟩ := cut_rel hv hes (l := l.toNat) (hh := n) (by omega) (Nat.le_refl _) (ρ' := ρ.from l.toNat) (fun i => rfl)
    refine ⟨rfl, _, ?_, run_cut ht hj a hcap h1 h2 (fun _ h => by cases h; exact hc.1) (by simp; omega) (fun _ h => by cases h) (by simp)⟩
    exact hr
  · rename_i l hh
    simp only [Tree.sel] at h
    cases hc : (le 0 l && le l hh && le hh (toInt64 n)) <;> simp [hc] at h
    obtain ⟨rfl, rfl⟩ := h
    rw [Bool.and_eq_true, Bool.and_eq_true, le_iff, le_iff, le_iff] at hc
    have hc2 : hh ≤ (n : Int) := hc.2
    obtain ⟨a, cap, rfl, hcap, hr⟩ := cut_rel hv hes (l := l.toNat) (hh := hh.toNat) (by omega) (by omega) (ρ' := ρ.from l.toNat) (fun i => rfl)
    refine ⟨rfl, _, ?_, run_cut ht hj a hcap h1 h2 (fun _ h => by cases h; exact hc.1.1) (by simp; omega) (fun _ h => by cases h; omega) (by simp; omega)⟩
    exact hr

theorem IntOpt.zero {lo : Option Int} {vlo : Option Value} (h : IntOpt lo vlo) (hz : isZero lo = true) : vlo = none ∨ ∃ k, vlo = some (.int k 0) := by
  cases h with
  | no => exact .inl rfl
  | yes k i =>
    have : i = 0 := by simpa [isZero] using hz
    subst this
    exact .inr ⟨k, rfl⟩

theorem run_cut0 {w : World} {t e : TypeId} {j : TypeInfo} (ht : P.underlying t = some (.slice e)) (hj : P.info? e = some j) (a : Option Addr) (n cap : Nat) {vlo : Option Value} (h1 : vlo = none ∨ ∃ k, vlo = some (.int k 0)) (k k' : IntKind) :
    (Instr.slice t (.slice a n cap) vlo (some (.int k 0)) (some (.int k' 0))).run P w = .ok (.slice a 0 0) w := by
  have hs : (sizeOf e).run P w = .ok j.size w := by simp [sizeOf, typeInfo, hj]
  rcases h1 with rfl | ⟨k'', rfl⟩
  · simp [Instr.slice, run_underlying ht, Instr.sliceBounds, run_sliceBound, hs]
  · simp [Instr.slice, run_underlying ht, Instr.sliceBounds, run_sliceBound, hs]

theorem run_cutnil {w : World} {t e : TypeId} {j : TypeInfo} (ht : P.underlying t = some (.slice e)) (hj : P.info? e = some j) {vlo vhi : Option Value} (h1 : vlo = none ∨ ∃ k, vlo = some (.int k 0)) (h2 : vhi = none ∨ ∃ k, vhi = some (.int k 0)) :
    (Instr.slice t (.slice none 0 0) vlo vhi none).run P w = .ok (.slice none 0 0) w := by
  have hs : (sizeOf e).run P w = .ok j.size w := by simp [sizeOf, typeInfo, hj]
  rcases h1 with rfl | ⟨k, rfl⟩ <;> rcases h2 with rfl | ⟨k', rfl⟩ <;> simp [Instr.slice, run_underlying ht, Instr.sliceBounds, run_sliceBound, hs]

theorem slice_ok {F w bs mem} (hm : MemRel F w bs mem) {t : TypeId} {a : A1} {lo hi mx : Option Int} {vlo vhi vmx : Option Value} (h1 : IntOpt lo vlo) (h2 : IntOpt hi vhi) (h3 : IntOpt mx vmx) {r : AV} {mem' : Mem} (h : (evSlice P mem t a lo hi mx).sel = some (r, mem')) {v : Value} (ha : A1.Rel F w bs a v) :
    ∃ F' bs' z, Ext bs.length F w bs F' w bs' ∧ MemRel F' w bs' mem' ∧ r.Rel F' w bs' z ∧ (Instr.slice t v vlo vhi vmx).run P w = .ok z w := by
  unfold evSlice at h
  split at h
  · rename_i e ht
    split at h
    · rename_i j hj
      split at h
      · rename_i m
        split at h
        · rename_i hcond
          rw [Bool.and_eq_true, Bool.and_eq_true] at hcond
          obtain ⟨⟨hm0, hlo⟩, hhi⟩ := hcond
          have hm0 := eq_of_beq hm0
          subst hm0
          obtain ⟨km, rfl⟩ : ∃ k, vmx = some (.int k 0) := by cases h3; exact ⟨_, rfl⟩
          obtain ⟨kh, rfl⟩ : ∃ k, vhi = some (.int k 0) := by
            cases h2 with
            | no => cases hhi
            | yes k i =>
              have : i = 0 := by simpa [isZero0] using hhi
              subst this
              exact ⟨k, rfl⟩
          have hlo := h1.zero hlo
          have lay : ∀ (es : List Sh) (ρ : Val) (base : Option Addr) (n cap : Nat), v = .slice base n cap → ∃ F' bs' z, Ext bs.length F w bs F' w bs' ∧ MemRel F' w bs' (mem ++ [some (e, [.row false es 0 ρ])]) ∧ AV.Rel F' w bs' (.one (.c (.os mem.length j.size))) z ∧ (Instr.slice t v vlo (some (.int kh 0)) (some (.int km 0))).run P w = .ok z w := by
            intro es ρ base n cap hv
            subst hv
            obtain ⟨he, hm2⟩ := hm.lay0 e es rfl ρ
            exact ⟨F, _, _, he, hm2, CV.Rel.os (x := ⟨w.heap.size, 0, 0⟩) (by rw [← hm.len]; exact nth_append_last _ _) (fun h => by simp at h), run_cut0 ht hj base n cap hlo kh km⟩
          split at h
          · simp only [Tree.sel, Option.some.injEq, Prod.mk.injEq] at h
            obtain ⟨rfl, rfl⟩ := h
            cases ha
            exact ⟨F, bs, _, Ext.refl, hm, CV.Rel.nils, run_cut0 ht hj none 0 0 hlo kh km⟩
          · split at h
            · simp only [Tree.sel, Option.some.injEq, Prod.mk.injEq] at h
              obtain ⟨rfl, rfl⟩ := h
              refine (show ∃ base n cap, v = .slice base n cap from ?_).elim fun base hb => hb.elim fun n hb => hb.elim fun cap hb => lay _ _ base n cap hb
              cases ha
              · exact ⟨_, _, _, rfl⟩
              · exact ⟨_, _, _, rfl⟩
            · simp [Tree.sel] at h
          · split at h
            · split at h
              · simp only [Tree.sel, Option.some.injEq, Prod.mk.injEq] at h
                obtain ⟨rfl, rfl⟩ := h
                refine (show ∃ base n cap, v = .slice base n cap from ?_).elim fun base hb => hb.elim fun n hb => hb.elim fun cap hb => lay _ _ base n cap hb
                cases ha
                exact ⟨_, _, _, rfl⟩
              · simp [Tree.sel] at h
            · simp [Tree.sel] at h
          · simp [Tree.sel] at h
        · simp [Tree.sel] at h
      · cases h3
        split at h
        · split at h
          · rename_i hes
            obtain ⟨rfl, z, hz, hrun⟩ := cutSl_ok ht hj (by simpa using hes) ha h1 h2 h
            exact ⟨F, bs, z, Ext.refl, hm, hz, hrun⟩
          · simp [Tree.sel] at h
        · split at h
          · rename_i hc
            rw [Bool.and_eq_true] at hc
            simp only [Tree.sel, Option.some.injEq, Prod.mk.injEq] at h
            obtain ⟨rfl, rfl⟩ := h
            cases ha
            exact ⟨F, bs, _, Ext.refl, hm, CV.Rel.nils, run_cutnil ht hj (h1.zero hc.1) (h2.zero hc.2)⟩
          · simp [Tree.sel] at h
        · rename_i b sz
          split at h
          · rename_i T fz es n ρ hrow
            split at h
            · rename_i hc
              simp only [Bool.and_eq_true, beq_iff_eq] at hc
              obtain ⟨⟨hes, hsz⟩, hT⟩ := hc
              subst hT
              have hrow := rowAt_some hrow
              obtain ⟨x, hb⟩ : ∃ x, nth bs b = some x := by cases ha; exact ⟨_, by assumption⟩
              split at h
              · -- a head that stays one's own
                rename_i hh _
                simp only [Tree.sel] at h
                cases hc : (lt 0 hh && le hh (toInt64 n)) <;> simp [hc] at h
                obtain ⟨rfl, rfl⟩ := h
                rw [Bool.and_eq_true, lt_iff, le_iff] at hc
                have hc2 : hh ≤ (n : Int) := hc.2
                have hr := hm.row b T false es n ρ x hrow hb
                have hn0 : 0 < n := by omega
                obtain ⟨arr, harr, hs', val, h3', h4'⟩ := hr.block hn0
                have hlive : liveL [CV.row false es n ρ] := ⟨rfl, hn0⟩
                have hF := hm.loc b x T _ hb hrow hlive
                have hinj := hm.rewrite_inj hb hrow hlive
                have hlen : (setN mem b none).length = mem.length := setN_length _ _ _
                have hkill := hm.kill b
                refine ⟨F, bs ++ [⟨x.p, hh.toNat, x.cap⟩], .slice (some ⟨x.p, 0, none⟩) hh.toNat x.cap, Ext.refl.push (.inl ⟨x, nth_mem hb, rfl⟩), hkill.push ⟨x.p, hh.toNat, x.cap⟩ (fun _ => hF) (fun _ => hinj) (fun h => by simp [isRowL] at h) (fun fz' es' n' ρ' h => ?_),
                  CV.Rel.os (x := ⟨x.p, hh.toNat, x.cap⟩) (by rw [← hlen, ← hkill.len]; exact nth_append_last _ _) (fun _ => rfl), ?_⟩
                · simp at h
                  obtain ⟨rfl, rfl, rfl, rfl⟩ := h
                  have := (hr.cap hn0)
                  exact ⟨rfl, fun h => by omega, fun _ => ⟨by simp only; omega, this.2⟩, fun _ => ⟨arr, harr, hs', val, fun i f hi => h3' i f (by omega), fun i f s hi => h4' i f s (by omega)⟩, fun _ h => by cases h⟩
                · cases ha with
                  | os hb' hbase =>
                    rename_i y base
                    rw [hb] at hb'; simp at hb'; subst hb'
                    have hbs := hbase (by rw [hr.len]; exact hn0)
                    subst hbs
                    have := (hr.cap hn0).1
                    have hcut := run_cut (P := P) (w := w) ht hj (some ⟨x.p, 0, none⟩) (n := x.n) (cap := x.cap) (by rw [hr.len]; exact this) h1 h2 (fun _ h => by cases h) (by simp) (fun _ h => by cases h; omega) (by rw [hr.len]; simp; omega)
                    rw [hcut]
                    simp only [Option.getD_none, Option.getD_some, Int.toNat_zero, Nat.sub_zero, Nat.zero_mul]
                    rw [if_neg (by omega)]
                    simp [addr_eq]
              · -- frozen
                obtain ⟨F', he, hm2, hok, hF⟩ := hm.freeze hb hrow
                have hsl := os_sl hb hok hF (by omega) ha bs
                obtain ⟨rfl, z, hz, hrun⟩ := cutSl_ok ht hj hes hsl h1 h2 h
                exact ⟨F', bs, z, he, hm2, hz, hrun⟩
            · simp [Tree.sel] at h
          · simp [Tree.sel] at h
        · simp [Tree.sel] at h
    · simp [Tree.sel] at h
  · simp [Tree.sel] at h

theorem slice_type {mem : Mem} {t : TypeId} {a : A1} {lo hi mx : Option Int} {q : AV × Mem} (h : (evSlice P mem t a lo hi mx).sel = some q) : ∃ e, P.underlying t = some (.slice e) := by
  unfold evSlice at h
  split at h
  · rename_i e ht; exact ⟨e, ht⟩
  · simp [Tree.sel] at h

end
end Go.Sx
