/-
  The evaluator in use: summaries of functions that work on the memory, out of the evaluator; the keys of joined ways.
-/
import Derived.Test.YtjiennnkbompkaaEngX
import Derived.Test.YtjiennnkbompkaaEngZ
import Derived.Test.YtjiennnkbompkaaEngU
namespace Go.Sx
open Go Go.RowKit

/-- **A summary of a function that works on the memory, out of the evaluator.** -/
theorem mcOne_of_all {P : Program} {H : Hd} (hH : HdOk P H) (n f : Nat) {G : List A1 → Mem → Tree (AV × Mem)}
    (h : ∀ args mem r mem', (G args mem).sel = some (r, mem') → (evFn P H n f args mem).All (fun y => WkR mem.length y (r, mem'))) : McOne P f G := by
  intro args mem r mem' hG F w bs vs hm hargs
  obtain ⟨y, hsel, hw⟩ := all_sel (h args mem r mem' hG)
  refine (evFn_ok hH n f args mem y.1 y.2 hsel F w bs vs hm hargs).mono fun e w2 ⟨u, F', bs', he, hext, hm', hu⟩ => ?_
  obtain ⟨F2, bs2, e2, m2, r2⟩ := hw F' w2 bs' u (by have := hext.le; have := hm.len; omega) hm' hu
  rw [← hm.len] at e2
  exact ⟨u, F2, bs2, he, hext.trans e2 (Nat.le_refl _), m2, r2⟩

theorem mcOne_of_tree {P : Program} {H : Hd} (hH : HdOk P H) (n f : Nat) {G : List A1 → Mem → Tree (AV × Mem)}
    (h : ∀ args mem r mem', (G args mem).sel = some (r, mem') → ∃ u, evFn P H n f args mem = u ∧ u.All (fun y => y = (r, mem'))) : McOne P f G :=
  mcOne_of_all hH n f fun args mem r mem' hG => by
    obtain ⟨u, hu, ha⟩ := h args mem r mem' hG
    rw [hu]
    exact All.imp (fun _ h => h ▸ WkR.refl) ha

/-- the keys that say that a function's ways out, or the two ways of its conditions, are joined -/
def jF (f : Nat) : Nat × (List A1 → Tree AV) := (4294967296 + f, fun _ => .fail)
def jI (f : Nat) : Nat × (List A1 → Tree AV) := (8589934592 + f, fun _ => .fail)
theorem jF_ok {P : Program} (f : Nat) : TcOne P (4294967296 + f) (fun _ => .fail) := fun _ _ h => by simp [Tree.sel] at h
theorem jI_ok {P : Program} (f : Nat) : TcOne P (8589934592 + f) (fun _ => .fail) := fun _ _ h => by simp [Tree.sel] at h
theorem HdOk.jF {P : Program} {pc hc lh mc} (h : HdOk P ⟨pc, hc, lh, mc⟩) (f : Nat) : HdOk P ⟨Sx.jF f :: pc, hc, lh, mc⟩ := h.tcCons (jF_ok f)
theorem HdOk.jI {P : Program} {pc hc lh mc} (h : HdOk P ⟨pc, hc, lh, mc⟩) (f : Nat) : HdOk P ⟨Sx.jI f :: pc, hc, lh, mc⟩ := h.tcCons (jI_ok f)

/-- the key that says that tails of one's own slices are followed -/
def tailK : Nat × (List A1 → Tree AV) := (4294967293, fun _ => .fail)
theorem HdOk.tail {P : Program} {pc hc lh mc} (h : HdOk P ⟨pc, hc, lh, mc⟩) : HdOk P ⟨tailK :: pc, hc, lh, mc⟩ := h.tcCons (fun _ _ h => by simp [Tree.sel] at h)

/-- slices of the same elements -/
theorem leC_ext {es : List Sh} {n : Nat} {ρ σ : Val} (h : ∀ i f s, i < n → nth es f = some s → cellOf s ((ρ.at i).at f) = cellOf s ((σ.at i).at f)) : leC (.sl es n ρ) (.sl es n σ) := fun F w v hv => by
  cases hv with
  | slnil => exact .slnil
  | sl val hn h0 hc hr => exact .sl val hn h0 hc fun i f s hi hf => h i f s hi hf ▸ hr i f s hi hf

/-! ### a nil slice in the memory, as plain data without elements -/

def St.flatM (b o : Nat) (es : List Sh) (s : St) : St :=
  match nth s.mem b with
  | some (some (T, cs)) => match nth cs o with
    | some .nils => ⟨s.tmps, setN s.mem b (some (T, setN cs o (.sl es 0 Val.zero)))⟩
    | _ => s
  | _ => s

theorem isRowL_len {cs : List CV} (h : isRowL cs = true) : cs.length = 1 := by
  obtain ⟨fz, es, n, ρ, rfl⟩ := isRowL_iff h
  rfl

theorem StRel.flatM {F w bs s} {a : Act} (hs : StRel F w bs s a) (b o : Nat) (es : List Sh) : StRel F w bs (s.flatM b o es) a := by
  unfold St.flatM
  split
  · rename_i T cs hb
    split
    · rename_i ho
      have hlt := nth_lt ho
      have hnr : isRowL cs = false := by
        cases hr : isRowL cs
        · rfl
        · obtain ⟨fz, es', n, ρ, rfl⟩ := isRowL_iff hr
          cases o with
          | zero => simp [nth] at ho
          | succ o => simp [nth] at ho
      have hnr' : isRowL (setN cs o (.sl es 0 Val.zero)) = false := by
        cases hr : isRowL (setN cs o (.sl es 0 Val.zero))
        · rfl
        · have hl := isRowL_len hr
          rw [setN_length] at hl
          obtain rfl : o = 0 := by omega
          cases cs with
          | nil => simp at hl
          | cons c r =>
            have hr0 : r = [] := by
              cases r with
              | nil => rfl
              | cons _ _ => simp at hl
            subst hr0
            have e : isRowL [CV.sl es 0 Val.zero] = false := rfl
            have hr : isRowL [CV.sl es 0 Val.zero] = true := hr
            rw [e] at hr; cases hr
      have wk : MemWk s.mem (setN s.mem b (some (T, setN cs o (.sl es 0 Val.zero)))) := by
        refine ⟨by rw [setN_length]; exact Nat.le_refl _, fun k T' cs' h => ?_⟩
        rcases nth_setN h with ⟨rfl, he⟩ | ⟨_, h⟩
        · cases he
          refine ⟨cs, hb, (fun hr => by rw [hnr] at hr; cases hr), fun _ => ⟨hnr', fun F w bs vs hv => ?_⟩⟩
          refine All2.of_nth (by rw [setN_length]; exact hv.length) fun i c v hc hv' => ?_
          rcases nth_setN hc with ⟨rfl, rfl⟩ | ⟨_, hc⟩
          · obtain ⟨v', hv2, hrel⟩ := hv.nth ho
            rw [nth_eq, hv2] at hv'
            simp at hv'; subst hv'
            cases hrel
            exact .slnil
          · obtain ⟨v', hv2, hrel⟩ := hv.nth hc
            rw [nth_eq, hv2] at hv'
            simp at hv'; subst hv'
            exact hrel
        · exact ⟨cs', h, fun _ => rfl, fun hr => ⟨hr, fun _ _ _ _ h => h⟩⟩
      have hm := hs.mem.weak wk
      have e : bs ++ List.replicate ((setN s.mem b (some (T, setN cs o (.sl es 0 Val.zero)))).length - s.mem.length) (⟨w.heap.size, 0, 0⟩ : BI) = bs := by
        rw [setN_length, Nat.sub_self]; simp
      rw [e] at hm
      exact ⟨hs.defers, hs.len, hs.slots, hm⟩
    · exact hs
  · exact hs

/-- a loop that begins so -/
def flatMH (b o : Nat) (es : List Sh) (h : Nat → St → Tree (XE × St)) (K : Nat) (s : St) : Tree (XE × St) := h K (s.flatM b o es)

theorem flatMH_ok {P : Program} {c : Code} {h : Nat → St → Tree (XE × St)} (b o : Nat) (es : List Sh) (hh : LoopOk P c h) : LoopOk P c (flatMH b o es h) :=
  fun K _ x hx F w bs a hK hs Q hQ => hh K _ x hx F w bs a hK (hs.flatM b o es) Q hQ

end Go.Sx
