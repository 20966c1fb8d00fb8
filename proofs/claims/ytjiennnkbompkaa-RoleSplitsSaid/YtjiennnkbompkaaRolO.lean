/-
  The roles of sites: the law of what is allowed.
-/
import Derived.Test.YtjiennnkbompkaaRolN
namespace Go.Proofs.Ytjiennnkbompkaa
open Go Go.Sx Go.RowKit Classical

set_option maxRecDepth 100000

theorem alw_ok {x : Sit} {op : Int} (h : alw x op = true) : (chkS x != 0) = false ∧ x.l = true ∧ lt op 0 = false ∧ lt 4 op = false ∧ (x.r == 5) = false ∧ (x.r == 0) = false := by
  unfold alw at h
  cases hc : (chkS x != 0)
  · cases hl : x.l
    · rw [hc, hl] at h; simp at h
    · rw [hc, hl] at h
      have h50 : ∀ k : Int, (x.r == k) = true → x.r = k := fun k hk => by simpa using hk
      have hop : (op == 0 || op == 1 || op == 4 || op == 2 || op == 3) = true → lt op 0 = false ∧ lt 4 op = false := fun ho => by
        simp only [Bool.or_eq_true, beq_iff_eq] at ho
        rcases ho with (((rfl | rfl) | rfl) | rfl) | rfl <;> exact ⟨rfl, rfl⟩
      have key : lt op 0 = false ∧ lt 4 op = false := by
        apply hop
        revert h
        cases op == 0 <;> cases op == 1 <;> cases op == 4 <;> cases op == 2 <;> cases op == 3 <;> simp
        all_goals (cases x.r == 1 <;> cases x.r == 2 <;> cases x.r == 3 <;> cases x.r == 4 <;> simp)
      have key2 : (x.r == 5) = false ∧ (x.r == 0) = false := by
        cases h1 : (x.r == 1)
        · cases h2 : (x.r == 2)
          · cases h3 : (x.r == 3)
            · cases h4 : (x.r == 4)
              · rw [h1, h2, h3, h4] at h; simp at h
              · rw [h50 4 h4]; exact ⟨rfl, rfl⟩
            · rw [h50 3 h3]; exact ⟨rfl, rfl⟩
          · rw [h50 2 h2]; exact ⟨rfl, rfl⟩
        · rw [h50 1 h1]; exact ⟨rfl, rfl⟩
      exact ⟨rfl, rfl, key.1, key.2, key2.1, key2.2⟩
  · rw [hc] at h; simp at h

theorem alw_tab {x : Sit} (hc : (chkS x != 0) = false) (hl : x.l = true) (op : Int) : alw x op = bif x.r == 1 then op == 0 || op == 1 || op == 4 else bif x.r == 2 then (op == 2 && x.c) || op == 3 || op == 4 else bif x.r == 3 then op == 3 || op == 4 else bif x.r == 4 then op == 2 && x.c else false := by
  unfold alw
  rw [hc, hl]
  rfl

def offS (x : Sit) : Sit := { x with c := false }

noncomputable def u5 (x : Sit) (op : Int) : Tree AV :=
  let d := dec (fewN x.n)
  let P := x.r == 1
  .br (!(le (toInt64 x.n) 20)) (.leaf tT) (.need d (.need (!((((!x.l || lt op 0) || lt 4 op) == false) && ((alw x op == true) && true)) || d)
    (.br (alw x op && ((((((!x.l || lt op 0) || lt 4 op) || chkS x != 0) || x.r == 5)) || x.r == 0)) (.leaf (.one (.c (.bool false))))
      (.need d (.br (chkS x != 0 || !x.l) (.leaf tT) (.need d (.need (!(((!(alw x 0 == P)) == false) && true) || d)
        (.need (!((P == true) && ((((!(alw x 0 == P)) || (!(alw x 1 == P))) == false) && true)) || d)
          (.need (!((alw x 2 == false) && ((P == true) && ((((!(alw x 0 == P)) || (!(alw x 1 == P))) == false) && true))) || d)
            (.br (((!(alw x 0 == P)) || (!(alw x 1 == P))) || (P && (alw x 2 || alw x 3))) (.leaf (.one (.c (.bool false))))
              (.need d (.need (!(((!alw (offS x) 2) == true) && true) || d) (.need (!(((!alw (offS x) 2) == true) && true) || d)
                (.need (!((((!alw (offS x) 2) && alw (offS x) 3 == alw x 3) == true) && true) || d) (.need (!((((!alw (offS x) 2) && alw (offS x) 3 == alw x 3) == true) && true) || d)
                  (.leaf (.one (.c (.bool (bif ((!alw (offS x) 2) && alw (offS x) 3 == alw x 3) && alw (offS x) 4 == alw x 4 then true else false))))))))))))))))))))

theorem tree5 (x : Sit) (op : Int) : (evFn Try.prog H15 12 5 [x.cv, .c (I op)] []).vals = u5 x op := by kernel_rfl

theorem law5 (x : Sit) (op : Int) {F : Nat → Prop} {W : World} {vs : List Value} (h : All2 (A1.Rel F W []) [x.cv, .c (I op)] vs) :
    Calls Try.prog 5 vs.toArray W (fun e W' => e = .returned (.bool true) ∧ Below W.heap.size W W') := by
  refine law_of_tree h15 12 5 (tree5 x op) ⟨fun _ => rfl, fun h => ?_⟩ h
  have hd := small_few (small20 h)
  refine ⟨hd, by rw [hd, Bool.or_true], fun h1 => ?_, fun h1 => ⟨hd, fun _ => rfl, fun h2 => ?_⟩⟩
  · rw [Bool.and_eq_true] at h1
    obtain ⟨a, b, c, d, e, f⟩ := alw_ok h1.1
    have := h1.2
    rw [a, b, c, d, e, f] at this
    simp at this
  · rw [Bool.or_eq_false_iff] at h2
    have hl : x.l = true := by simpa using h2.2
    have ht := alw_tab h2.1 hl
    have ht' := alw_tab (x := offS x) h2.1 hl
    refine ⟨hd, by rw [hd, Bool.or_true], by rw [hd, Bool.or_true], by rw [hd, Bool.or_true], fun h3 => ?_, fun h3 => ⟨hd, by rw [hd, Bool.or_true], by rw [hd, Bool.or_true], by rw [hd, Bool.or_true], by rw [hd, Bool.or_true], ?_⟩⟩
    · simp only [ht] at h3
      cases h1 : (x.r == 1) <;> cases h2 : (x.r == 2) <;> cases h4 : (x.r == 3) <;> cases h5 : (x.r == 4) <;> rw [h1] at h3 <;> simp [h2, h4, h5] at h3
    · simp only [ht, ht']
      unfold offS
      show _ = _
      cases h1 : (x.r == 1) <;> cases h2 : (x.r == 2) <;> cases h4 : (x.r == 3) <;> cases h5 : (x.r == 4) <;> simp

end Go.Proofs.Ytjiennnkbompkaa
