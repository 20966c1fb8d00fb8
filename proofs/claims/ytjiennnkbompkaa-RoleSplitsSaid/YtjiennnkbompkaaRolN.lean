/-
  The roles of sites: what is allowed.
-/
import Derived.Test.YtjiennnkbompkaaRolM
namespace Go.Proofs.Ytjiennnkbompkaa
open Go Go.Sx Go.RowKit Classical

set_option maxRecDepth 100000

/-- is an operation allowed? -/
def alw (x : Sit) (op : Int) : Bool := bif chkS x != 0 || !x.l then false else bif x.r == 1 then op == 0 || op == 1 || op == 4 else bif x.r == 2 then (op == 2 && x.c) || op == 3 || op == 4 else bif x.r == 3 then op == 3 || op == 4 else bif x.r == 4 then op == 2 && x.c else false

noncomputable def Galw : List A1 → Option (Bool × AV)
  | [.agg [.int .i64 a, .int .i64 r, .int .i64 e, .int .i64 p, .sl [.int .i64, .int .i64, .int .i64] n ρ, .int .i64 s, .bool l, .bool c], .c (.int .i64 op)] => some (dec (fewN n), .one (.c (.bool (alw ⟨a, r, e, p, n, ρ, s, l, c⟩ op))))
  | _ => none

theorem p33 : TcOne Try.prog 33 (nG Galw) := tcOne_of_tree h14 12 33 fun args r h => by
  unfold Galw at h; split at h
  · rename_i a r e p n ρ s l c op
    obtain ⟨hp, rfl⟩ := Prod.mk.inj (Option.some.inj h)
    refine ⟨rfl, .need (dec (fewN n)) (.br (chkS ⟨a, r, e, p, n, ρ, s, l, c⟩ != 0 || !l) (.leaf (.one (.c (.bool false)))) (.br (r == 1) (.leaf (.one (.c (.bool (op == 0 || op == 1 || op == 4)))))
      (.br (r == 2) (.leaf (.one (.c (.bool ((op == 2 && c) || op == 3 || op == 4))))) (.br (r == 3) (.leaf (.one (.c (.bool (op == 3 || op == 4))))) (.br (r == 4) (.leaf (.one (.c (.bool (op == 2 && c))))) (.leaf (.one (.c (.bool false))))))))), by kernel_rfl, hp, fun h0 => ?_, fun h0 => ⟨fun h1 => ?_, fun h1 => ⟨fun h2 => ?_, fun h2 => ⟨fun h3 => ?_, fun h3 => ⟨fun h4 => ?_, fun h4 => ?_⟩⟩⟩⟩⟩
    all_goals
      show _ = _
      unfold alw
    · rw [h0]; rfl
    · rw [h0, h1]; rfl
    · rw [h0, h1, h2]; rfl
    · rw [h0, h1, h2, h3]; rfl
    · rw [h0, h1, h2, h3, h4]; rfl
    · rw [h0, h1, h2, h3, h4]; rfl
  · cases h

noncomputable abbrev HA : Hd := ⟨[(23, nG Gchk), (47, oG G47)], [], [], []⟩
theorem hA : HdOk Try.prog HA := (HdOk.nil.pcCons p47).tcCons p23

def g22 (x : Sit) (op : Int) : Bool := bif (bif chkS x == 0 then x.l else false) then le 0 op && le op 4 else false

theorem tree22 (a r e p : Int) (n : Nat) (ρ : Val) (s : Int) (l c : Bool) (op : Int) (g : Bool) (hg : g = ((g22 ⟨a, r, e, p, n, ρ, s, l, c⟩ op == true) && true)) : (evFn Try.prog HA 12 22 [.agg [I a, I r, I e, I p, .sl spSh n ρ, I s, .bool l, .bool c], .c (I op)] []).vals =
    .need (dec (fewN n)) (.need (!g || inRange r 6) (.need (!g) (.need (!g) (.need (!g) (.leaf (.one (.c (.bool (bif g22 ⟨a, r, e, p, n, ρ, s, l, c⟩ op then false else false)))))))))  := by
  subst hg
  kernel_rfl

def tab (r op : Int) (c : Bool) : Bool := bif r == 1 then op == 0 || op == 1 || op == 4 else bif r == 2 then (bif op == 2 then c else op == 3 || op == 4) else bif r == 3 then op == 3 || op == 4 else bif r == 4 then op == 2 && c else false

def at22 (a e p : Int) (n : Nat) (ρ : Val) (s : Int) (l c : Bool) (r op : Int) : Prop := (evFn Try.prog H14 12 22 [.agg [I a, I r, I e, I p, .sl spSh n ρ, I s, .bool l, .bool c], .c (I op)] []).vals =
    .need (dec (fewN n)) (.leaf (.one (.c (.bool (bif g22 ⟨a, r, e, p, n, ρ, s, l, c⟩ op then tab r op c else false)))))

theorem le_cases {x : Int} {n : Nat} (h0 : 0 ≤ x) (h1 : x ≤ n) : ∃ k : Nat, k ≤ n ∧ x = k := ⟨x.toNat, by omega, by omega⟩

theorem at22_ok (a e p : Int) (n : Nat) (ρ : Val) (s : Int) (l c : Bool) (r op : Int) (hr0 : 0 ≤ r) (hr1 : r ≤ 5) (ho0 : 0 ≤ op) (ho1 : op ≤ 4) : at22 a e p n ρ s l c r op := by
  have hr : r = 0 ∨ r = 1 ∨ r = 2 ∨ r = 3 ∨ r = 4 ∨ r = 5 := by omega
  have ho : op = 0 ∨ op = 1 ∨ op = 2 ∨ op = 3 ∨ op = 4 := by omega
  rcases hr with rfl | rfl | rfl | rfl | rfl | rfl <;> rcases ho with rfl | rfl | rfl | rfl | rfl <;> (unfold at22; show _ = _; kernel_rfl)

theorem chk_role {x : Sit} (h : (chkS x == 0) = true) : 0 ≤ x.r ∧ x.r ≤ 5 := by
  have h : chkS x = 0 := by simpa using h
  unfold chkS chk at h
  cases h1 : sit x.a
  · rw [h1] at h; simp at h
  cases h2 : (le 0 x.r && le x.r 5)
  · rw [h1, h2] at h; simp at h
  · simpa [le_iff] using h2

theorem p22 : TcOne Try.prog 22 (nG Galw) := fun args r hr hcl => by
  have hG := nG_sel hr
  have hG0 := hG
  unfold Galw at hG
  split at hG
  · rename_i a ro e p n ρ s l c op
    obtain ⟨hp, rfl⟩ := Prod.mk.inj (Option.some.inj hG)
    cases hg : g22 ⟨a, ro, e, p, n, ρ, s, l, c⟩ op
    · refine tcOne_of_tree hA 12 22 (G := fun args' => if args' = [.agg [I a, I ro, I e, I p, .sl spSh n ρ, I s, .bool l, .bool c], .c (I op)] then some (dec (fewN n), .one (.c (.bool (alw ⟨a, ro, e, p, n, ρ, s, l, c⟩ op)))) else none) (fun args' r' h' => ?_) _ _ ?_ hcl
      · skip
        split at h'
        · rename_i he
          subst he
          obtain ⟨hp', rfl⟩ := Prod.mk.inj (Option.some.inj h')
          refine ⟨rfl, _, tree22 a ro e p n ρ s l c op _ rfl, ?_⟩
          rw [hg]
          refine ⟨hp, rfl, rfl, rfl, rfl, ?_⟩
          have : alw ⟨a, ro, e, p, n, ρ, s, l, c⟩ op = false := by
            unfold g22 at hg
            unfold alw
            cases hc : (chkS ⟨a, ro, e, p, n, ρ, s, l, c⟩ == 0)
            · simp [bne, hc]
            · cases l
              · simp
              · rw [hc] at hg
                simp only [cond_true] at hg
                have h0 : ¬ (0 ≤ op ∧ op ≤ 4) := by
                  rintro ⟨h1, h2⟩
                  rw [(le_iff _ _).2 h1, (le_iff _ _).2 h2] at hg
                  cases hg
                have h1 : (op == 0) = false := by simp; omega
                have h2 : (op == 1) = false := by simp; omega
                have h3 : (op == 2) = false := by simp; omega
                have h4 : (op == 3) = false := by simp; omega
                have h5 : (op == 4) = false := by simp; omega
                simp [h1, h2, h3, h4, h5]
          rw [this]
          rfl
        · cases h'
      · simp [nG, hp, Tree.sel]
    · refine tcOne_of_tree h14 12 22 (G := fun args' => if args' = [.agg [I a, I ro, I e, I p, .sl spSh n ρ, I s, .bool l, .bool c], .c (I op)] then some (dec (fewN n), .one (.c (.bool (alw ⟨a, ro, e, p, n, ρ, s, l, c⟩ op)))) else none) (fun args' r' h' => ?_) _ _ ?_ hcl
      · skip
        split at h'
        · rename_i he
          subst he
          obtain ⟨hp', rfl⟩ := Prod.mk.inj (Option.some.inj h')
          have hgg := hg
          unfold g22 at hg
          cases hc : (chkS ⟨a, ro, e, p, n, ρ, s, l, c⟩ == 0)
          · rw [hc] at hg; simp at hg
          · cases l
            · rw [hc] at hg; simp at hg
            · rw [hc] at hg
              simp only [cond_true, Bool.and_eq_true, le_iff] at hg
              have hr := chk_role hc
              refine ⟨rfl, _, at22_ok a e p n ρ s true c ro op hr.1 hr.2 hg.1 hg.2, hp, ?_⟩
              rw [hgg]
              show _ = _
              have e2 : (bif op == 2 then c else op == 3 || op == 4) = ((op == 2 && c) || op == 3 || op == 4) := by
                cases h2 : (op == 2)
                · simp
                · have : op = 2 := by simpa using h2
                  subst this
                  simp
              unfold alw tab
              rw [e2]
              simp [bne, hc]
        · cases h'
      · simp [nG, hp, Tree.sel]
  · cases hG

noncomputable abbrev H15 : Hd := ⟨(22, nG Galw) :: (33, nG Galw) :: H14.pc, H14.hc, [], H14.mc⟩
theorem h15 : HdOk Try.prog H15 := (h14.tcCons p33).tcCons p22

end Go.Proofs.Ytjiennnkbompkaa
