/-
  The evaluator's soundness (part D): each operation that touches no memory.
-/
import Derived.Test.YtjiennnkbompkaaEngC
namespace Go.Sx
open Go

section
variable {P : Program} {F : Nat → Prop} {w : World} {bs : List BI}

theorem eqGuard_cell {op : BinOp} {t : TypeId} {x y : Operand} {a b : Value} (h : a ≠ .nilIface) (h2 : ∀ c, a ≠ .agg c) (w' : World) : (eqGuard op t x y a b).run P w' = .ok () w' := by
  unfold eqGuard
  simp only [Sem.run_ite, Sem.run_pure]
  split
  all_goals simp only [Bool.not_true, Bool.not_false, Bool.false_eq_true, if_false, if_true]
  all_goals (cases a <;> first | rfl | exact (h rfl).elim | exact (h2 _ rfl).elim)

theorem eqGuard_agg {op : BinOp} {t : TypeId} {x y : Operand} {a b : Array Value} (h : P.eqGuardType P.depth t = false) (w' : World) : (eqGuard op t x y (.agg a) (.agg b)).run P w' = .ok () w' := by
  unfold eqGuard
  simp only [Sem.run_ite, Sem.run_pure]
  split
  all_goals simp only [Bool.not_true, Bool.not_false, Bool.false_eq_true, if_false, if_true]
  all_goals simp [h]

theorem run_equalIn_nils (d : Nat) (t : TypeId) {e : TypeId} (hu : P.underlying t = some (.slice e)) (w' : World) : (Op.equalIn (d + 1) t (.slice none 0 0) (.slice none 0 0)).run P w' = .ok true w' := by
  simp [Op.equalIn, run_underlying hu]
theorem run_equalIn_nilp (d : Nat) (t : TypeId) {e : TypeId} (hu : P.underlying t = some (.pointer e)) (w' : World) : (Op.equalIn (d + 1) t (.pointer none) (.pointer none)).run P w' = .ok true w' := by
  simp [Op.equalIn, run_underlying hu]
theorem run_equalIn_ptrnil (d : Nat) (t : TypeId) {e : TypeId} (hu : P.underlying t = some (.pointer e)) (a : Addr) (w' : World) : (Op.equalIn (d + 1) t (.pointer (some a)) (.pointer none)).run P w' = .ok false w' := by
  simp [Op.equalIn, run_underlying hu]

theorem eqVal_ok {t : TypeId} {a b : A1} {e : Bool} (h : eqVal P t a b = some e) {va vb : Value} (ha : a.Rel F w bs va) (hb : b.Rel F w bs vb) :
    (∀ op x y w', (eqGuard op t x y va vb).run P w' = .ok () w') ∧ (∀ w', (Op.equal t va vb).run P w' = .ok e w') ∧
    (∀ op w', (op = .eql → (binOp op t va vb).run P w' = .ok (.bool e) w') ∧ (op = .neq → (binOp op t va vb).run P w' = .ok (.bool (!e)) w')) := by
  have fin : (∀ op x y w', (eqGuard op t x y va vb).run P w' = .ok () w') → (∀ w', (Op.equal t va vb).run P w' = .ok e w') →
      (∀ w', (binOp .eql t va vb).run P w' = (do pure (Value.bool (← Op.equal t va vb)) : Sem Value).run P w') → (∀ w', (binOp .neq t va vb).run P w' = (do pure (Value.bool (!(← Op.equal t va vb))) : Sem Value).run P w') →
      (∀ op x y w', (eqGuard op t x y va vb).run P w' = .ok () w') ∧ (∀ w', (Op.equal t va vb).run P w' = .ok e w') ∧
    (∀ op w', (op = .eql → (binOp op t va vb).run P w' = .ok (.bool e) w') ∧ (op = .neq → (binOp op t va vb).run P w' = .ok (.bool (!e)) w')) := by
    intro h1 h2 h3 h4
    refine ⟨h1, h2, fun op w' => ⟨?_, ?_⟩⟩
    · rintro rfl; rw [h3]; simp [h2]
    · rintro rfl; rw [h4]; simp [h2]
  unfold eqVal at h
  split at h
  · rename_i p q
    split at h
    · rename_i hu
      simp at h; subst h
      cases ha; cases hb
      exact fin (fun _ _ _ w' => eqGuard_cell (by simp) (by simp) w') (fun w' => run_equalIn_bool' w' 9999 t p q hu) (fun _ => rfl) (fun _ => rfl)
    · simp at h
  · rename_i xs ys
    split at h
    · rename_i fs hu
      split at h
      · simp at h
      · rename_i hcond
        simp only [Bool.or_eq_true, not_or, Bool.not_eq_true] at hcond
        obtain ⟨vx, rfl, hx⟩ := ha
        obtain ⟨vy, rfl, hy⟩ := hb
        have hfo : P.fieldsOf t = fs := by unfold Program.fieldsOf; rw [hu]
        refine fin (fun _ _ _ w' => eqGuard_agg hcond.2 w') (fun w' => ?_) (fun _ => rfl) (fun _ => rfl)
        show (Op.equalIn (9999 + 1) t (.agg vx.toArray) (.agg vy.toArray)).run P w' = _
        rw [run_equalIn_struct w' 9999 t _ _ (by rw [hfo]; exact hu) hcond.1, hfo]
        exact eqFields_ok 9998 hx hy w' h
    · rename_i n e0 hu
      split at h
      · simp at h
      · rename_i hcond
        simp only [Bool.or_eq_true, not_or, Bool.not_eq_true, Bool.not_eq_true'] at hcond
        obtain ⟨⟨hg, hpl⟩, hinf⟩ := hcond
        have hpl : plainT P e0 = true := by simpa using hpl
        obtain ⟨i, hi⟩ : ∃ i, P.info? e0 = some i := by
          cases hh : P.info? e0 with
          | none => rw [hh] at hinf; simp at hinf
          | some i => exact ⟨i, rfl⟩
        obtain ⟨vx, rfl, hx⟩ := ha
        obtain ⟨vy, rfl, hy⟩ := hb
        refine fin (fun _ _ _ w' => eqGuard_agg hg w') (fun w' => ?_) (fun _ => rfl) (fun _ => rfl)
        show (Op.equalIn (9999 + 1) t (.agg vx.toArray) (.agg vy.toArray)).run P w' = _
        rw [run_equalIn_array w' 9999 _ _ hu hi]
        exact eqItems_ok 9998 hpl hx hy w' h
    · simp at h
  · split at h
    · rename_i e0 hu
      simp at h; subst h
      cases ha; cases hb
      refine fin (fun _ _ _ w' => eqGuard_cell (by simp) (by simp) w') (fun w' => run_equalIn_nils 9999 t hu w') (fun _ => rfl) (fun _ => rfl)
    · simp at h
  · split at h
    · rename_i e0 hu
      simp at h; subst h
      cases ha; cases hb
      refine fin (fun _ _ _ w' => eqGuard_cell (by simp) (by simp) w') (fun w' => run_equalIn_nilp 9999 t hu w') (fun _ => rfl) (fun _ => rfl)
    · simp at h
  · split at h
    · rename_i e0 hu
      simp at h; subst h
      cases ha; cases hb
      refine fin (fun _ _ _ w' => eqGuard_cell (by simp) (by simp) w') (fun w' => run_equalIn_ptrnil 9999 t hu _ w') (fun _ => rfl) (fun _ => rfl)
    · simp at h
  · simp at h

/-- what a number reads as -/
theorem lt_iff (a b : Int) : (lt a b = true) ↔ a < b := by simp [lt]
theorem le_iff (a b : Int) : (le a b = true) ↔ a ≤ b := by simp [le]

theorem evIntOp_ok {op : BinOp} {k : IntKind} {a b : Int} {r : AV} (h : (evIntOp op k a b).sel = some r) (t : TypeId) :
    ∃ v, r.Rel F w bs v ∧ ∀ w', (binOp op t (.int k a) (.int k b)).run P w' = .ok v w' := by
  have i (n : Int) : AV.Rel F w bs (.one (.c (.int k n))) (.int k n) := CV.Rel.int k n
  have bb (x : Bool) : AV.Rel F w bs (.one (.c (.bool x))) (.bool x) := CV.Rel.bool x
  unfold evIntOp at h
  cases op <;> simp only [Tree.sel, Option.some.injEq, reduceCtorEq] at h
  case add => subst h; exact ⟨_, i _, fun w' => by simp [binOp, Op.intArith]⟩
  case sub => subst h; exact ⟨_, i _, fun w' => by simp [binOp, Op.intArith]⟩
  case mul => subst h; exact ⟨_, i _, fun w' => by simp [binOp, Op.intArith]⟩
  case quo =>
    cases hb : (b == 0) <;> simp [hb] at h
    subst h
    have : b ≠ 0 := by simpa using hb
    exact ⟨_, i _, fun w' => by simp [binOp, Op.intDiv, this]⟩
  case rem =>
    cases hb : (b == 0) <;> simp [hb] at h
    subst h
    have : b ≠ 0 := by simpa using hb
    exact ⟨_, i _, fun w' => by simp [binOp, Op.intDiv, this]⟩
  case eql => subst h; exact ⟨_, bb _, fun w' => by simp [binOp, Op.intCmp]⟩
  case neq => subst h; exact ⟨_, bb _, fun w' => by simp [binOp, Op.intCmp]⟩
  case lss => subst h; exact ⟨_, bb _, fun w' => by simp [binOp, Op.intCmp, lt]⟩
  case leq => subst h; exact ⟨_, bb _, fun w' => by simp [binOp, Op.intCmp, le]⟩
  case gtr => subst h; exact ⟨_, bb _, fun w' => by simp [binOp, Op.intCmp, lt]⟩
  case geq => subst h; exact ⟨_, bb _, fun w' => by simp [binOp, Op.intCmp, le]⟩

theorem evBin_ok {op : BinOp} {t : TypeId} {x y : AV} {r : AV} (h : (evBin P op t x y).sel = some r) {u v : Value} (hx : x.Rel F w bs u) (hy : y.Rel F w bs v) (ox oy : Operand) :
    ∃ z, r.Rel F w bs z ∧ ∀ w', (do eqGuard op t ox oy u v; binOp op t u v : Sem Value).run P w' = .ok z w' := by
  unfold evBin at h
  split at h
  · rename_i k a k' b
    cases hx; cases hy
    have g : ∀ w', (eqGuard op t ox oy (.int k a) (.int k' b)).run P w' = .ok () w' := fun w' => eqGuard_cell (by simp) (by simp) w'
    simp only [Sem.run_bind, g, Result.andThen_ok]
    split at h
    · simp only [Tree.sel] at h
      cases hb : le 0 b <;> simp [hb] at h
      subst h
      have : ¬ b < 0 := by have := (le_iff 0 b).1 hb; omega
      exact ⟨_, CV.Rel.int _ _, fun w' => by simp [binOp, Op.shift, this, shlI]⟩
    · simp only [Tree.sel] at h
      cases hb : le 0 b <;> simp [hb] at h
      subst h
      have : ¬ b < 0 := by have := (le_iff 0 b).1 hb; omega
      exact ⟨_, CV.Rel.int _ _, fun w' => by simp [binOp, Op.shift, this, shrI]⟩
    · split at h
      · rename_i hk; subst hk
        exact evIntOp_ok h t
      · simp [Tree.sel] at h
  · rename_i a b
    cases hx; cases hy
    have g : ∀ w', (eqGuard op t ox oy (.string a) (.string b)).run P w' = .ok () w' := fun w' => eqGuard_cell (by simp) (by simp) w'
    simp only [Sem.run_bind, g, Result.andThen_ok]
    split at h
    · simp only [Tree.sel, Option.some.injEq] at h; subst h
      exact ⟨_, CV.Rel.bool _, fun w' => by simp [binOp, Op.stringOp]⟩
    · simp only [Tree.sel, Option.some.injEq] at h; subst h
      exact ⟨_, CV.Rel.bool _, fun w' => by simp [binOp, Op.stringOp]⟩
    · simp [Tree.sel] at h
  · rename_i a b
    split at h
    · split at h
      · rename_i e he
        simp only [Tree.sel, Option.some.injEq] at h; subst h
        obtain ⟨h1, _, h3⟩ := eqVal_ok he hx hy
        exact ⟨_, CV.Rel.bool _, fun w' => by simp only [Sem.run_bind, h1, Result.andThen_ok, (h3 _ w').1 rfl]⟩
      · simp [Tree.sel] at h
    · split at h
      · rename_i e he
        simp only [Tree.sel, Option.some.injEq] at h; subst h
        obtain ⟨h1, _, h3⟩ := eqVal_ok he hx hy
        exact ⟨_, CV.Rel.bool _, fun w' => by simp only [Sem.run_bind, h1, Result.andThen_ok, (h3 _ w').2 rfl]⟩
      · simp [Tree.sel] at h
    · simp [Tree.sel] at h
  · simp [Tree.sel] at h

theorem evUn_ok {op : UnOp} {x r : AV} (h : (evUn op x).sel = some r) {u : Value} (hx : x.Rel F w bs u) : ∃ z, r.Rel F w bs z ∧ ∀ w', (Op.unary op u).run P w' = .ok z w' := by
  unfold evUn at h
  split at h
  · rename_i b
    cases hx
    split at h
    · simp only [Tree.sel, Option.some.injEq] at h; subst h
      exact ⟨_, CV.Rel.bool _, fun w' => by simp [Op.unary]⟩
    · simp [Tree.sel] at h
  · rename_i k n
    cases hx
    split at h
    · simp only [Tree.sel, Option.some.injEq] at h; subst h
      exact ⟨_, CV.Rel.int _ _, fun w' => by simp [Op.unary, Op.intArith]⟩
    · simp [Tree.sel] at h
  · simp [Tree.sel] at h

theorem evLen_ok {t : TypeId} {x r : AV} (h : (evLen P t x).sel = some r) {u : Value} (hx : x.Rel F w bs u) (ty : TypeId) : ∃ z, r.Rel F w bs z ∧ ∀ w', (Builtin.len_ #[t] ty #[u]).run P w' = .ok z w' := by
  unfold evLen at h
  split at h
  · split at h
    · rename_i e hu
      simp only [Tree.sel, Option.some.injEq] at h; subst h
      cases hx
      · exact ⟨_, CV.Rel.int _ _, fun w' => by simp [Builtin.len_, run_underlying hu, goInt, toInt64]⟩
      · exact ⟨_, CV.Rel.int _ _, fun w' => by simp [Builtin.len_, run_underlying hu, goInt, toInt64]⟩
    · simp [Tree.sel] at h
  · split at h
    · rename_i e hu
      simp only [Tree.sel, Option.some.injEq] at h; subst h
      cases hx
      exact ⟨_, CV.Rel.int _ _, fun w' => by simp [Builtin.len_, run_underlying hu, goInt]⟩
    · simp [Tree.sel] at h
  · split at h
    · rename_i hu
      simp only [Tree.sel, Option.some.injEq] at h; subst h
      cases hx
      exact ⟨_, CV.Rel.int _ _, fun w' => by simp [Builtin.len_, run_underlying hu, goInt, toInt64]⟩
    · simp [Tree.sel] at h
  · simp [Tree.sel] at h

theorem evMaxFrom_ok {k : IntKind} : ∀ {l : List A1} {a n : Int} {vs : List Value}, evMaxFrom k a l = some n → All2 (A1.Rel F w bs) l vs → ∀ w', (vs.foldlM Builtin.max2 (Value.int k a)).run P w' = .ok (.int k n) w'
  | [], a, n, vs, h, hr, w' => by cases hr; simp [evMaxFrom] at h; subst h; simp
  | .c (.int k' b) :: r, a, n, vs, h, hr, w' => by
    cases hr with
    | cons h1 h2 =>
      cases h1
      simp only [evMaxFrom] at h
      have ih := evMaxFrom_ok h h2 w'
      simp only [List.foldlM_cons, Sem.run_bind, Builtin.max2, Sem.run_pure, Result.andThen_ok]
      rw [← ih]
      congr 3
      by_cases hlt : a < b <;> simp [imax, lt, hlt]
  | .agg _ :: _, _, _, _, h, _, _ => by simp [evMaxFrom] at h
  | .c .any :: _, _, _, _, h, _, _ => by simp [evMaxFrom] at h
  | .c (.bool _) :: _, _, _, _, h, _, _ => by simp [evMaxFrom] at h
  | .c (.str _) :: _, _, _, _, h, _, _ => by simp [evMaxFrom] at h
  | .c .nilp :: _, _, _, _, h, _, _ => by simp [evMaxFrom] at h
  | .c .nils :: _, _, _, _, h, _, _ => by simp [evMaxFrom] at h
  | .c .nilf :: _, _, _, _, h, _, _ => by simp [evMaxFrom] at h
  | .c .nili :: _, _, _, _, h, _, _ => by simp [evMaxFrom] at h
  | .c (.ptr _ _) :: _, _, _, _, h, _, _ => by simp [evMaxFrom] at h
  | .c (.rop _ _ _) :: _, _, _, _, h, _, _ => by simp [evMaxFrom] at h
  | .c (.sl _ _ _) :: _, _, _, _, h, _, _ => by simp [evMaxFrom] at h
  | .c (.fn _ _ _) :: _, _, _, _, h, _, _ => by simp [evMaxFrom] at h
  | .c (.iface _ _) :: _, _, _, _, h, _, _ => by simp [evMaxFrom] at h

theorem evMinFrom_ok {k : IntKind} : ∀ {l : List A1} {a n : Int} {vs : List Value}, evMinFrom k a l = some n → All2 (A1.Rel F w bs) l vs → ∀ w', (vs.foldlM Builtin.min2 (Value.int k a)).run P w' = .ok (.int k n) w'
  | [], a, n, vs, h, hr, w' => by cases hr; simp [evMinFrom] at h; subst h; simp
  | .c (.int k' b) :: r, a, n, vs, h, hr, w' => by
    cases hr with
    | cons h1 h2 =>
      cases h1
      simp only [evMinFrom] at h
      have ih := evMinFrom_ok h h2 w'
      simp only [List.foldlM_cons, Sem.run_bind, Builtin.min2, Sem.run_pure, Result.andThen_ok]
      rw [← ih]
      congr 3
      by_cases hlt : b < a <;> simp [imin, lt, hlt]
  | .agg _ :: _, _, _, _, h, _, _ => by simp [evMinFrom] at h
  | .c .any :: _, _, _, _, h, _, _ => by simp [evMinFrom] at h
  | .c (.bool _) :: _, _, _, _, h, _, _ => by simp [evMinFrom] at h
  | .c (.str _) :: _, _, _, _, h, _, _ => by simp [evMinFrom] at h
  | .c .nilp :: _, _, _, _, h, _, _ => by simp [evMinFrom] at h
  | .c .nils :: _, _, _, _, h, _, _ => by simp [evMinFrom] at h
  | .c .nilf :: _, _, _, _, h, _, _ => by simp [evMinFrom] at h
  | .c .nili :: _, _, _, _, h, _, _ => by simp [evMinFrom] at h
  | .c (.ptr _ _) :: _, _, _, _, h, _, _ => by simp [evMinFrom] at h
  | .c (.rop _ _ _) :: _, _, _, _, h, _, _ => by simp [evMinFrom] at h
  | .c (.sl _ _ _) :: _, _, _, _, h, _, _ => by simp [evMinFrom] at h
  | .c (.fn _ _ _) :: _, _, _, _, h, _, _ => by simp [evMinFrom] at h
  | .c (.iface _ _) :: _, _, _, _, h, _, _ => by simp [evMinFrom] at h

theorem evMM_ok {mx : Bool} {l : List A1} {r : AV} (h : (evMM mx l).sel = some r) {vs : List Value} (hr : All2 (A1.Rel F w bs) l vs) (ts : Array TypeId) (t : TypeId) :
    ∃ z, r.Rel F w bs z ∧ ∀ w', (if mx then Builtin.max_ ts t vs.toArray else Builtin.min_ ts t vs.toArray).run P w' = .ok z w' := by
  unfold evMM at h
  split at h
  · rename_i k a r'
    split at h
    · rename_i n hn
      simp only [Tree.sel, Option.some.injEq] at h; subst h
      cases hr with
      | cons h1 h2 =>
        cases h1
        refine ⟨_, CV.Rel.int _ _, fun w' => ?_⟩
        cases mx
        · simp only [Bool.false_eq_true, if_false] at hn ⊢
          simp only [Builtin.min_]
          exact evMinFrom_ok hn h2 w'
        · simp only [if_true] at hn ⊢
          simp only [Builtin.max_]
          exact evMaxFrom_ok hn h2 w'
    · simp [Tree.sel] at h
  · simp [Tree.sel] at h

theorem evArgs_ok {ρ : Operand → Option AV} {ρc : Operand → Value} (hρ : ∀ x av, ρ x = some av → av.Rel F w bs (ρc x)) : ∀ {args : List Operand} {l : List A1}, evArgs ρ args = some l → All2 (A1.Rel F w bs) l (args.map ρc)
  | [], l, h => by simp [evArgs] at h; subst h; exact .nil
  | x :: r, l, h => by
    simp only [evArgs] at h
    split at h
    · rename_i a l' ha hl
      simp at h; subst h
      exact .cons (hρ _ _ ha) (evArgs_ok hρ hl)
    · simp at h

end
end Go.Sx
