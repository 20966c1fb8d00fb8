/-
  The evaluator in use (part Z): slices.Clone, at any type of elements.
-/
import Derived.Test.YtjiennnkbompkaaEngY
import Derived.Laws.Cover3
namespace Go.Sx
open Go Go.RowKit

noncomputable abbrev HN : Hd := ⟨[], [], [], []⟩
theorem hn {P : Program} : HdOk P HN := HdOk.nil

/-- a row that reads the same -/
theorem MemRel.row2 {F w bs T es n} {ρ σ : Val} (h : MemRel F w bs [none, some (T, [.row false es n ρ])]) (he : ∀ i f s, nth es f = some s → cellOf s ((ρ.at i).at f) = cellOf s ((σ.at i).at f)) : MemRel F w bs [none, some (T, [.row false es n σ])] := by
  have key : ∀ k T' cs, nth [none, some (T, [CV.row false es n σ])] k = some (some (T', cs)) → k = 1 ∧ T' = T ∧ cs = [.row false es n σ] := by
    intro k T' cs hk
    match k, hk with
    | 0, hk => simp [nth] at hk
    | 1, hk => simp [nth] at hk; exact ⟨rfl, hk.1.symm, hk.2.symm⟩
    | k + 2, hk => simp [nth] at hk
  have old : nth [none, some (T, [CV.row false es n ρ])] 1 = some (some (T, [CV.row false es n ρ])) := rfl
  refine ⟨h.len, fun k x T' cs hk hc hv => ?_, fun k k' x x' T1 cs1 T2 cs2 _ _ h3 h4 _ _ _ => ?_, fun k T' cs x hc hr _ => ?_, fun k T' fz es' n' ρ' x hc hk => ?_⟩
  · obtain ⟨rfl, rfl, rfl⟩ := key k T' cs hc
    exact h.loc 1 x T' _ hk old hv
  · rw [(key k T1 cs1 h3).1, (key k' T2 cs2 h4).1]
  · obtain ⟨rfl, rfl, rfl⟩ := key k T' cs hc
    simp [isRowL] at hr
  · obtain ⟨rfl, rfl, hcs⟩ := key k T' _ hc
    simp only [List.cons.injEq, CV.row.injEq, and_true] at hcs
    obtain ⟨rfl, rfl, rfl, rfl⟩ := hcs
    have := h.row 1 T' false _ _ ρ x old hk
    refine ⟨this.len, this.cap0, this.cap, fun h0 => ?_, this.frozen⟩
    obtain ⟨arr, a1, a2, val, a3, a4⟩ := this.block h0
    exact ⟨arr, a1, a2, val, a3, fun i f s hi hs => he i f s hs ▸ a4 i f s hi hs⟩

theorem MemRel.row0' {F w bs mem} (hm : MemRel F w bs mem) (T : TypeId) (es : List Sh) (ρ : Val) : MemRel F w (bs ++ [⟨w.heap.size, 0, 0⟩]) (mem ++ [some (T, [.row false es 0 ρ])]) := by
  refine hm.push _ (fun h => ?_) (fun h => ?_) (fun h => ?_) (fun fz es' n ρ' h => ?_)
  · simp [liveL] at h
  · simp [liveL] at h
  · simp [isRowL] at h
  · simp only [List.cons.injEq, CV.row.injEq, and_true] at h
    obtain ⟨rfl, rfl, rfl, rfl⟩ := h
    exact ⟨rfl, fun _ => rfl, fun h => by omega, fun h => by omega, fun h => by omega⟩

/-- how a function begins -/
theorem init_ok {F w bs} {args : List A1} {vs : List Value} {mem : Mem} {nt : Nat} (hm : MemRel F w bs mem) (hargs : All2 (A1.Rel F w bs) args vs) (_ : args.length ≤ nt) :
    StRel F w bs ⟨args.map (fun a => ⟨[], .one a⟩) ++ List.replicate (nt - args.length) ⟨[], .any⟩, mem⟩ { tmps := vs.toArray ++ Array.replicate (nt - vs.toArray.size) undef, defers := [] } := by
  have hl := hargs.length
  refine ⟨rfl, ?_, ?_, hm⟩
  · simp [hl]
  · intro i sl x hsl hx
    simp only [nth_eq] at hsl
    rcases Nat.lt_or_ge i args.length with hi | hi
    · rw [List.getElem?_append_left (by simpa using hi)] at hsl
      simp only [List.getElem?_map, Option.map_eq_some_iff] at hsl
      obtain ⟨b, hb', rfl⟩ := hsl
      rw [Array.getElem?_append_left (by simp; omega)] at hx
      obtain ⟨v, hv, hr⟩ := hargs.nth (by rw [nth_eq]; exact hb')
      simp only [List.getElem?_toArray] at hx
      rw [hv] at hx
      simp at hx; subst hx
      exact ⟨fun _ => hr, fun h => (h KH_nil).elim⟩
    · rw [List.getElem?_append_right (by simpa using hi)] at hsl
      rw [List.getElem?_replicate] at hsl
      split at hsl
      · simp at hsl; subst hsl
        exact ⟨fun _ => trivial, fun h => (h KH_nil).elim⟩
      · simp at hsl

/-- the copy of a slice: laid anew -/
def cloneG (E : TypeId) (es : List Sh) (sz bt : Nat) : List A1 → Tree (AV × Mem)
  | [.c (.sl es' n ρ)] => if shEq.shsEq es' es then .need (Nat.ble ((0 + n) * bt) 140737488355328) (.leaf (.one (.c (.os 1 sz)), [none, some (E, [.row false es n ρ])])) else .fail
  | _ => .fail

def stC (es : List Sh) (n : Nat) (ρ : Val) (b : Bool) : St := mkS 8 [(0, .one (.c (.sl es n ρ))), (2, .one (.c .nils)), (3, .one (.c (.sl es n ρ))), (4, .one (.c (.bool b)))] []

theorem clone_nc {P : Program} {f : Nat} {fn : Func} {R0 A B : Code} {i1 : Nat} {ops : Array Oper} {o1 o2 : Oper} {T T2 E : TypeId} {es : List Sh} {sz bt : Nat}
    (hf : P.funcs[f]? = some fn) (hb : fn.body = some (.seq R0 (.seq (.seq (.region i1 ops false) (.cond (.tmp 4) A .skip)) B)))
    (hops : ops.toList = [o1, o2]) (g1 : o1.guard = none) (p1 : o1.op = .move (.tmp 0)) (d1 : o1.dst = some 3) (g2 : o2.guard = none) (p2 : o2.op = .binOp .eql T (.tmp 3) (.const (.slice none 0 0)) T2) (d2 : o2.dst = some 4)
    (hT : P.underlying T = some (.slice E)) (hnt : fn.ntmps = 8)
    (e0 : ∀ n ρ, evCode P HN (evFn P HN 5) f 0 0 R0 (mkS 8 [(0, .one (.c (.sl es n ρ)))] []) = .leaf (.normal, mkS 8 [(0, .one (.c (.sl es n ρ))), (2, .one (.c .nils))] []))
    (sA sB : Nat → Val → St) (eA : ∀ n ρ, evCode P HN (evFn P HN 5) f 0 0 A (stC es n ρ true) = .leaf (.ret, sA n ρ)) (rA : ∀ n ρ, evResults P (sA n ρ) fn.results.toList = some [.c .nils]) (mA : ∀ n ρ, (sA n ρ).mem = [])
    (eB : ∀ n ρ, evCode P HN (evFn P HN 5) f 0 0 B (stC es n ρ false) = .need (Nat.ble ((0 + n) * bt) 140737488355328) (.leaf (.ret, sB n ρ))) (rB : ∀ n ρ, evResults P (sB n ρ) fn.results.toList = some [.c (.os 1 sz)])
    (mB : ∀ n ρ, (sB n ρ).mem = [none, some (E, [.row false es (0 + n) (Val.cat 0 (Val.ofFlat sz []) ρ)])]) : NcOne P f (cloneG E es sz bt) := by
  intro args r m hs hcl F w vs hargs
  unfold cloneG at hs
  split at hs
  · rename_i es' n ρ
    split at hs
    · rename_i hes
      have hes := shsEq_eq hes
      subst hes
      simp only [Tree.sel] at hs
      cases hn' : Nat.ble ((0 + n) * bt) 140737488355328
      · rw [hn'] at hs; simp at hs
      · rw [hn'] at hs
        simp only [cond_true, Option.some.injEq, Prod.mk.injEq] at hs
        obtain ⟨rfl, rfl⟩ := hs
        have noloop : ∀ (c : Code) (i : Nat) (b : Code) (h : Nat → St → Tree (XE × St)), nthLoop c i = some b → lookLh HN.lh f (0 + i) = some h → LoopOk P b h := fun c i b h _ hl => by simp [lookLh] at hl
        refine calls_of_wp hf hb ?_
        have hi := init_ok (nt := fn.ntmps) MemRel.nil hargs (by rw [hnt]; simp)
        have es0 : (⟨([A1.c (CV.sl es' n ρ)] : List A1).map (fun a => ⟨[], .one a⟩) ++ List.replicate (fn.ntmps - ([A1.c (CV.sl es' n ρ)] : List A1).length) ⟨[], .any⟩, []⟩ : St) = mkS 8 [(0, .one (.c (.sl es' n ρ)))] [] := by rw [hnt]; rfl
        rw [es0] at hi
        refine wp_seq (evCode_ok hn.pc (evFn_ok hn 5) f 0 R0 0 _ (by rw [e0]; rfl) (fun i b h hl hk => noloop R0 i b h hl hk) (Nat.le_refl _) hi fun F1 w1 bs1 a1 x1 h1 => ?_)
        simp only [xe, Exit.then]
        refine wp_seq (wp_seq (wp_region_list ?_))
        rw [hops]
        -- the slice again
        have r0 : CV.Rel F1 w1 bs1 (.sl es' n ρ) (a1.eval (.tmp 0)) := opnd_ok (x := .tmp 0) (av := .one (.c (.sl es' n ρ))) h1 KH_nil rfl
        refine wpList_plain g1 fun K1 hK1 => wp_value (w' := w1) (v := a1.eval (.tmp 0)) (by unfold execOp; simp [p1]) (hK1 _ _ ?_)
        have h2 := StRel.put (dst := some 3) (ks := []) (v := .one (.c (.sl es' n ρ))) h1 (fun _ hp => by cases hp) (fun _ => r0) (fun h => (h KH_nil).elim)
        rw [d1]
        generalize hu : a1.eval (.tmp 0) = u at *
        have hsz : 3 < a1.tmps.size := by rw [← h1.len]; exact (by decide : 3 < 8)
        have e3 : (a1.put (some 3) u).eval (.tmp 3) = u := by simp [Act.put, Act.eval, hsz]
        obtain ⟨ba, bl, bc, rfl⟩ : ∃ ba bl bc, u = .slice ba bl bc := by cases r0 <;> exact ⟨_, _, _, rfl⟩
        refine wpList_plain g2 fun K2 hK2 => wp_value (w' := w1) (v := .bool ba.isNone) ?_ (hK2 _ _ (wpList_nil ?_))
        · unfold execOp
          simp only [p2]
          have g4 : ∀ w', (eqGuard .eql T (.tmp 3) (.const (.slice none 0 0)) (.slice ba bl bc) (.slice none 0 0)).run P w' = .ok () w' := fun w' => eqGuard_cell (by simp) (by simp) w'
          have e4 : ∀ w', (do eqGuard .eql T (.tmp 3) (.const (.slice none 0 0)) (.slice ba bl bc) (.slice none 0 0); binOp .eql T (.slice ba bl bc) (.slice none 0 0) : Sem Value).run P w' = .ok (.bool ba.isNone) w' := fun w' => by
            simp only [Sem.run_bind, g4, Result.andThen_ok]
            show (do pure (Value.bool (← Op.equal T (.slice ba bl bc) (.slice none 0 0))) : Sem Value).run P w' = _
            simp [run_equal_slice_nil w' T E ba bl bc hT]
          have e5 : (a1.put (some 3) (.slice ba bl bc)).eval (.const (.slice none 0 0)) = .slice none 0 0 := rfl
          simp only [e3, e5]
          have := e4 w1
          simp only [Sem.run_bind] at this ⊢
          rw [this]
          simp
        · rw [d2]
          have h3 := StRel.put (dst := some 4) (ks := []) (v := .one (.c (.bool ba.isNone))) h2 (fun _ hp => by cases hp) (fun _ => CV.Rel.bool _) (fun h => (h KH_nil).elim)
          have hst : (((mkS 8 [(0, .one (.c (.sl es' n ρ))), (2, .one (.c .nils))] []).put (some 3) [] (.one (.c (.sl es' n ρ)))).put (some 4) [] (.one (.c (.bool ba.isNone)))) = stC es' n ρ ba.isNone := rfl
          rw [hst] at h3
          simp only [Exit.then]
          have hc4 : ((a1.put (some 3) (.slice ba bl bc)).put (some 4) (.bool ba.isNone)).eval (.tmp 4) = .bool ba.isNone := by
            have hr := opnd_ok (x := .tmp 4) (av := .one (.c (.bool ba.isNone))) h3 KH_nil rfl
            generalize ((a1.put (some 3) (.slice ba bl bc)).put (some 4) (.bool ba.isNone)).eval (.tmp 4) = z at hr ⊢
            cases hr; rfl
          cases hba : ba.isNone
          · rw [hba] at h3 hc4
            refine wp_cond_false hc4 (wp_skip ?_)
            simp only [Exit.then]
            refine evCode_ok hn.pc (evFn_ok hn 5) f 0 B 0 _ (x := (.ret, sB n ρ)) (by rw [eB]; simp only [Tree.sel, hn', cond_true]) (fun i b h hl hk => noloop B i b h hl hk) (Nat.zero_le _) h3 fun F2 w2 bs2 a2 x2 h4 => ?_
            obtain ⟨z, hz, hrun⟩ := run_results h4 (rB n ρ)
            have hm2 := h4.mem
            rw [mB n ρ, Nat.zero_add] at hm2
            exact ⟨h4.defers, z, hrun, z, F2, bs2, rfl, (x1.weak (Nat.zero_le _)).trans x2 (Nat.zero_le _), hm2.row2 fun i f s _ => rfl, hz⟩
          · rw [hba] at h3 hc4
            obtain rfl : ba = none := by simpa using hba
            have hn0 : n = 0 := by cases r0; rfl
            subst hn0
            refine wp_cond_true hc4 (evCode_ok hn.pc (evFn_ok hn 5) f 0 A 0 _ (x := (.ret, sA 0 ρ)) (by rw [eA]; rfl) (fun i b h hl hk => noloop A i b h hl hk) (Nat.zero_le _) h3 fun F2 w2 bs2 a2 x2 h4 => ?_)
            simp only [xe, Exit.then]
            obtain ⟨z, hz, hrun⟩ := run_results h4 (rA 0 ρ)
            have hm2 := h4.mem
            rw [mA 0 ρ] at hm2
            have hbs : bs2 = [] := by
              have := hm2.len
              cases bs2 with
              | nil => rfl
              | cons _ _ => simp at this
            subst hbs
            have hz' : CV.Rel F2 w2 [] .nils z := hz
            have m3 := ((hm2.extend ⟨w2.heap.size, 0, 0⟩).row0' E es' ρ)
            have x3 : Ext 0 F w [] F2 w2 ([] ++ [⟨w2.heap.size, 0, 0⟩] ++ [⟨w2.heap.size, 0, 0⟩]) := by
              have x12 := (x1.weak (Nat.zero_le _)).trans x2 (Nat.zero_le _)
              exact (x12.push (.inr x12.size)).push (.inr x12.size)
            refine ⟨h4.defers, z, hrun, z, F2, _, rfl, x3, m3, ?_⟩
            cases hz'
            exact CV.Rel.os (F := F2) (w := w2) (b := 1) (sz := sz) (base := none) (x := ⟨w2.heap.size, 0, 0⟩) rfl (fun h => by simp at h)
    · simp [Tree.sel] at hs
  · simp [Tree.sel] at hs

end Go.Sx
