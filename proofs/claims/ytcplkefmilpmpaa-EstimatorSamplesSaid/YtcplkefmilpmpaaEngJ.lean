/-
  The evaluator in use (part J): loops.
-/
import Derived.Test.YtcplkefmilpmpaaEngI
import Derived.Deep.LoopGhost
namespace Go.Sx
open Go Go.RowKit

def forgetL (keep : List Nat) : Nat → List Slot → List Slot
  | _, [] => []
  | i, s :: r => (if keep.any (fun k => k == i) && s.keys.isEmpty then s else ⟨[], .any⟩) :: forgetL keep (i + 1) r

def St.forget (keep : List Nat) (s : St) : St := ⟨forgetL keep 0 s.tmps, s.mem⟩

def lookN {α : Type} : List (Nat × α) → Nat → Option α
  | [], _ => none
  | (k, v) :: r, i => if k == i then some v else lookN r i

def mkL (l : List (Nat × AV)) : Nat → Nat → List Slot
  | 0, _ => []
  | n + 1, i => (match lookN l i with | some v => ⟨[], v⟩ | none => ⟨[], .any⟩) :: mkL l n (i + 1)

def mkS (n : Nat) (l : List (Nat × AV)) (mem : Mem) : St := ⟨mkL l n 0, mem⟩

def getKept (s : St) : List Nat → Option (List (Nat × AV))
  | [] => some []
  | k :: r => match nth s.tmps k, getKept s r with
    | some ⟨[], v⟩, some l => some ((k, v) :: l)
    | _, _ => none

theorem forgetL_length (keep : List Nat) : ∀ (l : List Slot) (i : Nat), (forgetL keep i l).length = l.length
  | [], _ => rfl
  | _ :: l, i => by simp [forgetL, forgetL_length keep l (i + 1)]

theorem forgetL_nth (keep : List Nat) : ∀ (l : List Slot) (i k : Nat), nth (forgetL keep i l) k = (nth l k).map fun s => if keep.any (fun j => j == i + k) && s.keys.isEmpty then s else ⟨[], .any⟩
  | [], _, _ => by simp [forgetL, nth]
  | s :: l, i, 0 => by simp [forgetL, nth]
  | s :: l, i, k + 1 => by
    simp only [forgetL, nth]
    rw [forgetL_nth keep l (i + 1) k, show i + 1 + k = i + (k + 1) by omega]

theorem mkL_nth (l : List (Nat × AV)) : ∀ (n i k : Nat), nth (mkL l n i) k = if k < n then some (match lookN l (i + k) with | some v => ⟨[], v⟩ | none => ⟨[], .any⟩) else none
  | 0, _, _ => by simp [mkL, nth]
  | n + 1, i, 0 => by simp [mkL, nth]
  | n + 1, i, k + 1 => by
    simp only [mkL, nth]
    rw [mkL_nth l n (i + 1) k, show i + 1 + k = i + (k + 1) by omega]
    simp

theorem getKept_look {s : St} : ∀ {keep : List Nat} {l : List (Nat × AV)}, getKept s keep = some l → ∀ i, (if keep.any (fun j => j == i) then ∃ v, nth s.tmps i = some ⟨[], v⟩ ∧ lookN l i = some v else lookN l i = none)
  | [], l, h, i => by simp [getKept] at h; subst h; simp [lookN]
  | k :: r, l, h, i => by
    simp only [getKept] at h
    split at h
    · rename_i v l' hk hl
      simp at h; subst h
      have ih := getKept_look hl i
      by_cases e : k = i
      · subst e
        simp [lookN, hk]
      · simp only [List.any_cons, lookN]
        have : (k == i) = false := by simpa using e
        simpa [this] using ih
    · simp at h

theorem forget_eq {s : St} {keep : List Nat} {l : List (Nat × AV)} (h : getKept s keep = some l) : s.forget keep = mkS s.tmps.length l s.mem := by
  unfold St.forget mkS
  congr 1
  apply List.ext_getElem?
  intro i
  rw [← nth_eq, ← nth_eq, forgetL_nth, mkL_nth]
  have := getKept_look h i
  simp only [Nat.zero_add]
  rcases Nat.lt_or_ge i s.tmps.length with hi | hi
  · rw [if_pos hi]
    have hn : nth s.tmps i = some s.tmps[i] := by rw [nth_eq]; exact List.getElem?_eq_getElem hi
    rw [hn]
    by_cases hk : keep.any (fun j => j == i) = true
    · rw [if_pos hk] at this
      obtain ⟨v, hv, hl⟩ := this
      rw [hn] at hv
      simp at hv
      rw [hl, hv]
      simp [hk]
    · rw [if_neg hk] at this
      rw [this]
      simp [hk]
  · rw [if_neg (by omega)]
    have hn : nth s.tmps i = none := by rw [nth_eq]; exact List.getElem?_eq_none hi
    rw [hn]
    rfl

theorem StRel.forget {F w bs s} {a : Act} (hs : StRel F w bs s a) (keep : List Nat) : StRel F w bs (s.forget keep) a := by
  refine ⟨hs.defers, by simp [St.forget, forgetL_length, hs.len], fun i sl x h1 h2 => ?_, hs.mem⟩
  simp only [St.forget] at h1
  rw [forgetL_nth] at h1
  simp only [Option.map_eq_some_iff] at h1
  obtain ⟨s0, h0, rfl⟩ := h1
  split
  · exact hs.slots i s0 x h0 h2
  · exact ⟨fun _ => trivial, fun h => (h KH_nil).elim⟩

def loopBody (P : Program) (f i : Nat) : Code :=
  match nth P.funcs.toList f with
  | some fn => match fn.body with
    | some c => match nthLoop c i with
      | some b => b
      | none => .skip
    | none => .skip
  | none => .skip

theorem nthLoop_in : ∀ {c : Code} {i : Nat} {b : Code}, nthLoop c i = some b → ∀ {j b'}, nthLoop b j = some b' → nthLoop c (i + 1 + j) = some b'
  | .skip, _, _, h, _, _, _ => by simp [nthLoop] at h
  | .region _ _ _, _, _, h, _, _, _ => by simp [nthLoop] at h
  | .seq x y, i, b, h, j, b', hj => by
    simp only [nthLoop] at h ⊢
    split at h
    · rename_i hi
      have h2 := nthLoop_in h hj
      have : i + 1 + j < nloops x := by
        rcases Nat.lt_or_ge (i + 1 + j) (nloops x) with h' | h'
        · exact h'
        · rw [evCode_ok.nthLoop_none x _ h'] at h2; simp at h2
      rw [if_pos this]; exact h2
    · rename_i hi
      rw [if_neg (by omega), show i + 1 + j - nloops x = i - nloops x + 1 + j by omega]
      exact nthLoop_in h hj
  | .cond _ x y, i, b, h, j, b', hj => by
    simp only [nthLoop] at h ⊢
    split at h
    · rename_i hi
      have h2 := nthLoop_in h hj
      have : i + 1 + j < nloops x := by
        rcases Nat.lt_or_ge (i + 1 + j) (nloops x) with h' | h'
        · exact h'
        · rw [evCode_ok.nthLoop_none x _ h'] at h2; simp at h2
      rw [if_pos this]; exact h2
    · rename_i hi
      rw [if_neg (by omega), show i + 1 + j - nloops x = i - nloops x + 1 + j by omega]
      exact nthLoop_in h hj
  | .block _ x, i, b, h, j, b', hj => by simp only [nthLoop] at h ⊢; exact nthLoop_in h hj
  | .loop x, 0, b, h, j, b', hj => by
    simp only [nthLoop] at h
    simp at h; subst h
    rw [show 0 + 1 + j = j + 1 by omega]
    simpa [nthLoop] using hj
  | .loop x, i + 1, b, h, j, b', hj => by
    simp only [nthLoop] at h
    rw [show i + 1 + 1 + j = (i + 1 + j) + 1 by omega]
    simp only [nthLoop]
    exact nthLoop_in h hj
  | .scope x, i, b, h, j, b', hj => by simp only [nthLoop] at h ⊢; exact nthLoop_in h hj
  | .rangeFunc _ _ _ _, _, _, h, _, _, _ => by simp [nthLoop] at h
  | .exit _, _, _, h, _, _, _ => by simp [nthLoop] at h
  | .label _, _, _, h, _, _, _ => by simp [nthLoop] at h
  | .goto _, _, _, h, _, _, _ => by simp [nthLoop] at h
  | .ret, _, _, h, _, _, _ => by simp [nthLoop] at h
  | .refuse _, _, _, h, _, _, _ => by simp [nthLoop] at h

/-- a loop, entered in the states of a family -/
theorem loop_at {P : Program} {H : Hd} (hH : HdOk P H) (d f i : Nat) {fn : Func} {c b : Code} (hf : P.funcs[f]? = some fn) (hc : fn.body = some c) (hb : nthLoop c i = some b) {X : Type} (keep : List Nat) (S : X → St) (T : X → Tree (XE × St))
    (hT : ∀ x, ((evCode P H (evFn P H d) f (i + 1) b (S x)).bind fun y => Tree.leaf (y.1, y.2.forget keep)) = T x)
    (Inv : X → Prop) (μ : X → Nat) (fin : X → XE × St)
    (step : ∀ x, Inv x → ∃ e s, (T x).sel = some (e, s) ∧ ((e = .normal ∧ ∃ x', s = S x' ∧ Inv x' ∧ μ x' < μ x ∧ fin x' = fin x) ∨ (e ≠ .normal ∧ fin x = (e, s)))) :
    ∀ x, Inv x → ∀ F w bs a, StRel F w bs (S x) a → ∀ Q : Exit → Act → World → Prop,
      (∀ F' w' bs' a', Ext F w bs F' w' bs' → StRel F' w' bs' (fin x).2 a' → Q (xe (fin x).1) a' w') → (Code.loop b).wp P Q a w := by
  intro x0 h0 F w bs a hs Q hQ
  refine wp_loop_ghost (fun n a' w' => ∃ x F' bs', Inv x ∧ μ x = n ∧ fin x = fin x0 ∧ Ext F w bs F' w' bs' ∧ StRel F' w' bs' (S x) a') (μ x0) ⟨x0, F, bs, h0, rfl, rfl, Ext.refl, hs⟩ ?_
  rintro n a' w' ⟨x, F', bs', hI, rfl, hfin, hext, hs'⟩
  obtain ⟨e, s, hsel, hcase⟩ := step x hI
  rw [← hT] at hsel
  obtain ⟨⟨e1, s1⟩, h1, h2⟩ := sel_bind hsel
  simp only [Tree.sel, Option.some.injEq, Prod.mk.injEq] at h2
  obtain ⟨rfl, rfl⟩ := h2
  refine evCode_ok hH.pc (evFn_ok hH d) f b (i + 1) (S x) h1 (fun j b' h hj hk => hH.lh f fn c (i + 1 + j) b' h hf hc (nthLoop_in hb hj) hk) hs' fun F'' w'' bs'' a'' he hs'' => ?_
  have hs3 := hs''.forget keep
  rcases hcase with ⟨he1, x', hx', hI', hlt, hf'⟩ | ⟨he1, hf'⟩
  · subst he1
    simp only [xe, Exit.then]
    exact ⟨μ x', hlt, x', F'', bs'', hI', rfl, hf'.trans hfin, hext.trans he, hx' ▸ hs3⟩
  · have hq := hQ F'' w'' bs'' a'' (hext.trans he) (by rw [← hfin, hf']; exact hs3)
    rw [← hfin, hf'] at hq
    cases e1 with
    | normal => exact (he1 rfl).elim
    | exit k => exact hq
    | ret => exact hq

theorem HdOk.lhCons {P : Program} {pc lh} {f i : Nat} {h : St → Tree (XE × St)} (hH : HdOk P ⟨pc, lh⟩) (h1 : ∀ fn c b, P.funcs[f]? = some fn → fn.body = some c → nthLoop c i = some b → LoopOk P b h) : HdOk P ⟨pc, ((f, i), h) :: lh⟩ := by
  refine ⟨hH.pc, fun f' fn c j b h' hf hc hb hl => ?_⟩
  simp only [lookLh] at hl
  split at hl
  · rename_i e
    simp only [Bool.and_eq_true, beq_iff_eq] at e
    simp at hl; subst hl
    obtain ⟨e1, e2⟩ := e
    subst e1; subst e2
    exact h1 fn c b hf hc hb
  · exact hH.lh f' fn c j b h' hf hc hb hl

/-- a loop's summary: 'get' reads the family's member off the state -/
def loopH {X : Type} (keep : List Nat) (n : Nat) (get : List (Nat × AV) → Mem → Option X) (inv : X → Bool) (fin : X → XE × St) (s : St) : Tree (XE × St) :=
  if s.tmps.length == n then
    match getKept s keep with
    | some l => match get l s.mem with
      | some x => .need (inv x) (.leaf (fin x))
      | none => .fail
    | none => .fail
  else .fail

theorem loopOk_of {P : Program} {H : Hd} (hH : HdOk P H) (d f i : Nat) {fn : Func} {c b : Code} (hf : P.funcs[f]? = some fn) (hc : fn.body = some c) (hb : nthLoop c i = some b) {X : Type} (keep : List Nat) (n : Nat) (S : X → St) (T : X → Tree (XE × St))
    (hT : ∀ x, ((evCode P H (evFn P H d) f (i + 1) (loopBody P f i) (S x)).bind fun y => Tree.leaf (y.1, y.2.forget keep)) = T x)
    (get : List (Nat × AV) → Mem → Option X) (inv : X → Bool) (μ : X → Nat) (fin : X → XE × St)
    (hget : ∀ l m x, get l m = some x → mkS n l m = S x)
    (step : ∀ x, inv x = true → (T x).All fun y => (y.1 = .normal ∧ ∃ x', y.2 = S x' ∧ inv x' = true ∧ μ x' < μ x ∧ fin x' = fin x) ∨ (y.1 ≠ .normal ∧ fin x = y)) :
    LoopOk P b (loopH keep n get inv fin) := by
  have hlb : loopBody P f i = b := by
    unfold loopBody
    rw [nth_eq]
    simp only [Array.getElem?_toList, hf, hc, hb]
  rw [hlb] at hT
  intro s y hy F w bs a hs Q hQ
  unfold loopH at hy
  split at hy
  · rename_i hlen
    split at hy
    · rename_i l hl
      split at hy
      · rename_i x hx
        simp only [Tree.sel] at hy
        cases hi : inv x <;> simp [hi] at hy
        subst hy
        have hlen' : s.tmps.length = n := by simpa using hlen
        have e := forget_eq hl
        rw [hlen', hget l s.mem x hx] at e
        have hs2 := hs.forget keep
        rw [e] at hs2
        exact loop_at hH d f i hf hc hb keep S T hT (fun x => inv x = true) μ fin (fun x hx => by obtain ⟨y, h1, h2⟩ := all_sel (step x hx); exact ⟨y.1, y.2, h1, h2⟩) x hi F w bs a hs2 Q hQ
      · simp [Tree.sel] at hy
    · simp [Tree.sel] at hy
  · simp [Tree.sel] at hy

end Go.Sx
