/-
  The evaluator in use (part J): loops.
-/
import Derived.Test.YtcplkefmilpmpaaEngI
import Derived.Deep.LoopGhost
namespace Go.Sx
open Go Go.RowKit

theorem All2.map_left {α β γ : Type} {R : α → β → Prop} {S : γ → β → Prop} {f : α → γ} {l : List α} {r : List β} (h : All2 R l r) (hf : ∀ a b, R a b → S (f a) b) : All2 S (l.map f) r := by
  induction h with
  | nil => exact .nil
  | cons h _ ih => exact .cons (hf _ _ h) ih

/-- a cell without the blocks from k on -/
def trimC (k : Nat) : CV → CV
  | .ptr b o => if Nat.blt b k then .ptr b o else .any
  | .fn f a c => .fn f (trimCs k a) (trimCs k c)
  | x => if closedC x then x else .any
 where trimCs (k : Nat) : List CV → List CV
  | [] => []
  | a :: l => trimC k a :: trimCs k l

def trim1 (k : Nat) : A1 → A1
  | .c x => .c (trimC k x)
  | .agg l => .agg (l.map (trimC k))

def trimA (k : Nat) : AV → AV
  | .one a => .one (trim1 k a)
  | _ => .any

def trimMem : Nat → Nat → Mem → Mem
  | _, 0, _ => []
  | _, _ + 1, [] => []
  | k, n + 1, m :: r => (match m with | some (T, cs) => some (T, cs.map (trimC k)) | none => none) :: trimMem k n r

def forgetL (keep : List Nat) (k : Nat) : Nat → List Slot → List Slot
  | _, [] => []
  | i, s :: r => (if keep.any (fun k => k == i) && s.keys.isEmpty then ⟨[], trimA k s.v⟩ else ⟨[], .any⟩) :: forgetL keep k (i + 1) r

def St.forget (keep : List Nat) (k : Nat) (s : St) : St := ⟨forgetL keep k 0 s.tmps, trimMem k k s.mem⟩

def lookN {α : Type} : List (Nat × α) → Nat → Option α
  | [], _ => none
  | (k, v) :: r, i => if k == i then some v else lookN r i

def mkL (l : List (Nat × AV)) : Nat → Nat → List Slot
  | 0, _ => []
  | n + 1, i => (match lookN l i with | some v => ⟨[], v⟩ | none => ⟨[], .any⟩) :: mkL l n (i + 1)

def mkS (n : Nat) (l : List (Nat × AV)) (mem : Mem) : St := ⟨mkL l n 0, mem⟩

def getKept (s : St) : List Nat → Option (List (Nat × AV))
  | [] => some []
  | k :: r => match nth s.tmps k, getKept s r with
    | some ⟨[], v⟩, some l => some ((k, v) :: l)
    | _, _ => none

theorem forgetL_length (keep : List Nat) (k : Nat) : ∀ (l : List Slot) (i : Nat), (forgetL keep k i l).length = l.length
  | [], _ => rfl
  | _ :: l, i => by simp [forgetL, forgetL_length keep k l (i + 1)]

theorem forgetL_nth (keep : List Nat) (k : Nat) : ∀ (l : List Slot) (i n : Nat), nth (forgetL keep k i l) n = (nth l n).map fun s => if keep.any (fun j => j == i + n) && s.keys.isEmpty then ⟨[], trimA k s.v⟩ else ⟨[], .any⟩
  | [], _, _ => by simp [forgetL, nth]
  | s :: l, i, 0 => by simp [forgetL, nth]
  | s :: l, i, n + 1 => by
    simp only [forgetL, nth]
    rw [forgetL_nth keep k l (i + 1) n, show i + 1 + n = i + (n + 1) by omega]

theorem trimC_ok {F : Nat → Prop} {w : World} {bs : List Nat} {k : Nat} {x : CV} {v : Value} (h : CV.Rel F w bs x v) : CV.Rel F w (bs.take k) (trimC k x) v := by
  have hcs : ∀ (l : List CV) (i : Nat), nth (trimC.trimCs k l) i = (nth l i).map (trimC k) := by
    intro l
    induction l with
    | nil => intro i; simp [trimC.trimCs, nth]
    | cons a l ih => intro i; cases i with
      | zero => simp [trimC.trimCs, nth]
      | succ i => simp only [trimC.trimCs, nth]; exact ih i
  have hlen : ∀ (l : List CV), (trimC.trimCs k l).length = l.length := by
    intro l
    induction l with
    | nil => rfl
    | cons a l ih => simp [trimC.trimCs, ih]
  induction h with
  | any h => exact .any h
  | bool b => exact .bool b
  | int k n => exact .int k n
  | str s => exact .str s
  | nilp => exact .nilp
  | nils => exact .nils
  | nilf => exact .nilf
  | nili => exact .nili
  | ptr h =>
    simp only [trimC]
    split
    · rename_i hb
      refine .ptr ?_
      rw [nth_eq] at h ⊢
      rw [List.getElem?_take, if_pos (Nat.lt_of_succ_le (Nat.le_of_ble_eq_true hb))]
      exact h
    · exact .any rfl
  | rop val hb hF' hc hr _ => exact .rop val hb hF' hc hr
  | slnil => exact .slnil
  | sl val hn h0 hc hr _ => exact .sl val hn h0 hc hr
  | fn l1 l2 r1 r2 ih1 ih2 =>
    simp only [trimC]
    refine .fn (by rw [hlen]; exact l1) (by rw [hlen]; exact l2) (fun i x v h1 h2 => ?_) (fun i x v h1 h2 => ?_)
    · rw [hcs] at h1
      simp only [Option.map_eq_some_iff] at h1
      obtain ⟨y, hy, rfl⟩ := h1
      exact ih1 i y v hy h2
    · rw [hcs] at h1
      simp only [Option.map_eq_some_iff] at h1
      obtain ⟨y, hy, rfl⟩ := h1
      exact ih2 i y v hy h2
  | iface h _ =>
    simp only [trimC]
    split
    · rename_i hc
      exact .iface (h.closed (by simpa [closedC] using hc))
    · exact .any rfl

theorem trimA_ok {F : Nat → Prop} {w : World} {bs : List Nat} {k : Nat} {x : AV} {v : Value} (h : AV.Rel F w bs x v) : AV.Rel F w (bs.take k) (trimA k x) v := by
  cases x with
  | any => trivial
  | tup l => trivial
  | one a =>
    cases a with
    | c x => exact trimC_ok h
    | agg l =>
      obtain ⟨vs, rfl, h⟩ := h
      exact ⟨vs, rfl, h.map_left fun _ _ h => trimC_ok h⟩

theorem trimMem_nth (k : Nat) : ∀ (n : Nat) (m : Mem) (i : Nat), nth (trimMem k n m) i = if i < n then (nth m i).map (fun x => match x with | some (T, cs) => some (T, cs.map (trimC k)) | none => none) else none
  | 0, _, _ => by simp [trimMem, nth]
  | n + 1, [], _ => by simp [trimMem, nth]
  | n + 1, x :: m, 0 => by simp only [trimMem, nth]; simp
  | n + 1, x :: m, i + 1 => by
    simp only [trimMem, nth]
    rw [trimMem_nth k n m i]
    simp

theorem trimMem_length (k : Nat) : ∀ (n : Nat) (m : Mem), (trimMem k n m).length = min n m.length
  | 0, _ => by simp [trimMem]
  | n + 1, [] => by simp [trimMem]
  | n + 1, x :: m => by simp [trimMem, trimMem_length k n m]

theorem MemRel.trim {F w bs mem} (h : MemRel F w bs mem) (k : Nat) : MemRel F w (bs.take k) (trimMem k k mem) := by
  have hn : ∀ i p, nth (bs.take k) i = some p → nth bs i = some p := by
    intro i p hp
    rw [nth_eq] at hp ⊢
    rw [List.getElem?_take] at hp
    split at hp
    · exact hp
    · simp at hp
  refine ⟨by rw [trimMem_length, ← h.len]; simp, fun i p hp => h.loc i p (hn i p hp), fun i j p hi hj => h.inj i j p (hn i p hi) (hn j p hj), fun i T cs hc p hp => ?_⟩
  rw [trimMem_nth] at hc
  split at hc
  · simp only [Option.map_eq_some_iff] at hc
    obtain ⟨x, hx, hx2⟩ := hc
    split at hx2
    · rename_i T' cs'
      simp at hx2
      obtain ⟨rfl, rfl⟩ := hx2
      obtain ⟨vs, hv, hr⟩ := h.cont i T' cs' hx p (hn i p hp)
      exact ⟨vs, hv, hr.map_left fun _ _ h => trimC_ok h⟩
    · simp at hx2
  · simp at hc

theorem mkL_nth (l : List (Nat × AV)) : ∀ (n i k : Nat), nth (mkL l n i) k = if k < n then some (match lookN l (i + k) with | some v => ⟨[], v⟩ | none => ⟨[], .any⟩) else none
  | 0, _, _ => by simp [mkL, nth]
  | n + 1, i, 0 => by simp [mkL, nth]
  | n + 1, i, k + 1 => by
    simp only [mkL, nth]
    rw [mkL_nth l n (i + 1) k, show i + 1 + k = i + (k + 1) by omega]
    simp

theorem getKept_look {s : St} : ∀ {keep : List Nat} {l : List (Nat × AV)}, getKept s keep = some l → ∀ i, (if keep.any (fun j => j == i) then ∃ v, nth s.tmps i = some ⟨[], v⟩ ∧ lookN l i = some v else lookN l i = none)
  | [], l, h, i => by simp [getKept] at h; subst h; simp [lookN]
  | k :: r, l, h, i => by
    simp only [getKept] at h
    split at h
    · rename_i v l' hk hl
      simp at h; subst h
      have ih := getKept_look hl i
      by_cases e : k = i
      · subst e
        simp [lookN, hk]
      · simp only [List.any_cons, lookN]
        have : (k == i) = false := by simpa using e
        simpa [this] using ih
    · simp at h

theorem forget_eq {s : St} {keep : List Nat} {k : Nat} {l : List (Nat × AV)} (h : getKept (s.forget keep k) keep = some l) : s.forget keep k = mkS s.tmps.length l (trimMem k k s.mem) := by
  unfold mkS
  have hm : (s.forget keep k).mem = trimMem k k s.mem := rfl
  have ht : (s.forget keep k).tmps = mkL l s.tmps.length 0 := by
    apply List.ext_getElem?
    intro i
    rw [← nth_eq, ← nth_eq, mkL_nth]
    have := getKept_look h i
    simp only [Nat.zero_add]
    rcases Nat.lt_or_ge i s.tmps.length with hi | hi
    · rw [if_pos hi]
      by_cases hk : keep.any (fun j => j == i) = true
      · rw [if_pos hk] at this
        obtain ⟨v, hv, hl⟩ := this
        rw [hl, hv]
      · rw [if_neg hk] at this
        rw [this]
        show nth (forgetL keep k 0 s.tmps) i = _
        rw [forgetL_nth]
        have hn : nth s.tmps i = some s.tmps[i] := by rw [nth_eq]; exact List.getElem?_eq_getElem hi
        rw [hn]
        simp [hk]
    · rw [if_neg (by omega)]
      rw [nth_eq]
      exact List.getElem?_eq_none (by show (forgetL keep k 0 s.tmps).length ≤ i; rw [forgetL_length]; exact hi)
  cases hs : s.forget keep k with
  | mk t m => rw [hs] at hm ht; simp only at hm ht; rw [hm, ht]

theorem StRel.forget {F w bs s} {a : Act} (hs : StRel F w bs s a) (keep : List Nat) (k : Nat) : StRel F w (bs.take k) (s.forget keep k) a := by
  refine ⟨hs.defers, by simp [St.forget, forgetL_length, hs.len], fun i sl x h1 h2 => ?_, hs.mem.trim k⟩
  simp only [St.forget] at h1
  rw [forgetL_nth] at h1
  simp only [Option.map_eq_some_iff] at h1
  obtain ⟨s0, h0, rfl⟩ := h1
  split
  · rename_i hc
    simp only [Bool.and_eq_true, List.isEmpty_iff] at hc
    have := (hs.slots i s0 x h0 h2).1 (by rw [hc.2]; exact KH_nil)
    exact ⟨fun _ => trimA_ok this, fun h => (h KH_nil).elim⟩
  · exact ⟨fun _ => trivial, fun h => (h KH_nil).elim⟩

def loopBody (P : Program) (f i : Nat) : Code :=
  match nth P.funcs.toList f with
  | some fn => match fn.body with
    | some c => match nthLoop c i with
      | some b => b
      | none => .skip
    | none => .skip
  | none => .skip

theorem nthLoop_in : ∀ {c : Code} {i : Nat} {b : Code}, nthLoop c i = some b → ∀ {j b'}, nthLoop b j = some b' → nthLoop c (i + 1 + j) = some b'
  | .skip, _, _, h, _, _, _ => by simp [nthLoop] at h
  | .region _ _ _, _, _, h, _, _, _ => by simp [nthLoop] at h
  | .seq x y, i, b, h, j, b', hj => by
    simp only [nthLoop] at h ⊢
    split at h
    · rename_i hi
      have h2 := nthLoop_in h hj
      have : i + 1 + j < nloops x := by
        rcases Nat.lt_or_ge (i + 1 + j) (nloops x) with h' | h'
        · exact h'
        · rw [evCode_ok.nthLoop_none x _ h'] at h2; simp at h2
      rw [if_pos this]; exact h2
    · rename_i hi
      rw [if_neg (by omega), show i + 1 + j - nloops x = i - nloops x + 1 + j by omega]
      exact nthLoop_in h hj
  | .cond _ x y, i, b, h, j, b', hj => by
    simp only [nthLoop] at h ⊢
    split at h
    · rename_i hi
      have h2 := nthLoop_in h hj
      have : i + 1 + j < nloops x := by
        rcases Nat.lt_or_ge (i + 1 + j) (nloops x) with h' | h'
        · exact h'
        · rw [evCode_ok.nthLoop_none x _ h'] at h2; simp at h2
      rw [if_pos this]; exact h2
    · rename_i hi
      rw [if_neg (by omega), show i + 1 + j - nloops x = i - nloops x + 1 + j by omega]
      exact nthLoop_in h hj
  | .block _ x, i, b, h, j, b', hj => by simp only [nthLoop] at h ⊢; exact nthLoop_in h hj
  | .loop x, 0, b, h, j, b', hj => by
    simp only [nthLoop] at h
    simp at h; subst h
    rw [show 0 + 1 + j = j + 1 by omega]
    simpa [nthLoop] using hj
  | .loop x, i + 1, b, h, j, b', hj => by
    simp only [nthLoop] at h
    rw [show i + 1 + 1 + j = (i + 1 + j) + 1 by omega]
    simp only [nthLoop]
    exact nthLoop_in h hj
  | .scope x, i, b, h, j, b', hj => by simp only [nthLoop] at h ⊢; exact nthLoop_in h hj
  | .rangeFunc _ _ _ _, _, _, h, _, _, _ => by simp [nthLoop] at h
  | .exit _, _, _, h, _, _, _ => by simp [nthLoop] at h
  | .label _, _, _, h, _, _, _ => by simp [nthLoop] at h
  | .goto _, _, _, h, _, _, _ => by simp [nthLoop] at h
  | .ret, _, _, h, _, _, _ => by simp [nthLoop] at h
  | .refuse _, _, _, h, _, _, _ => by simp [nthLoop] at h

/-- a loop, entered in the states of a family -/
theorem loop_at {P : Program} {H : Hd} (hH : HdOk P H) (d f i : Nat) {fn : Func} {c b : Code} (hf : P.funcs[f]? = some fn) (hc : fn.body = some c) (hb : nthLoop c i = some b) {X : Type} (keep : List Nat) (k : Nat) (S : X → St) (T : X → Tree (XE × St))
    (hT : ∀ x, ((evCode P H (evFn P H d) f (i + 1) b (S x)).bind fun y => Tree.leaf (y.1, y.2.forget keep k)) = T x)
    (Inv : X → Prop) (μ : X → Nat) (fin : X → XE × St)
    (step : ∀ x, Inv x → ∃ e s, (T x).sel = some (e, s) ∧ ((e = .normal ∧ ∃ x', s = S x' ∧ Inv x' ∧ μ x' < μ x ∧ fin x' = fin x) ∨ (e ≠ .normal ∧ fin x = (e, s)))) :
    ∀ x, Inv x → ∀ F w bs a, bs.length = k → StRel F w bs (S x) a → ∀ Q : Exit → Act → World → Prop,
      (∀ F' w' bs' a', Ext F w bs F' w' bs' → StRel F' w' bs' (fin x).2 a' → Q (xe (fin x).1) a' w') → (Code.loop b).wp P Q a w := by
  intro x0 h0 F w bs a hlen hs Q hQ
  refine wp_loop_ghost (fun n a' w' => ∃ x F', Inv x ∧ μ x = n ∧ fin x = fin x0 ∧ Ext F w bs F' w' bs ∧ StRel F' w' bs (S x) a') (μ x0) ⟨x0, F, h0, rfl, rfl, Ext.refl, hs⟩ ?_
  rintro n a' w' ⟨x, F', hI, rfl, hfin, hext, hs'⟩
  obtain ⟨e, s, hsel, hcase⟩ := step x hI
  rw [← hT] at hsel
  obtain ⟨⟨e1, s1⟩, h1, h2⟩ := sel_bind hsel
  simp only [Tree.sel, Option.some.injEq, Prod.mk.injEq] at h2
  obtain ⟨rfl, rfl⟩ := h2
  refine evCode_ok hH.pc (evFn_ok hH d) f b (i + 1) (S x) h1 (fun j b' h hj hk => hH.lh f fn c (i + 1 + j) b' h hf hc (nthLoop_in hb hj) hk) hs' fun F'' w'' bs'' a'' he hs'' => ?_
  have hs3 := hs''.forget keep k
  have het := hext.trans he
  have hbs : bs''.take k = bs := by
    obtain ⟨l, hl, _⟩ := het.pre
    rw [hl, ← hlen]; simp
  rw [hbs] at hs3
  have het2 : Ext F w bs F'' w'' bs := ⟨het.size, het.F1, het.F2, het.same, het.os, het.tape, het.output, [], by simp, by simp⟩
  rcases hcase with ⟨he1, x', hx', hI', hlt, hf'⟩ | ⟨he1, hf'⟩
  · subst he1
    simp only [xe, Exit.then]
    exact ⟨μ x', hlt, x', F'', hI', rfl, hf'.trans hfin, het2, hx' ▸ hs3⟩
  · have hq := hQ F'' w'' bs a'' het2 (by rw [← hfin, hf']; exact hs3)
    rw [← hfin, hf'] at hq
    cases e1 with
    | normal => exact (he1 rfl).elim
    | exit k => exact hq
    | ret => exact hq

theorem HdOk.lhCons {P : Program} {pc lh} {f i : Nat} {h : St → Tree (XE × St)} (hH : HdOk P ⟨pc, lh⟩) (h1 : ∀ fn c b, P.funcs[f]? = some fn → fn.body = some c → nthLoop c i = some b → LoopOk P b h) : HdOk P ⟨pc, ((f, i), h) :: lh⟩ := by
  refine ⟨hH.pc, fun f' fn c j b h' hf hc hb hl => ?_⟩
  simp only [lookLh] at hl
  split at hl
  · rename_i e
    simp only [Bool.and_eq_true, beq_iff_eq] at e
    simp at hl; subst hl
    obtain ⟨e1, e2⟩ := e
    subst e1; subst e2
    exact h1 fn c b hf hc hb
  · exact hH.lh f' fn c j b h' hf hc hb hl

/-- rounds of a loop, one behind the other -/
def iter {X : Type} (TX : X → Tree (XE × X)) : Nat → X → XE × X
  | 0, x => (.normal, x)
  | n + 1, x => match (TX x).sel with
    | some (.normal, x') => iter TX n x'
    | some (.exit k, x') => (.exit k, x')
    | some (.ret, x') => (.ret, x')
    | none => (.normal, x)

/-- how a loop ends -/
def fin {X : Type} (TX : X → Tree (XE × X)) (μ : X → Nat) (x : X) : XE × X := iter TX (μ x + 1) x

/-- each round keeps the invariant, and comes nearer to the end; whatever leaves the loop satisfies Q -/
def Rounds {X : Type} (TX : X → Tree (XE × X)) (inv : X → Prop) (μ : X → Nat) (Q : XE × X → Prop) : Prop :=
  ∀ x, inv x → (TX x).All fun y => match y.1 with
    | .normal => inv y.2 ∧ μ y.2 < μ x
    | e => Q (e, y.2)

theorem iter_fuel {X : Type} {TX : X → Tree (XE × X)} {inv : X → Prop} {μ : X → Nat} {Q : XE × X → Prop} (h : Rounds TX inv μ Q) : ∀ (m : Nat) (x : X), μ x = m → inv x → ∀ n, m < n → iter TX n x = iter TX (m + 1) x := by
  intro m
  induction m using Nat.strongRecOn with
  | _ m ih =>
    intro x hm hi n hn
    obtain ⟨⟨e, x'⟩, hsel, hy⟩ := all_sel (h x hi)
    obtain ⟨n, rfl⟩ : ∃ k, n = k + 1 := ⟨n - 1, by omega⟩
    simp only [iter, hsel]
    cases e with
    | normal =>
      simp only at hy ⊢
      rw [ih (μ x') (by omega) x' rfl hy.1 n (by omega), ih (μ x') (by omega) x' rfl hy.1 m (by omega)]
    | exit k => rfl
    | ret => rfl

theorem fin_post {X : Type} {TX : X → Tree (XE × X)} {inv : X → Prop} {μ : X → Nat} {Q : XE × X → Prop} (h : Rounds TX inv μ Q) : ∀ (m : Nat) (x : X), μ x = m → inv x → (fin TX μ x).1 ≠ .normal ∧ Q (fin TX μ x) := by
  intro m
  induction m using Nat.strongRecOn with
  | _ m ih =>
    intro x hm hi
    obtain ⟨⟨e, x'⟩, hsel, hy⟩ := all_sel (h x hi)
    have key : fin TX μ x = match e with | .normal => iter TX (μ x) x' | .exit k => (.exit k, x') | .ret => (.ret, x') := by
      unfold fin
      simp only [iter, hsel]
      cases e <;> rfl
    rw [key]
    cases e with
    | normal =>
      simp only at hy ⊢
      rw [iter_fuel h (μ x') x' rfl hy.1 (μ x) hy.2]
      exact ih (μ x') (by omega) x' rfl hy.1
    | exit k => exact ⟨by simp, hy⟩
    | ret => exact ⟨by simp, hy⟩

theorem fin_step {X : Type} {TX : X → Tree (XE × X)} {inv : X → Prop} {μ : X → Nat} {Q : XE × X → Prop} (h : Rounds TX inv μ Q) {x : X} (hi : inv x) :
    (TX x).All fun y => (y.1 = .normal ∧ inv y.2 ∧ μ y.2 < μ x ∧ fin TX μ y.2 = fin TX μ x) ∨ (y.1 ≠ .normal ∧ fin TX μ x = y) := by
  have h0 := h x hi
  have key : ∀ y, (TX x).sel = some y → fin TX μ x = match y.1 with | .normal => iter TX (μ x) y.2 | .exit k => (.exit k, y.2) | .ret => (.ret, y.2) := by
    rintro ⟨e, x'⟩ hsel
    unfold fin
    simp only [iter, hsel]
    cases e <;> rfl
  have gen : ∀ t : Tree (XE × X), (∀ y, t.sel = some y → fin TX μ x = match y.1 with | .normal => iter TX (μ x) y.2 | .exit k => (.exit k, y.2) | .ret => (.ret, y.2)) →
      (t.All fun y => match y.1 with | .normal => inv y.2 ∧ μ y.2 < μ x | e => Q (e, y.2)) → t.All fun y => (y.1 = .normal ∧ inv y.2 ∧ μ y.2 < μ x ∧ fin TX μ y.2 = fin TX μ x) ∨ (y.1 ≠ .normal ∧ fin TX μ x = y) := by
    intro t
    induction t with
    | leaf y =>
      intro hk hy
      obtain ⟨e, x'⟩ := y
      have hk := hk (e, x') rfl
      cases e with
      | normal =>
        simp only [Tree.All] at hy hk
        refine .inl ⟨rfl, hy.1, hy.2, ?_⟩
        show fin TX μ x' = _
        rw [hk, iter_fuel h (μ x') x' rfl hy.1 (μ x) hy.2]
        rfl
      | exit k => exact .inr ⟨by simp, hk⟩
      | ret => exact .inr ⟨by simp, hk⟩
    | br c t e iht ihe =>
      intro hk hy
      refine ⟨fun hc => iht (fun y hs => hk y ?_) (hy.1 hc), fun hc => ihe (fun y hs => hk y ?_) (hy.2 hc)⟩
      · simp only [Tree.sel, hc, cond_true]; exact hs
      · simp only [Tree.sel, hc, cond_false]; exact hs
    | need c t ih =>
      intro hk hy
      refine ⟨hy.1, ih (fun y hs => hk y ?_) hy.2⟩
      simp only [Tree.sel, hy.1, cond_true]; exact hs
    | fail => intro _ hy; exact hy
  exact gen (TX x) key h0

def eqXE : XE → XE → Bool
  | .normal, .normal => true
  | .ret, .ret => true
  | .exit a, .exit b => a == b
  | _, _ => false

theorem eqXE_iff {a b : XE} : eqXE a b = true ↔ a = b := by
  cases a <;> cases b <;> simp [eqXE]

/-- the ways out of a loop -/
def outT {X : Type} (S : X → St) (y : XE × X) : List XE → Tree (XE × St)
  | [] => .fail
  | [e] => .need (eqXE y.1 e) (.leaf (e, S y.2))
  | e :: r => .br (eqXE y.1 e) (.leaf (e, S y.2)) (outT S y r)

/-- the one way out -/
def outOne {X : Type} (S : X → St) (y : XE × X) (e : XE) : Tree (XE × St) := .leaf (e, S y.2)

theorem outT_sel {X : Type} {S : X → St} {y : XE × X} : ∀ {es : List XE} {z : XE × St}, (outT S y es).sel = some z → z = (y.1, S y.2)
  | [], z, h => by simp [outT, Tree.sel] at h
  | [e], z, h => by
    simp only [outT, Tree.sel] at h
    cases he : eqXE y.1 e <;> simp [he] at h
    rw [eqXE_iff.1 he, ← h]
  | e :: e' :: r, z, h => by
    simp only [outT, Tree.sel] at h
    cases he : eqXE y.1 e
    · simp only [he, cond_false] at h
      exact outT_sel h
    · simp only [he, cond_true, Option.some.injEq] at h
      rw [eqXE_iff.1 he, ← h]

/-- a loop's summary: 'get' reads off the state what stays (C) and what turns (V); 'es': the ways out -/
def loopH {C V : Type} (keep : List Nat) (k n : Nat) (get : List (Nat × AV) → Mem → Option (C × V)) (inv : C → V → Bool) (S : C → V → St) (f : C → V → XE × V) (es : List XE) (s : St) : Tree (XE × St) :=
  if s.tmps.length == n && s.mem.length == k then
    match getKept (s.forget keep k) keep with
    | some l => match get l (trimMem k k s.mem) with
      | some (c, v) => .need (inv c v) (outT (S c) (f c v) es)
      | none => .fail
    | none => .fail
  else .fail

theorem loopOk_of {P : Program} {H : Hd} (hH : HdOk P H) (d f i : Nat) {fn : Func} {c b : Code} (hf : P.funcs[f]? = some fn) (hc : fn.body = some c) (hb : nthLoop c i = some b) {C V : Type} (keep : List Nat) (k n : Nat) (S : C → V → St) (TX : C → V → Tree (XE × V))
    (hT : ∀ c v, ((evCode P H (evFn P H d) f (i + 1) (loopBody P f i) (S c v)).bind fun y => Tree.leaf (y.1, y.2.forget keep k)) = (TX c v).bind fun y => .leaf (y.1, S c y.2))
    (get : List (Nat × AV) → Mem → Option (C × V)) (inv : C → V → Bool) (μ : C → V → Nat) (es : List XE) {Q : C → XE × V → Prop}
    (hget : ∀ l m c v, get l m = some (c, v) → mkS n l m = S c v)
    (step : ∀ c, Rounds (TX c) (fun v => inv c v = true) (μ c) (Q c)) :
    LoopOk P b (loopH keep k n get inv S (fun c => fin (TX c) (μ c)) es) := by
  have hlb : loopBody P f i = b := by
    unfold loopBody
    rw [nth_eq]
    simp only [Array.getElem?_toList, hf, hc, hb]
  rw [hlb] at hT
  intro s y hy F w bs a hs Q' hQ
  unfold loopH at hy
  split at hy
  · rename_i hlen
    simp only [Bool.and_eq_true, beq_iff_eq] at hlen
    split at hy
    · rename_i l hl
      split at hy
      · rename_i cc x hx
        simp only [Tree.sel] at hy
        cases hi : inv cc x <;> simp [hi] at hy
        have hy2 := outT_sel hy
        subst hy2
        have e := forget_eq hl
        rw [hlen.1, hget l _ cc x hx] at e
        have hs2 := hs.forget keep k
        rw [e] at hs2
        have hbl : bs.length = k := by rw [hs.mem.len]; exact hlen.2
        rw [List.take_of_length_le (by omega)] at hs2
        refine loop_at hH d f i hf hc hb keep k (S cc) (fun x => (TX cc x).bind fun y => .leaf (y.1, S cc y.2)) (hT cc) (fun x => inv cc x = true) (μ cc) (fun x => ((fin (TX cc) (μ cc) x).1, S cc (fin (TX cc) (μ cc) x).2)) (fun x hx => ?_) x hi F w bs a hbl hs2 Q' hQ
        obtain ⟨y, h1, h2⟩ := all_sel (fin_step (step cc) hx)
        refine ⟨y.1, S cc y.2, ?_, ?_⟩
        · have gen : ∀ t : Tree (XE × V), t.sel = some y → (t.bind fun y => Tree.leaf (y.1, S cc y.2)).sel = some (y.1, S cc y.2) := by
            intro t
            induction t with
            | leaf z => intro h; simp [Tree.sel] at h; subst h; rfl
            | br c t e iht ihe =>
              intro h
              simp only [Tree.bind, Tree.sel] at h ⊢
              cases c
              · exact ihe h
              · exact iht h
            | need c t ih =>
              intro h
              simp only [Tree.bind, Tree.sel] at h ⊢
              cases c
              · simp at h
              · exact ih h
            | fail => intro h; simp [Tree.sel] at h
          exact gen (TX cc x) h1
        · rcases h2 with ⟨he, hi2, hlt, hfe⟩ | ⟨he, hfe⟩
          · exact .inl ⟨he, y.2, rfl, hi2, hlt, by rw [hfe]⟩
          · exact .inr ⟨he, by rw [hfe]⟩
      · simp [Tree.sel] at hy
    · simp [Tree.sel] at hy
  · simp [Tree.sel] at hy

/-- a plain test of anything -/
noncomputable def dec (p : Prop) : Bool := @decide p (Classical.propDecidable p)

theorem dec_iff {p : Prop} : dec p = true ↔ p := by
  unfold dec
  exact @decide_eq_true_iff p (Classical.propDecidable p)

/-- how a loop ends, by its rounds -/
theorem fin_of {X : Type} {TX : X → Tree (XE × X)} {inv : X → Prop} {μ : X → Nat} {Q : XE × X → Prop} (h : Rounds TX inv μ Q) {x : X} (hi : inv x) : Q (fin TX μ x) := (fin_post h (μ x) x rfl hi).2

end Go.Sx
