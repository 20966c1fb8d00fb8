/-
  The evaluator in use (part J): loops.
-/
import Derived.Test.YtjiennnkbompkaaEngI
import Derived.Deep.LoopGhost
import Derived.LoopN
namespace Go.Sx
open Go Go.RowKit

theorem All2.map_left {α β γ : Type} {R : α → β → Prop} {S : γ → β → Prop} {f : α → γ} {l : List α} {r : List β} (h : All2 R l r) (hf : ∀ a b, R a b → S (f a) b) : All2 S (l.map f) r := by
  induction h with
  | nil => exact .nil
  | cons h _ ih => exact .cons (hf _ _ h) ih

def idx : List Nat → Nat → Option Nat
  | [], _ => none
  | a :: r, b => if a == b then some 0 else match idx r b with | some n => some (n + 1) | none => none

/-- a cell behind a renumbering of the blocks; what isn't named is forgotten -/
def renC (pm : List Nat) : CV → CV
  | .ptr b o => match idx pm b with | some b' => .ptr b' o | none => .any
  | .os b sz => match idx pm b with | some b' => .os b' sz | none => .any
  | .rowp b sz i off => match idx pm b with | some b' => .rowp b' sz i off | none => .any
  | .fn f a c => .fn f (renCs pm a) (renCs pm c)
  | .row fz es n ρ => .row fz es n ρ
  | x => if closedC x then x else .any
 where renCs (pm : List Nat) : List CV → List CV
  | [] => []
  | a :: l => renC pm a :: renCs pm l

def ren1 (pm : List Nat) : A1 → A1
  | .c x => .c (renC pm x)
  | .agg l => .agg (l.map (renC pm))

def renA (pm : List Nat) : AV → AV
  | .one a => .one (ren1 pm a)
  | _ => .any

def renE (pm : List Nat) (mem : Mem) (b : Nat) : Option (TypeId × List CV) :=
  match nth mem b with
  | some (some (T, cs)) => some (T, cs.map (renC pm))
  | _ => none

/-- the blocks that a cell names -/
def idsC : CV → List Nat
  | .ptr b _ => [b]
  | .os b _ => [b]
  | .rowp b _ _ _ => [b]
  | .fn _ a c => idsCs a ++ idsCs c
  | _ => []
 where idsCs : List CV → List Nat
  | [] => []
  | a :: l => idsC a ++ idsCs l

def idsL : List CV → List Nat
  | [] => []
  | x :: r => idsC x ++ idsL r

def idsA : AV → List Nat
  | .one (.c x) => idsC x
  | .one (.agg l) => idsL l
  | _ => []

def idsE (mem : Mem) (b : Nat) : List Nat :=
  match nth mem b with
  | some (some (_, cs)) => idsL cs
  | _ => []

/-- the blocks that are reached, in order -/
def gcGo (mem : Mem) (k0 : Nat) : Nat → List Nat → List Nat → List Nat
  | 0, _, done => done
  | _ + 1, [], done => done
  | n + 1, b :: r, done => if Nat.blt b k0 || anyN b done then gcGo mem k0 n r done else gcGo mem k0 n (r ++ idsE mem b) (done ++ [b])

def upto : Nat → List Nat
  | 0 => []
  | n + 1 => upto n ++ [n]

def idsKept (s : St) : List Nat → List Nat
  | [] => []
  | k :: r => (match nth s.tmps k with | some ⟨[], v⟩ => idsA v | _ => []) ++ idsKept s r

def idsMem (mem : Mem) : List Nat → List Nat
  | [] => []
  | k :: r => idsE mem k ++ idsMem mem r

def nodupN : List Nat → Bool
  | [] => true
  | a :: r => !anyN a r && nodupN r

def gcPerm (keep : List Nat) (k0 : Nat) (s : St) : List Nat := upto k0 ++ gcGo s.mem k0 300 (idsKept s keep ++ idsMem s.mem (upto k0)) []

def forgetL (keep : List Nat) (pm : List Nat) : Nat → List Slot → List Slot
  | _, [] => []
  | i, s :: r => (if keep.any (fun k => k == i) && s.keys.isEmpty then ⟨[], renA pm s.v⟩ else ⟨[], .any⟩) :: forgetL keep pm (i + 1) r

/-- a loop's state: the slots that are kept, the blocks that they reach -/
def St.gc (keep : List Nat) (k0 : Nat) (s : St) : Option St :=
  let pm := gcPerm keep k0 s
  if nodupN pm && pm.all (fun b => Nat.blt b s.mem.length) then some ⟨forgetL keep pm 0 s.tmps, pm.map (renE pm s.mem)⟩ else none

def gcT (keep : List Nat) (k0 : Nat) (y : XE × St) : Tree (XE × St) :=
  match y.2.gc keep k0 with
  | some s => .leaf (y.1, s)
  | none => .fail

def lookN {α : Type} : List (Nat × α) → Nat → Option α
  | [], _ => none
  | (k, v) :: r, i => if k == i then some v else lookN r i

def mkL (l : List (Nat × AV)) : Nat → Nat → List Slot
  | 0, _ => []
  | n + 1, i => (match lookN l i with | some v => ⟨[], v⟩ | none => ⟨[], .any⟩) :: mkL l n (i + 1)

def mkS (n : Nat) (l : List (Nat × AV)) (mem : Mem) : St := ⟨mkL l n 0, mem⟩

def getKept (s : St) : List Nat → Option (List (Nat × AV))
  | [] => some []
  | k :: r => match nth s.tmps k, getKept s r with
    | some ⟨[], v⟩, some l => some ((k, v) :: l)
    | _, _ => none

theorem forgetL_length (keep pm : List Nat) : ∀ (l : List Slot) (i : Nat), (forgetL keep pm i l).length = l.length
  | [], _ => rfl
  | _ :: l, i => by simp [forgetL, forgetL_length keep pm l (i + 1)]

theorem forgetL_nth (keep pm : List Nat) : ∀ (l : List Slot) (i n : Nat), nth (forgetL keep pm i l) n = (nth l n).map fun s => if keep.any (fun j => j == i + n) && s.keys.isEmpty then ⟨[], renA pm s.v⟩ else ⟨[], .any⟩
  | [], _, _ => rfl
  | s :: l, i, 0 => by simp [forgetL, nth]
  | s :: l, i, n + 1 => by
    simp only [forgetL, nth]
    rw [forgetL_nth keep pm l (i + 1) n, show i + 1 + n = i + (n + 1) by omega]

theorem idx_nth : ∀ {pm : List Nat} {b b' : Nat}, idx pm b = some b' → nth pm b' = some b
  | [], _, _, h => by simp [idx] at h
  | a :: r, b, b', h => by
    simp only [idx] at h
    split at h
    · rename_i e
      simp at h; subst h
      simpa [nth] using e
    · split at h
      · rename_i n hn
        simp at h; subst h
        simpa [nth] using idx_nth hn
      · simp at h

theorem nodupN_inj : ∀ {pm : List Nat}, nodupN pm = true → ∀ {i j b : Nat}, nth pm i = some b → nth pm j = some b → i = j
  | [], _, i, _, _, h, _ => by simp [nth] at h
  | a :: r, hn, i, j, b, hi, hj => by
    simp only [nodupN, Bool.and_eq_true, Bool.not_eq_true'] at hn
    have hno : ∀ k, nth r k ≠ some a := fun k hk => by
      have := anyN_iff.2 (nth_mem hk)
      rw [hn.1] at this
      cases this
    cases i with
    | zero =>
      simp [nth] at hi
      subst hi
      cases j with
      | zero => rfl
      | succ j => exact (hno j (by simpa [nth] using hj)).elim
    | succ i => cases j with
      | zero =>
        simp [nth] at hj
        subst hj
        exact (hno i (by simpa [nth] using hi)).elim
      | succ j =>
        have := nodupN_inj hn.2 (i := i) (j := j) (b := b) (by simpa [nth] using hi) (by simpa [nth] using hj)
        omega

theorem upto_length : ∀ k, (upto k).length = k
  | 0 => rfl
  | k + 1 => by simp [upto, upto_length k]

theorem upto_nth : ∀ {k i : Nat}, i < k → nth (upto k) i = some i
  | k + 1, i, h => by
    simp only [upto]
    rcases Nat.lt_or_eq_of_le (Nat.le_of_lt_succ h) with h' | rfl
    · exact nth_append (upto_nth h')
    · have := nth_append_last (upto i) i
      rwa [upto_length] at this

/-- where the blocks lie behind the renumbering -/
def renB (pm : List Nat) (bs : List BI) : List BI := pm.map fun b => match nth bs b with | some x => x | none => ⟨0, 0, 0⟩

theorem renB_nth {pm : List Nat} {bs : List BI} {b b' : Nat} {x : BI} (h : nth pm b' = some b) (hx : nth bs b = some x) : nth (renB pm bs) b' = some x := by
  rw [nth_eq] at h
  rw [renB, nth_eq, List.getElem?_map, h]
  simp [hx]

theorem renC_ok {F : Nat → Prop} {w : World} {bs : List BI} {pm : List Nat} {x : CV} {v : Value} (h : CV.Rel F w bs x v) : CV.Rel F w (renB pm bs) (renC pm x) v := by
  have hcs : ∀ (l : List CV) (i : Nat) (x : CV), nth (renC.renCs pm l) i = some x → ∃ y, nth l i = some y ∧ x = renC pm y := by
    intro l
    induction l with
    | nil => intro i x h; simp [renC.renCs, nth] at h
    | cons a l ih =>
      intro i x h
      cases i with
      | zero => simp [renC.renCs, nth] at h; exact ⟨a, rfl, h.symm⟩
      | succ n => exact ih n x (by simpa [renC.renCs, nth] using h)
  have hlen : ∀ l : List CV, (renC.renCs pm l).length = l.length := by
    intro l
    induction l with
    | nil => rfl
    | cons a l ih => simp [renC.renCs, ih]
  induction h with
  | any h => exact .any h
  | bool b => exact .bool b
  | int k n => exact .int k n
  | str s => exact .str s
  | nilp => exact .nilp
  | nils => exact .nils
  | nilf => exact .nilf
  | ost h hl => exact .any rfl
  | nili => exact .nili
  | ptr h =>
    simp only [renC]
    split
    · rename_i hi; exact .ptr (renB_nth (idx_nth hi) h)
    · exact .any rfl
  | os h hb =>
    simp only [renC]
    split
    · rename_i hi; exact .os (renB_nth (idx_nth hi) h) hb
    · exact .any rfl
  | rowp h hi' =>
    simp only [renC]
    split
    · rename_i hi; exact .rowp (renB_nth (idx_nth hi) h) hi'
    · exact .any rfl
  | rop val hb hF hc hr _ => exact .rop val hb hF hc hr
  | slnil => exact .slnil
  | sl val hn h0 hc hr _ => exact .sl val hn h0 hc hr
  | fn l1 l2 r1 r2 ih1 ih2 =>
    refine .fn (by rw [hlen]; exact l1) (by rw [hlen]; exact l2) (fun i x v h1 h2 => ?_) (fun i x v h1 h2 => ?_)
    · obtain ⟨y, hy, rfl⟩ := hcs _ _ _ h1
      exact ih1 i y v hy h2
    · obtain ⟨y, hy, rfl⟩ := hcs _ _ _ h1
      exact ih2 i y v hy h2
  | iface h _ =>
    simp only [renC]
    split
    · rename_i hc
      exact .iface (h.closed (by simpa [closedC] using hc))
    · exact .any rfl

theorem renA_ok {F : Nat → Prop} {w : World} {bs : List BI} {pm : List Nat} {x : AV} {v : Value} (h : AV.Rel F w bs x v) : AV.Rel F w (renB pm bs) (renA pm x) v := by
  cases x with
  | any => trivial
  | tup l => trivial
  | one a => cases a with
    | c x => exact renC_ok h
    | agg l =>
      obtain ⟨vs, rfl, h⟩ := h
      exact ⟨vs, rfl, h.map_left fun _ _ h => renC_ok h⟩

theorem ren_row {pm : List Nat} {cs : List CV} {fz : Bool} {es : List Sh} {n : Nat} {ρ : Val} (h : cs.map (renC pm) = [.row fz es n ρ]) : cs = [.row fz es n ρ] := by
  match cs, h with
  | [c], h =>
    simp only [List.map_cons, List.map_nil, List.cons.injEq, and_true] at h
    cases c <;> simp only [renC] at h <;> first | exact congrArg (fun x => [x]) h | (split at h <;> cases h) | cases h
  | [], h => simp at h
  | _ :: _ :: _, h => simp at h

theorem ren_isRow {pm : List Nat} {cs : List CV} (h : isRowL (cs.map (renC pm)) = false) : isRowL cs = false := by
  cases hr : isRowL cs
  · rfl
  · unfold isRowL at hr
    split at hr
    · simp [renC, isRowL] at h
    · cases hr

theorem ren_live {pm : List Nat} {cs : List CV} (h : liveL (cs.map (renC pm))) : liveL cs := by
  unfold liveL
  split
  · simpa [renC, liveL] using h
  · trivial

theorem MemRel.ren {F w bs mem} (hm : MemRel F w bs mem) {pm : List Nat} (hn : nodupN pm = true) (hl : ∀ b ∈ pm, b < mem.length) : MemRel F w (renB pm bs) (pm.map (renE pm mem)) := by
  have key : ∀ k T cs, nth (pm.map (renE pm mem)) k = some (some (T, cs)) → ∃ b cs0, nth pm k = some b ∧ nth mem b = some (some (T, cs0)) ∧ cs = cs0.map (renC pm) := by
    intro k T cs h
    rw [nth_eq, List.getElem?_map] at h
    simp only [Option.map_eq_some_iff] at h
    obtain ⟨b, hb, he⟩ := h
    unfold renE at he
    split at he
    · rename_i T' cs0 hmem
      simp at he
      obtain ⟨rfl, rfl⟩ := he
      exact ⟨b, cs0, by rw [nth_eq]; exact hb, hmem, rfl⟩
    · cases he
  have keyb : ∀ k b x, nth pm k = some b → nth (renB pm bs) k = some x → nth bs b = some x := by
    intro k b x hk hx
    have hlt : b < bs.length := by rw [hm.len]; exact hl b (nth_mem hk)
    have hb : nth bs b = some bs[b] := by rw [nth_eq]; exact List.getElem?_eq_getElem hlt
    rw [renB_nth hk hb] at hx
    simp at hx; subst hx
    exact hb
  refine ⟨by simp [renB], fun k x T cs hk hc hv => ?_, fun k k' x x' T cs T' cs' hk hk' hc hc' hv hv' hp => ?_, fun k T cs x hc hr hk => ?_, fun k T fz es n ρ x hc hk => ?_⟩
  · obtain ⟨b, cs0, hb, hmem, rfl⟩ := key k T cs hc
    exact hm.loc b x T cs0 (keyb k b x hb hk) hmem (ren_live hv)
  · obtain ⟨b, cs0, hb, hmem, rfl⟩ := key k T cs hc
    obtain ⟨b', cs0', hb', hmem', rfl⟩ := key k' T' cs' hc'
    have := hm.inj b b' x x' T cs0 T' cs0' (keyb k b x hb hk) (keyb k' b' x' hb' hk') hmem hmem' (ren_live hv) (ren_live hv') hp
    subst this
    exact nodupN_inj hn hb hb'
  · obtain ⟨b, cs0, hb, hmem, rfl⟩ := key k T cs hc
    obtain ⟨vs, h1, h2⟩ := hm.cont b T cs0 x hmem (ren_isRow hr) (keyb k b x hb hk)
    exact ⟨vs, h1, h2.map_left fun _ _ h => renC_ok h⟩
  · obtain ⟨b, cs0, hb, hmem, he⟩ := key k T _ hc
    have := ren_row he.symm
    subst this
    exact hm.row b T fz es n ρ x hmem (keyb k b x hb hk)

theorem mkL_nth (l : List (Nat × AV)) : ∀ (n i k : Nat), nth (mkL l n i) k = if k < n then some (match lookN l (i + k) with | some v => ⟨[], v⟩ | none => ⟨[], .any⟩) else none
  | 0, _, _ => by simp [mkL, nth]
  | n + 1, i, 0 => by simp [mkL, nth]
  | n + 1, i, k + 1 => by
    simp only [mkL, nth]
    rw [mkL_nth l n (i + 1) k, show i + 1 + k = i + (k + 1) by omega]
    simp

theorem getKept_look {s : St} : ∀ {keep : List Nat} {l : List (Nat × AV)}, getKept s keep = some l → ∀ i, (if keep.any (fun j => j == i) then ∃ v, nth s.tmps i = some ⟨[], v⟩ ∧ lookN l i = some v else lookN l i = none)
  | [], l, h, i => by simp [getKept] at h; subst h; simp [lookN]
  | k :: r, l, h, i => by
    simp only [getKept] at h
    split at h
    · rename_i v l' hk hl
      simp at h; subst h
      have ih := getKept_look hl i
      by_cases e : k = i
      · subst e
        simp [lookN, hk]
      · simp only [List.any_cons, lookN]
        have : (k == i) = false := by simpa using e
        simpa [this] using ih
    · simp at h

theorem gc_some {keep : List Nat} {k0 : Nat} {s s' : St} (h : s.gc keep k0 = some s') : ∃ pm, nodupN pm = true ∧ (∀ b ∈ pm, b < s.mem.length) ∧ (∀ i, i < k0 → nth pm i = some i) ∧ s' = ⟨forgetL keep pm 0 s.tmps, pm.map (renE pm s.mem)⟩ := by
  unfold St.gc at h
  simp only at h
  split at h
  · rename_i hc
    simp at h; subst h
    rw [Bool.and_eq_true, List.all_eq_true] at hc
    exact ⟨_, hc.1, fun b hb => Nat.blt_eq.mp (hc.2 b hb), fun i hi => nth_append (upto_nth hi), rfl⟩
  · cases h

theorem gc_eq {s s' : St} {keep : List Nat} {k0 : Nat} {l : List (Nat × AV)} (hg : s.gc keep k0 = some s') (h : getKept s' keep = some l) : s' = mkS s.tmps.length l s'.mem := by
  obtain ⟨pm, _, _, _, rfl⟩ := gc_some hg
  unfold mkS
  have ht : forgetL keep pm 0 s.tmps = mkL l s.tmps.length 0 := by
    apply List.ext_getElem?
    intro i
    rw [← nth_eq, ← nth_eq, mkL_nth]
    have := getKept_look h i
    simp only [Nat.zero_add]
    rcases Nat.lt_or_ge i s.tmps.length with hi | hi
    · rw [if_pos hi]
      by_cases hk : keep.any (fun j => j == i) = true
      · rw [if_pos hk] at this
        obtain ⟨v, hv, hl⟩ := this
        rw [hl]
        exact hv
      · rw [if_neg hk] at this
        rw [this]
        rw [forgetL_nth]
        have hn : nth s.tmps i = some s.tmps[i] := by rw [nth_eq]; exact List.getElem?_eq_getElem hi
        rw [hn]
        simp [hk]
    · rw [if_neg (by omega)]
      rw [nth_eq]
      exact List.getElem?_eq_none (by rw [forgetL_length]; exact hi)
  rw [ht]

theorem StRel.gc {F w bs s s'} {a : Act} (hs : StRel F w bs s a) {keep : List Nat} {k0 : Nat} (hg : s.gc keep k0 = some s') : ∃ bs', Ext k0 F w bs F w bs' ∧ k0 ≤ bs'.length ∧ StRel F w bs' s' a := by
  obtain ⟨pm, hn, hl, hk, rfl⟩ := gc_some hg
  have hlen : ∀ i, i < k0 → i < pm.length := fun i hi => nth_lt (hk i hi)
  refine ⟨renB pm bs, ⟨Nat.le_refl _, fun _ _ h => h, fun _ h _ _ => h, fun _ _ _ => rfl, rfl, rfl, rfl, fun k x hk' hx => renB_nth (hk k hk') hx, fun x hx => ?_⟩, ?_, hs.defers, by simp [forgetL_length, hs.len], fun i sl x h1 h2 => ?_, hs.mem.ren hn hl⟩
  · simp only [renB, List.mem_map] at hx
    obtain ⟨b, hb, rfl⟩ := hx
    have hlt : b < bs.length := by rw [hs.mem.len]; exact hl b hb
    have hb' : nth bs b = some bs[b] := by rw [nth_eq]; exact List.getElem?_eq_getElem hlt
    rw [hb']
    exact .inl ⟨_, nth_mem hb', rfl⟩
  · simp only [renB, List.length_map]
    rcases Nat.eq_zero_or_pos k0 with h | h
    · omega
    · have := hlen (k0 - 1) (by omega)
      omega
  · simp only at h1
    rw [forgetL_nth] at h1
    simp only [Option.map_eq_some_iff] at h1
    obtain ⟨s0, h0, rfl⟩ := h1
    split
    · rename_i hc
      simp only [Bool.and_eq_true, List.isEmpty_iff] at hc
      have := (hs.slots i s0 x h0 h2).1 (by rw [hc.2]; exact KH_nil)
      exact ⟨fun _ => renA_ok this, fun h => (h KH_nil).elim⟩
    · exact ⟨fun _ => trivial, fun h => (h KH_nil).elim⟩

def loopBody (P : Program) (f i : Nat) : Code :=
  match nth P.funcs.toList f with
  | some fn => match fn.body with
    | some c => match nthLoop c i with
      | some b => b
      | none => .skip
    | none => .skip
  | none => .skip

theorem nthLoop_in : ∀ {c : Code} {i : Nat} {b : Code}, nthLoop c i = some b → ∀ {j b'}, nthLoop b j = some b' → nthLoop c (i + 1 + j) = some b'
  | .skip, _, _, h, _, _, _ => by simp [nthLoop] at h
  | .region _ _ _, _, _, h, _, _, _ => by simp [nthLoop] at h
  | .seq x y, i, b, h, j, b', hj => by
    simp only [nthLoop] at h ⊢
    split at h
    · rename_i hi
      have h2 := nthLoop_in h hj
      have : i + 1 + j < nloops x := by
        rcases Nat.lt_or_ge (i + 1 + j) (nloops x) with h' | h'
        · exact h'
        · rw [evCode_ok.nthLoop_none x _ h'] at h2; simp at h2
      rw [if_pos this]; exact h2
    · rename_i hi
      rw [if_neg (by omega), show i + 1 + j - nloops x = i - nloops x + 1 + j by omega]
      exact nthLoop_in h hj
  | .cond _ x y, i, b, h, j, b', hj => by
    simp only [nthLoop] at h ⊢
    split at h
    · rename_i hi
      have h2 := nthLoop_in h hj
      have : i + 1 + j < nloops x := by
        rcases Nat.lt_or_ge (i + 1 + j) (nloops x) with h' | h'
        · exact h'
        · rw [evCode_ok.nthLoop_none x _ h'] at h2; simp at h2
      rw [if_pos this]; exact h2
    · rename_i hi
      rw [if_neg (by omega), show i + 1 + j - nloops x = i - nloops x + 1 + j by omega]
      exact nthLoop_in h hj
  | .block _ x, i, b, h, j, b', hj => by simp only [nthLoop] at h ⊢; exact nthLoop_in h hj
  | .loop x, 0, b, h, j, b', hj => by
    simp only [nthLoop] at h
    simp at h; subst h
    rw [show 0 + 1 + j = j + 1 by omega]
    simpa [nthLoop] using hj
  | .loop x, i + 1, b, h, j, b', hj => by
    simp only [nthLoop] at h
    rw [show i + 1 + 1 + j = (i + 1 + j) + 1 by omega]
    simp only [nthLoop]
    exact nthLoop_in h hj
  | .scope x, i, b, h, j, b', hj => by simp only [nthLoop] at h ⊢; exact nthLoop_in h hj
  | .rangeFunc _ _ _ _, _, _, h, _, _, _ => by simp [nthLoop] at h
  | .exit _, _, _, h, _, _, _ => by simp [nthLoop] at h
  | .label _, _, _, h, _, _, _ => by simp [nthLoop] at h
  | .goto _, _, _, h, _, _, _ => by simp [nthLoop] at h
  | .ret, _, _, h, _, _, _ => by simp [nthLoop] at h
  | .refuse _, _, _, h, _, _, _ => by simp [nthLoop] at h

/-- a loop, entered in the states of a family -/
theorem loop_at {P : Program} {H : Hd} (hH : HdOk P H) (d f i : Nat) {fn : Func} {c b : Code} (hf : P.funcs[f]? = some fn) (hc : fn.body = some c) (hb : nthLoop c i = some b) {X : Type} (keep : List Nat) (k0 : Nat) (S : X → St) (T : X → Tree (XE × St))
    (hT : ∀ x, ((evCode P H (evFn P H d) f k0 (i + 1) b (S x)).bind fun y => gcT keep k0 y) = T x)
    (Inv : X → Prop) (μ : X → Nat) (fin : X → XE × St)
    (step : ∀ x, Inv x → ∃ e s, (T x).sel = some (e, s) ∧ ((e = .normal ∧ ∃ x', s = S x' ∧ Inv x' ∧ μ x' < μ x ∧ fin x' = fin x) ∨ (e ≠ .normal ∧ fin x = (e, s)))) :
    ∀ x, Inv x → ∀ F w bs a, k0 ≤ bs.length → StRel F w bs (S x) a → ∀ Q : Exit → Act → World → Prop,
      (∀ F' w' bs' a', Ext k0 F w bs F' w' bs' → StRel F' w' bs' (fin x).2 a' → Q (xe (fin x).1) a' w') → (Code.loop b).wp P Q a w := by
  intro x0 h0 F w bs a hlen hs Q hQ
  refine wp_loop_ghost (fun n a' w' => ∃ x F' bs', Inv x ∧ μ x = n ∧ fin x = fin x0 ∧ k0 ≤ bs'.length ∧ Ext k0 F w bs F' w' bs' ∧ StRel F' w' bs' (S x) a') (μ x0) ⟨x0, F, bs, h0, rfl, rfl, hlen, Ext.refl, hs⟩ ?_
  rintro n a' w' ⟨x, F', bs', hI, rfl, hfin, hlen', hext, hs'⟩
  obtain ⟨e, s, hsel, hcase⟩ := step x hI
  rw [← hT] at hsel
  obtain ⟨⟨e1, s1⟩, h1, h2⟩ := sel_bind hsel
  unfold gcT at h2
  simp only at h2
  split at h2
  · rename_i s2 hg
    simp only [Tree.sel, Option.some.injEq, Prod.mk.injEq] at h2
    obtain ⟨rfl, rfl⟩ := h2
    refine evCode_ok hH.pc (evFn_ok hH d) f k0 b (i + 1) (S x) h1 (fun j b' h hj hk => hH.lh f fn c (i + 1 + j) b' h hf hc (nthLoop_in hb hj) hk) hlen' hs' fun F'' w'' bs'' a'' he hs'' => ?_
    obtain ⟨bs3, e3, hl3, hs3⟩ := hs''.gc hg
    have het := (hext.trans he (Nat.le_refl _)).trans e3 (Nat.le_refl _)
    rcases hcase with ⟨he1, x', hx', hI', hlt, hf'⟩ | ⟨he1, hf'⟩
    · subst he1
      simp only [xe, Exit.then]
      exact ⟨μ x', hlt, x', F'', bs3, hI', rfl, hf'.trans hfin, hl3, het, hx' ▸ hs3⟩
    · have hq := hQ F'' w'' bs3 a'' het (by rw [← hfin, hf']; exact hs3)
      rw [← hfin, hf'] at hq
      cases e1 with
      | normal => exact (he1 rfl).elim
      | exit k => exact hq
      | ret => exact hq
  · simp [Tree.sel] at h2

theorem HdOk.lhCons {P : Program} {pc hc lh mc} {f i : Nat} {h : Nat → St → Tree (XE × St)} (hH : HdOk P ⟨pc, hc, lh, mc⟩) (h1 : ∀ fn c b, P.funcs[f]? = some fn → fn.body = some c → nthLoop c i = some b → LoopOk P b h) : HdOk P ⟨pc, hc, ((f, i), h) :: lh, mc⟩ := by
  refine ⟨⟨hH.pc.pc, hH.pc.hc, hH.pc.mc⟩, fun f' fn c j b h' hf hc hb hl => ?_⟩
  simp only [lookLh] at hl
  split at hl
  · rename_i e
    simp only [Bool.and_eq_true, beq_iff_eq] at e
    simp at hl; subst hl
    obtain ⟨e1, e2⟩ := e
    subst e1; subst e2
    exact h1 fn c b hf hc hb
  · exact hH.lh f' fn c j b h' hf hc hb hl

/-- rounds of a loop, one behind the other -/
def iter {X : Type} (TX : X → Tree (XE × X)) : Nat → X → XE × X
  | 0, x => (.normal, x)
  | n + 1, x => match (TX x).sel with
    | some (.normal, x') => iter TX n x'
    | some (.exit k, x') => (.exit k, x')
    | some (.ret, x') => (.ret, x')
    | none => (.normal, x)

/-- how a loop ends -/
def fin {X : Type} (TX : X → Tree (XE × X)) (μ : X → Nat) (x : X) : XE × X := iter TX (μ x + 1) x

/-- each round keeps the invariant, and comes nearer to the end; whatever leaves the loop satisfies Q -/
def Rounds {X : Type} (TX : X → Tree (XE × X)) (inv : X → Prop) (μ : X → Nat) (Q : XE × X → Prop) : Prop :=
  ∀ x, inv x → (TX x).All fun y => match y.1 with
    | .normal => inv y.2 ∧ μ y.2 < μ x
    | e => Q (e, y.2)

theorem iter_fuel {X : Type} {TX : X → Tree (XE × X)} {inv : X → Prop} {μ : X → Nat} {Q : XE × X → Prop} (h : Rounds TX inv μ Q) : ∀ (m : Nat) (x : X), μ x = m → inv x → ∀ n, m < n → iter TX n x = iter TX (m + 1) x := by
  intro m
  induction m using Nat.strongRecOn with
  | _ m ih =>
    intro x hm hi n hn
    obtain ⟨⟨e, x'⟩, hsel, hy⟩ := all_sel (h x hi)
    obtain ⟨n, rfl⟩ : ∃ k, n = k + 1 := ⟨n - 1, by omega⟩
    simp only [iter, hsel]
    cases e with
    | normal =>
      simp only at hy ⊢
      rw [ih (μ x') (by omega) x' rfl hy.1 n (by omega), ih (μ x') (by omega) x' rfl hy.1 m (by omega)]
    | exit k => rfl
    | ret => rfl

theorem fin_post {X : Type} {TX : X → Tree (XE × X)} {inv : X → Prop} {μ : X → Nat} {Q : XE × X → Prop} (h : Rounds TX inv μ Q) : ∀ (m : Nat) (x : X), μ x = m → inv x → (fin TX μ x).1 ≠ .normal ∧ Q (fin TX μ x) := by
  intro m
  induction m using Nat.strongRecOn with
  | _ m ih =>
    intro x hm hi
    obtain ⟨⟨e, x'⟩, hsel, hy⟩ := all_sel (h x hi)
    have key : fin TX μ x = match e with | .normal => iter TX (μ x) x' | .exit k => (.exit k, x') | .ret => (.ret, x') := by
      unfold fin
      simp only [iter, hsel]
      cases e <;> rfl
    rw [key]
    cases e with
    | normal =>
      simp only at hy ⊢
      rw [iter_fuel h (μ x') x' rfl hy.1 (μ x) hy.2]
      exact ih (μ x') (by omega) x' rfl hy.1
    | exit k => exact ⟨by simp, hy⟩
    | ret => exact ⟨by simp, hy⟩

theorem fin_step {X : Type} {TX : X → Tree (XE × X)} {inv : X → Prop} {μ : X → Nat} {Q : XE × X → Prop} (h : Rounds TX inv μ Q) {x : X} (hi : inv x) :
    (TX x).All fun y => (y.1 = .normal ∧ inv y.2 ∧ μ y.2 < μ x ∧ fin TX μ y.2 = fin TX μ x) ∨ (y.1 ≠ .normal ∧ fin TX μ x = y) := by
  have h0 := h x hi
  have key : ∀ y, (TX x).sel = some y → fin TX μ x = match y.1 with | .normal => iter TX (μ x) y.2 | .exit k => (.exit k, y.2) | .ret => (.ret, y.2) := by
    rintro ⟨e, x'⟩ hsel
    unfold fin
    simp only [iter, hsel]
    cases e <;> rfl
  have gen : ∀ t : Tree (XE × X), (∀ y, t.sel = some y → fin TX μ x = match y.1 with | .normal => iter TX (μ x) y.2 | .exit k => (.exit k, y.2) | .ret => (.ret, y.2)) →
      (t.All fun y => match y.1 with | .normal => inv y.2 ∧ μ y.2 < μ x | e => Q (e, y.2)) → t.All fun y => (y.1 = .normal ∧ inv y.2 ∧ μ y.2 < μ x ∧ fin TX μ y.2 = fin TX μ x) ∨ (y.1 ≠ .normal ∧ fin TX μ x = y) := by
    intro t
    induction t with
    | leaf y =>
      intro hk hy
      obtain ⟨e, x'⟩ := y
      have hk := hk (e, x') rfl
      cases e with
      | normal =>
        simp only [Tree.All] at hy hk
        refine .inl ⟨rfl, hy.1, hy.2, ?_⟩
        show fin TX μ x' = _
        rw [hk, iter_fuel h (μ x') x' rfl hy.1 (μ x) hy.2]
        rfl
      | exit k => exact .inr ⟨by simp, hk⟩
      | ret => exact .inr ⟨by simp, hk⟩
    | br c t e iht ihe =>
      intro hk hy
      refine ⟨fun hc => iht (fun y hs => hk y ?_) (hy.1 hc), fun hc => ihe (fun y hs => hk y ?_) (hy.2 hc)⟩
      · simp only [Tree.sel, hc, cond_true]; exact hs
      · simp only [Tree.sel, hc, cond_false]; exact hs
    | need c t ih =>
      intro hk hy
      refine ⟨hy.1, ih (fun y hs => hk y ?_) hy.2⟩
      simp only [Tree.sel, hy.1, cond_true]; exact hs
    | fail => intro _ hy; exact hy
  exact gen (TX x) key h0

def eqXE : XE → XE → Bool
  | .normal, .normal => true
  | .ret, .ret => true
  | .exit a, .exit b => a == b
  | _, _ => false

theorem eqXE_iff {a b : XE} : eqXE a b = true ↔ a = b := by
  cases a <;> cases b <;> simp [eqXE]

/-- the ways out of a loop -/
def outT {X : Type} (S : X → St) (y : XE × X) : List XE → Tree (XE × St)
  | [] => .fail
  | [e] => .need (eqXE y.1 e) (.leaf (e, S y.2))
  | e :: r => .br (eqXE y.1 e) (.leaf (e, S y.2)) (outT S y r)

/-- the one way out -/
def outOne {X : Type} (S : X → St) (y : XE × X) (e : XE) : Tree (XE × St) := .leaf (e, S y.2)

theorem outT_sel {X : Type} {S : X → St} {y : XE × X} : ∀ {es : List XE} {z : XE × St}, (outT S y es).sel = some z → z = (y.1, S y.2)
  | [], z, h => by simp [outT, Tree.sel] at h
  | [e], z, h => by
    simp only [outT, Tree.sel] at h
    cases he : eqXE y.1 e <;> simp [he] at h
    rw [eqXE_iff.1 he, ← h]
  | e :: e' :: r, z, h => by
    simp only [outT, Tree.sel] at h
    cases he : eqXE y.1 e
    · simp only [he, cond_false] at h
      exact outT_sel h
    · simp only [he, cond_true, Option.some.injEq] at h
      rw [eqXE_iff.1 he, ← h]

/-- a loop's summary: 'get' reads off the state what stays (C) and what turns (V); 'es': the ways out; 'k0': how many blocks stay in their places -/
def loopH {C V : Type} (keep : List Nat) (k0 n : Nat) (get : List (Nat × AV) → Mem → Option (C × V)) (inv : C → V → Bool) (S : C → V → St) (f : C → V → XE × V) (es : List XE) (K : Nat) (s : St) : Tree (XE × St) :=
  if s.tmps.length == n && Nat.ble K k0 then
    match s.gc keep k0 with
    | some s' => match getKept s' keep with
      | some l => match get l s'.mem with
        | some (c, v) => .need (inv c v) (outT (S c) (f c v) es)
        | none => .fail
      | none => .fail
    | none => .fail
  else .fail

theorem loopOk_of {P : Program} {H : Hd} (hH : HdOk P H) (d f i : Nat) {fn : Func} {c b : Code} (hf : P.funcs[f]? = some fn) (hc : fn.body = some c) (hb : nthLoop c i = some b) {C V : Type} (keep : List Nat) (k0 n : Nat) (S : C → V → St) (TX : C → V → Tree (XE × V))
    (hT : ∀ c v, ((evCode P H (evFn P H d) f k0 (i + 1) (loopBody P f i) (S c v)).bind fun y => gcT keep k0 y) = (TX c v).bind fun y => .leaf (y.1, S c y.2))
    (get : List (Nat × AV) → Mem → Option (C × V)) (inv : C → V → Bool) (μ : C → V → Nat) (es : List XE) {Q : C → XE × V → Prop}
    (hget : ∀ l m c v, get l m = some (c, v) → mkS n l m = S c v)
    (step : ∀ c, Rounds (TX c) (fun v => inv c v = true) (μ c) (Q c)) :
    LoopOk P b (loopH keep k0 n get inv S (fun c => fin (TX c) (μ c)) es) := by
  have hlb : loopBody P f i = b := by
    unfold loopBody
    rw [nth_eq]
    simp only [Array.getElem?_toList, hf, hc, hb]
  rw [hlb] at hT
  intro K s y hy F w bs a _ hs Q' hQ
  unfold loopH at hy
  split at hy
  · rename_i hlen
    rw [Bool.and_eq_true] at hlen
    have hKk := Nat.ble_eq.mp hlen.2
    have hlen : s.tmps.length = n := by simpa using hlen.1
    split at hy
    · rename_i s' hg
      split at hy
      · rename_i l hl
        split at hy
        · rename_i cc x hx
          simp only [Tree.sel] at hy
          cases hi : inv cc x <;> simp [hi] at hy
          have hy2 := outT_sel hy
          subst hy2
          have e := gc_eq hg hl
          rw [hlen, hget l _ cc x hx] at e
          obtain ⟨bs1, he1, hl1, hs2⟩ := hs.gc hg
          rw [e] at hs2
          refine loop_at hH d f i hf hc hb keep k0 (S cc) (fun x => (TX cc x).bind fun y => .leaf (y.1, S cc y.2)) (hT cc) (fun x => inv cc x = true) (μ cc) (fun x => ((fin (TX cc) (μ cc) x).1, S cc (fin (TX cc) (μ cc) x).2)) (fun x hx => ?_) x hi F w bs1 a hl1 hs2 Q' fun F' w' bs' a' he hs' => hQ F' w' bs' a' ((he1.trans he (Nat.le_refl _)).weak hKk) hs'
          obtain ⟨y, h1, h2⟩ := all_sel (fin_step (step cc) hx)
          refine ⟨y.1, S cc y.2, ?_, ?_⟩
          · have gen : ∀ t : Tree (XE × V), t.sel = some y → (t.bind fun y => Tree.leaf (y.1, S cc y.2)).sel = some (y.1, S cc y.2) := by
              intro t
              induction t with
              | leaf z => intro h; simp [Tree.sel] at h; subst h; rfl
              | br c t e iht ihe =>
                intro h
                simp only [Tree.bind, Tree.sel] at h ⊢
                cases c
                · exact ihe h
                · exact iht h
              | need c t ih =>
                intro h
                simp only [Tree.bind, Tree.sel] at h ⊢
                cases c
                · simp at h
                · exact ih h
              | fail => intro h; simp [Tree.sel] at h
            exact gen (TX cc x) h1
          · rcases h2 with ⟨he, hi2, hlt, hfe⟩ | ⟨he, hfe⟩
            · exact .inl ⟨he, y.2, rfl, hi2, hlt, by rw [hfe]⟩
            · exact .inr ⟨he, by rw [hfe]⟩
        · simp [Tree.sel] at hy
      · simp [Tree.sel] at hy
    · simp [Tree.sel] at hy
  · simp [Tree.sel] at hy

/-- a loop, round by round -/
def unrollH (P : Program) (H : Hd) (d f i : Nat) : Nat → Nat → St → Tree (XE × St)
  | 0, _, _ => .fail
  | n + 1, K, s => (evCode P H (evFn P H d) f K (i + 1) (loopBody P f i) s).bind fun y => match y.1 with
    | .normal => unrollH P H d f i n K y.2
    | e => .leaf (e, y.2)

theorem unroll_ok {P : Program} {H : Hd} (hH : HdOk P H) (d f i : Nat) {fn : Func} {c b : Code} (hf : P.funcs[f]? = some fn) (hc : fn.body = some c) (hb : nthLoop c i = some b) (n : Nat) : LoopOk P b (unrollH P H d f i n) := by
  have hlb : loopBody P f i = b := by
    unfold loopBody
    rw [nth_eq]
    simp only [Array.getElem?_toList, hf, hc, hb]
  have key : ∀ (n K : Nat) (s : St) (x : XE × St), (unrollH P H d f i n K s).sel = some x → ∀ (F : Nat → Prop) (w : World) (bs : List BI) (a : Act), K ≤ bs.length → StRel F w bs s a → ∀ Q : Exit → Act → World → Prop,
      (∀ F' w' bs' a', Ext K F w bs F' w' bs' → StRel F' w' bs' x.2 a' → Q (xe x.1) a' w') → Code.rounds P b Q n a w := by
    intro n
    induction n with
    | zero => intro K s x h; simp [unrollH, Tree.sel] at h
    | succ n ih =>
      intro K s x h F w bs a hK hs Q hQ
      simp only [unrollH, hlb] at h
      obtain ⟨⟨e, s1⟩, h1, h2⟩ := sel_bind h
      unfold Code.rounds
      refine evCode_ok hH.pc (evFn_ok hH d) f K b (i + 1) s h1 (fun j b' h hj hk => hH.lh f fn c (i + 1 + j) b' h hf hc (nthLoop_in hb hj) hk) hK hs fun F' w' bs' a' he hs' => ?_
      cases e with
      | normal =>
        simp only [xe, Exit.then]
        exact ih K s1 x h2 F' w' bs' a' (he.le hK) hs' Q fun F'' w'' bs'' a'' he' hs'' => hQ F'' w'' bs'' a'' (he.trans he' (Nat.le_refl _)) hs''
      | exit k =>
        simp only [Tree.sel, Option.some.injEq] at h2
        subst h2
        exact hQ F' w' bs' a' he hs'
      | ret =>
        simp only [Tree.sel, Option.some.injEq] at h2
        subst h2
        exact hQ F' w' bs' a' he hs'
  intro K s x h F w bs a hK hs Q hQ
  exact wp_loop_rounds n (key n K s x h F w bs a hK hs Q hQ)

/-- a plain test of anything -/
noncomputable def dec (p : Prop) : Bool := @decide p (Classical.propDecidable p)

theorem dec_iff {p : Prop} : dec p = true ↔ p := by
  unfold dec
  exact @decide_eq_true_iff p (Classical.propDecidable p)

/-- how a loop ends, by its rounds -/
theorem fin_of {X : Type} {TX : X → Tree (XE × X)} {inv : X → Prop} {μ : X → Nat} {Q : XE × X → Prop} (h : Rounds TX inv μ Q) {x : X} (hi : inv x) : Q (fin TX μ x) := (fin_post h (μ x) x rfl hi).2

end Go.Sx
