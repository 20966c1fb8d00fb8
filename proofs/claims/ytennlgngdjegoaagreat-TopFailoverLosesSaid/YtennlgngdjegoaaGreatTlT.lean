/-
  Part TlT of the proof: TfA TfB TfC LosC.
-/
import Derived.Test.YtennlgngdjegoaaGreatTlS
namespace Go.Proofs.YtennlgngdjegoaaGreat
open Go Go.Sx Go.RowKit Classical
set_option maxRecDepth 100000
set_option maxHeartbeats 4000000
namespace Hs
open Fo (inSh scSh evSh pcH litK headK allB allB_ok lhsOf lhs_ok)
def nestK : Nat × (List A1 → Tree AV) := (4294967290, fun _ => .fail)
def osL : Nat → Nat → List CV
  | 0, _ => []
  | n + 1, k => .os k 8 :: osL n (k + 1)
def rowsL (len : Nat → Nat) (σ : Nat → Val) : Nat → Nat → Mem
  | 0, _ => []
  | n + 1, j => some (93, [.row false scSh (len j) (σ j)]) :: rowsL len σ n (j + 1)
def osC : Nat → Nat → List CV → Bool
  | 0, _, [] => true
  | n + 1, k, .os b 8 :: r => b == k && osC n (k + 1) r
  | _, _, _ => false
def parse : Mem → Option (List (Nat × Val))
  | [] => some []
  | some (93, [.row false [.int .u8, .int .u8, .int .u8, .int .u8, .int .u8, .int .u8, .int .u8, .int .u8] m σ]) :: r => match parse r with
    | some l => some ((m, σ) :: l)
    | none => none
  | _ => none
theorem osC_ok : ∀ {n k : Nat} {l : List CV}, osC n k l = true → l = osL n k
  | 0, _, [], _ => rfl
  | n + 1, k, .os b 8 :: r, h => by
    simp only [osC, Bool.and_eq_true, beq_iff_eq] at h
    obtain ⟨rfl, h⟩ := h
    rw [osC_ok h]; rfl
  | 0, _, _ :: _, h => by simp [osC] at h
  | _ + 1, _, [], h => by simp [osC] at h
  | n + 1, k, x :: r, h => by
    unfold osC at h
    split at h
    · rename_i heq; cases heq
    · rename_i b r' h1 h2
      simp only [List.cons.injEq] at h2
      obtain ⟨rfl, rfl⟩ := h2
      simp only [Bool.and_eq_true, beq_iff_eq] at h
      obtain ⟨rfl, h⟩ := h
      obtain rfl := Nat.succ.inj h1
      rw [osC_ok h]
      rfl
    · cases h
def lenOf (l : List (Nat × Val)) (j : Nat) : Nat := match nth l j with | some p => p.1 | none => 0
def valOf (l : List (Nat × Val)) (j : Nat) : Val := match nth l j with | some p => p.2 | none => .zero
theorem rowsL_shift {len : Nat → Nat} {σ : Nat → Val} : ∀ (n j : Nat), rowsL (fun i => len (i + 1)) (fun i => σ (i + 1)) n j = rowsL len σ n (j + 1)
  | 0, _ => rfl
  | n + 1, j => by
    show some (93, [CV.row false scSh (len (j + 1)) (σ (j + 1))]) :: rowsL (fun i => len (i + 1)) (fun i => σ (i + 1)) n (j + 1) = some (93, [CV.row false scSh (len (j + 1)) (σ (j + 1))]) :: rowsL len σ n (j + 2)
    rw [rowsL_shift n (j + 1)]
theorem parse_ok : ∀ {mem : Mem} {l : List (Nat × Val)}, parse mem = some l → mem = rowsL (lenOf l) (valOf l) l.length 0
  | [], l, h => by simp [parse] at h; subst h; rfl
  | x :: r, l, h => by
    unfold parse at h
    split at h
    · rename_i heq; cases heq
    · rename_i m σ r' heq
      simp only [List.cons.injEq] at heq
      obtain ⟨rfl, rfl⟩ := heq
      split at h
      · rename_i l' hl
        simp only [Option.some.injEq] at h
        subst h
        have := parse_ok hl
        show _ = some (93, [CV.row false scSh m σ]) :: rowsL (lenOf ((m, σ) :: l')) (valOf ((m, σ) :: l')) l'.length 1
        rw [← rowsL_shift]
        rw [this]
        rfl
      · cases h
    · cases h
inductive N8 where
  | n1 | n2 | n3 | n4 | n5 | n6 | n7 | n8
def N8.k : N8 → Nat
  | .n1 => 1 | .n2 => 2 | .n3 => 3 | .n4 => 4 | .n5 => 5 | .n6 => 6 | .n7 => 7 | .n8 => 8
def N8.of : Nat → Option N8
  | 1 => some .n1 | 2 => some .n2 | 3 => some .n3 | 4 => some .n4 | 5 => some .n5 | 6 => some .n6 | 7 => some .n7 | 8 => some .n8
  | _ => none
theorem N8.of_ok {a : Nat} {n : N8} (h : N8.of a = some n) : n.k = a := by
  unfold N8.of at h
  split at h <;> first | (cases h; rfl) | cases h
theorem N8.of_lt {a : Nat} (h1 : 1 ≤ a) (h8 : a ≤ 8) : ∃ n, N8.of a = some n := by
  match a, h1, h8 with
  | 1, _, _ => exact ⟨_, rfl⟩
  | 2, _, _ => exact ⟨_, rfl⟩
  | 3, _, _ => exact ⟨_, rfl⟩
  | 4, _, _ => exact ⟨_, rfl⟩
  | 5, _, _ => exact ⟨_, rfl⟩
  | 6, _, _ => exact ⟨_, rfl⟩
  | 7, _, _ => exact ⟨_, rfl⟩
  | 8, _, _ => exact ⟨_, rfl⟩
  | a + 9, _, h => omega
namespace Ia
structure C where
  n : N8
  len : Nat → Nat
  s0 : Nat → Val
  w : Il
  m : Int
structure V where
  σ : Nat → Val
  i : Int
  p : Int
  e : Int
def S (c : C) (v : V) : St := mkS 46 [(4, .one (.c .nils)), (5, .one (.c (I v.p))), (6, .one (.c (I v.e))), (8, .one (.c (.oc 0 c.n.k c.n.k))), (19, .one (.c (.sl wrSh c.w.n c.w.ρ))), (20, .one (.c (I c.m))), (21, .one (.c (I v.i)))] (some (94, osL c.n.k 1) :: rowsL c.len v.σ c.n.k 0)
def get : List (Nat × AV) → Mem → Option (C × V)
  | [(4, .one (.c .nils)), (5, .one (.c (.int .i64 p))), (6, .one (.c (.int .i64 e))), (8, .one (.c (.oc 0 a b))), (19, .one (.c (.sl [.int .i64, .int .i64, .sl [.int .u8, .int .u8, .int .u8, .int .u8, .int .u8, .int .u8, .int .u8, .int .u8]] m ω))), (20, .one (.c (.int .i64 q))), (21, .one (.c (.int .i64 i)))], some (94, cs) :: mem =>
    match N8.of a, parse mem with
    | some n, some l => bif (b == n.k) && (osC n.k 1 cs && l.length == n.k) then some (⟨n, lenOf l, valOf l, ⟨m, ω⟩, q⟩, ⟨valOf l, i, p, e⟩) else none
    | _, _ => none
  | _, _ => none
theorem get_ok {l : List (Nat × AV)} {mem : Mem} {c : C} {v : V} (h : get l mem = some (c, v)) : mkS 46 l mem = S c v := by
  unfold get at h
  split at h
  · rename_i p e a b m ω q i cs mem
    split at h
    · rename_i n l hn hl
      have hn := N8.of_ok hn
      cases hc : (b == n.k) && (osC n.k 1 cs && l.length == n.k)
      · rw [hc] at h; cases h
      · rw [hc] at h
        simp only [Bool.and_eq_true, beq_iff_eq] at hc
        obtain ⟨rfl, h1, h2⟩ := hc
        subst hn
        simp only [cond_true, Option.some.injEq, Prod.mk.injEq] at h
        obtain ⟨rfl, rfl⟩ := h
        rw [parse_ok hl, osC_ok h1, h2]
        rfl
    · cases h
  · cases h
def vol (c : C) (i : Nat) : Int := vI c.w.ρ i
def stt (c : C) (i : Nat) : Int := vJ c.w.ρ i
def dl (c : C) (i : Nat) : Nat := vL c.w.ρ 2 i
def dv (c : C) (i : Nat) : Val := (c.w.ρ.at i).at 2
def viewL (len : Nat → Nat) (σ : Nat → Val) : Nat → Nat → List CV
  | 0, _ => []
  | n + 1, j => .sl scSh (len j) (σ j) :: viewL len σ n (j + 1)
def fitX (c : C) (v : V) : Int := fitE c.n.k (fun j => toInt64 (vL (Val.ofFlat 1 (viewL c.len v.σ c.n.k 0)) 0 j)) (vol c v.i.toNat) (stt c v.i.toNat) (dl c v.i.toNat)
def step (c : C) (σ : Nat → Val) (i j : Nat) : Nat → Val := fun k => bif Nat.beq k j then splice (stt c i).toNat (Nat.min (dl c i) (c.len j - (stt c i).toNat)) (σ j) (dv c i) else σ k
def leafAt (c : C) (v : V) (j : Nat) : Tree (XE × V) :=
  .need (le 0 (stt c v.i.toNat) && lt (stt c v.i.toNat) (toInt64 (c.len j))) (.leaf (.normal, ⟨step c v.σ v.i.toNat j, w64 (v.i + 1), v.p, v.e⟩))
def brs (c : C) (v : V) : Nat → Nat → Tree (XE × V)
  | 0, _ => .fail
  | 1, j => leafAt c v j
  | r + 2, j => .br (vol c v.i.toNat == (j : Int)) (leafAt c v j) (brs c v (r + 1) (j + 1))
def TX (c : C) (v : V) : Tree (XE × V) :=
  .br (lt v.i c.m) (.need (inRange v.i c.w.n) (.need true (.br (fitX c v != 0) (.leaf (.ret, ⟨v.σ, v.i, v.i, fitX c v⟩)) (.need (inRange (vol c v.i.toNat) c.n.k) (brs c v c.n.k 0))))) (.leaf (.exit 0, v))
end Ia
noncomputable abbrev HI : Hd := ⟨nestK :: H3.pc, H3.hc, [], []⟩
theorem hI : HdOk Tryz.prog HI := h3.tcCons (f := 4294967290) (G := fun _ => .fail) (fun _ _ h => by simp [Tree.sel] at h)
namespace Ia
theorem t (c : C) (v : V) : ((evCode Tryz.prog HI (evFn Tryz.prog HI 10) 89 0 1 (loopBody Tryz.prog 89 0) (S c v)).bind fun y => gcT [4, 5, 6, 8, 19, 20, 21] 0 y) = (TX c v).bind fun y => .leaf (y.1, S c y.2) := by
  obtain ⟨n, len, s0, w, m⟩ := c
  cases n
  · kernel_rfl
  · kernel_rfl
  · kernel_rfl
  · kernel_rfl
  · kernel_rfl
  · kernel_rfl
  · kernel_rfl
  · kernel_rfl
def apS (c : C) : Nat → Nat → Val
  | 0 => c.s0
  | i + 1 => step c (apS c i) i (vol c i).toNat
def st (c : C) (i : Nat) : V := ⟨apS c i, i, 0, 0⟩
def fitC (c : C) (i : Nat) : Int := fitE c.n.k (fun j => toInt64 (c.len j)) (vol c i) (stt c i) (dl c i)
def sb (c : C) (i : Nat) : V := ⟨apS c i, i, i, fitC c i⟩
def nn (c : C) : Nat := c.w.n
def bad (c : C) (i : Nat) : Bool := fitC c i != 0
def good (c : C) : Prop := (c.m = toInt64 c.w.n ∧ c.w.n ≤ 1000) ∧ (∀ j, j < c.n.k → 1 ≤ c.len j ∧ c.len j ≤ 4096) ∧ ∀ i, i < c.w.n → fewN (dl c i)
def μ (c : C) (v : V) : Nat := (c.w.n - v.i).toNat
theorem viewL_nth (len : Nat → Nat) (σ : Nat → Val) : ∀ (n j i : Nat), i < n → nth (viewL len σ n j) i = some (.sl scSh (len (j + i)) (σ (j + i)))
  | 0, _, _, h => by omega
  | n + 1, j, 0, _ => rfl
  | n + 1, j, i + 1, h => by
    show nth (viewL len σ n (j + 1)) i = _
    rw [viewL_nth len σ n (j + 1) i (by omega), show j + 1 + i = j + (i + 1) by omega]
theorem view_len {len : Nat → Nat} {σ : Nat → Val} {n i : Nat} (h : i < n) : vL (Val.ofFlat 1 (viewL len σ n 0)) 0 i = len i := by
  show ((match nth (viewL len σ n 0) (i * 1 + 0) with | some x => Val.ofC x | none => Val.zero)).L [] = _
  have e : i * 1 + 0 = i := by omega
  rw [e, viewL_nth len σ n 0 i h, Nat.zero_add]
  rfl
theorem fitX_eq (c : C) (v : V) : fitX c v = fitC c v.i.toNat := by
  unfold fitX fitC
  exact fit_congr (fun j hj => by rw [view_len hj]) _ _ _
theorem fit0 {n : Nat} {len : Nat → Int} {v s : Int} {m : Nat} (h : fitE n len v s m = 0) (hm : fewN m) (hl : ∀ i, i < n → 1 ≤ len i ∧ len i ≤ 4096) : (0 ≤ v ∧ v < n) ∧ 0 < m ∧ 0 ≤ s ∧ s + m ≤ len v.toNat := by
  unfold fitE at h
  cases h1 : lt v 0 || le (toInt64 n) v
  · rw [h1] at h
    rw [Bool.or_eq_false_iff, ← Bool.not_eq_true, ← Bool.not_eq_true, lt_iff, le_iff] at h1
    have h1' : ¬ (n : Int) ≤ v := h1.2
    cases h2 : toInt64 m == 0
    · rw [h2] at h
      rw [beq_eq_false_iff_ne] at h2
      have h2 : (m : Int) ≠ 0 := h2
      obtain ⟨a, b⟩ := hl v.toNat (by omega)
      unfold fewN at hm
      have e : w64 (len v.toNat - toInt64 m) = len v.toNat - m := by
        show IntKind.i64.wrap (len v.toNat - (m : Int)) = _
        exact w64_id (by omega) (by omega)
      cases h3 : lt s 0 || lt (w64 (len v.toNat - toInt64 m)) s
      · rw [Bool.or_eq_false_iff, ← Bool.not_eq_true, ← Bool.not_eq_true, lt_iff, lt_iff, e] at h3
        omega
      · rw [h3] at h; cases h
    · rw [h2] at h; cases h
  · rw [h1] at h; cases h
theorem brs_all {Q : XE × V → Prop} (c : C) (v : V) : ∀ (r j : Nat) (k : Nat), vol c v.i.toNat = (k : Int) → j ≤ k → k < j + r → (leafAt c v k).All Q → (brs c v r j).All Q
  | 0, j, k, _, h1, h2, _ => by omega
  | 1, j, k, _, h1, h2, h => by
    have : k = j := by omega
    subst this; exact h
  | r + 2, j, k, hk, h1, h2, h => by
    refine ⟨fun hc => ?_, fun hc => ?_⟩
    · rw [hk, beq_iff_eq] at hc
      have : k = j := by omega
      subst this; exact h
    · rw [hk, beq_eq_false_iff_ne] at hc
      exact brs_all c v (r + 1) (j + 1) k hk (by omega) (by omega) h
theorem sq (c : C) (h : good c) : Sq (TX c) (μ c) (st c) (sb c) (nn c) (bad c) .ret (.exit 0) := by
  obtain ⟨⟨hm, hn⟩, hl, hd⟩ := h
  refine sqF (sn := fun i => { st c (i + 1) with i := w64 ((i : Int) + 1) }) (by simp) (by simp) (fun i hi => by show ((c.w.n : Int) - (i : Int)).toNat = c.w.n - i; omega) (fun i hi => ?_) (fun i hi => by rw [wS (n := c.w.n) (by unfold fewN; omega) hi]; rfl) ?_
  · have hi : i < c.w.n := hi
    have hf : fitX c (st c i) = fitC c i := fitX_eq c (st c i)
    refine ⟨fun _ => ⟨inR hi, rfl, fun hb => ?_, fun hb => ?_⟩, fun h' => ?_⟩
    · rw [hf] at hb
      have hb' : bad c i = true := hb
      rw [hb']
      show (XE.ret, (⟨apS c i, i, i, fitX c (st c i)⟩ : V)) = (XE.ret, sb c i)
      rw [hf]; rfl
    · rw [hf] at hb
      have hb' : bad c i = false := hb
      have h0 : fitC c i = 0 := by simpa [bne] using hb
      obtain ⟨⟨v0, v1⟩, d0, s0, s1⟩ := fit0 h0 (hd i hi) (fun j hj => by
        obtain ⟨a, b⟩ := hl j hj
        show 1 ≤ ((c.len j : Nat) : Int) ∧ ((c.len j : Nat) : Int) ≤ 4096
        omega)
      have s1 : stt c i + dl c i ≤ ((c.len (vol c i).toNat : Nat) : Int) := s1
      refine ⟨?_, brs_all c (st c i) c.n.k 0 (vol c i).toNat ?_ (Nat.zero_le _) (by omega) ⟨?_, ?_⟩⟩
      · show inRange (vol c i) c.n.k = true
        unfold inRange
        rw [Bool.and_eq_true, le_iff, lt_iff]
        exact ⟨v0, v1⟩
      · show vol c i = _
        omega
      · show (le 0 (stt c i) && lt (stt c i) (toInt64 (c.len (vol c i).toNat))) = true
        rw [Bool.and_eq_true, le_iff, lt_iff]
        refine ⟨s0, ?_⟩
        show stt c i < ((c.len (vol c i).toNat : Nat) : Int)
        omega
      · rw [hb']; rfl
    · have h' : lt (i : Int) c.m = false := h'
      rw [hm, ltT hi] at h'; cases h'
  · refine ⟨fun h' => ?_, fun _ => rfl⟩
    have h' : lt (c.w.n : Int) c.m = true := h'
    rw [hm, lt_iff] at h'
    have h' : (c.w.n : Int) < (c.w.n : Int) := h'
    omega
noncomputable def L : Nat → St → Tree (XE × St) := lqH [4, 5, 6, 8, 19, 20, 21] 0 46 get fun c v => lqT (S c) (good c ∧ v = st c 0) (anyB (bad c) (nn c)) .ret (.exit 0) (sb c (firstB (bad c) (nn c))) (st c (nn c))
theorem ok (fn : Func) (c b : Code) (hf : Tryz.prog.funcs[89]? = some fn) (hc : fn.body = some c) (hb : nthLoop c 0 = some b) : LoopOk Tryz.prog b L :=
  lq_ok hI 10 89 0 hf hc hb [4, 5, 6, 8, 19, 20, 21] 0 46 S TX t get (fun _ _ _ _ h => get_ok h)
    good μ st sb nn bad .ret (.exit 0) sq (fun c => (sb c (firstB (bad c) (nn c)))) (fun c => (st c (nn c))) (fun _ _ _ => StWk.refl) (fun _ _ _ => StWk.refl)
end Ia
end Hs
end Go.Proofs.YtennlgngdjegoaaGreat
namespace Go.Proofs.YtennlgngdjegoaaGreat
open Go Go.Sx Go.RowKit Classical
set_option maxRecDepth 100000
set_option maxHeartbeats 4000000
namespace Hs
open Fo (inSh scSh evSh pcH litK headK allB allB_ok lhsOf lhs_ok)
noncomputable abbrev HJ : Hd := ⟨HI.pc, HI.hc, [], [(94, ncG (Fo.cl1 93 scSh 8 8))]⟩
theorem hJ : HdOk Tryz.prog HJ := hI.mcCons Fo.n94.mc
noncomputable abbrev HA : Hd := ⟨HJ.pc, HJ.hc, [((89, 0), Ia.L), ((166, 0), unrollH Tryz.prog HJ 10 166 0 9)], HJ.mc⟩
theorem hA : HdOk Tryz.prog HA := HdOk.lhCons (HdOk.lhCons hJ fun _ _ _ hf hc hb => unroll_ok hJ 10 166 0 hf hc hb 9) Ia.ok
def imL (ρ : Val) : Nat → Nat → List (Nat × Val)
  | 0, _ => []
  | n + 1, j => (vL ρ 0 j, (ρ.at j).at 0) :: imL ρ n (j + 1)
theorem imL_nth (ρ : Val) : ∀ (n j i : Nat), i < n → nth (imL ρ n j) i = some (vL ρ 0 (j + i), (ρ.at (j + i)).at 0)
  | 0, _, _, h => by omega
  | n + 1, j, 0, _ => rfl
  | n + 1, j, i + 1, h => by
    show nth (imL ρ n (j + 1)) i = _
    rw [imL_nth ρ n (j + 1) i (by omega), show j + 1 + i = j + (i + 1) by omega]
theorem lenOf_im {ρ : Val} {n i : Nat} (h : i < n) : lenOf (imL ρ n 0) i = vL ρ 0 i := by
  unfold lenOf; rw [imL_nth ρ n 0 i h, Nat.zero_add]
theorem valOf_im {ρ : Val} {n i : Nat} (h : i < n) : valOf (imL ρ n 0) i = (ρ.at i).at 0 := by
  unfold valOf; rw [imL_nth ρ n 0 i h, Nat.zero_add]
def apG (ρ ω : Val) : Nat → Nat → Val
  | 0 => fun j => (ρ.at j).at 0
  | i + 1 => fun k => bif Nat.beq k (vI ω i).toNat then splice (vJ ω i).toNat (Nat.min (vL ω 2 i) (vL ρ 0 (vI ω i).toNat - (vJ ω i).toNat)) (apG ρ ω i (vI ω i).toNat) ((ω.at i).at 2) else apG ρ ω i k
def apV (n : Nat) (ρ : Val) (m : Nat) (ω : Val) : Val := Val.ofFlat 1 (Ia.viewL (vL ρ 0) (apG ρ ω m) n 0)
structure AppOk (n : Nat) (ρ : Val) (m : Nat) (ω : Val) : Prop where
  n1 : 1 ≤ n
  n8 : n ≤ 8
  m1 : m ≤ 1000
  len : ∀ j, j < n → 1 ≤ vL ρ 0 j ∧ vL ρ 0 j ≤ 4096
  few : ∀ i, i < m → fewN (vL ω 2 i)
  fit : ∀ i, i < m → fitE n (fun j => toInt64 (vL ρ 0 j)) (vI ω i) (vJ ω i) (vL ω 2 i) = 0
def cA (N : N8) (ρ : Val) (m : Nat) (ω : Val) : Ia.C := ⟨N, lenOf (imL ρ N.k 0), valOf (imL ρ N.k 0), ⟨m, ω⟩, toInt64 m⟩
def clN (ρ : Val) : Nat → Nat → List (Bool × Bool)
  | 0, _ => []
  | n + 1, j => (true, true) :: (true, true) :: (Nat.ble ((0 + vL ρ 0 j) * 8) 140737488355328, true) :: clN ρ n (j + 1)
noncomputable def csA (N : N8) (ρ : Val) (m : Nat) (ω : Val) : List (Bool × Bool) :=
  (dec (N.k ≤ 1000), true) :: (szE ⟨N.k, Fd.ln ρ N.k⟩ != 0, false) :: (true, true) :: (clN ρ N.k 0 ++ [(false, false), (dec (Ia.good (cA N ρ m ω) ∧ (⟨valOf (imL ρ N.k 0), 0, 0, 0⟩ : Ia.V) = Ia.st (cA N ρ m ω) 0), true), (anyB (Ia.bad (cA N ρ m ω)) m, false)])
noncomputable def resA (N : N8) (ρ : Val) (m : Nat) (ω : Val) : AV := .tup [.c (.sl imSh N.k (Val.ofFlat 1 (Ia.viewL (lenOf (imL ρ N.k 0)) (Ia.apS (cA N ρ m ω) m) N.k 0))), .c (I 0), .c (I 0)]
theorem pathA (N : N8) (ρ : Val) (m : Nat) (ω : Val) : (hcTree Tryz.prog HA 10 89 [.c (.sl imSh N.k ρ), .c (.sl wrSh m ω)]).follow (false :: (List.replicate N.k true ++ [false, false])) = some (csA N ρ m ω, resA N ρ m ω) := by
  cases N
  · kernel_rfl
  · kernel_rfl
  · kernel_rfl
  · kernel_rfl
  · kernel_rfl
  · kernel_rfl
  · kernel_rfl
  · kernel_rfl
theorem viewL_congr {len len' : Nat → Nat} {σ σ' : Nat → Val} : ∀ (n j : Nat), (∀ i, i < n → len (j + i) = len' (j + i) ∧ σ (j + i) = σ' (j + i)) → Ia.viewL len σ n j = Ia.viewL len' σ' n j
  | 0, _, _ => rfl
  | n + 1, j, h => by
    show CV.sl scSh (len j) (σ j) :: Ia.viewL len σ n (j + 1) = CV.sl scSh (len' j) (σ' j) :: Ia.viewL len' σ' n (j + 1)
    obtain ⟨a, b⟩ := h 0 (by omega)
    rw [Nat.add_zero] at a b
    rw [a, b, viewL_congr n (j + 1) fun i hi => by
      have := h (i + 1) (by omega)
      rwa [show j + (i + 1) = j + 1 + i by omega] at this]
section
variable {N : N8} {ρ : Val} {m : Nat} {ω : Val} (ho : AppOk N.k ρ m ω)
include ho
theorem app_in {i : Nat} (hi : i < m) : (0 ≤ vI ω i ∧ vI ω i < N.k) ∧ 0 < vL ω 2 i ∧ 0 ≤ vJ ω i ∧ vJ ω i + vL ω 2 i ≤ ((vL ρ 0 (vI ω i).toNat : Nat) : Int) :=
  Ia.fit0 (ho.fit i hi) (ho.few i hi) fun j hj => by
    obtain ⟨a, b⟩ := ho.len j hj
    show 1 ≤ ((vL ρ 0 j : Nat) : Int) ∧ ((vL ρ 0 j : Nat) : Int) ≤ 4096
    omega
theorem apS_eq : ∀ i, i ≤ m → ∀ j, j < N.k → Ia.apS (cA N ρ m ω) i j = apG ρ ω i j
  | 0, _, j, hj => valOf_im hj
  | i + 1, hi, j, hj => by
    obtain ⟨⟨v0, v1⟩, _⟩ := app_in ho (i := i) (by omega)
    have hv : (vI ω i).toNat < N.k := by omega
    have e1 := apS_eq i (by omega) _ hv
    have e2 := apS_eq i (by omega) _ hj
    show (bif Nat.beq j (vI ω i).toNat then splice (vJ ω i).toNat (Nat.min (vL ω 2 i) (lenOf (imL ρ N.k 0) (vI ω i).toNat - (vJ ω i).toNat)) (Ia.apS (cA N ρ m ω) i (vI ω i).toNat) ((ω.at i).at 2) else Ia.apS (cA N ρ m ω) i j) = _
    rw [e1, e2, lenOf_im hv]
    rfl
theorem app_good : Ia.good (cA N ρ m ω) := by
  refine ⟨⟨rfl, ho.m1⟩, fun j hj => ?_, ho.few⟩
  have e : (cA N ρ m ω).len j = vL ρ 0 j := lenOf_im hj
  rw [e]
  exact ho.len j hj
theorem app_bad : anyB (Ia.bad (cA N ρ m ω)) m = false := anyB_none fun i hi => by
  have e : Ia.fitC (cA N ρ m ω) i = fitE N.k (fun j => toInt64 (vL ρ 0 j)) (vI ω i) (vJ ω i) (vL ω 2 i) :=
    fit_congr (fun j hj => by
      have e : (cA N ρ m ω).len j = vL ρ 0 j := lenOf_im hj
      rw [e]) _ _ _
  show (Ia.fitC (cA N ρ m ω) i != 0) = false
  rw [e, ho.fit i hi]; rfl
theorem app_sz : szE ⟨N.k, Fd.ln ρ N.k⟩ = 0 := by
  have h1 := ho.n1
  have h8 := ho.n8
  unfold szE
  have e1 : (lt (toInt64 N.k) 1 || lt 8 (toInt64 N.k)) = false := by
    rw [Bool.or_eq_false_iff, ← Bool.not_eq_true, ← Bool.not_eq_true, lt_iff, lt_iff]
    exact ⟨by show ¬ (N.k : Int) < 1; omega, by show ¬ (8 : Int) < (N.k : Int); omega⟩
  have e2 : anyB (bsz (Fd.ln ρ N.k)) N.k = false := anyB_none fun i hi => by
    obtain ⟨a, b⟩ := ho.len i hi
    unfold bsz
    rw [Fd.ln_at _ _ _ hi, Bool.or_eq_false_iff, ← Bool.not_eq_true, ← Bool.not_eq_true, lt_iff, lt_iff]
    exact ⟨by show ¬ ((vL ρ 0 i : Nat) : Int) < 1; omega, by show ¬ (4096 : Int) < ((vL ρ 0 i : Nat) : Int); omega⟩
  simp only [e1, e2]
  rfl
theorem app_res : resA N ρ m ω = .tup [.c (.sl imSh N.k (apV N.k ρ m ω)), .c (I 0), .c (I 0)] := by
  unfold resA apV
  rw [viewL_congr N.k 0 fun i hi => by
    rw [Nat.zero_add]
    exact ⟨lenOf_im hi, apS_eq ho m (Nat.le_refl _) i hi⟩]
end
theorem okB_ap (a b : List (Bool × Bool)) : okB (a ++ b) = (okB a && okB b) := List.all_append ..
theorem clN_ok {ρ : Val} : ∀ (n j : Nat), (∀ i, i < n → vL ρ 0 (j + i) ≤ 4096) → okB (clN ρ n j) = true
  | 0, _, _ => rfl
  | n + 1, j, h => by
    have h0 := h 0 (by omega)
    rw [Nat.add_zero] at h0
    show (((true == true) && ((true == true) && ((Nat.ble ((0 + vL ρ 0 j) * 8) 140737488355328 == true) && okB (clN ρ n (j + 1))))) : Bool) = true
    rw [Nat.ble_eq_true_of_le (by omega), clN_ok n (j + 1) fun i hi => by
      have := h (i + 1) (by omega)
      rwa [show j + (i + 1) = j + 1 + i by omega] at this]
    rfl
noncomputable def Gapp : List A1 → Option (Bool × AV)
  | [.c (.sl [.sl [.int .u8, .int .u8, .int .u8, .int .u8, .int .u8, .int .u8, .int .u8, .int .u8]] n ρ), .c (.sl [.int .i64, .int .i64, .sl [.int .u8, .int .u8, .int .u8, .int .u8, .int .u8, .int .u8, .int .u8, .int .u8]] m ω)] => some (dec (AppOk n ρ m ω), .tup [.c (.sl imSh n (apV n ρ m ω)), .c (I 0), .c (I 0)])
  | _ => none
theorem u89 : UcOne Tryz.prog 89 (nG Gapp) := ucOne_of_follow hA 10 89 fun args r hr => by
  unfold Gapp at hr; split at hr
  · rename_i n ρ m ω
    obtain ⟨hp, rfl⟩ := Prod.mk.inj (Option.some.inj hr)
    have ho := dec_iff.1 hp
    obtain ⟨N, hN⟩ := N8.of_lt ho.n1 ho.n8
    have hN := N8.of_ok hN
    subst hN
    refine ⟨_, _, _, pathA N ρ m ω, ?_, ?_⟩
    · have e1 : dec (N.k ≤ 1000) = true := dec_iff.2 (by have := ho.n8; omega)
      have e2 : (szE ⟨N.k, Fd.ln ρ N.k⟩ != 0) = false := by rw [app_sz ho]; rfl
      have e3 : dec (Ia.good (cA N ρ m ω) ∧ (⟨valOf (imL ρ N.k 0), 0, 0, 0⟩ : Ia.V) = Ia.st (cA N ρ m ω) 0) = true := dec_iff.2 ⟨app_good ho, rfl⟩
      unfold csA
      rw [e1, e2, e3, app_bad ho]
      show (((true == true) && ((false == false) && ((true == true) && okB (clN ρ N.k 0 ++ _)))) : Bool) = true
      rw [okB_ap, clN_ok N.k 0 fun i hi => by rw [Nat.zero_add]; exact (ho.len i hi).2]
      rfl
    · rw [app_res ho]; exact leA.refl
  · cases hr
def secEq (ρ σ : Val) (i : Nat) : Bool :=
  ((ρ.at i).at 0).N [] == ((σ.at i).at 0).N [] && (((ρ.at i).at 1).N [] == ((σ.at i).at 1).N [] && (((ρ.at i).at 2).N [] == ((σ.at i).at 2).N [] && (((ρ.at i).at 3).N [] == ((σ.at i).at 3).N [] &&
  (((ρ.at i).at 4).N [] == ((σ.at i).at 4).N [] && (((ρ.at i).at 5).N [] == ((σ.at i).at 5).N [] && (((ρ.at i).at 6).N [] == ((σ.at i).at 6).N [] && (((ρ.at i).at 7).N [] == ((σ.at i).at 7).N [] && true)))))))
def sameL (a b : Il) : Prop := a.n = b.n ∧ ∀ i, i < a.n → secEq a.ρ b.ρ i = true
namespace Ib
structure C where
  a : Il
  b : Il
  m : Int
structure V where
  f : Bool
  i : Int
def S (c : C) (v : V) : St := mkS 26 [(0, .one (.c (.sl scSh c.a.n c.a.ρ))), (1, .one (.c (.sl scSh c.b.n c.b.ρ))), (4, .one (.c (.bool v.f))), (12, .one (.c (I c.m))), (13, .one (.c (I v.i)))] []
def TX (c : C) (v : V) : Tree (XE × V) := .br (lt v.i c.m) (.need (inRange v.i c.a.n) (.need (inRange v.i c.b.n) (.br (!(secEq c.a.ρ c.b.ρ v.i.toNat)) (.leaf (.ret, ⟨false, v.i⟩)) (.leaf (.normal, ⟨v.f, w64 (v.i + 1)⟩))))) (.leaf (.exit 0, v))
theorem t (c : C) (v : V) : ((evCode Tryz.prog HI (evFn Tryz.prog HI 10) 91 0 1 (loopBody Tryz.prog 91 0) (S c v)).bind fun y => gcT [0, 1, 4, 12, 13] 0 y) = (TX c v).bind fun y => .leaf (y.1, S c y.2) := by kernel_rfl
def st (_ : C) (i : Nat) : V := ⟨false, i⟩
def nn (c : C) : Nat := c.a.n
def good (c : C) : Prop := c.m = toInt64 c.a.n ∧ fewN c.a.n ∧ sameL c.a c.b
def μ (c : C) (v : V) : Nat := (c.a.n - v.i).toNat
theorem sq (c : C) (h : good c) : Sq (TX c) (μ c) (st c) (st c) (nn c) (fun _ => false) .ret (.exit 0) := by
  obtain ⟨hm, h, hn, hs⟩ := h
  refine sqF (sn := fun i => ⟨false, w64 ((i : Int) + 1)⟩) (by simp) (by simp) (fun i hi => by show ((c.a.n : Int) - (i : Int)).toNat = c.a.n - i; omega) (fun i hi => ?_) (fun i hi => by rw [wS h hi]; rfl) ?_
  · have hi : i < c.a.n := hi
    refine ⟨fun _ => ⟨inR hi, inR (by omega), fun hb => ?_, fun _ => rfl⟩, fun h' => ?_⟩
    · have hb : (!(secEq c.a.ρ c.b.ρ i)) = true := hb
      rw [hs i hi] at hb; cases hb
    · have h' : lt (i : Int) c.m = false := h'
      rw [hm, ltT hi] at h'; cases h'
  · refine ⟨fun h' => ?_, fun _ => rfl⟩
    have h' : lt (c.a.n : Int) c.m = true := h'
    rw [hm, lt_iff] at h'
    have h' : (c.a.n : Int) < (c.a.n : Int) := h'
    omega
def get : List (Nat × AV) → Mem → Option (C × V)
  | [(0, .one (.c (.sl [.int .u8, .int .u8, .int .u8, .int .u8, .int .u8, .int .u8, .int .u8, .int .u8] c_a_n c_a_ρ))), (1, .one (.c (.sl [.int .u8, .int .u8, .int .u8, .int .u8, .int .u8, .int .u8, .int .u8, .int .u8] c_b_n c_b_ρ))), (4, .one (.c (.bool v_f))), (12, .one (.c (.int .i64 c_m))), (13, .one (.c (.int .i64 v_i)))], [] =>
    some (⟨⟨c_a_n, c_a_ρ⟩, ⟨c_b_n, c_b_ρ⟩, c_m⟩, ⟨v_f, v_i⟩)
  | _, _ => none
noncomputable def L : Nat → St → Tree (XE × St) := lqH [0, 1, 4, 12, 13] 0 26 get fun c v => lq1 (S c) (good c ∧ v = st c 0) (.exit 0) (st c (nn c))
theorem ok (fn : Func) (c b : Code) (hf : Tryz.prog.funcs[91]? = some fn) (hc : fn.body = some c) (hb : nthLoop c 0 = some b) : LoopOk Tryz.prog b L :=
  lq1_ok hI 10 91 0 hf hc hb [0, 1, 4, 12, 13] 0 26 S TX t get (fun l m c v h => by unfold get at h; split at h <;> simp at h; obtain ⟨rfl, rfl⟩ := h; rfl)
    good μ st nn (.exit 0) sq (fun c => (st c (nn c))) (fun _ _ => StWk.refl)
end Ib
noncomputable abbrev HKa : Hd := ⟨HI.pc, HI.hc, [((91, 0), Ib.L)], []⟩
theorem hKa : HdOk Tryz.prog HKa := HdOk.lhCons hI Ib.ok
def tt : AV := .one (.c (.bool true))
noncomputable def Gse : List A1 → Option (Bool × AV)
  | [.c (.sl [.int .u8, .int .u8, .int .u8, .int .u8, .int .u8, .int .u8, .int .u8, .int .u8] n ρ), .c (.sl [.int .u8, .int .u8, .int .u8, .int .u8, .int .u8, .int .u8, .int .u8, .int .u8] m σ)] => some (dec (fewN n ∧ sameL ⟨n, ρ⟩ ⟨m, σ⟩), tt)
  | _ => none
theorem p91 : TcOne Tryz.prog 91 (nG Gse) := tcOne_of_tree hKa 10 91 fun args r h => by
  unfold Gse at h; split at h
  · rename_i n ρ m σ
    obtain ⟨hp, rfl⟩ := Prod.mk.inj (Option.some.inj h)
    obtain ⟨h1, h2⟩ := dec_iff.1 hp
    refine ⟨rfl, .br (toInt64 n != toInt64 m) (.leaf (.one (.c (.bool false)))) (.need (dec (Ib.good ⟨⟨n, ρ⟩, ⟨m, σ⟩, toInt64 n⟩ ∧ (⟨false, 0⟩ : Ib.V) = Ib.st ⟨⟨n, ρ⟩, ⟨m, σ⟩, toInt64 n⟩ 0)) (.leaf tt)), by kernel_rfl, fun hc => ?_, fun _ => ⟨dec_iff.2 ⟨⟨rfl, h1, h2⟩, rfl⟩, rfl⟩⟩
    have e : n = m := h2.1
    rw [e] at hc
    simp at hc
  · cases h
noncomputable abbrev HK : Hd := ⟨(91, nG Gse) :: HI.pc, HI.hc, [], []⟩
theorem hK : HdOk Tryz.prog HK := hI.tcCons p91
def sameI (a b : Il) : Prop := a.n = b.n ∧ ∀ j, j < a.n → fewN (vL a.ρ 0 j) ∧ sameL ⟨vL a.ρ 0 j, (a.ρ.at j).at 0⟩ ⟨vL b.ρ 0 j, (b.ρ.at j).at 0⟩
namespace Ic
structure C where
  a : Il
  b : Il
  m : Int
structure V where
  f : Bool
  i : Int
def S (c : C) (v : V) : St := mkS 32 [(1, .one (.c (.sl imSh c.b.n c.b.ρ))), (2, .one (.c (.fn (.func 91) [] []))), (6, .one (.c (.bool v.f))), (15, .one (.c (.sl imSh c.a.n c.a.ρ))), (16, .one (.c (I c.m))), (17, .one (.c (I v.i)))] []
noncomputable def TX (c : C) (v : V) : Tree (XE × V) := .br (lt v.i c.m) (.need (inRange v.i c.a.n) (.need (inRange v.i c.b.n) (.need (dec (fewN (vL c.a.ρ 0 v.i.toNat) ∧ sameL ⟨vL c.a.ρ 0 v.i.toNat, (c.a.ρ.at v.i.toNat).at 0⟩ ⟨vL c.b.ρ 0 v.i.toNat, (c.b.ρ.at v.i.toNat).at 0⟩)) (.br false (.leaf (.ret, ⟨false, v.i⟩)) (.leaf (.normal, ⟨v.f, w64 (v.i + 1)⟩)))))) (.leaf (.exit 0, v))
theorem t (c : C) (v : V) : ((evCode Tryz.prog HK (evFn Tryz.prog HK 10) 90 0 1 (loopBody Tryz.prog 90 0) (S c v)).bind fun y => gcT [1, 2, 6, 15, 16, 17] 0 y) = (TX c v).bind fun y => .leaf (y.1, S c y.2) := by kernel_rfl
def st (_ : C) (i : Nat) : V := ⟨false, i⟩
def nn (c : C) : Nat := c.a.n
def good (c : C) : Prop := c.m = toInt64 c.a.n ∧ fewN c.a.n ∧ sameI c.a c.b
def μ (c : C) (v : V) : Nat := (c.a.n - v.i).toNat
theorem sq (c : C) (h : good c) : Sq (TX c) (μ c) (st c) (st c) (nn c) (fun _ => false) .ret (.exit 0) := by
  obtain ⟨hm, h, hn, hs⟩ := h
  refine sqF (sn := fun i => ⟨false, w64 ((i : Int) + 1)⟩) (by simp) (by simp) (fun i hi => by show ((c.a.n : Int) - (i : Int)).toNat = c.a.n - i; omega) (fun i hi => ?_) (fun i hi => by rw [wS h hi]; rfl) ?_
  · have hi : i < c.a.n := hi
    refine ⟨fun _ => ⟨inR hi, inR (by omega), dec_iff.2 (hs i hi), fun h => (by cases h), fun _ => rfl⟩, fun h' => ?_⟩
    have h' : lt (i : Int) c.m = false := h'
    rw [hm, ltT hi] at h'; cases h'
  · refine ⟨fun h' => ?_, fun _ => rfl⟩
    have h' : lt (c.a.n : Int) c.m = true := h'
    rw [hm, lt_iff] at h'
    have h' : (c.a.n : Int) < (c.a.n : Int) := h'
    omega
def get : List (Nat × AV) → Mem → Option (C × V)
  | [(1, .one (.c (.sl [.sl [.int .u8, .int .u8, .int .u8, .int .u8, .int .u8, .int .u8, .int .u8, .int .u8]] c_b_n c_b_ρ))), (2, .one (.c (.fn (.func 91) [] []))), (6, .one (.c (.bool v_f))), (15, .one (.c (.sl [.sl [.int .u8, .int .u8, .int .u8, .int .u8, .int .u8, .int .u8, .int .u8, .int .u8]] c_a_n c_a_ρ))), (16, .one (.c (.int .i64 c_m))), (17, .one (.c (.int .i64 v_i)))], [] =>
    some (⟨⟨c_a_n, c_a_ρ⟩, ⟨c_b_n, c_b_ρ⟩, c_m⟩, ⟨v_f, v_i⟩)
  | _, _ => none
noncomputable def L : Nat → St → Tree (XE × St) := lqH [1, 2, 6, 15, 16, 17] 0 32 get fun c v => lq1 (S c) (good c ∧ v = st c 0) (.exit 0) (st c (nn c))
theorem ok (fn : Func) (c b : Code) (hf : Tryz.prog.funcs[90]? = some fn) (hc : fn.body = some c) (hb : nthLoop c 0 = some b) : LoopOk Tryz.prog b L :=
  lq1_ok hK 10 90 0 hf hc hb [1, 2, 6, 15, 16, 17] 0 32 S TX t get (fun l m c v h => by unfold get at h; split at h <;> simp at h; obtain ⟨rfl, rfl⟩ := h; rfl)
    good μ st nn (.exit 0) sq (fun c => (st c (nn c))) (fun _ _ => StWk.refl)
end Ic
noncomputable abbrev HKb : Hd := ⟨HK.pc, HK.hc, [((90, 0), Ic.L)], []⟩
theorem hKb : HdOk Tryz.prog HKb := HdOk.lhCons hK Ic.ok
noncomputable def Gsi : List A1 → Option (Bool × AV)
  | [.c (.sl [.sl [.int .u8, .int .u8, .int .u8, .int .u8, .int .u8, .int .u8, .int .u8, .int .u8]] n ρ), .c (.sl [.sl [.int .u8, .int .u8, .int .u8, .int .u8, .int .u8, .int .u8, .int .u8, .int .u8]] m σ)] => some (dec (fewN n ∧ sameI ⟨n, ρ⟩ ⟨m, σ⟩), tt)
  | _ => none
theorem p38 : TcOne Tryz.prog 38 (nG Gsi) := tcOne_of_tree hKb 10 38 fun args r h => by
  unfold Gsi at h; split at h
  · rename_i n ρ m σ
    obtain ⟨hp, rfl⟩ := Prod.mk.inj (Option.some.inj h)
    obtain ⟨h1, h2⟩ := dec_iff.1 hp
    refine ⟨rfl, .br (toInt64 n != toInt64 m) (.leaf (.one (.c (.bool false)))) (.need (dec (Ic.good ⟨⟨n, ρ⟩, ⟨m, σ⟩, toInt64 n⟩ ∧ (⟨false, 0⟩ : Ic.V) = Ic.st ⟨⟨n, ρ⟩, ⟨m, σ⟩, toInt64 n⟩ 0)) (.leaf tt)), by kernel_rfl, fun hc => ?_, fun _ => ⟨dec_iff.2 ⟨⟨rfl, h1, h2⟩, rfl⟩, rfl⟩⟩
    have e : n = m := h2.1
    rw [e] at hc
    simp at hc
  · cases h
end Hs
end Go.Proofs.YtennlgngdjegoaaGreat
namespace Go.Proofs.YtennlgngdjegoaaGreat
open Go Go.Sx Go.RowKit Classical
set_option maxRecDepth 100000
set_option maxHeartbeats 4000000
namespace Hs
open Fo (inSh scSh evSh pcH litK headK allB allB_ok)
noncomputable def Gmul : List A1 → Option (Bool × AV)
  | [.c (.int .u64 a), .c (.int .u64 c)] => some (dec (a = 1 ∧ 0 ≤ c ∧ c ≤ 64), .tup [.c (.int .u64 0), .c (.int .u64 c)])
  | _ => none
def mulR (r : Option AV) (k : Nat) : Bool := match r with
  | some (.tup [.c (.int .u64 x), .c (.int .u64 y)]) => x == 0 && y == (k : Int)
  | _ => false
theorem mulAll : allB (fun k => mulR (evFn Tryz.prog H0 10 185 [.c (.int .u64 1), .c (.int .u64 (k : Int))] []).vals.sel k) 65 = true := by kernel_rfl
theorem selAll {α : Type} {r : α} : ∀ {t : Tree α}, t.sel = some r → t.All (fun z => z = r)
  | .leaf a, h => by
    simp only [Tree.sel, Option.some.injEq] at h
    exact h
  | .br c t e, h => ⟨fun hc => selAll (by simpa [Tree.sel, hc] using h), fun hc => selAll (by simpa [Tree.sel, hc] using h)⟩
  | .need c t, h => by
    cases c
    · simp [Tree.sel] at h
    · exact ⟨rfl, selAll (by simpa [Tree.sel] using h)⟩
  | .fail, h => by simp [Tree.sel] at h
theorem p185 : TcOne Tryz.prog 185 (nG Gmul) := tcOne_of_tree h0 10 185 fun args r h => by
  unfold Gmul at h; split at h
  · rename_i a c
    obtain ⟨hp, rfl⟩ := Prod.mk.inj (Option.some.inj h)
    obtain ⟨rfl, h1, h2⟩ := dec_iff.1 hp
    obtain ⟨k, rfl⟩ : ∃ k : Nat, c = k := ⟨c.toNat, by omega⟩
    have hk := allB_ok mulAll k (by omega)
    refine ⟨rfl, _, rfl, selAll ?_⟩
    unfold mulR at hk
    split at hk
    · rename_i x y he
      rw [Bool.and_eq_true, beq_iff_eq, beq_iff_eq] at hk
      obtain ⟨rfl, rfl⟩ := hk
      exact he
    · cases hk
  · cases h
theorem splice_at (lo k : Nat) (ρ σ : Val) (i : Nat) : (splice lo k ρ σ).at i = if i < lo then ρ.at i else if i < lo + k then σ.at (i - lo) else ρ.at i := by
  show pickV (Nat.blt i lo) (ρ.at i) (pickV (Nat.blt i (lo + k)) (σ.at (i - lo)) (ρ.at i)) = _
  by_cases h1 : i < lo
  · have e : Nat.blt i lo = true := by simpa using h1
    rw [if_pos h1, e]; rfl
  · have e : Nat.blt i lo = false := by rw [← Bool.not_eq_true]; exact fun hh => h1 (Nat.le_of_ble_eq_true hh)
    rw [if_neg h1, e]
    by_cases h2 : i < lo + k
    · have e2 : Nat.blt i (lo + k) = true := by simpa using h2
      rw [if_pos h2, e2]; rfl
    · have e2 : Nat.blt i (lo + k) = false := by rw [← Bool.not_eq_true]; exact fun hh => h2 (Nat.le_of_ble_eq_true hh)
      rw [if_neg h2, e2]; rfl
def rnd (N : Nat) : Nat := firstB (fun i => Nat.ble N (2 ^ i)) (N + 1)
theorem rnd_ok (N : Nat) : rnd N ≤ N ∧ N ≤ 2 ^ rnd N ∧ ∀ j, j < rnd N → 2 ^ j < N := by
  have ha : anyB (fun i => Nat.ble N (2 ^ i)) (N + 1) = true := anyB_iff.2 ⟨N, by omega, Nat.ble_eq_true_of_le (Nat.le_of_lt Nat.lt_two_pow_self)⟩
  obtain ⟨h1, h2, h3⟩ := firstB_ok ha
  refine ⟨by unfold rnd; omega, Nat.le_of_ble_eq_true h2, fun j hj => ?_⟩
  have := h3 j hj
  have : ¬ N ≤ 2 ^ j := fun hh => by rw [Nat.ble_eq_true_of_le hh] at this; cases this
  omega
theorem rnd_at {N i : Nat} (hi : i ≤ rnd N) : firstB (fun j => Nat.ble (min (2 ^ i) N) (2 ^ j)) (N + 1) = i := by
  obtain ⟨r1, r2, r3⟩ := rnd_ok N
  refine (firstB_eq (bad := fun j => Nat.ble (min (2 ^ i) N) (2 ^ j)) (n := N + 1) (i := i) (by omega) (Nat.ble_eq_true_of_le (Nat.min_le_left _ _)) fun j hj => ?_).2
  have h1 := r3 j (by omega)
  have h2 : 2 ^ j < 2 ^ i := Nat.pow_lt_pow_right (by omega) hj
  have : ¬ min (2 ^ i) N ≤ 2 ^ j := by omega
  rw [← Bool.not_eq_true]
  exact fun hh => this (Nat.le_of_ble_eq_true hh)
namespace Fg
structure C where
  N : Nat
  z : Val
structure V where
  n : Int
  ρ : Val
def S (c : C) (v : V) : St := mkS 48 [(7, .one (.c (.os 0 1))), (8, .one (.c (I v.n)))] [some (3, [.row false inSh c.N v.ρ])]
def TX (c : C) (v : V) : Tree (XE × V) := .br (lt v.n (toInt64 c.N)) (.need (le 0 v.n && lt v.n (toInt64 c.N)) (.need (le 0 v.n && le v.n (toInt64 c.N))
  (.leaf (.normal, ⟨w64 (v.n + toInt64 (Nat.min v.n.toNat (c.N - v.n.toNat))), splice v.n.toNat (Nat.min v.n.toNat (c.N - v.n.toNat)) v.ρ v.ρ⟩)))) (.leaf (.exit 0, v))
theorem t (c : C) (v : V) : ((evCode Tryz.prog H0 (evFn Tryz.prog H0 10) 168 0 1 (loopBody Tryz.prog 168 0) (S c v)).bind fun y => gcT [7, 8] 0 y) = (TX c v).bind fun y => .leaf (y.1, S c y.2) := by kernel_rfl
def ro (N : Nat) (z : Val) : Nat → Val
  | 0 => z
  | i + 1 => splice (min (2 ^ i) N) (Nat.min (min (2 ^ i) N) (N - min (2 ^ i) N)) (ro N z i) (ro N z i)
theorem ro_at (N : Nat) (z : Val) : ∀ i j, j < min (2 ^ i) N → vI (ro N z i) j = vI z 0
  | 0, j, h => by
    have : j = 0 := by
      have : j < min 1 N := h
      omega
    subst this; rfl
  | i + 1, j, h => by
    have ih := ro_at N z i
    have h2 : 2 ^ (i + 1) = 2 ^ i + 2 ^ i := by rw [Nat.pow_succ]; omega
    rw [h2] at h
    unfold ro vI
    rw [splice_at]
    by_cases h1 : j < min (2 ^ i) N
    · rw [if_pos h1]; exact ih j h1
    · rw [if_neg h1, if_pos (by show j < min (2 ^ i) N + min (min (2 ^ i) N) (N - min (2 ^ i) N); omega)]
      exact ih (j - min (2 ^ i) N) (by omega)
def st (c : C) (i : Nat) : V := ⟨toInt64 (min (2 ^ i) c.N), ro c.N c.z i⟩
def nn (c : C) : Nat := rnd c.N
def good (c : C) : Prop := c.N ≤ 1000
def μ (c : C) (v : V) : Nat := rnd c.N - firstB (fun j => Nat.ble v.n.toNat (2 ^ j)) (c.N + 1)
theorem sq (c : C) (h : good c) : Sq (TX c) (μ c) (st c) (st c) (nn c) (fun _ => false) .ret (.exit 0) := by
  obtain ⟨N, z⟩ := c
  have h : N ≤ 1000 := h
  obtain ⟨r1, r2, r3⟩ := rnd_ok N
  refine ⟨by simp, by simp, fun i hi => ?_, fun i hi => ?_, ?_⟩
  · show rnd N - firstB (fun j => Nat.ble ((((min (2 ^ i) N : Nat) : Int)).toNat) (2 ^ j)) (N + 1) = rnd N - i
    rw [Int.toNat_natCast, rnd_at hi]
  · have hlt := r3 i hi
    have e : min (2 ^ i) N = 2 ^ i := by omega
    have hv : (st ⟨N, z⟩ i).n = ((2 ^ i : Nat) : Int) := by show ((min (2 ^ i) N : Nat) : Int) = _; rw [e]
    refine ⟨fun _ => ⟨?_, ?_, ?_⟩, fun hh => ?_⟩
    · show (le 0 (st ⟨N, z⟩ i).n && lt (st ⟨N, z⟩ i).n (toInt64 N)) = true
      rw [hv, Bool.and_eq_true, le_iff, lt_iff]
      exact ⟨Int.natCast_nonneg _, Int.ofNat_lt.2 hlt⟩
    · show (le 0 (st ⟨N, z⟩ i).n && le (st ⟨N, z⟩ i).n (toInt64 N)) = true
      rw [hv, Bool.and_eq_true, le_iff, le_iff]
      exact ⟨Int.natCast_nonneg _, Int.ofNat_le.2 (Nat.le_of_lt hlt)⟩
    · show (XE.normal, (⟨w64 ((st ⟨N, z⟩ i).n + toInt64 (Nat.min (st ⟨N, z⟩ i).n.toNat (N - (st ⟨N, z⟩ i).n.toNat))), splice (st ⟨N, z⟩ i).n.toNat (Nat.min (st ⟨N, z⟩ i).n.toNat (N - (st ⟨N, z⟩ i).n.toNat)) (ro N z i) (ro N z i)⟩ : V)) = (XE.normal, st ⟨N, z⟩ (i + 1))
      have hw : w64 ((((2 ^ i : Nat) : Int)) + toInt64 (Nat.min (2 ^ i) (N - 2 ^ i))) = ((min (2 ^ (i + 1)) N : Nat) : Int) := by
        have h2 : 2 ^ (i + 1) = 2 ^ i + 2 ^ i := by rw [Nat.pow_succ]; omega
        have h3 : Nat.min (2 ^ i) (N - 2 ^ i) = min (2 ^ i) (N - 2 ^ i) := rfl
        rw [h2, h3]
        obtain ⟨p, hp⟩ : ∃ p, 2 ^ i = p := ⟨_, rfl⟩
        rw [hp] at hlt ⊢
        show IntKind.i64.wrap ((p : Int) + ((min p (N - p) : Nat) : Int)) = _
        rw [w64_id (by omega) (by omega)]
        omega
      rw [hv, Int.toNat_natCast, hw]
      show _ = (XE.normal, (⟨((min (2 ^ (i + 1)) N : Nat) : Int), splice (min (2 ^ i) N) (Nat.min (min (2 ^ i) N) (N - min (2 ^ i) N)) (ro N z i) (ro N z i)⟩ : V))
      rw [e]
    · rw [hv] at hh
      have : lt ((2 ^ i : Nat) : Int) (toInt64 N) = true := (lt_iff _ _).2 (Int.ofNat_lt.2 hlt)
      have hh : lt ((2 ^ i : Nat) : Int) (toInt64 N) = false := hh
      rw [this] at hh; cases hh
  · have e : min (2 ^ rnd N) N = N := by omega
    have hv : (st ⟨N, z⟩ (rnd N)).n = (N : Int) := by show ((min (2 ^ rnd N) N : Nat) : Int) = _; rw [e]
    refine ⟨fun hh => ?_, fun _ => rfl⟩
    have hh : lt (st ⟨N, z⟩ (rnd N)).n (toInt64 N) = true := hh
    rw [hv, ltFn] at hh; cases hh
def cst (x : Int) : Val := .byFst fun _ => Val.ofCs [I x]
theorem ro_same (N : Nat) (z : Val) (i f : Nat) (s : Sh) (hi : i < N) (hf : nth inSh f = some s) : cellOf s (((ro N z (rnd N)).at i).at f) = cellOf s (((cst (vI z 0)).at i).at f) := by
  obtain ⟨r1, r2, r3⟩ := rnd_ok N
  match f, hf with
  | 0, hf =>
    have : s = .int .i64 := by simpa [nth] using hf.symm
    subst this
    have := ro_at N z (rnd N) i (by omega)
    unfold vI at this
    show CV.int .i64 _ = CV.int .i64 _
    rw [this]; rfl
  | f + 1, hf => simp [nth] at hf
def get : List (Nat × AV) → Mem → Option (C × V)
  | [(7, .one (.c (.os 0 1))), (8, .one (.c (.int .i64 v_n)))], [some (3, [.row false [.int .i64] c_N v_ρ])] =>
    some (⟨c_N, v_ρ⟩, ⟨v_n, v_ρ⟩)
  | _, _ => none
noncomputable def L : Nat → St → Tree (XE × St) := lqH [7, 8] 0 48 get fun c v => lq1 (S c) (good c ∧ v = st c 0) (.exit 0) (⟨toInt64 c.N, cst (vI c.z 0)⟩)
theorem ok (fn : Func) (c b : Code) (hf : Tryz.prog.funcs[168]? = some fn) (hc : fn.body = some c) (hb : nthLoop c 0 = some b) : LoopOk Tryz.prog b L :=
  lq1_ok h0 10 168 0 hf hc hb [7, 8] 0 48 S TX t get (fun l m c v h => by unfold get at h; split at h <;> simp at h; obtain ⟨rfl, rfl⟩ := h; rfl)
    good μ st nn (.exit 0) sq (fun c => (⟨toInt64 c.N, cst (vI c.z 0)⟩)) (fun c h => by
      have e : st c (nn c) = ⟨toInt64 c.N, ro c.N c.z (rnd c.N)⟩ := by
        have := (rnd_ok c.N).2.1
        have : min (2 ^ rnd c.N) c.N = c.N := by omega
        show (⟨toInt64 (min (2 ^ rnd c.N) c.N), ro c.N c.z (rnd c.N)⟩ : V) = _
        rw [this]
      rw [e]
      exact StWk.row (tmps := mkL [(7, .one (.c (.os 0 1))), (8, .one (.c (I (toInt64 c.N))))] 48 0) (mem := [some (3, [.row false inSh c.N (ro c.N c.z (rnd c.N))])]) (b := 0) rfl (fun i f s hi hf => ro_same c.N c.z i f s hi hf))
end Fg
noncomputable abbrev H7 : Hd := ⟨(185, nG Gmul) :: (167, nG Ghc) :: H6.pc, H6.hc, [((168, 0), Fg.L)], []⟩
theorem h7 : HdOk Tryz.prog H7 := HdOk.lhCons ((h6.tcCons p167).tcCons p185) Fg.ok
theorem ncOne_of_follow {P : Program} {H : Hd} (hH : HdOk P H) (n f : Nat) {G : List A1 → Tree (AV × Mem)}
    (h : ∀ args r m, (G args).sel = some (r, m) → ∃ p cs y, (evFn P H n f args []).follow p = some (cs, y) ∧ okB cs = true ∧ WkO (.ret y.1, y.2) (.ret r, m)) : NcOne P f G :=
  ncOne_of_tree hH n f fun args r m hr => by
    obtain ⟨p, cs, y, h1, h2, h3⟩ := h args r m hr
    exact ⟨evFn P H n f args [], rfl, follow_all h1 h2 h3⟩
def repZ (k : Int) (ρ : Val) : Val := splice 0 (Nat.min 1 (k.toNat - 0)) (.byFst fun _ => Val.ofCs [I 0]) ρ
noncomputable def repC (c u k : Int) (ρ : Val) : List (Bool × Bool) :=
  [(lt c 0, false), (dec (IntKind.u64.wrap (toInt64 1) = 1 ∧ 0 ≤ u ∧ u ≤ 64), true), (lt 9223372036854775807 u, false), (le 0 k && le k k && le (k * toInt64 8) 140737488355328, true),
   (dec (Fg.good ⟨k.toNat, repZ k ρ⟩ ∧ (⟨toInt64 (Nat.min 1 (k.toNat - 0)), repZ k ρ⟩ : Fg.V) = Fg.st ⟨k.toNat, repZ k ρ⟩ 0), true)]
theorem t168 (ρ : Val) (c : Int) : (evFn Tryz.prog H7 10 168 [.c (.sl inSh 1 ρ), .c (I c)] []).follow [false, false] =
    some (repC c (IntKind.u64.wrap c) (w64 (IntKind.u64.wrap c)) ρ, (.one (.c (.os 0 1)), [some (3, [.row false inSh (w64 (IntKind.u64.wrap c)).toNat (Fg.cst (vI (repZ (w64 (IntKind.u64.wrap c)) ρ) 0))])])) := by kernel_rfl
noncomputable def Grep : List A1 → Tree (AV × Mem)
  | [.c (.sl [.int .i64] 1 ρ), .c (.int .i64 c)] => .need (dec (0 ≤ c ∧ c ≤ 64)) (.leaf (.one (.c (.os 0 1)), [some (3, [.row false inSh c.toNat (Fg.cst (vI ρ 0))])]))
  | _ => .fail
theorem u64w {x : Int} (h1 : 0 ≤ x) (h2 : x ≤ 64) : IntKind.u64.wrap x = x := by
  unfold IntKind.wrap IntKind.bits IntKind.signed
  simp
  omega
theorem n168 : NcOne Tryz.prog 168 Grep := ncOne_of_follow h7 10 168 fun args r mm h => by
  unfold Grep at h; split at h
  · rename_i ρ c
    simp only [Tree.sel] at h
    cases hs : dec (0 ≤ c ∧ c ≤ 64)
    · rw [hs] at h; simp at h
    rw [hs] at h
    simp only [cond_true, Option.some.injEq, Prod.mk.injEq] at h
    obtain ⟨rfl, rfl⟩ := h
    obtain ⟨h1, h2⟩ := dec_iff.1 hs
    have hu := u64w h1 h2
    have hk : w64 c = c := w64_id (by omega) (by omega)
    have ht := t168 ρ c
    rw [hu, hk] at ht
    refine ⟨_, _, _, ht, ?_, WkO.row rfl fun i f s hi hf => ?_⟩
    · have c1 : lt c 0 = false := by rw [← Bool.not_eq_true, lt_iff]; omega
      have c2 : dec (IntKind.u64.wrap (toInt64 1) = 1 ∧ 0 ≤ c ∧ c ≤ 64) = true := dec_iff.2 ⟨rfl, h1, h2⟩
      have c3 : lt 9223372036854775807 c = false := by rw [← Bool.not_eq_true, lt_iff]; omega
      have c4 : (le 0 c && le c c && le (c * toInt64 8) 140737488355328) = true := by
        rw [Bool.and_eq_true, Bool.and_eq_true, le_iff, le_iff, le_iff]
        exact ⟨⟨h1, Int.le_refl _⟩, by show c * 8 ≤ _; omega⟩
      have c5 : dec (Fg.good ⟨c.toNat, repZ c ρ⟩ ∧ (⟨toInt64 (Nat.min 1 (c.toNat - 0)), repZ c ρ⟩ : Fg.V) = Fg.st ⟨c.toNat, repZ c ρ⟩ 0) = true := dec_iff.2 ⟨by show c.toNat ≤ 1000; omega, rfl⟩
      unfold repC
      simp only [okB, List.all_cons, List.all_nil, c1, c2, c3, c4, c5]
      rfl
    · have : vI (repZ c ρ) 0 = vI ρ 0 := by
        unfold repZ vI
        rw [splice_at, if_neg (by omega), if_pos (by show 0 < 0 + min 1 (c.toNat - 0); omega)]
      rw [this]
  · simp [Tree.sel] at h
noncomputable abbrev H8 : Hd := ⟨H7.pc, H7.hc, [], [(168, ncG Grep)]⟩
theorem h8 : HdOk Tryz.prog H8 := ((h6.tcCons p167).tcCons p185).mcCons n168.mc
namespace Fh
structure C where
  a : Int
  b : Int
  N : Nat
  M : Nat
  l : Il
  m : Int
  x : Val
  y : Val
structure V where
  i : Int
  σ : Val
  τ : Val
def S (c : C) (v : V) : St := mkS 76 [(5, .one (.c (.ptr 0 0))), (48, .one (.c (.sl evSh c.l.n c.l.ρ))), (49, .one (.c (I c.m))), (50, .one (.c (I v.i)))] [some (226, [I c.a, I c.b, .os 1 1, .os 2 1]), some (3, [.row false inSh c.N v.σ]), some (3, [.row false inSh c.M v.τ])]
def TX (c : C) (v : V) : Tree (XE × V) :=
  let K := vI c.l.ρ v.i.toNat
  let W := vJ c.l.ρ v.i.toNat
  .br (lt v.i c.m) (.need (inRange v.i c.l.n) (.br (K == 0) (.need (inRange W c.N) (.leaf (.normal, ⟨w64 (v.i + 1), v.σ.upds W.toNat 0 [I v.i], v.τ⟩))) (.need (inRange W c.M) (.leaf (.normal, ⟨w64 (v.i + 1), v.σ, v.τ.upds W.toNat 0 [I v.i]⟩))))) (.leaf (.exit 0, v))
theorem t (c : C) (v : V) : ((evCode Tryz.prog H8 (evFn Tryz.prog H8 10) 145 0 1 (loopBody Tryz.prog 145 0) (S c v)).bind fun y => gcT [5, 48, 49, 50] 0 y) = (TX c v).bind fun y => .leaf (y.1, S c y.2) := by kernel_rfl
def rl (ε x y : Val) : Nat → Val × Val
  | 0 => (x, y)
  | i + 1 => bif vI ε i == 0 then ((rl ε x y i).1.upds (vJ ε i).toNat 0 [I i], (rl ε x y i).2) else ((rl ε x y i).1, (rl ε x y i).2.upds (vJ ε i).toNat 0 [I i])
def st (c : C) (i : Nat) : V := ⟨i, (rl c.l.ρ c.x c.y i).1, (rl c.l.ρ c.x c.y i).2⟩
def nn (c : C) : Nat := c.l.n
def good (c : C) : Prop := (c.m = toInt64 c.l.n ∧ c.l.n ≤ 1000) ∧ ∀ i, i < c.l.n → inRange (vJ c.l.ρ i) c.N = true ∧ inRange (vJ c.l.ρ i) c.M = true
def μ (c : C) (v : V) : Nat := (c.l.n - v.i).toNat
theorem sq (c : C) (h : good c) : Sq (TX c) (μ c) (st c) (st c) (nn c) (fun _ => false) .ret (.exit 0) := by
  obtain ⟨a, b, N, M, l, m, x, y⟩ := c
  obtain ⟨⟨hm, hn⟩, hr⟩ := h
  have hm : m = toInt64 l.n := hm
  subst hm
  have hn : l.n ≤ 1000 := hn
  refine sqF (sn := fun i => { st ⟨a, b, N, M, l, toInt64 l.n, x, y⟩ (i + 1) with i := w64 ((i : Int) + 1) }) (by simp) (by simp) (fun i hi => by show ((l.n : Int) - (i : Int)).toNat = l.n - i; omega) (fun i hi => ?_) (fun i hi => by rw [wS (n := l.n) (by unfold fewN; omega) hi]; rfl) rS
  have hi : i < l.n := hi
  obtain ⟨r1, r2⟩ := hr i hi
  have hS : rl l.ρ x y (i + 1) = bif vI l.ρ i == 0 then ((rl l.ρ x y i).1.upds (vJ l.ρ i).toNat 0 [I i], (rl l.ρ x y i).2) else ((rl l.ρ x y i).1, (rl l.ρ x y i).2.upds (vJ l.ρ i).toNat 0 [I i]) := rfl
  refine ⟨fun _ => ⟨inR hi, fun h1 => ⟨r1, ?_⟩, fun h1 => ⟨r2, ?_⟩⟩, fun h => ?_⟩
  · have h1 : (vI l.ρ i == 0) = true := h1
    show (XE.normal, _) = (XE.normal, _)
    unfold st; rw [hS, h1]; rfl
  · have h1 : (vI l.ρ i == 0) = false := h1
    show (XE.normal, _) = (XE.normal, _)
    unfold st; rw [hS, h1]; rfl
  · have h : lt (i : Int) (toInt64 l.n) = false := h
    rw [ltT hi] at h; cases h
def get : List (Nat × AV) → Mem → Option (C × V)
  | [(5, .one (.c (.ptr 0 0))), (48, .one (.c (.sl [.int .i64, .int .i64] c_l_n c_l_ρ))), (49, .one (.c (.int .i64 c_m))), (50, .one (.c (.int .i64 v_i)))], [some (226, [.int .i64 c_a, .int .i64 c_b, .os 1 1, .os 2 1]), some (3, [.row false [.int .i64] c_N v_σ]), some (3, [.row false [.int .i64] c_M v_τ])] =>
    some (⟨c_a, c_b, c_N, c_M, ⟨c_l_n, c_l_ρ⟩, c_m, v_σ, v_τ⟩, ⟨v_i, v_σ, v_τ⟩)
  | _, _ => none
noncomputable def L : Nat → St → Tree (XE × St) := lqH [5, 48, 49, 50] 0 76 get fun c v => lq1 (S c) (good c ∧ v = st c 0) (.exit 0) (st c (nn c))
theorem ok (fn : Func) (c b : Code) (hf : Tryz.prog.funcs[145]? = some fn) (hc : fn.body = some c) (hb : nthLoop c 0 = some b) : LoopOk Tryz.prog b L :=
  lq1_ok h8 10 145 0 hf hc hb [5, 48, 49, 50] 0 76 S TX t get (fun l m c v h => by unfold get at h; split at h <;> simp at h; obtain ⟨rfl, rfl⟩ := h; rfl)
    good μ st nn (.exit 0) sq (fun c => (st c (nn c))) (fun _ _ => StWk.refl)
end Fh
theorem WkO.renum {l : List A1} {mem : Mem} (pm : List Nat) (hn : nodupN pm = true) (hl : ∀ b ∈ pm, b < mem.length) : WkO (.ret (.tup l), mem) (.ret (.tup (l.map (ren1 pm))), pm.map (renE pm mem)) := by
  intro P F w bs e hm hr
  obtain ⟨v, rfl, hv⟩ := hr
  refine ⟨F, renB pm bs, ⟨Nat.le_refl _, fun _ _ h => h, fun _ h _ _ => h, fun _ _ _ => rfl, rfl, rfl, rfl, fun k x hk _ => (by omega), fun x hx => ?_⟩, hm.ren hn hl, v, rfl, ?_⟩
  · simp only [renB, List.mem_map] at hx
    obtain ⟨b, hb, rfl⟩ := hx
    have hlt : b < bs.length := by rw [hm.len]; exact hl b hb
    have hb' : nth bs b = some bs[b] := by rw [nth_eq]; exact List.getElem?_eq_getElem hlt
    rw [hb']
    exact .inl ⟨_, nth_mem hb', rfl⟩
  · obtain ⟨vs, rfl, hv⟩ := hv
    exact ⟨vs, rfl, hv.map_left fun x v h => renA_ok (x := .one x) h⟩
noncomputable abbrev H9 : Hd := ⟨H8.pc, H8.hc, [((145, 0), Fh.L)], H8.mc⟩
theorem h9 : HdOk Tryz.prog H9 := HdOk.lhCons h8 Fh.ok
theorem ev_in {h : Hi} (h0 : hisE h = 0) : ∀ i, i < h.e.n → inRange (vJ h.e.ρ i) h.w.n = true := by
  have hb : anyB (eB h) h.e.n = false ∧ h.w.n ≤ (evS h.e.ρ h.e.n).k := by
    unfold hisE at h0
    cases a1 : szE h.s != 0
    · rw [a1] at h0
      cases a2 : lt 4096 (toInt64 h.w.n)
      · rw [a2] at h0
        cases a3 : anyB (wB h) h.w.n
        · rw [a3] at h0
          cases a4 : anyB (eB h) h.e.n
          · rw [a4] at h0
            refine ⟨rfl, ?_⟩
            cases a5 : lt (toInt64 (evS h.e.ρ h.e.n).k) (toInt64 h.w.n)
            · rw [← Bool.not_eq_true, lt_iff] at a5
              have a5 : ¬ ((evS h.e.ρ h.e.n).k : Int) < (h.w.n : Int) := a5
              omega
            · rw [a5] at h0; cases h0
          · rw [a4] at h0
            exact (first_ne a4 h0).elim
        · rw [a3] at h0
          exact (first_ne a3 h0).elim
      · rw [a2] at h0; cases h0
    · rw [a1] at h0
      have : szE h.s = 0 := h0
      rw [this] at a1; cases a1
  obtain ⟨hb, hk⟩ := hb
  have ok : ∀ i, i < h.e.n → eE h i = 0 := fun i hi => by
    cases hh : eB h i
    · unfold eB at hh; simpa [bne] using hh
    · rw [anyB_iff.2 ⟨i, hi, hh⟩] at hb; cases hb
  have kn : ∀ i, i ≤ h.e.n → (evS h.e.ρ i).k ≤ h.w.n := by
    intro i
    induction i with
    | zero => intro _; exact Nat.zero_le _
    | succ i ih =>
      intro hi
      have h1 := ih (by omega)
      have h2 := ok i (by omega)
      unfold eE evE at h2
      show (evN h.e.ρ i (evS h.e.ρ i)).k ≤ _
      unfold evN
      cases hK : vI h.e.ρ i == 0
      · exact h1
      · rw [hK] at h2
        show (evS h.e.ρ i).k + 1 ≤ _
        cases hc : vJ h.e.ρ i != toInt64 (evS h.e.ρ i).k || le (toInt64 h.w.n) (vJ h.e.ρ i)
        · rw [Bool.or_eq_false_iff, ← Bool.not_eq_true (le _ _), le_iff] at hc
          obtain ⟨c1, c2⟩ := hc
          have c1 : vJ h.e.ρ i = toInt64 (evS h.e.ρ i).k := by simpa [bne] using c1
          have c1 : vJ h.e.ρ i = ((evS h.e.ρ i).k : Int) := c1
          have c2 : ¬ (h.w.n : Int) ≤ vJ h.e.ρ i := c2
          omega
        · rw [hc] at h2; cases h2
  intro i hi
  have h1 := kn i (by omega)
  have h2 := ok i hi
  unfold eE evE at h2
  unfold inRange
  rw [Bool.and_eq_true, le_iff, lt_iff]
  show 0 ≤ vJ h.e.ρ i ∧ vJ h.e.ρ i < (h.w.n : Int)
  cases hK : vI h.e.ρ i == 0
  · rw [hK] at h2
    cases hK1 : vI h.e.ρ i == 1
    · rw [hK1] at h2; cases h2
    · rw [hK1] at h2
      cases hc : lt (vJ h.e.ρ i) 0 || le (toInt64 (evS h.e.ρ i).k) (vJ h.e.ρ i)
      · rw [Bool.or_eq_false_iff, ← Bool.not_eq_true, ← Bool.not_eq_true, lt_iff, le_iff] at hc
        have c2 : ¬ ((evS h.e.ρ i).k : Int) ≤ vJ h.e.ρ i := hc.2
        omega
      · rw [hc] at h2; cases h2
  · rw [hK] at h2
    cases hc : vJ h.e.ρ i != toInt64 (evS h.e.ρ i).k || le (toInt64 h.w.n) (vJ h.e.ρ i)
    · rw [Bool.or_eq_false_iff, ← Bool.not_eq_true (le _ _), le_iff] at hc
      obtain ⟨c1, c2⟩ := hc
      have c1 : vJ h.e.ρ i = toInt64 (evS h.e.ρ i).k := by simpa [bne] using c1
      have c1 : vJ h.e.ρ i = ((evS h.e.ρ i).k : Int) := c1
      have c2 : ¬ (h.w.n : Int) ≤ vJ h.e.ρ i := c2
      omega
    · rw [hc] at h2; cases h2
def relR (h : Hi) : Val × Val := Fh.rl h.e.ρ (Fg.cst (toInt64 h.e.n)) (Fg.cst (toInt64 h.e.n)) h.e.n
noncomputable def Grel : List A1 → Tree (AV × Mem)
  | [.agg [.sl [.int .i64] n ρ, .sl [.int .i64, .int .i64, .sl [.int .u8, .int .u8, .int .u8, .int .u8, .int .u8, .int .u8, .int .u8, .int .u8]] m ω, .sl [.int .i64, .int .i64] q ε]] =>
    let h : Hi := ⟨⟨n, ρ⟩, ⟨m, ω⟩, ⟨q, ε⟩⟩
    .need (dec (fewH h ∧ m ≤ 64)) (.br (hisE h != 0) (.leaf (.tup [.c .nilp, .c (I (hisE h))], [])) (.leaf (.tup [.c (.ptr 0 0), .c (I 0)], [some (226, [I (toInt64 m), I (toInt64 q), .os 1 1, .os 2 1]), some (3, [.row false inSh m (relR h).1]), some (3, [.row false inSh m (relR h).2])])))
  | _ => .fail
noncomputable def relT (h : Hi) : Tree (AV × Mem) :=
  let c : Fh.C := ⟨toInt64 h.w.n, toInt64 h.e.n, h.w.n, h.w.n, h.e, toInt64 h.e.n, Fg.cst (toInt64 h.e.n), Fg.cst (toInt64 h.e.n)⟩
  let H : Option (TypeId × List CV) := some (53, [.sl inSh h.s.n h.s.ρ, .sl wrSh h.w.n h.w.ρ, .sl evSh h.e.n h.e.ρ])
  .need (dec (fewH h)) (.br (hisE h != 0) (.leaf (.tup [.c .nilp, .c (I (hisE h))], [H])) (.need (dec (0 ≤ toInt64 h.w.n ∧ toInt64 h.w.n ≤ 64)) (.need (dec (0 ≤ toInt64 h.w.n ∧ toInt64 h.w.n ≤ 64)) (.need (dec (Fh.good c ∧ (⟨0, Fg.cst (toInt64 h.e.n), Fg.cst (toInt64 h.e.n)⟩ : Fh.V) = Fh.st c 0))
    (.leaf (.tup [.c (.ptr 0 0), .c (I 0)], [some (226, [I (toInt64 h.w.n), I (toInt64 h.e.n), .os 1 1, .os 2 1]), some (3, [.row false inSh h.w.n (relR h).1]), some (3, [.row false inSh h.w.n (relR h).2])]))))))
theorem t145 (h : Hi) : evFn Tryz.prog H9 10 145 [.agg [.sl inSh h.s.n h.s.ρ, .sl wrSh h.w.n h.w.ρ, .sl evSh h.e.n h.e.ρ]] [] = relT h := by kernel_rfl
theorem n145 : NcOne Tryz.prog 145 Grel := ncOne_of_tree h9 10 145 fun args r mm hr => by
  unfold Grel at hr; split at hr
  · rename_i n ρ m ω q ε
    simp only [Tree.sel] at hr
    cases hs : dec (fewH ⟨⟨n, ρ⟩, ⟨m, ω⟩, ⟨q, ε⟩⟩ ∧ m ≤ 64)
    · rw [hs] at hr; simp at hr
    rw [hs] at hr
    obtain ⟨hf, hm⟩ := dec_iff.1 hs
    refine ⟨relT ⟨⟨n, ρ⟩, ⟨m, ω⟩, ⟨q, ε⟩⟩, t145 ⟨⟨n, ρ⟩, ⟨m, ω⟩, ⟨q, ε⟩⟩, dec_iff.2 hf, fun h1 => ?_, fun h1 => ?_⟩
    · rw [h1] at hr
      simp only [cond_true, Option.some.injEq, Prod.mk.injEq] at hr
      obtain ⟨rfl, rfl⟩ := hr
      have hw := WkO.renum (l := [.c .nilp, .c (I (hisE ⟨⟨n, ρ⟩, ⟨m, ω⟩, ⟨q, ε⟩⟩))]) (mem := [some (53, [.sl inSh n ρ, .sl wrSh m ω, .sl evSh q ε])]) [] rfl (fun b hb => by cases hb)
      exact hw
    · rw [h1] at hr
      simp only [cond_true, cond_false, Option.some.injEq, Prod.mk.injEq] at hr
      obtain ⟨rfl, rfl⟩ := hr
      have h0 : hisE ⟨⟨n, ρ⟩, ⟨m, ω⟩, ⟨q, ε⟩⟩ = 0 := by simpa [bne] using h1
      have hc : dec (0 ≤ toInt64 m ∧ toInt64 m ≤ 64) = true := dec_iff.2 ⟨by show (0 : Int) ≤ (m : Int); omega, by show (m : Int) ≤ 64; omega⟩
      refine ⟨hc, hc, dec_iff.2 ⟨⟨⟨rfl, hf.2.2⟩, fun i hi => ⟨ev_in h0 i hi, ev_in h0 i hi⟩⟩, rfl⟩, WkO.refl⟩
  · simp [Tree.sel] at hr
noncomputable abbrev H10 : Hd := ⟨H8.pc, H8.hc, [], (145, ncG Grel) :: H8.mc⟩
theorem h10 : HdOk Tryz.prog H10 := h8.mcCons n145.mc
end Hs
end Go.Proofs.YtennlgngdjegoaaGreat
