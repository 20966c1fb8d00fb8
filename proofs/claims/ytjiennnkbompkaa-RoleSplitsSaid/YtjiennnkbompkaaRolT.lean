/-
  The roles of sites: Synced of the reference.
-/
import Derived.Test.YtjiennnkbompkaaRolS
namespace Go.Proofs.Ytjiennnkbompkaa
open Go Go.Sx Go.RowKit Classical

set_option maxRecDepth 100000

/-! ### cut -/

structure C53 where
  l : Ln
  nu : Int
structure V53 where
  m : Nat
  σ : Val
  i : Int

def S53 (c : C53) (v : V53) : St := mkS 42 [(0, .one (.c (.sl spSh c.l.n c.l.ρ))), (1, .one (.c (I c.nu))), (5, .one (.c (.os 0 3))), (6, .one (.c (I v.i)))] [some (61, [.row false spSh v.m v.σ])]
def clipF (nu : Int) (x : Sp) : Val := Val.ofFlat 3 [I x.e, I x.f, I (imin x.t nu)]
def TX53 (c : C53) (v : V53) : Tree (XE × V53) :=
  .br (lt v.i (toInt64 c.l.n)) (.need (inRange v.i c.l.n) (.br (le (spn c.l.ρ v.i.toNat).f c.nu)
    (.need (inRange v.i c.l.n) (.need (inRange v.i c.l.n) (.need (inRange v.i c.l.n) (.need (Nat.ble (((v.m + 1).mul 23).add v.m) 140737488355327)
      (.leaf (.normal, ⟨v.m + 1, Val.cat v.m v.σ (clipF c.nu (spn c.l.ρ v.i.toNat)), IntKind.i64.wrap (v.i + 1)⟩))))))
    (.leaf (.normal, ⟨v.m, v.σ, IntKind.i64.wrap (v.i + 1)⟩)))) (.leaf (.exit 0, v))

theorem t53 (c : C53) (v : V53) : ((evCode Try.prog H15 (evFn Try.prog H15 10) 53 0 1 (loopBody Try.prog 53 0) (S53 c v)).bind fun y => gcT [0, 1, 5, 6] 0 y) = (TX53 c v).bind fun y => .leaf (y.1, S53 c y.2) := by kernel_rfl

/-- the spans that are kept, one round behind the other -/
def st53 (c : C53) : Nat → V53
  | 0 => ⟨0, Val.zero, 0⟩
  | i + 1 => let v := st53 c i; bif le (spn c.l.ρ i).f c.nu then ⟨v.m + 1, Val.cat v.m v.σ (clipF c.nu (spn c.l.ρ i)), (i + 1 : Nat)⟩ else ⟨v.m, v.σ, (i + 1 : Nat)⟩

theorem st53_i (c : C53) : ∀ i, (st53 c i).i = i
  | 0 => rfl
  | i + 1 => by unfold st53; cases le (spn c.l.ρ i).f c.nu <;> rfl
theorem st53_m (c : C53) : ∀ i, (st53 c i).m ≤ i
  | 0 => Nat.le_refl _
  | i + 1 => by
    have := st53_m c i
    unfold st53
    cases le (spn c.l.ρ i).f c.nu
    · show (st53 c i).m ≤ i + 1; omega
    · show (st53 c i).m + 1 ≤ i + 1; omega

def μ53 (c : C53) (v : V53) : Nat := (c.l.n - v.i).toNat

theorem sq53 (c : C53) (hn : small c.l.n) : Sq (TX53 c) (μ53 c) (st53 c) (st53 c) c.l.n (fun _ => false) .ret (.exit 0) where
  out := by simp
  hit := by simp
  meas i hi := by unfold μ53; rw [st53_i]; omega
  round i hi := by
    unfold small at hn
    have hr : inRange (st53 c i).i c.l.n = true := by rw [st53_i]; exact inR hi
    have hw : IntKind.i64.wrap ((st53 c i).i + 1) = ((i + 1 : Nat) : Int) := by rw [st53_i, w64_id (by omega) (by omega)]; omega
    have hin : ((st53 c i).i).toNat = i := by rw [st53_i]; omega
    have hm := st53_m c i
    refine ⟨fun _ => ⟨hr, fun hb => ⟨hr, hr, hr, Nat.ble_eq_true_of_le (by show ((st53 c i).m + 1) * 23 + (st53 c i).m ≤ _; omega), ?_⟩, fun hb => ?_⟩, fun h => ?_⟩
    · rw [hin] at hb
      simp only [Tree.All, Bool.false_eq_true, if_false, hin, hw]
      conv => rhs; unfold st53
      simp only [hb, cond_true]
    · rw [hin] at hb
      simp only [Tree.All, Bool.false_eq_true, if_false, hw]
      conv => rhs; unfold st53
      simp only [hb, cond_false]
    · rw [st53_i, ltF hi] at h; cases h
  stop := by
    refine ⟨fun h => ?_, fun _ => rfl⟩
    rw [st53_i, ltS] at h; cases h

noncomputable def inv53 (c : C53) (v : V53) : Bool := dec (small c.l.n ∧ ∃ i, i ≤ c.l.n ∧ v = st53 c i)
def run53 (c : C53) (v : V53) : XE × V53 := fin (TX53 c) (μ53 c) v
def get53 : List (Nat × AV) → Mem → Option (C53 × V53)
  | [(0, .one (.c (.sl [.int .i64, .int .i64, .int .i64] n ρ))), (1, .one (.c (.int .i64 nu))), (5, .one (.c (.os 0 3))), (6, .one (.c (.int .i64 i)))], [some (61, [.row false [.int .i64, .int .i64, .int .i64] m σ])] => some (⟨⟨n, ρ⟩, nu⟩, ⟨m, σ, i⟩)
  | _, _ => none
noncomputable def L53 : Nat → St → Tree (XE × St) := ownH [.own 5 61 spSh] (loopH [0, 1, 5, 6] 0 42 get53 inv53 S53 run53 [.exit 0])

theorem l53 (fn : Func) (c b : Code) (hf : Try.prog.funcs[53]? = some fn) (hc : fn.body = some c) (hb : nthLoop c 0 = some b) : LoopOk Try.prog b L53 :=
  ownH_ok _ (loopOk_of h15 10 53 0 hf hc hb [0, 1, 5, 6] 0 42 S53 TX53 t53 get53 inv53 μ53 [.exit 0]
    (fun l m c v h => by unfold get53 at h; split at h <;> simp at h; obtain ⟨rfl, rfl⟩ := h; rfl)
    (rounds_of fun c v hv => by
      have h := (dec_iff.1 hv).1
      exact (sq53 c h).rounds fun x => by unfold inv53; rw [dec_iff]; exact ⟨fun h => h.2, fun k => ⟨h, k⟩⟩))

/-- the spans up to a number -/
def clipV (nu : Int) (ρ : Val) : Val := .byFst fun i => .ofCs [I (spn ρ i).e, I (spn ρ i).f, I (imin (spn ρ i).t nu)]
theorem spn_clip (nu : Int) (ρ : Val) (i : Nat) : spn (clipV nu ρ) i = ⟨(spn ρ i).e, (spn ρ i).f, imin (spn ρ i).t nu⟩ := rfl

theorem cutN_le (nu : Int) (l : Ln) : cutN nu l ≤ l.n := by
  unfold cutN
  cases hb : anyB (beh nu l.ρ) l.n
  · exact Nat.le_refl _
  · have := (firstB_ok hb).1
    simp only [cond_true]; omega
theorem beh_lt {nu : Int} {l : Ln} {i : Nat} (hi : i < cutN nu l) : beh nu l.ρ i = false := by
  unfold cutN at hi
  cases hb : anyB (beh nu l.ρ) l.n
  · rw [hb] at hi
    have hi : i < l.n := hi
    rw [← Bool.not_eq_true]
    intro h
    have := anyB_iff.2 ⟨i, hi, h⟩
    rw [hb] at this; cases this
  · rw [hb] at hi
    exact (firstB_ok hb).2.2 i hi
theorem beh_ge {nu : Int} {l : Ln} (hc : corr l = true) {i : Nat} (h1 : cutN nu l ≤ i) (hi : i < l.n) : beh nu l.ρ i = true := by
  unfold cutN at h1
  cases hb : anyB (beh nu l.ρ) l.n
  · rw [hb] at h1
    have : l.n ≤ i := h1
    omega
  · rw [hb] at h1
    obtain ⟨f1, f2, f3⟩ := firstB_ok hb
    have h1 : firstB (beh nu l.ρ) l.n ≤ i := h1
    generalize firstB (beh nu l.ρ) l.n = m at *
    rcases Nat.lt_or_eq_of_le h1 with hlt | rfl
    · unfold beh at f2 ⊢
      rw [lt_iff] at f2 ⊢
      have h3 := sp_lt hc hlt hi
      have h4 := (corr_sp hc (i := m) f1).ft
      omega
    · exact f2

theorem st53_kept (c : C53) (hc : corr c.l = true) : ∀ i, i ≤ c.l.n → (st53 c i).m = min i (cutN c.nu c.l) ∧ ∀ j, j < (st53 c i).m → spn (st53 c i).σ j = spn (clipV c.nu c.l.ρ) j
  | 0, _ => ⟨by show 0 = _; omega, fun j hj => by have hj : j < 0 := hj; omega⟩
  | i + 1, hi => by
    obtain ⟨h1, h2⟩ := st53_kept c hc i (by omega)
    have hle : le (spn c.l.ρ i).f c.nu = !beh c.nu c.l.ρ i := by unfold beh; rw [le_not]
    unfold st53
    rw [hle]
    by_cases hk : i < cutN c.nu c.l
    · rw [beh_lt hk]
      simp only [Bool.not_false, cond_true]
      refine ⟨by rw [h1]; omega, fun j hj => ?_⟩
      rw [spn_cat]
      by_cases hj2 : j < (st53 c i).m
      · rw [if_pos hj2]; exact h2 j hj2
      · rw [if_neg hj2]
        have hji : j = i := by omega
        subst hji
        have : j - (st53 c j).m = 0 := by omega
        rw [this]
        rfl
    · rw [beh_ge hc (by omega) (by omega)]
      simp only [Bool.not_true, cond_false]
      exact ⟨by rw [h1]; omega, h2⟩

noncomputable abbrev H53 : Hd := ⟨H15.pc, H15.hc, [((53, 0), L53)], H15.mc⟩
theorem h53 : HdOk Try.prog H53 := HdOk.lhCons h15 l53

noncomputable def Gcut : List A1 → Option (Bool × AV)
  | [.c (.sl [.int .i64, .int .i64, .int .i64] n ρ), .c (.int .i64 nu)] => some (dec (small n ∧ corr ⟨n, ρ⟩ = true), .one (.c (.sl spSh (cutN nu ⟨n, ρ⟩) (clipV nu ρ))))
  | _ => none

theorem u53 : UcOne Try.prog 53 (nG Gcut) := ucOne_of_tree h53 12 53 fun args r h => by
  unfold Gcut at h; split at h
  · rename_i n ρ nu
    obtain ⟨hp, rfl⟩ := Prod.mk.inj (Option.some.inj h)
    obtain ⟨hs, hc⟩ := dec_iff.1 hp
    let c : C53 := ⟨⟨n, ρ⟩, nu⟩
    have hf : run53 c ⟨0, Val.zero, 0⟩ = (.exit 0, st53 c n) := by
      have := (sq53 c hs).fin0
      rw [anyB_none fun _ _ => rfl] at this
      exact this
    refine ⟨.need (inv53 c ⟨0, Val.zero, 0⟩) (.need (eqXE (run53 c ⟨0, Val.zero, 0⟩).1 (.exit 0)) (.leaf (.one (.c (.sl spSh (run53 c ⟨0, Val.zero, 0⟩).2.m (run53 c ⟨0, Val.zero, 0⟩).2.σ))))), by kernel_rfl, dec_iff.2 ⟨hs, 0, Nat.zero_le _, rfl⟩, by rw [hf]; rfl, ?_⟩
    rw [hf]
    obtain ⟨h1, h2⟩ := st53_kept c hc n (Nat.le_refl _)
    have hle := cutN_le nu ⟨n, ρ⟩
    have h1 : (st53 c n).m = cutN nu ⟨n, ρ⟩ := by rw [h1]; exact Nat.min_eq_right hle
    refine leA_one (.c ?_)
    rw [← h1]
    exact leC_spn h2
  · cases h

/-! ### extend -/

noncomputable def Gext : List A1 → Option (Bool × AV)
  | [.c (.sl [.int .i64, .int .i64, .int .i64] n ρ), .c (.int .i64 ep), .c (.int .i64 nu)] =>
    let t := bif lt (hd ⟨n, ρ⟩).t nu then extL ⟨n, ρ⟩ ep (hd ⟨n, ρ⟩).t nu else ⟨n, ρ⟩
    some (dec (small n), .one (.c (.sl spSh t.n t.ρ)))
  | _ => none

theorem u52 : UcOne Try.prog 52 (nG Gext) := ucOne_of_tree h15 12 52 fun args r h => by
  unfold Gext at h; split at h
  · rename_i n ρ ep nu
    obtain ⟨hp, rfl⟩ := Prod.mk.inj (Option.some.inj h)
    have hs := dec_iff.1 hp
    have hf := dec_iff.1 (small_few hs)
    refine ⟨.need (Nat.ble (n * Try.prog.types[61].bytes) 140737488355328) (.need (dec (fewN n)) (.br (le nu (hd ⟨n, ρ⟩).t) (.leaf (.one (.c (.sl spSh n ρ))))
      (.br (lt 0 (toInt64 n) && (hd ⟨n, ρ⟩).e == ep) (.need (inRange (IntKind.i64.wrap (toInt64 n - 1)) n) (.leaf (.one (.c (.sl spSh n (ρ.upds (lastI n) 2 [I nu]))))))
        (.need (Nat.ble (((n + 1).mul 23).add n) 140737488355327) (.leaf (.one (.c (.sl spSh (n + 1) (Val.cat n ρ (Val.ofFlat 3 [I ep, I (IntKind.i64.wrap ((hd ⟨n, ρ⟩).t + 1)), I nu])))))))))), by kernel_rfl, small_ble' hs, small_few hs, fun h0 => ?_, fun h0 => ⟨fun h1 => ⟨?_, ?_⟩, fun h1 => ⟨small_app hs, ?_⟩⟩⟩
    · have : lt (hd ⟨n, ρ⟩).t nu = false := by rw [lt_not, h0]; rfl
      rw [this]
      exact leA.refl
    · rw [Bool.and_eq_true] at h1
      exact lastR hf (pos_iff.1 h1.1)
    · have h2 : lt (hd ⟨n, ρ⟩).t nu = true := by rw [lt_not, h0]; rfl
      have h3 : (lt 0 (toInt64 n) && (spn ρ (lastI n)).e == ep) = true := by
        rw [Bool.and_eq_true] at h1 ⊢
        refine ⟨h1.1, ?_⟩
        rw [hd_last (l := ⟨n, ρ⟩) hf (pos_iff.1 h1.1)]
        exact h1.2
      rw [h2]
      unfold extL
      simp only [cond_true, h3]
      exact leA.refl
    · have h2 : lt (hd ⟨n, ρ⟩).t nu = true := by rw [lt_not, h0]; rfl
      have h3 : (lt 0 (toInt64 n) && (spn ρ (lastI n)).e == ep) = false := by
        cases h4 : lt 0 (toInt64 n)
        · rfl
        · rw [h4] at h1
          rw [hd_last (l := ⟨n, ρ⟩) hf (pos_iff.1 h4)]
          exact h1
      rw [h2]
      unfold extL
      simp only [cond_true, h3, cond_false]
      exact leA.refl
  · cases h

noncomputable abbrev H18 : Hd := ⟨H15.pc, (52, nG Gext) :: (53, nG Gcut) :: (18, nG Gsyn) :: (20, nG Gapp) :: (21, nG Gapp) :: H15.hc, [], H15.mc⟩
theorem h18 : HdOk Try.prog H18 := ((((h15.ucCons u21).ucCons u20).ucCons u18).ucCons u53).ucCons u52

end Go.Proofs.Ytjiennnkbompkaa
