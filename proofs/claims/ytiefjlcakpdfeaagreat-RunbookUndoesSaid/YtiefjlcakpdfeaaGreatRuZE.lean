/-
 Part RuZE of the proof: RdL.
-/
import Derived.Test.YtiefjlcakpdfeaaGreatRuZD
namespace Go.Proofs.YtiefjlcakpdfeaaGreat
open Go Go.Sx Go.RowKit Rb
set_option maxRecDepth 100000
variable {n m : Nat} {ρ σ : Val}
theorem fewO_some (hn : n ≤ 8) : ∀ f i, i ≤ n → n + 1 ≤ f + i → ∃ b, fewO n ρ f i = some b ∧ (b = true → ∀ j, i ≤ j → j < n → ((ρ.at j).at 4).L [] ≤ 20)
 | 0, i, _, _ => by omega
 | f + 1, i, h1, h2 => by
   unfold fewO
   rcases Nat.lt_or_ge i n with hi | hi
   ·have e1 : lt (i : Int) (toInt64 n) = true := by unfold lt toInt64; simp; exact hi
    have e2 : lt (i : Int) 20 = true := by unfold lt; simp; omega
    rw [e1, e2, inR hi]
    simp only [cond_true, nd]
    cases h20 : lt 20 (toInt64 (((ρ.at i).at 4).L [])) with
    | true => exact ⟨false, rfl, fun h => by cases h⟩
    | false =>
      obtain ⟨b, h3, h4⟩ := fewO_some hn f (i + 1) (by omega) (by omega)
      refine ⟨b, h3, fun hb j hj1 hj2 => ?_⟩
      rcases Nat.lt_or_ge i j with hij | hij
      ·exact h4 hb j hij hj2
      ·have : j = i := by omega
       subst this
       unfold lt toInt64 at h20
       simp at h20
       omega
   ·have e1 : lt (i : Int) (toInt64 n) = false := by unfold lt toInt64; simp; omega
    rw [e1]
    exact ⟨_, rfl, fun _ j h5 h6 => by omega⟩
theorem few12_some : ∃ b, few12 n ρ = some b ∧ (b = true → n ≤ 8 ∧ ∀ j, j < n → ((ρ.at j).at 4).L [] ≤ 20) := by
 unfold few12
 cases h8 : le (toInt64 n) 8 with
 | false => exact ⟨false, rfl, fun h => by cases h⟩
 | true =>
   have hn : n ≤ 8 := by unfold le toInt64 at h8; simp at h8; omega
   obtain ⟨b, h1, h2⟩ := fewO_some (ρ := ρ) hn 22 0 (by omega) (by omega)
   exact ⟨b, h1, fun hb => ⟨hn, fun j hj => h2 hb j (Nat.zero_le j) hj⟩⟩
theorem allB_of {p : Nat → Bool} : ∀ {n : Nat}, (∀ i, i < n → p i = true) → allB p n = true
 | 0, _ => rfl
 | n + 1, h => by
   unfold allB
   rw [allB_of (n := n) fun i hi => h i (by omega), h n (by omega)]
   rfl
theorem small_of (hn : n ≤ 8) (h : ∀ j, j < n → ((ρ.at j).at 4).L [] ≤ 20) : smallB n ρ = true := by
 unfold smallB
 rw [Bool.and_eq_true]
 exact ⟨by rw [Nat.ble_eq]; omega, allB_of fun i hi => by rw [Nat.ble_eq]; have := h i hi; omega⟩
theorem eqWL_ok {ρ σ : Val} (hn : n ≤ 1000) (h : ∀ j, j < n → wd ρ j = wd σ j) : ∀ f (i : Nat), n + 1 ≤ f + i → i ≤ n → eqWL n ρ n σ (toInt64 n) f (i : Int) = some true
 | 0, i, h1, h2 => by omega
 | f + 1, i, h1, h2 => by
   unfold eqWL
   rcases Nat.lt_or_ge i n with hi | hi
   ·have e1 : lt (i : Int) (toInt64 n) = true := by unfold lt toInt64; simp; exact hi
    have e4 : IntKind.wrap .i64 ((i : Int) + 1) = ((i + 1 : Nat) : Int) := by rw [Ro.w64_id (by omega) (by omega)]; omega
    have e5 : strEq (wd ρ i) (wd σ i) = true := (strEq_iff _ _).2 (h i hi)
    rw [e1, inR hi, e4]
    simp only [nd, cond_true, Int.toNat_natCast, e5, Bool.not_true, cond_false]
    exact eqWL_ok hn h f (i + 1) (by omega) (by omega)
   ·have e1 : lt (i : Int) (toInt64 n) = false := by unfold lt toInt64; simp; omega
    rw [e1]
    rfl
theorem eqWS_ok {a b : Nat} {ρ σ : Val} (hab : a = b) (hn : a ≤ 1000) (h : ∀ j, j < a → wd ρ j = wd σ j) : eqWS a ρ b σ = some true := by
 subst hab
 unfold eqWS
 have e : (toInt64 a != toInt64 a) = false := by simp
 rw [e]
 exact eqWL_ok hn h (a + 1) 0 (by omega) (by omega)
theorem want_all {κ : Val} {F0 : Nat → Nat → Bool} {q : Nat} (b : Book4 m n κ F0) (hm : m ≤ 12) (hn : n ≤ 4) (hq : q ≤ m) : ∀ r f t w, t + r = q → r + 1 ≤ f →
  ∃ w', wantS m κ f (q + 1 + t) w ((r : Int) - 1) = some (q + 1 + q, w') ∧ (∀ j, j < q + 1 + t → wd w' j = wd w j) ∧ ∀ s, t ≤ s → s < q → wd w' (q + 1 + s) = uLine b (q - 1 - s)
 | _, 0, _, _, _, h => by omega
 | 0, f + 1, t, w, h1, h2 => by
   have : t = q := by omega
   subst this
   exact ⟨w, rfl, fun _ _ => rfl, fun s h3 h4 => by omega⟩
 | r + 1, f + 1, t, w, h1, h2 => by
   unfold wantS
   have hr : r < m := by omega
   have hc := b.hc r hr
   have hk := b.hk r hr
   have hf := (flip_lt hc).1
   have e0 : (((r + 1 : Nat) : Int) - 1) = (r : Int) := by omega
   have e1 : le 0 (r : Int) = true := by unfold le; simp
   have hκ := b.at_ r hr
   have e3 : undV κ (r : Int) = (stV (flipC (b.c r)) (b.k r)).wρ := by
    unfold undV
    rw [Int.toNat_natCast, hκ]
    exact stU_w hc
   have e4 : undN κ (r : Int) = 2 := by
    unfold undN
    rw [Int.toNat_natCast, hκ]
    rfl
   have e5 : ((κ.at (r : Int).toNat).at 5).L [] = 1 := by
    rw [Int.toNat_natCast, hκ]
    rfl
   have e6 : IntKind.wrap .i64 ((r : Int) - 1) = (r : Int) - 1 := Ro.w64_id (by omega) (by omega)
   have e7 : undL κ (r : Int) = uLine b r := by
    unfold undL uLine
    rw [e3, e4]
    exact undo_eq _ _ hf (by omega)
   have e8 : inRange 0 1 = true := rfl
   obtain ⟨w', h3, h4, h5⟩ := want_all b hm hn hq r f (t + 1) (Val.cat (q + 1 + t) w (Val.ofFlat 1 [.str (uLine b r)])) (by omega) (by omega)
   refine ⟨w', ?_, fun j hj => ?_, fun s hs1 hs2 => ?_⟩
   ·rw [e0, e1, inR hr, e5, e8, e7, e3, e4, e6, undoC_eq _ _ hf (by omega), undoZ_eq _ _ hf (by omega), ble16 (by omega)]
    exact h3
   ·rw [h4 j (by omega)]
    exact wd_old hj
   ·rcases Nat.lt_or_ge t s with h6 | h6
    ·exact h5 s h6 hs2
    ·have : s = t := by omega
     subst this
     have e9 : q - 1 - s = r := by omega
     rw [e9, h4 _ (by omega)]
     exact wd_new
theorem law4 {fl : Int} (h0 : 0 ≤ fl) (h1 : fl ≤ 255) (hu : ∀ j, j < m → 0 ≤ ((σ.at j).at 0).N [] ∧ ((σ.at j).at 0).N [] ≤ 255) {F : Nat → Prop} {W : World} {vs : List Value}
  (hargs : All2 (A1.Rel F W []) [.c (.sl Ro.siSh n ρ), .c (.sl [.int .u8, .int .u8] m σ), .c (.int .u8 fl)] vs) : Calls Tryz.prog 4 vs.toArray W (fun e W' => e = .returned (.bool true) ∧ Below W.heap.size W W') := by
 obtain ⟨fw, f1, f2⟩ := few12_some (n := n) (ρ := ρ)
 cases hca : c4a n ρ m with
 | true =>
   refine law_of_follow (h4 p14 p15_0) 10 4 (path4a tog14 run0 n ρ m σ fl) ?_ rfl hargs
   simp only [okB, List.all_cons, List.all_nil, f1, hca]
   rfl
 | false =>
 have hca' := hca
 unfold c4a at hca
 rw [f1] at hca
 simp only [ov1] at hca
 cases fw with
 | false => cases hca
 | true =>
 simp only [Bool.not_true, cond_false] at hca
 cases hn0 : (toInt64 n == 0) with
 | true => rw [hn0] at hca; cases hca
 | false =>
 rw [hn0] at hca
 simp only [cond_false] at hca
 have hn : 0 < n := by unfold toInt64 at hn0; simp at hn0; omega
 have hm : m ≤ 12 := by unfold lt toInt64 at hca; simp at hca; omega
 obtain ⟨hn8, hln⟩ := f2 rfl
 have hs := small_of hn8 hln
 cases hck : (Ro.ckE ⟨n, ρ⟩ != 0) with
 | true =>
   refine law_of_follow (h4 p14 p15_0) 10 4 (path4b tog14 run0 n ρ m σ fl) ?_ rfl hargs
   simp only [okB, List.all_cons, List.all_nil, f1, hca', hs, hck]
   rfl
 | false =>
 have hk0 : Ro.ckE ⟨n, ρ⟩ = 0 := by simpa using hck
 have hn4 : n ≤ 4 := by
  rcases Nat.lt_or_ge 4 n with h | h
  ·have : lt 4 (toInt64 n) = true := by unfold lt toInt64; simp; omega
   unfold Ro.ckE at hk0
   rw [this] at hk0
   cases hk0
  ·exact h
 have hN : Nums n m σ := ⟨hn, hn4, hm, hu⟩
 obtain ⟨d, d1, d2, d3, d4, d5, d6⟩ := tog_all hN ρ
 have hF : ∀ j g, g < 2 → ((ρ.at j).at (6 + g)).B [] = Fst n ρ σ 0 g j := fun _ _ _ => rfl
 have hw : IntKind.wrap .i64 (toInt64 m + 1) = ((m + 1 : Nat) : Int) := by
  show IntKind.wrap .i64 ((m : Int) + 1) = _
  rw [Ro.w64_id (by omega) (by omega)]; omega
 have hk : ∃ q : Nat, k4 m fl = (q : Int) ∧ q ≤ m := by
  refine ⟨(k4 m fl).toNat, ?_, ?_⟩ <;> unfold k4 <;> rw [hw, Ro.w64_id (by omega) (by omega)]
  ·have := Int.tmod_nonneg ((m + 1 : Nat) : Int) h0
   omega
  ·have := Int.tmod_lt_of_pos fl (show (0 : Int) < ((m + 1 : Nat) : Int) by omega)
   omega
 obtain ⟨q, hq1, hq2⟩ := hk
 have hrun : run4 tog14 run0 n ρ m σ (q : Int) = run0 wToggles m d.bρ n ρ (q + 1) (τ4 (q : Int)) := by
  unfold run4
  rw [d1]
  simp only [ov1, d2, d3, Int.toNat_natCast]
 have hpre : ∀ r, run0 wToggles m d.bρ n ρ (q + 1) (τ4 (q : Int)) = some r → okB (pre4 tog14 run0 n ρ m σ (q : Int)) = true := by
  intro r hr
  have c1 : (!(IntKind.wrap .i64 (toInt64 m + 1) == 0)) = true := by rw [hw]; simp; omega
  have c2 : (le 0 (q : Int) && le (q : Int) (q : Int) && le ((q : Int) * toInt64 8) 140737488355328) = true := by
   unfold le toInt64
   simp
   omega
  have c3 : Nat.ble (((q : Int).toNat + 1) * 8) 140737488355328 = true := by rw [Int.toNat_natCast, Nat.ble_eq]; omega
  simp only [pre4, okB, List.all_cons, List.all_nil, f1, hca', hs, hck, d1, c1, c2, c3, hrun, hr]
  rfl
 rcases Nat.lt_or_ge q m with hqm | hqm
 ·obtain ⟨r, r1, r2, r3, r4, r5, r6, r7, r8⟩ := run_fail (bookT (ρ := ρ) hN d5) hF hm hn4 hs hk0 hqm
  obtain ⟨w', w1, w2, w3⟩ := want_all (bookT (ρ := ρ) hN d5) hm hn4 hq2 q (m + 2) 0 (Val.cat q d.lρ (Val.ofFlat 1 [.str wFailDo4])) (by omega) (by omega)
  have hwant : want4 d (q : Int) = some (q + 1 + q, w') := by
   unfold want4
   have e6 : IntKind.wrap .i64 ((q : Int) - 1) = (q : Int) - 1 := Ro.w64_id (by omega) (by omega)
   rw [d3, e6, Int.toNat_natCast]
   exact w1
  have hlines : ∀ j, j < r.pn → wd r.pρ j = wd w' j := by
   intro j hj
   rw [r5] at hj
   rcases Nat.lt_or_ge j (q + 1) with h2 | h2
   ·rw [w2 j (by omega)]
    rcases Nat.lt_or_ge j q with h3 | h3
    ·rw [r6 j h3]
     exact ((wd_old h3).trans (d6 j (by omega))).symm
    ·have : j = q := by omega
     subst this
     rw [r7]
     exact wd_new.symm
   ·obtain ⟨s, rfl⟩ : ∃ s, j = q + 1 + s := ⟨j - (q + 1), by omega⟩
    rw [r8 s (by omega), w3 s (Nat.zero_le s) (by omega)]
  have hq := eqWS_ok r5 (by omega) hlines
  have hp := path4d tog14 run0 n ρ m σ fl
  simp only [hq1, hrun, r1, ov1, d1, hwant, r2, r3, r4, hq] at hp
  refine law_of_follow (h4 p14 p15_0) 10 4 hp ?_ rfl hargs
  have c0 : ((q : Int) == toInt64 m) = false := by unfold toInt64; simp; omega
  have c1 : (le 0 (q : Int) && le (q : Int) (toInt64 d.l)) = true := by
   rw [d4]
   unfold le toInt64
   simp
   omega
  have c2 : Nat.ble ((0 + (q : Int).toNat) * 16) 140737488355328 = true := by rw [Int.toNat_natCast, Nat.ble_eq]; omega
  have c3 : Nat.ble (((q : Int).toNat + 1) * 16) 140737488355328 = true := by rw [Int.toNat_natCast, Nat.ble_eq]; omega
  have hpp := hpre r r1
  unfold okB at hpp ⊢
  rw [List.all_append, hpp]
  simp only [List.all_cons, List.all_nil, c0, c1, c2, c3]
  rfl
 ·have hqm' : q = m := by omega
  subst hqm'
  obtain ⟨r, r1, r2, r3, r4, r5⟩ := run_all (bookT (ρ := ρ) hN d5) hF hm hn4 hs hk0
  have hq := eqWS_ok (r4.trans d4.symm) (by omega) fun j hj => (r5 j (by omega)).trans (d6 j (by omega)).symm
  have hp := path4c tog14 run0 n ρ q σ fl
  simp only [hq1, hrun, r1, ov1, d1, r2, r3, hq] at hp
  have hnn : (toInt64 n == toInt64 n) = true := by simp
  rw [hnn] at hp
  refine law_of_follow (h4 p14 p15_0) 10 4 hp ?_ rfl hargs
  have c0 : ((q : Int) == toInt64 q) = true := by unfold toInt64; simp
  have hpp := hpre r r1
  unfold okB at hpp ⊢
  rw [List.all_append, hpp]
  simp only [List.all_cons, List.all_nil, c0]
  rfl
theorem argS_eq (ρ : Val) : argOf Tryz.prog 34 [.sl Ro.siSh] ρ = .c (.sl Ro.siSh ((ρ.at 0).L []) (ρ.at 0)) := by kernel_rfl
theorem argT_eq (ρ : Val) : argOf Tryz.prog 35 [.sl [.int .u8, .int .u8]] ρ = .c (.sl [.int .u8, .int .u8] ((ρ.at 0).L []) (ρ.at 0)) := by kernel_rfl
theorem argB_eq (ρ : Val) : argOf Tryz.prog 5 [.int .u8] ρ = .c (.int .u8 ((ρ.at 0).N [])) := by kernel_rfl
theorem u8_two {n : Int} (h : (Lit.int .u8 n).wf = true) : 0 ≤ n ∧ n ≤ 255 := by
 simpa [Lit.wf, IntKind.min, IntKind.max, IntKind.signed, IntKind.bits] using h
end Go.Proofs.YtiefjlcakpdfeaaGreat
