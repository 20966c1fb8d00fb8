/-
  The estimator: what its functions compute (a plain text, no program in sight).
-/
import Derived.Test.YtcplkefmilpmpaaEngL
namespace Go.Proofs.Ytcplkefmilpmpaa
open Go.Sx

theorem w64_id {x : Int} (h1 : -9223372036854775808 ≤ x) (h2 : x < 9223372036854775808) : IntKind.i64.wrap x = x := by
  unfold IntKind.wrap IntKind.bits IntKind.signed
  simp only [Bool.true_and]
  split <;> rename_i h <;> simp at h <;> omega

theorem shr_eq (x : Int) (n : Nat) (h : n ≤ 62) : shrI .i64 x n = x / 2 ^ n := by
  unfold shrI IntKind.bits
  have : min ((n : Int).toNat) 64 = n := by omega
  simp only [this]
  rw [Int.fdiv_eq_ediv_of_nonneg _ (by exact Int.le_of_lt (Int.pow_pos (by omega)))]

theorem shr3 (x : Int) : shrI .i64 x 3 = x / 8 := shr_eq x 3 (by omega)
theorem shr2 (x : Int) : shrI .i64 x 2 = x / 4 := shr_eq x 2 (by omega)
theorem shl3 (x : Int) : shlI .i64 x 3 = IntKind.i64.wrap (x * 8) := rfl
theorem shl1 (x : Int) : shlI .i64 x 1 = IntKind.i64.wrap (x * 2) := rfl
theorem imax_eq (a b : Int) : imax a b = max a b := by unfold imax lt; simp only [Bool.cond_decide]; split <;> omega
theorem imin_eq (a b : Int) : imin a b = min a b := by unfold imin lt; simp only [Bool.cond_decide]; split <;> omega

/-- is an estimator well formed? -/
def vld (a b c d : Int) : Bool := decide (0 ≤ a ∧ a ≤ 1073741824 ∧ 0 ≤ b ∧ b ≤ 8589934592 ∧ 0 ≤ c ∧ c ≤ 8589934592 ∧ 0 ≤ d ∧ d ≤ 12 ∧ (a = 0 → b = 0 ∧ c = 0))

theorem vld_iff {a b c d : Int} : vld a b c d = true ↔ (0 ≤ a ∧ a ≤ 1073741824 ∧ 0 ≤ b ∧ b ≤ 8589934592 ∧ 0 ≤ c ∧ c ≤ 8589934592 ∧ 0 ≤ d ∧ d ≤ 12 ∧ (a = 0 → b = 0 ∧ c = 0)) := by unfold vld; exact decide_eq_true_iff

def chk (a b c d : Int) : Int := bif vld a b c d then 0 else 3

theorem chk13 (a b c d : Int) : (bif !(le 0 a && le a 1073741824 && (le 0 b && le b 8589934592) && (le 0 c && le c 8589934592) && (le 0 d && le d 12)) ||
    a == 0 && (b != 0 || c != 0) then (3 : Int) else 0) = chk a b c d := by
  unfold chk
  have : (!(le 0 a && le a 1073741824 && (le 0 b && le b 8589934592) && (le 0 c && le c 8589934592) && (le 0 d && le d 12)) || a == 0 && (b != 0 || c != 0)) = !vld a b c d := by
    rw [Bool.eq_iff_iff]
    simp [vld, le]
    omega
  rw [this]
  cases vld a b c d <;> rfl

theorem chk14 (a b c d : Int) : (bif lt a 0 || lt 1073741824 a || lt b 0 || lt 8589934592 b || lt c 0 || lt 8589934592 c || lt d 0 || lt 12 d then
        (3 : Int)
      else bif a == 0 && (lt 0 b || lt 0 c) then 3 else 0) = chk a b c d := by
  have : chk a b c d = bif ((lt a 0 || lt 1073741824 a || lt b 0 || lt 8589934592 b || lt c 0 || lt 8589934592 c || lt d 0 || lt 12 d) || (a == 0 && (lt 0 b || lt 0 c))) then 3 else 0 := by
    unfold chk
    have : ((lt a 0 || lt 1073741824 a || lt b 0 || lt 8589934592 b || lt c 0 || lt 8589934592 c || lt d 0 || lt 12 d) || (a == 0 && (lt 0 b || lt 0 c))) = !vld a b c d := by
      rw [Bool.eq_iff_iff]
      simp [vld, lt]
      omega
    rw [this]
    cases vld a b c d <;> rfl
  rw [this]
  cases (lt a 0 || lt 1073741824 a || lt b 0 || lt 8589934592 b || lt c 0 || lt 8589934592 c || lt d 0 || lt 12 d) <;> rfl

def okT (t : Int) : Bool := le 0 t && le t 1073741824
theorem okT_iff {t : Int} : okT t = true ↔ 0 ≤ t ∧ t ≤ 1073741824 := by simp [okT, le]
theorem okT_not (t : Int) : (lt t 0 || lt 1073741824 t) = !okT t := by
  rw [Bool.eq_iff_iff]; simp [okT, lt, le]

def ok (a b c d t : Int) : Bool := vld a b c d && okT t
def sA (a : Int) : Int := min (a + 1) 1073741824
def sB (a b t : Int) : Int := bif a == 0 then 8 * t else b + (t - b / 8)
def sC (a b c t : Int) : Int := bif a == 0 then 2 * t else c + (max (t - b / 8) (b / 8 - t) - c / 4)
def sE (a b c d t : Int) : Int := bif vld a b c d then (bif okT t then 0 else 24) else 3

theorem s10a (a b c d t : Int) : (bif chk a b c d != 0 then 0
          else bif !(le 0 t && le t 1073741824) then 0
            else bif a == 0 then imin (IntKind.i64.wrap (a + 1)) 1073741824 else imin (IntKind.i64.wrap (a + 1)) 1073741824) = bif ok a b c d t then sA a else 0 := by
  show (bif chk a b c d != 0 then 0 else bif !okT t then 0 else _) = _
  unfold chk ok
  cases hv : vld a b c d
  · rfl
  · have := vld_iff.1 hv
    cases okT t
    · rfl
    · simp only [cond_true, bne_self_eq_false, cond_false, Bool.not_true, Bool.and_self, Bool.cond_self]
      rw [w64_id (by omega) (by omega), imin_eq]; rfl

theorem s10b (a b c d t : Int) : (bif chk a b c d != 0 then 0
          else bif !(le 0 t && le t 1073741824) then 0
            else bif a == 0 then shlI IntKind.i64 t 3 else IntKind.i64.wrap (b + IntKind.i64.wrap (t - shrI IntKind.i64 b 3))) = bif ok a b c d t then sB a b t else 0 := by
  show (bif chk a b c d != 0 then 0 else bif !okT t then 0 else _) = _
  unfold chk ok
  cases hv : vld a b c d
  · rfl
  · have := vld_iff.1 hv
    cases ht : okT t
    · rfl
    · have := okT_iff.1 ht
      simp only [cond_true, bne_self_eq_false, cond_false, Bool.not_true, Bool.and_self, sB]
      rw [shl3, shr3, w64_id (x := t * 8) (by omega) (by omega), w64_id (x := t - b / 8) (by omega) (by omega), w64_id (by omega) (by omega), Int.mul_comm]

theorem s10c (a b c d t : Int) : (bif chk a b c d != 0 then 0
          else bif !(le 0 t && le t 1073741824) then 0
            else bif a == 0 then shlI IntKind.i64 t 1
              else
                IntKind.i64.wrap
                  (c +
                    IntKind.i64.wrap
                      (imax (IntKind.i64.wrap (t - shrI IntKind.i64 b 3))
                          (IntKind.i64.wrap (0 - IntKind.i64.wrap (t - shrI IntKind.i64 b 3))) -
                        shrI IntKind.i64 c 2))) = bif ok a b c d t then sC a b c t else 0 := by
  show (bif chk a b c d != 0 then 0 else bif !okT t then 0 else _) = _
  unfold chk ok
  cases hv : vld a b c d
  · rfl
  · have := vld_iff.1 hv
    cases ht : okT t
    · rfl
    · have := okT_iff.1 ht
      simp only [cond_true, bne_self_eq_false, cond_false, Bool.not_true, Bool.and_self, sC]
      rw [shl1, shr3, shr2, imax_eq, w64_id (x := t * 2) (by omega) (by omega), w64_id (x := t - b / 8) (by omega) (by omega), w64_id (x := 0 - _) (by omega) (by omega), w64_id (x := _ - c / 4) (by omega) (by omega), w64_id (by omega) (by omega), Int.mul_comm,
        show 0 - (t - b / 8) = b / 8 - t by omega]

theorem s10d (a b c d t : Int) : (bif chk a b c d != 0 then (0 : Int) else bif !(le 0 t && le t 1073741824) then 0 else bif a == 0 then 0 else 0) = 0 := by
  simp only [Bool.cond_self]

theorem s10e (a b c d t : Int) : (bif chk a b c d != 0 then chk a b c d
        else bif !(le 0 t && le t 1073741824) then 24 else bif a == 0 then 0 else 0) = sE a b c d t := by
  show (bif chk a b c d != 0 then chk a b c d else bif !okT t then 24 else _) = _
  unfold chk sE
  cases vld a b c d <;> cases okT t <;> simp

theorem s11a (a b c d t : Int) : (bif chk a b c d != 0 then 0
          else bif lt t 0 || lt 1073741824 t then 0
            else bif lt 0 a then imin (IntKind.i64.wrap (a + 1)) 1073741824
              else imin (IntKind.i64.wrap (a + 1)) 1073741824) = bif ok a b c d t then sA a else 0 := by
  rw [okT_not, ← s10a]
  show _ = (bif chk a b c d != 0 then 0 else bif !okT t then 0 else _)
  simp only [Bool.cond_self]

theorem lt0 {a : Int} (h : 0 ≤ a) : lt 0 a = !(a == 0) := by
  rw [Bool.eq_iff_iff]; simp [lt]; omega

theorem s11b (a b c d t : Int) : (bif chk a b c d != 0 then 0
          else bif lt t 0 || lt 1073741824 t then 0
            else bif lt 0 a then IntKind.i64.wrap (b + IntKind.i64.wrap (t - IntKind.i64.wrap (b.tdiv 8)))
              else IntKind.i64.wrap (8 * t)) = bif ok a b c d t then sB a b t else 0 := by
  rw [okT_not]
  unfold chk ok
  cases hv : vld a b c d
  · rfl
  · have := vld_iff.1 hv
    cases ht : okT t
    · rfl
    · have := okT_iff.1 ht
      simp only [cond_true, bne_self_eq_false, cond_false, Bool.not_true, Bool.and_self, sB]
      rw [Int.tdiv_eq_ediv_of_nonneg (by omega), w64_id (x := b / 8) (by omega) (by omega), w64_id (x := 8 * t) (by omega) (by omega), w64_id (x := t - b / 8) (by omega) (by omega), w64_id (by omega) (by omega), lt0 (by omega)]
      cases a == 0 <;> rfl

theorem s11c (a b c d t : Int) : (bif chk a b c d != 0 then 0
          else bif lt t 0 || lt 1073741824 t then 0
            else
              bif lt 0 a then
                IntKind.i64.wrap
                  (IntKind.i64.wrap (c - IntKind.i64.wrap (c.tdiv 4)) +
                    imax (IntKind.i64.wrap (t - IntKind.i64.wrap (b.tdiv 8)))
                      (IntKind.i64.wrap (0 - IntKind.i64.wrap (t - IntKind.i64.wrap (b.tdiv 8)))))
              else IntKind.i64.wrap (2 * t)) = bif ok a b c d t then sC a b c t else 0 := by
  rw [okT_not]
  unfold chk ok
  cases hv : vld a b c d
  · rfl
  · have := vld_iff.1 hv
    cases ht : okT t
    · rfl
    · have := okT_iff.1 ht
      simp only [cond_true, bne_self_eq_false, cond_false, Bool.not_true, Bool.and_self, sC]
      rw [Int.tdiv_eq_ediv_of_nonneg (a := b) (by omega), Int.tdiv_eq_ediv_of_nonneg (a := c) (by omega), w64_id (x := b / 8) (by omega) (by omega), w64_id (x := c / 4) (by omega) (by omega), w64_id (x := 2 * t) (by omega) (by omega), w64_id (x := t - b / 8) (by omega) (by omega), w64_id (x := 0 - _) (by omega) (by omega), w64_id (x := c - c / 4) (by omega) (by omega), imax_eq, w64_id (by omega) (by omega), lt0 (by omega)]
      cases a == 0
      · simp only [Bool.not_false, cond_true, cond_false]; omega
      · rfl

theorem s11d (a b c d t : Int) : (bif chk a b c d != 0 then (0 : Int) else bif lt t 0 || lt 1073741824 t then 0 else bif lt 0 a then 0 else 0) = 0 := by
  simp only [Bool.cond_self]

theorem s11e (a b c d t : Int) : (bif chk a b c d != 0 then 3 else bif lt t 0 || lt 1073741824 t then 24 else bif lt 0 a then 0 else 0) = sE a b c d t := by
  rw [okT_not]
  unfold chk sE
  cases vld a b c d <;> cases okT t <;> simp

/-- Mean -/
def mean (a b c d : Int) : Int := bif vld a b c d then b / 8 else 0
theorem m19 (a b c d : Int) : (bif chk a b c d != 0 then 0 else shrI IntKind.i64 b 3) = mean a b c d := by
  unfold chk mean
  cases vld a b c d
  · rfl
  · exact shr3 b
theorem m20 (a b c d : Int) : (bif chk a b c d != 0 then 0 else IntKind.i64.wrap (b.tdiv 8)) = mean a b c d := by
  unfold chk mean
  cases hv : vld a b c d
  · rfl
  · have := vld_iff.1 hv
    show IntKind.i64.wrap (b.tdiv 8) = b / 8
    rw [Int.tdiv_eq_ediv_of_nonneg (by omega), w64_id (by omega) (by omega)]

/-- Expired -/
def expd (a b c d : Int) : Int := bif vld a b c d then min (d + 1) 12 else d
theorem e21 (a b c d : Int) : (bif chk a b c d == 0 then imin (IntKind.i64.wrap (d + 1)) 12 else d) = expd a b c d := by
  unfold chk expd
  cases hv : vld a b c d
  · rfl
  · have := vld_iff.1 hv
    show imin (IntKind.i64.wrap (d + 1)) 12 = _
    rw [imin_eq, w64_id (by omega) (by omega)]; rfl

/-- Timeout -/
def base (a b c : Int) : Int := bif lt 0 a then max (max (b / 8 + c) (b / 8 + 1)) 2 else 64
def tmo (a b c d : Int) : Int := bif vld a b c d then min (base a b c * 2 ^ d.toNat) (max (base a b c) 65536) else 0

theorem base_bd {a b c d : Int} (h : vld a b c d = true) : 1 ≤ base a b c ∧ base a b c ≤ 9663676416 := by
  have := vld_iff.1 h
  unfold base
  cases lt 0 a <;> simp <;> omega

theorem shl_d {x d : Int} (h0 : 0 ≤ x) (h1 : x ≤ 9663676416) (h2 : 0 ≤ d) (h3 : d ≤ 12) : shlI .i64 x d = x * 2 ^ d.toNat := by
  unfold shlI IntKind.bits
  have e : min d.toNat 64 = d.toNat := by omega
  simp only [e]
  have hp : (2 : Int) ^ d.toNat ≤ 4096 := by
    have h1 : (2 : Nat) ^ d.toNat ≤ 2 ^ 12 := Nat.pow_le_pow_right (by omega) (by omega)
    have h2 : (2 : Int) ^ d.toNat = ((2 ^ d.toNat : Nat) : Int) := by simp
    omega
  have hp0 : (0 : Int) < 2 ^ d.toNat := Int.pow_pos (by omega)
  have hle : x * 2 ^ d.toNat ≤ 9663676416 * 4096 := Int.mul_le_mul h1 hp (Int.le_of_lt hp0) (by omega)
  have hge : 0 ≤ x * 2 ^ d.toNat := Int.mul_nonneg h0 (Int.le_of_lt hp0)
  exact w64_id (by omega) (by omega)

theorem t17 (a b c d : Int) : (bif chk a b c d != 0 then 0
      else
        bif lt 0 a then
          imin
            (shlI IntKind.i64
              (imax (imax (IntKind.i64.wrap (shrI IntKind.i64 b 3 + c)) (IntKind.i64.wrap (shrI IntKind.i64 b 3 + 1)))
                2)
              d)
            (imax
              (imax (imax (IntKind.i64.wrap (shrI IntKind.i64 b 3 + c)) (IntKind.i64.wrap (shrI IntKind.i64 b 3 + 1)))
                2)
              65536)
        else imin (shlI IntKind.i64 64 d) (imax 64 65536)) = tmo a b c d := by
  unfold chk tmo
  cases hv : vld a b c d
  · rfl
  · have h := vld_iff.1 hv
    have hb := base_bd hv
    simp only [cond_true, bne_self_eq_false, cond_false]
    unfold base at hb ⊢
    cases lt 0 a
    · simp only [cond_false, imax_eq, imin_eq]
      rw [shl_d (by omega) (by omega) (by omega) (by omega)]
    · simp only [cond_true, imax_eq, imin_eq] at hb ⊢
      rw [shr3, w64_id (x := b / 8 + c) (by omega) (by omega), w64_id (x := b / 8 + 1) (by omega) (by omega), shl_d (by omega) (by omega) (by omega) (by omega)]

theorem t17n (a b c d : Int) : Tree.Safe (Tree.br (chk a b c d != 0) (Tree.leaf PUnit.unit)
  (Tree.br (lt 0 a) (Tree.need (le 0 3) (Tree.need (le 0 d) (Tree.leaf PUnit.unit)))
    (Tree.need (le 0 d) (Tree.leaf PUnit.unit)))) := by
  refine ⟨fun _ => trivial, fun h => ?_⟩
  have hv : vld a b c d = true := by
    unfold chk at h
    cases hv : vld a b c d
    · rw [hv] at h; cases h
    · rfl
  have := (le_iff 0 d).2 (vld_iff.1 hv).2.2.2.2.2.2.1
  exact ⟨fun _ => ⟨rfl, this, trivial⟩, fun _ => ⟨this, trivial⟩⟩

end Go.Proofs.Ytcplkefmilpmpaa
