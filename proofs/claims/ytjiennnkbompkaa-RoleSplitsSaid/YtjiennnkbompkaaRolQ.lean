/-
  The roles of sites: Apply: the program and the reference alike.
-/
import Derived.Test.YtjiennnkbompkaaRolP
namespace Go.Proofs.Ytjiennnkbompkaa
open Go Go.Sx Go.RowKit Classical

set_option maxRecDepth 100000

def Sit.ln (x : Sit) : Ln := ⟨x.n, x.ρ⟩
def Sit.with (x : Sit) (l : Ln) : Sit := { x with n := l.n, ρ := l.ρ }

def app (x : Sit) (ep nu : Int) : Sit := { x.with (extL x.ln ep x.p nu) with e := ep, p := nu }
def appE (x : Sit) (ep nu : Int) : Int := chain (chkS x) [(x.r == 1 || x.r == 2, 18), ((le x.e ep && ep != 0) && (x.r != 1 || ep == x.e), 13), (le (imax ep nu) 1073741824, 2), (lt x.p nu, 8)]

noncomputable def Gapp : List A1 → Option (Bool × AV)
  | [.agg [.int .i64 a, .int .i64 r, .int .i64 e, .int .i64 p, .sl [.int .i64, .int .i64, .int .i64] n ρ, .int .i64 s, .bool l, .bool c], .c (.int .i64 ep), .c (.int .i64 nu)] => some (dec (small n), okOr (appE ⟨a, r, e, p, n, ρ, s, l, c⟩ ep nu) (app ⟨a, r, e, p, n, ρ, s, l, c⟩ ep nu))
  | _ => none

theorem small_app {n : Nat} (h : small n) : Nat.ble (((n + 1).mul 23).add n) 140737488355327 = true := Nat.ble_eq_true_of_le (by
  unfold small at h
  show (n + 1) * 23 + n ≤ _
  omega)

theorem u20 : UcOne Try.prog 20 (nG Gapp) := ucOne_of_tree h15 12 20 fun args r h => by
  unfold Gapp at h; split at h
  · rename_i a ro e p n ρ s l c ep nu
    obtain ⟨hp, rfl⟩ := Prod.mk.inj (Option.some.inj h)
    have hp := dec_iff.1 hp
    let x : Sit := ⟨a, ro, e, p, n, ρ, s, l, c⟩
    refine ⟨.need (Nat.ble ((0 + n) * 24) 140737488355328) (.need (dec (fewN n)) (.br (appE x ep nu == 0)
      (.need (!((lt 0 (toInt64 n) == true) && true) || inRange (IntKind.i64.wrap (toInt64 n - 1)) n) (.br (lt 0 (toInt64 n) && (spn ρ (lastI n)).e == ep)
        (.need (inRange (IntKind.i64.wrap (toInt64 n - 1)) n) (.br (appE x ep nu != 0) (.leaf (Zr (appE x ep nu))) (.leaf (Sok ⟨a, ro, ep, nu, n, ρ.upds (lastI n) 2 [I nu], s, l, c⟩))))
        (.need (Nat.ble (((n + 1).mul 23).add n) 140737488355327) (.br (appE x ep nu != 0) (.leaf (Zr (appE x ep nu))) (.leaf (Sok ⟨a, ro, ep, nu, n + 1, Val.cat n ρ (Val.ofFlat 3 [I ep, I (IntKind.i64.wrap (p + 1)), I nu]), s, l, c⟩))))))
      (.br (appE x ep nu != 0) (.leaf (Zr (appE x ep nu))) (.leaf (Sok x))))), by kernel_rfl, small_ble hp, small_few hp, fun h0 => ⟨?_, fun h1 => ⟨?_, fun h2 => ?_, fun h2 => ?_⟩, fun h1 => ⟨small_app hp, fun h2 => ?_, fun h2 => ?_⟩⟩, fun h0 => ⟨fun h2 => le_Zr rfl h0, fun h2 => ?_⟩⟩
    · cases hn : lt 0 (toInt64 n)
      · rfl
      · rw [lastR (dec_iff.1 (small_few hp)) (pos_iff.1 hn), Bool.or_true]
    · rw [Bool.and_eq_true] at h1
      exact lastR (dec_iff.1 (small_few hp)) (pos_iff.1 h1.1)
    · exact le_Zr rfl (by simpa [bne] using h2)
    · refine le_Sok h0 ?_
      unfold app extL Sit.with Sit.ln
      simp only [h1, cond_true]
    · exact le_Zr rfl (by simpa [bne] using h2)
    · refine le_Sok h0 ?_
      unfold app extL Sit.with Sit.ln
      simp only [h1, cond_false]
    · simp [bne, h0] at h2
  · cases h

theorem chk_zero {x : Sit} (h : chkS x = 0) : corr x.ln = true ∧ (hd x.ln).t = x.p ∧ (hd x.ln).e ≤ x.e ∧ 0 ≤ x.e ∧ x.e ≤ 1073741824 ∧ 0 ≤ x.p ∧ x.p ≤ 1073741824 ∧ sit x.a = true ∧ (0 ≤ x.r ∧ x.r ≤ 5) ∧ (x.e = 0 → x.r = 0) ∧ (rcv x.r = true → oth x.s x.a = true) ∧ (rcv x.r = false → x.s = -1) := by
  unfold chkS chk at h
  cases h1 : sit x.a
  · rw [h1] at h; simp at h
  cases h2 : (le 0 x.r && le x.r 5)
  · rw [h1, h2] at h; simp at h
  cases h3 : ((!tim x.e || !tim x.p) || (x.e == 0 && x.r != 0))
  case true => rw [h1, h2, h3] at h; simp at h
  cases h4 : corr ⟨x.n, x.ρ⟩
  · rw [h1, h2, h3, h4] at h; simp at h
  cases h5 : lt x.e (hd ⟨x.n, x.ρ⟩).e
  case true => rw [h1, h2, h3, h4, h5] at h; simp at h
  cases h6 : ((hd ⟨x.n, x.ρ⟩).t != x.p)
  case true => rw [h1, h2, h3, h4, h5, h6] at h; simp at h
  cases h7 : ((rcv x.r && !oth x.s x.a) || (!rcv x.r && x.s != -1))
  case true => rw [h1, h2, h3, h4, h5, h6, h7] at h; simp at h
  rw [Bool.or_eq_false_iff, Bool.or_eq_false_iff] at h3
  have t1 : tim x.e = true := by simpa using h3.1.1
  have t2 : tim x.p = true := by simpa using h3.1.2
  unfold tim at t1 t2
  rw [Bool.and_eq_true, le_iff, le_iff] at t1 t2
  rw [Bool.and_eq_true, le_iff, le_iff] at h2
  rw [Bool.or_eq_false_iff] at h7
  refine ⟨h4, (by simpa [bne] using h6 : (hd ⟨x.n, x.ρ⟩).t = x.p), ?_, t1.1, t1.2, t2.1, t2.2, rfl, h2, fun he => ?_, fun hr => ?_, fun hr => ?_⟩
  · rw [← Bool.not_eq_true, lt_iff] at h5
    show (hd ⟨x.n, x.ρ⟩).e ≤ _
    omega
  · have := h3.2
    rw [he] at this
    simpa [bne] using this
  · have := h7.1
    rw [hr] at this
    simpa using this
  · have := h7.2
    rw [hr] at this
    simpa [bne] using this

/-- errors in order, and what follows if there are none -/
theorem le_chain0 {e : Int} {l : List (Bool × Int)} (hk : ∀ q ∈ l, (q.2 == 0) = false) (h : chain e l = 0) : e = 0 ∧ ∀ q ∈ l, q.1 = true := by
  induction l generalizing e with
  | nil => exact ⟨h, fun q hq => by cases hq⟩
  | cons q r ih =>
    obtain ⟨ok, k⟩ := q
    have hk0 : (k == 0) = false := hk (ok, k) (by simp)
    obtain ⟨h1, h2⟩ := ih (fun q hq => hk q (by simp [hq])) h
    cases ok
    · cases he : (e == 0)
      · rw [dmd_e he] at h1
        subst h1; simp at he
      · have : e = 0 := by simpa using he
        subst this
        rw [show dmd false k 0 = k from rfl] at h1
        subst h1; simp at hk0
    · rw [dmd_t] at h1
      exact ⟨h1, fun q hq => by
        rcases List.mem_cons.1 hq with rfl | hq
        · rfl
        · exact h2 q hq⟩

theorem imax_le (a b m : Int) : le (imax a b) m = (le a m && le b m) := by
  unfold imax
  cases h : lt a b
  · rw [← Bool.not_eq_true, lt_iff] at h
    rw [Bool.eq_iff_iff, Bool.and_eq_true]
    simp only [cond_false, le_iff]
    omega
  · rw [lt_iff] at h
    rw [Bool.eq_iff_iff, Bool.and_eq_true]
    simp only [cond_true, le_iff]
    omega

theorem u21 : UcOne Try.prog 21 (nG Gapp) := ucOne_of_tree h15 12 21 fun args r h => by
  unfold Gapp at h; split at h
  · rename_i a ro e p n ρ s l c ep nu
    obtain ⟨hp, rfl⟩ := Prod.mk.inj (Option.some.inj h)
    have hp := dec_iff.1 hp
    let x : Sit := ⟨a, ro, e, p, n, ρ, s, l, c⟩
    have hf : fewN n := dec_iff.1 (small_few hp)
    have e1 : (ro == 1 || ro == 2) = !(ro != 1 && ro != 2) := by simp [bne]
    have e2 : ((le e ep && ep != 0) && (ro != 1 || ep == e)) = !((lt ep e || ep == 0) || (ro == 1 && ep != e)) := by rw [le_not e]; simp [bne]
    have e3 : le (imax ep nu) 1073741824 = !(lt 1073741824 ep || lt 1073741824 nu) := by rw [imax_le, le_not, le_not]; simp
    have ht := refT_all (x := app x ep nu) (e := chkS x) (l := [(ro == 1 || ro == 2, 18), ((le e ep && ep != 0) && (ro != 1 || ep == e), 13), (le (imax ep nu) 1073741824, 2), (lt p nu, 8)])
      (t := .need (Nat.ble (n * Try.prog.types[61].bytes) 140737488355328) (.need (Nat.ble (n * Try.prog.types[61].bytes) 140737488355328) (.need (dec (fewN n)) (.br (le nu (hd ⟨n, ρ⟩).t) (.leaf (Sok ⟨a, ro, ep, nu, n, ρ, s, l, c⟩))
        (.br (lt 0 (toInt64 n) && (hd ⟨n, ρ⟩).e == ep) (.need (inRange (IntKind.i64.wrap (toInt64 n - 1)) n) (.leaf (Sok ⟨a, ro, ep, nu, n, ρ.upds (lastI n) 2 [I nu], s, l, c⟩)))
          (.need (Nat.ble (((n + 1).mul 23).add n) 140737488355327) (.leaf (Sok ⟨a, ro, ep, nu, n + 1, Val.cat n ρ (Val.ofFlat 3 [I ep, I (IntKind.i64.wrap ((hd ⟨n, ρ⟩).t + 1)), I nu]), s, l, c⟩))))))))
      (by simp) fun h0 => ⟨small_ble' hp, small_ble' hp, small_few hp, fun h1 => ?_, fun _ => ⟨fun h2 => ⟨?_, le_Sok rfl ?_⟩, fun h2 => ⟨small_app hp, le_Sok rfl ?_⟩⟩⟩
    · refine ⟨.need (dec (fewN n)) _, ?_, small_few hp, ht⟩
      rw [e1, e2, e3, lt_not p]
      simp only [refT, goT, Bool.not_not]
      show _ = _
      kernel_rfl
    all_goals
      obtain ⟨hc0, hok⟩ := le_chain0 (by simp) h0
      have hz := chk_zero hc0
      have hlt : lt p nu = true := hok (lt p nu, 8) (by simp)
      rw [lt_iff] at hlt
      have hpt : (hd ⟨n, ρ⟩).t = p := hz.2.1
    · exfalso
      rw [le_iff, hpt] at h1
      omega
    · rw [Bool.and_eq_true] at h2
      exact lastR hf (pos_iff.1 h2.1)
    · rw [Bool.and_eq_true] at h2
      have h3 : (lt 0 (toInt64 n) && (spn ρ (lastI n)).e == ep) = true := by
        rw [Bool.and_eq_true]
        refine ⟨h2.1, ?_⟩
        rw [hd_last (l := ⟨n, ρ⟩) hf (pos_iff.1 h2.1)]
        exact h2.2
      unfold app extL Sit.with Sit.ln
      simp only [x, h3, cond_true]
    · have h3 : (lt 0 (toInt64 n) && (spn ρ (lastI n)).e == ep) = false := by
        cases h4 : lt 0 (toInt64 n)
        · rfl
        · rw [h4] at h2
          rw [hd_last (l := ⟨n, ρ⟩) hf (pos_iff.1 h4)]
          exact h2
      unfold app extL Sit.with Sit.ln
      simp only [x, h3, cond_false, hpt]
  · cases h

end Go.Proofs.Ytjiennnkbompkaa
