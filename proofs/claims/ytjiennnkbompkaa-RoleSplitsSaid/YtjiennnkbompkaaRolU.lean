/-
  The roles of sites: the law of Synced and Apply.
-/
import Derived.Test.YtjiennnkbompkaaRolT
namespace Go.Proofs.Ytjiennnkbompkaa
open Go Go.Sx Go.RowKit Classical

set_option maxRecDepth 100000

theorem clip_LEq {nu : Int} {l : Ln} (hc : corr l = true) (hf : fewN l.n) : LEq ⟨cutN nu l, clipV nu l.ρ⟩ (bif lt 0 (toInt64 (cutN nu l)) then minL nu ⟨cutN nu l, l.ρ⟩ else ⟨cutN nu l, l.ρ⟩) := by
  have hle := cutN_le nu l
  cases h0 : lt 0 (toInt64 (cutN nu l))
  · refine ⟨rfl, fun i hi => ?_⟩
    have hi : i < cutN nu l := hi
    have : lt 0 (toInt64 (cutN nu l)) = true := pos_iff.2 (by omega)
    rw [h0] at this; cases this
  · have hp := pos_iff.1 h0
    refine ⟨rfl, fun i hi => ?_⟩
    have hi : i < cutN nu l := hi
    show spn (clipV nu l.ρ) i = spn (l.ρ.upds (lastI (cutN nu l)) 2 [I (imin (spn l.ρ (lastI (cutN nu l))).t nu)]) i
    rw [spn_clip, spn_upds, lastI_eq (by unfold fewN at hf ⊢; omega) hp]
    by_cases h : i = cutN nu l - 1
    · rw [if_pos h, ← h]
    · rw [if_neg h]
      have hb := beh_lt (nu := nu) (l := l) (i := i + 1) (by omega)
      unfold beh at hb
      rw [← Bool.not_eq_true, lt_iff] at hb
      have h3 := sp_lt hc (i := i) (j := i + 1) (by omega) (by omega)
      have : imin (spn l.ρ i).t nu = (spn l.ρ i).t := by
        unfold imin
        have : lt nu (spn l.ρ i).t = false := by rw [← Bool.not_eq_true, lt_iff]; omega
        rw [this]; rfl
      rw [this]

theorem u19 : UcOne Try.prog 19 (nG Gsyn) := ucOne_of_tree h18 12 19 fun args r h => by
  unfold Gsyn at h; split at h
  · rename_i a ro e p n ρ s l c nu
    obtain ⟨hp, rfl⟩ := Prod.mk.inj (Option.some.inj h)
    have hp := dec_iff.1 hp
    let x : Sit := ⟨a, ro, e, p, n, ρ, s, l, c⟩
    have hf : fewN n := dec_iff.1 (small_few hp)
    have hx : small x.n := hp
    have e2 : (le 1 nu && le nu 1073741824) = !(lt nu 1 || lt 1073741824 nu) := by rw [le_not, le_not]; simp
    have ht := refT_all (x := syn x nu) (e := chkS x) (l := [(ro == 4, 18), (le 1 nu && le nu 1073741824, 2)])
      (t := .need (Nat.ble (n * Try.prog.types[61].bytes) 140737488355328) (.need (dec (small n ∧ corr ⟨n, ρ⟩ = true)) (.need (dec (small (cutN nu ⟨n, ρ⟩))) (.leaf (Sok (setS x nu (tailL x nu ⟨cutN nu ⟨n, ρ⟩, clipV nu ρ⟩)))))))
      (by simp) fun h0 => ?_
    · refine ⟨.need (dec (fewN n)) _, ?_, small_few hp, ht⟩
      rw [e2]
      simp only [refT, goT, Bool.not_not]
      show _ = _
      kernel_rfl
    · obtain ⟨hc0, _⟩ := le_chain0 (by simp) h0
      have hz := chk_zero hc0
      have hle := cutN_le nu ⟨n, ρ⟩
      have hle : cutN nu ⟨n, ρ⟩ ≤ n := hle
      have hsm : small (cutN nu ⟨n, ρ⟩) := by unfold small at hp ⊢; omega
      refine ⟨small_ble' hp, dec_iff.2 ⟨hp, hz.1⟩, dec_iff.2 hsm, ?_⟩
      exact le_LEq ((clip_LEq (nu := nu) (l := ⟨n, ρ⟩) hz.1 hf).tail (dec_iff.1 (small_few hsm)) x nu)
  · cases h

noncomputable abbrev H19 : Hd := ⟨H18.pc, (19, nG Gsyn) :: H18.hc, [], H18.mc⟩
theorem h19 : HdOk Try.prog H19 := h18.ucCons u19

theorem cutN_small {nu : Int} {x : Sit} : (syn x nu).n ≤ x.n + 1 := by
  have hle := cutN_le nu x.ln
  have hle : cutN nu x.ln ≤ x.n := hle
  have e1 : ∀ l : Ln, (extL l x.e (hd l).t nu).n ≤ l.n + 1 := fun l => by
    unfold extL
    cases (lt 0 (toInt64 l.n) && (spn l.ρ (lastI l.n)).e == x.e)
    · exact Nat.le_refl _
    · exact Nat.le_succ _
  have e2 : ∀ l : Ln, (tailL x nu l).n ≤ l.n + 1 := fun l => by
    unfold tailL
    cases lt (hd l).t nu
    · exact Nat.le_succ _
    · exact e1 l
  show (resL x nu ⟨cutN nu x.ln, x.ρ⟩).n ≤ _
  unfold resL
  cases lt 0 (toInt64 (Ln.n ⟨cutN nu x.ln, x.ρ⟩))
  · exact Nat.le_trans (e2 _) (by show cutN nu x.ln + 1 ≤ _; omega)
  · exact Nat.le_trans (e2 _) (by show cutN nu x.ln + 1 ≤ _; omega)

theorem app_small (x : Sit) (ep nu : Int) : (app x ep nu).n ≤ x.n + 1 := by
  show (extL x.ln ep x.p nu).n ≤ _
  unfold extL
  cases (lt 0 (toInt64 x.ln.n) && (spn x.ln.ρ (lastI x.ln.n)).e == ep)
  · exact Nat.le_refl _
  · exact Nat.le_succ _

/-- two pairs of results that are the same, lineages that may have one span more -/
theorem all_pairs' {n : Nat} {k1 k2 : Int} {x1 x2 : Sit} (h1 : x1.n ≤ n + 1) (h2 : x2.n ≤ n + 1) :
    (Tree.br (!(le (toInt64 n) 20)) (.leaf tT) (.need (dec (small n)) (.need (dec (small n)) (.need (dec (small n)) (.need (dec (small n)) (.need (dec (fewN (bif k1 == 0 then x1.n else 0)))
      (.need (!((v1 (sameO k1 x1) k1 == true) && true) || dec (fewN (bif k2 == 0 then x2.n else 0)))
        (.leaf (.one (.c (.bool (bif v1 (bif v1 (sameO k1 x1) k1 then sameO k2 x2 else false) k2 then true else false)))))))))))).All (fun z => z = .one (.c (.bool true))) := by
  refine ⟨fun _ => rfl, fun h => ?_⟩
  have hs := small20 h
  have hd := dec_iff.2 hs
  have hn : n ≤ 20 := by
    have : le (toInt64 n) 20 = true := by simpa using h
    have := (le_iff _ _).1 this
    have : (n : Int) ≤ 20 := this
    omega
  refine ⟨hd, hd, hd, hd, few_okOr (by unfold small; omega), by rw [few_okOr (by unfold small; omega), Bool.or_true], ?_⟩
  simp [sameO_t, v1, Tree.All]

theorem law4 (x : Sit) (ep nu : Int) {F : Nat → Prop} {W : World} {vs : List Value} (h : All2 (A1.Rel F W []) [x.cv, .c (I ep), .c (I nu)] vs) :
    Calls Try.prog 4 vs.toArray W (fun e W' => e = .returned (.bool true) ∧ Below W.heap.size W W') := by
  by_cases hs : small x.n
  · exact law_of_tree h19 12 4 (by kernel_rfl) (all_pairs' (n := x.n) (k1 := synE x nu) (k2 := appE x ep nu) (x1 := syn x nu) (x2 := app x ep nu) cutN_small (app_small x ep nu)) h
  · refine law_of_tree h19 12 4 (u := .br (!(le (toInt64 x.n) 20)) (.leaf tT) (.need (dec (small x.n)) (.need (dec (small x.n)) (.need (dec (small x.n)) (.need (dec (small x.n)) (.need (dec (fewN (bif synE x nu == 0 then (syn x nu).n else 0)))
      (.need (!((v1 (sameO (synE x nu) (syn x nu)) (synE x nu) == true) && true) || dec (fewN (bif appE x ep nu == 0 then (app x ep nu).n else 0)))
        (.leaf (.one (.c (.bool (bif v1 (bif v1 (sameO (synE x nu) (syn x nu)) (synE x nu) then sameO (appE x ep nu) (app x ep nu) else false) (appE x ep nu) then true else false))))))))))))  (by kernel_rfl) ⟨fun _ => rfl, fun h' => (hs (small20 h')).elim⟩ h

end Go.Proofs.Ytjiennnkbompkaa
