/-
  The roles of sites: Check, in the program and in the reference.
-/
import Derived.Test.YtjiennnkbompkaaRolE
namespace Go.Proofs.Ytjiennnkbompkaa
open Go Go.Sx Classical

set_option maxRecDepth 100000

/-- the error of a site -/
def chk (a r e p : Int) (l : Ln) (s : Int) : Int :=
  bif !sit a then 2 else bif !(le 0 r && le r 5) then 18 else bif (!tim e || !tim p) || (e == 0 && r != 0) then 2 else bif !corr l then 3 else bif lt e (hd l).e then 13 else bif (hd l).t != p then 22 else bif (rcv r && !oth s a) || (!rcv r && s != -1) then 1 else 0

theorem all_of_sel {α : Type} {r : α} : ∀ {t : Tree α}, t.sel = some r → t.All (fun z => z = r)
  | .leaf a, h => by
    simp only [Tree.sel, Option.some.injEq] at h
    exact h
  | .br c t e, h => ⟨fun hc => all_of_sel (by simpa [Tree.sel, hc] using h), fun hc => all_of_sel (by simpa [Tree.sel, hc] using h)⟩
  | .need c t, h => by
    cases c
    · simp [Tree.sel] at h
    · exact ⟨rfl, all_of_sel (by simpa [Tree.sel] using h)⟩
  | .fail, h => by simp [Tree.sel] at h

theorem tree23 (q1 q2 te tp eo co he ht ra rb pre : Bool) (hp : pre = true) : (Tree.br (!q1) (Tree.leaf (AV.one (A1.c (I 2))))
  (Tree.br (!q2) (Tree.leaf (AV.one (A1.c (I 18))))
    (Tree.br (!te)
      (Tree.br (!te) (Tree.leaf (AV.one (A1.c (I 2))))
        (Tree.need (pre)
          (Tree.br (!co) (Tree.leaf (AV.one (A1.c (I 3))))
            (Tree.need (pre)
              (Tree.br (he) (Tree.leaf (AV.one (A1.c (I 13))))
                (Tree.need (pre)
                  (Tree.br (ht) (Tree.leaf (AV.one (A1.c (I 22))))
                    (Tree.br (ra)
                      (Tree.br (ra) (Tree.leaf (AV.one (A1.c (I 1))))
                        (Tree.leaf (AV.one (A1.c (I 0)))))
                      (Tree.br (rb) (Tree.leaf (AV.one (A1.c (I 1))))
                        (Tree.leaf (AV.one (A1.c (I 0)))))))))))))
      (Tree.br (!tp)
        (Tree.br (!tp) (Tree.leaf (AV.one (A1.c (I 2))))
          (Tree.need (pre)
            (Tree.br (!co) (Tree.leaf (AV.one (A1.c (I 3))))
              (Tree.need (pre)
                (Tree.br (he) (Tree.leaf (AV.one (A1.c (I 13))))
                  (Tree.need (pre)
                    (Tree.br (ht) (Tree.leaf (AV.one (A1.c (I 22))))
                      (Tree.br (ra)
                        (Tree.br (ra) (Tree.leaf (AV.one (A1.c (I 1))))
                          (Tree.leaf (AV.one (A1.c (I 0)))))
                        (Tree.br (rb) (Tree.leaf (AV.one (A1.c (I 1))))
                          (Tree.leaf (AV.one (A1.c (I 0)))))))))))))
        (Tree.br eo (Tree.leaf (AV.one (A1.c (I 2))))
          (Tree.need (pre)
            (Tree.br (!co) (Tree.leaf (AV.one (A1.c (I 3))))
              (Tree.need (pre)
                (Tree.br (he) (Tree.leaf (AV.one (A1.c (I 13))))
                  (Tree.need (pre)
                    (Tree.br (ht) (Tree.leaf (AV.one (A1.c (I 22))))
                      (Tree.br (ra)
                        (Tree.br (ra) (Tree.leaf (AV.one (A1.c (I 1))))
                          (Tree.leaf (AV.one (A1.c (I 0)))))
                        (Tree.br (rb) (Tree.leaf (AV.one (A1.c (I 1))))
                          (Tree.leaf (AV.one (A1.c (I 0))))))))))))))))).sel = some (AV.one (.c (I (bif !q1 then 2 else bif !q2 then 18 else bif (!te || !tp) || eo then 2 else bif !co then 3 else bif he then 13 else bif ht then 22 else bif ra || rb then 1 else 0)))) := by
  subst hp
  cases q1
  · rfl
  cases q2
  · rfl
  cases te
  · rfl
  cases tp
  · rfl
  cases eo
  · cases co
    · rfl
    cases he
    · cases ht
      · cases ra <;> cases rb <;> rfl
      · rfl
    · rfl
  · rfl

theorem tree32 (q1 q2 te tp eo co he ht ra rb pre : Bool) (hp : pre = true) : (Tree.br (!q1) (Tree.leaf (AV.one (A1.c (I 2))))
  (Tree.br (!q2) (Tree.leaf (AV.one (A1.c (I 18))))
    (Tree.br (!te || !tp || eo) (Tree.leaf (AV.one (A1.c (I 2))))
      (Tree.need (pre)
        (Tree.br (!co) (Tree.leaf (AV.one (A1.c (I 3))))
          (Tree.need (pre)
            (Tree.br (he) (Tree.leaf (AV.one (A1.c (I 13))))
              (Tree.br (ht) (Tree.leaf (AV.one (A1.c (I 22))))
                (Tree.br (ra || rb)
                  (Tree.leaf (AV.one (A1.c (I 1))))
                  (Tree.leaf (AV.one (A1.c (I 0))))))))))))).sel = some (AV.one (.c (I (bif !q1 then 2 else bif !q2 then 18 else bif (!te || !tp) || eo then 2 else bif !co then 3 else bif he then 13 else bif ht then 22 else bif ra || rb then 1 else 0)))) := by
  subst hp
  cases q1
  · rfl
  cases q2
  · rfl
  cases te
  · rfl
  cases tp
  · rfl
  cases eo
  · cases co
    · rfl
    cases he
    · cases ht
      · cases ra <;> cases rb <;> rfl
      · rfl
    · rfl
  · rfl

noncomputable def Gchk : List A1 → Option (Bool × AV)
  | [.agg [.int .i64 a, .int .i64 r, .int .i64 e, .int .i64 p, .sl [.int .i64, .int .i64, .int .i64] n ρ, .int .i64 s, .bool _, .bool _]] => some (dec (fewN n), .one (.c (I (chk a r e p ⟨n, ρ⟩ s))))
  | _ => none

theorem sit3 (a : Int) : (le 0 a && le a 3) = sit a := by
  unfold sit
  rw [Bool.eq_iff_iff]
  simp only [Bool.and_eq_true, le_iff, lt_iff]
  omega

theorem nle (a b : Int) : lt a b = !le b a := by
  rw [Bool.eq_iff_iff]
  simp only [lt_iff, Bool.not_eq_true', ← Bool.not_eq_true, le_iff]
  omega

theorem p23 : TcOne Try.prog 23 (nG Gchk) := tcOne_of_tree h7 10 23 fun args r h => by
  unfold Gchk at h; split at h
  · rename_i a r e p n ρ s l c
    obtain ⟨hp, rfl⟩ := Prod.mk.inj (Option.some.inj h)
    have ht := tree23 (le 0 a && le a 3) (le 0 r && le r 5) (tim e) (tim p) (e == 0 && r != 0) (corr ⟨n, ρ⟩) (lt e (hd ⟨n, ρ⟩).e) ((hd ⟨n, ρ⟩).t != p) (rcv r && !oth s a) (!rcv r && s != -1) (dec (fewN n)) hp
    rw [sit3] at ht
    refine ⟨rfl, _, ?_, all_of_sel ht⟩
    rw [← sit3]
    kernel_rfl
  · cases h

theorem p32 : TcOne Try.prog 32 (nG Gchk) := tcOne_of_tree h7 10 32 fun args r h => by
  unfold Gchk at h; split at h
  · rename_i a r e p n ρ s l c
    obtain ⟨hp, rfl⟩ := Prod.mk.inj (Option.some.inj h)
    have ho : oth s a = (sit s && s != a) := by unfold oth; rw [sit3]
    have e1 : (le 0 r && le r 5) = !(lt r 0 || lt 5 r) := by rw [nle r 0, nle 5 r]; cases le 0 r <;> cases le r 5 <;> rfl
    have e2 : (!(sit s && s != a)) = (!sit s || s == a) := by
      rw [Bool.not_and]
      congr 1
      show (!(!(s == a))) = _
      rw [Bool.not_not]
    have ht := tree32 (sit a) (le 0 r && le r 5) (tim e) (tim p) (e == 0 && r != 0) (corr ⟨n, ρ⟩) (lt e (hd ⟨n, ρ⟩).e) ((hd ⟨n, ρ⟩).t != p) (rcv r && !oth s a) (!rcv r && s != -1) (dec (fewN n)) hp
    have hv : chk a r e p ⟨n, ρ⟩ s = _ := rfl
    refine ⟨rfl, _, ?_, all_of_sel ht⟩
    rw [e1, ho, e2, Bool.not_not]
    kernel_rfl
  · cases h

noncomputable abbrev H8 : Hd := ⟨(23, nG Gchk) :: (32, nG Gchk) :: H7.pc, [], [], H7.mc⟩
theorem h8 : HdOk Try.prog H8 := (h7.tcCons p32).tcCons p23

end Go.Proofs.Ytjiennnkbompkaa
