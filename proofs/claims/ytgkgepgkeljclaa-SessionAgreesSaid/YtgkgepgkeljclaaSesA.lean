/-
  The session: what its functions compute.
-/
import Derived.Test.YtgkgepgkeljclaaRows
import Derived.Test.YtgkgepgkeljclaaEngL
namespace Go.Proofs.Ytgkgepgkeljclaa
open Go Go.Sx

abbrev I (n : Int) : CV := .int .i64 n

noncomputable abbrev H0 : Hd := ⟨[], [], []⟩
theorem h0 : HdOk Try.prog H0 := HdOk.nil

def tim (a : Int) : Bool := le 0 a && le a 1073741824
def sit (a : Int) : Bool := le 0 a && lt a 4

def G29 : List A1 → Option AV
  | [.c (.int .i64 a)] => some (.one (.c (.bool (tim a))))
  | _ => none
def G39 : List A1 → Option AV
  | [.c (.int .i64 a)] => some (.one (.c (.bool (sit a))))
  | _ => none

set_option maxRecDepth 100000

theorem p29 : PcOne Try.prog 29 G29 := pcOne_of_ev h0 10 29 fun args r h => by
  unfold G29 at h; split at h
  · obtain rfl := Option.some.inj h
    exact ⟨rfl, by kernel_rfl, by kernel_rfl⟩
  · cases h
theorem p39 : PcOne Try.prog 39 G39 := pcOne_of_ev h0 10 39 fun args r h => by
  unfold G39 at h; split at h
  · obtain rfl := Option.some.inj h
    exact ⟨rfl, by kernel_rfl, by kernel_rfl⟩
  · cases h

noncomputable abbrev H1 : Hd := ⟨[(29, oG G29), (39, oG G39)], [], []⟩
theorem h1 : HdOk Try.prog H1 := (h0.pcCons p39).pcCons p29

theorem T1 {x y : Int} (h : x = y) : AV.one (.c (.int .i64 x)) = AV.one (.c (.int .i64 y)) := by rw [h]

/-- the error of a session -/
def chk (a b c d e f : Int) : Int :=
  bif !sit a || !sit b then 2 else bif a == b then 1 else bif !tim c || !tim d then 2 else bif lt e 0 || lt 2 e then 12 else bif !tim f || (e != 1 && f != 0) then 24 else 0

theorem nle (a b : Int) : lt a b = !le b a := by
  unfold lt le
  rw [Bool.eq_iff_iff]
  simp only [decide_eq_true_eq, Bool.not_eq_true', decide_eq_false_iff_not]
  omega

theorem bools5 (sa sb e1 tc td e2 e3 tf e4 : Bool) : (bif !sa then
        bif !sa then (2 : Int)
        else
          bif e1 then 1
          else
            bif !tc then
              bif !tc then 2
              else
                bif e2 then
                  bif e2 then 12
                  else
                    bif !tf then bif !tf then 24 else 0
                    else bif e4 then 24 else 0
                else
                  bif e3 then 12
                  else
                    bif !tf then bif !tf then 24 else 0
                    else bif e4 then 24 else 0
            else
              bif !td then 2
              else
                bif e2 then
                  bif e2 then 12
                  else
                    bif !tf then bif !tf then 24 else 0
                    else bif e4 then 24 else 0
                else
                  bif e3 then 12
                  else
                    bif !tf then bif !tf then 24 else 0
                    else bif e4 then 24 else 0
      else
        bif !sb then 2
        else
          bif e1 then 1
          else
            bif !tc then
              bif !tc then 2
              else
                bif e2 then
                  bif e2 then 12
                  else
                    bif !tf then bif !tf then 24 else 0
                    else bif e4 then 24 else 0
                else
                  bif e3 then 12
                  else
                    bif !tf then bif !tf then 24 else 0
                    else bif e4 then 24 else 0
            else
              bif !td then 2
              else
                bif e2 then
                  bif e2 then 12
                  else
                    bif !tf then bif !tf then 24 else 0
                    else bif e4 then 24 else 0
                else
                  bif e3 then 12
                  else
                    bif !tf then bif !tf then 24 else 0
                    else bif e4 then 24 else 0) = bif !sa || !sb then 2 else bif e1 then 1 else bif !tc || !td then 2 else bif e2 || e3 then 12 else bif !tf || e4 then 24 else 0 := by
  revert sa sb e1 tc td e2 e3 tf e4
  decide

def Gchk : List A1 → Option AV
  | [.agg [.int .i64 a, .int .i64 b, .int .i64 c, .int .i64 d, .int .i64 e, .int .i64 f]] => some (.one (.c (.int .i64 (chk a b c d e f))))
  | _ => none

theorem p16 : PcOne Try.prog 16 Gchk := pcOne_of_ev h1 10 16 fun args r h => by
  unfold Gchk at h; split at h
  · rename_i a b c d e f
    obtain rfl := Option.some.inj h
    exact ⟨rfl, by kernel_rfl, Eq.trans (by kernel_rfl) (T1 (bools5 (sit a) (sit b) (a == b) (tim c) (tim d) (lt e 0) (lt 2 e) (tim f) (e != 1 && f != 0)))⟩
  · cases h

theorem refChk (a b c d e f : Int) : (bif lt a 0 || le 4 a || lt b 0 || le 4 b then (2 : Int)
      else
        bif a == b then 1
        else
          bif lt c 0 || lt 1073741824 c || lt d 0 || lt 1073741824 d then 2
          else bif lt e 0 || lt 2 e then 12 else bif lt f 0 || lt 1073741824 f || e != 1 && f != 0 then 24 else 0) = chk a b c d e f := by
  have h4 : ∀ x, le 4 x = !lt x 4 := fun x => by rw [nle]; simp
  unfold chk sit tim
  rw [nle a 0, nle b 0, nle c 0, nle d 0, nle f 0, nle 1073741824 c, nle 1073741824 d, nle 1073741824 f, h4, h4]
  generalize le 0 a = p1
  generalize le 0 b = p2
  generalize le 0 c = p3
  generalize le 0 d = p4
  generalize le 0 f = p5
  generalize lt a 4 = p6
  generalize lt b 4 = p7
  generalize le c 1073741824 = p8
  generalize le d 1073741824 = p9
  generalize le f 1073741824 = p10
  cases p1 <;> cases p6 <;> cases p2 <;> cases p7 <;> cases p3 <;> cases p8 <;> cases p4 <;> cases p9 <;> cases p5 <;> cases p10 <;> rfl

theorem p17 : PcOne Try.prog 17 Gchk := pcOne_of_ev h1 10 17 fun args r h => by
  unfold Gchk at h; split at h
  · rename_i a b c d e f
    obtain rfl := Option.some.inj h
    exact ⟨rfl, by kernel_rfl, Eq.trans (by kernel_rfl) (T1 (refChk a b c d e f))⟩
  · cases h

noncomputable abbrev H2 : Hd := ⟨[(16, oG Gchk), (17, oG Gchk), (29, oG G29), (39, oG G39)], [], []⟩
theorem h2 : HdOk Try.prog H2 := (h1.pcCons p17).pcCons p16

/-- a new session -/
def Gnew : List A1 → Option AV
  | [.c (.int .i64 a), .c (.int .i64 b), .c (.int .i64 c), .c (.int .i64 d)] =>
    let e := chk a b c d 0 0 != 0
    some (.tup [.agg [I (bif e then 0 else a), I (bif e then 0 else b), I (bif e then 0 else c), I (bif e then 0 else d), I (bif e then 0 else 0), I (bif e then 0 else 0)], .c (I (bif e then chk a b c d 0 0 else 0))])
  | _ => none

theorem p14 : PcOne Try.prog 14 Gnew := pcOne_of_ev h2 10 14 fun args r h => by
  unfold Gnew at h; split at h
  · obtain rfl := Option.some.inj h
    exact ⟨rfl, by kernel_rfl, by kernel_rfl⟩
  · cases h
theorem p15 : PcOne Try.prog 15 Gnew := pcOne_of_ev h2 10 15 fun args r h => by
  unfold Gnew at h; split at h
  · obtain rfl := Option.some.inj h
    exact ⟨rfl, by kernel_rfl, by kernel_rfl⟩
  · cases h

/-- what a number and an epoch are to a session -/
def acc (a b c d e f n m : Int) : Int :=
  bif chk a b c d e f != 0 then chk a b c d e f else bif e != 2 then 12 else bif lt m c || lt n d then 13 else bif lt c m || lt d n then 1 else 0

def Gacc : List A1 → Option AV
  | [.agg [.int .i64 a, .int .i64 b, .int .i64 c, .int .i64 d, .int .i64 e, .int .i64 f], .c (.int .i64 n), .c (.int .i64 m)] => some (.one (.c (.int .i64 (acc a b c d e f n m))))
  | _ => none

theorem acc_eq (k : Int) (p q x1 x2 x3 x4 : Bool) : (bif p then k
      else
        bif q then 12
        else
          bif x1 then bif x1 then 13 else bif x2 then bif x2 then 1 else 0 else bif x3 then 1 else 0
          else bif x4 then 13 else bif x2 then bif x2 then 1 else 0 else bif x3 then 1 else 0) = bif p then k else bif q then 12 else bif x1 || x4 then 13 else bif x2 || x3 then 1 else 0 := by
  cases p <;> cases q <;> cases x1 <;> cases x2 <;> cases x3 <;> cases x4 <;> rfl

theorem p18 : PcOne Try.prog 18 Gacc := pcOne_of_ev h2 10 18 fun args r h => by
  unfold Gacc at h; split at h
  · rename_i a b c d e f n m
    obtain rfl := Option.some.inj h
    exact ⟨rfl, by kernel_rfl, Eq.trans (by kernel_rfl) (T1 (acc_eq (chk a b c d e f) (chk a b c d e f != 0) (e != 2) (lt m c) (lt c m) (lt d n) (lt n d)))⟩
  · cases h
theorem p19 : PcOne Try.prog 19 Gacc := pcOne_of_ev h2 10 19 fun args r h => by
  unfold Gacc at h; split at h
  · obtain rfl := Option.some.inj h
    exact ⟨rfl, by kernel_rfl, by kernel_rfl⟩
  · cases h

/-- is there a deadline? -/
def dln (n m : Int) : Bool := tim n && tim m && tim (IntKind.i64.wrap (n + m))

def G40 : List A1 → Option AV
  | [.c (.int .i64 n), .c (.int .i64 m)] => some (.tup [.c (I (IntKind.i64.wrap (n + m))), .c (.bool (dln n m))])
  | _ => none
theorem p40 : PcOne Try.prog 40 G40 := pcOne_of_ev h2 10 40 fun args r h => by
  unfold G40 at h; split at h
  · obtain rfl := Option.some.inj h
    exact ⟨rfl, by kernel_rfl, by kernel_rfl⟩
  · cases h

theorem tim_iff {a : Int} : tim a = true ↔ 0 ≤ a ∧ a ≤ 1073741824 := by
  simp [tim, le]
theorem sit_iff {a : Int} : sit a = true ↔ 0 ≤ a ∧ a < 4 := by
  simp [sit, le, lt]

theorem w64_id {x : Int} (h1 : -9223372036854775808 ≤ x) (h2 : x < 9223372036854775808) : IntKind.i64.wrap x = x := by
  unfold IntKind.wrap IntKind.bits IntKind.signed
  simp only [Bool.true_and]
  split <;> rename_i h <;> simp at h <;> omega

theorem late_eq (n m : Int) : (lt n 0 || lt 1073741824 n || lt m 0 || lt 1073741824 m || lt 1073741824 (IntKind.i64.wrap (n + m))) = !dln n m := by
  unfold dln
  rw [Bool.eq_iff_iff]
  simp only [Bool.or_eq_true, lt_iff, Bool.not_eq_true', ← Bool.not_eq_true, Bool.and_eq_true, tim_iff]
  by_cases h : 0 ≤ n ∧ n ≤ 1073741824 ∧ 0 ≤ m ∧ m ≤ 1073741824
  · rw [w64_id (by omega) (by omega)]; omega
  · omega

theorem TB {x y : Bool} (h : x = y) : AV.one (.c (.bool x)) = AV.one (.c (.bool y)) := by rw [h]

def G41 : List A1 → Option AV
  | [.c (.int .i64 n), .c (.int .i64 m)] => some (.one (.c (.bool (!dln n m))))
  | _ => none
theorem p41 : PcOne Try.prog 41 G41 := pcOne_of_ev h2 10 41 fun args r h => by
  unfold G41 at h; split at h
  · rename_i n m
    obtain rfl := Option.some.inj h
    exact ⟨rfl, by kernel_rfl, Eq.trans (by kernel_rfl) (TB (late_eq n m))⟩
  · cases h

def G37 : List A1 → Option AV
  | [.agg [.int .i64 a, .int .i64 b, .int .i64 c, .int .i64 d, .int .i64 _, .int .i64 _], .c (.int .i64 n)] => some (.one (.agg [I a, I b, I c, I d, I n, I 0]))
  | _ => none
theorem p37 : PcOne Try.prog 37 G37 := pcOne_of_ev h2 10 37 fun args r h => by
  unfold G37 at h; split at h
  · obtain rfl := Option.some.inj h
    exact ⟨rfl, by kernel_rfl, by kernel_rfl⟩
  · cases h

/-- a message's cells -/
abbrev msgSh : List Sh := [.int .i64, .int .i64, .int .i64, .int .i64, .int .i64, .int .i64, .sl [.int .i64], .sl [.int .u8]]

/-- the message of a session -/
def msg (kind a b c d : Int) : List CV := [I kind, I a, I b, I d, I 0, I c, .nils, .nils]
def msgV (kind a b c d : Int) : Val := Val.ofFlat 8 (msg kind a b c d)

def G36 : List A1 → Option AV
  | [.agg [.int .i64 a, .int .i64 b, .int .i64 c, .int .i64 d, .int .i64 _, .int .i64 _], .c (.int .i64 k)] => some (.one (.c (.sl msgSh 1 (msgV k a b c d))))
  | _ => none

noncomputable abbrev H3 : Hd := ⟨[(14, oG Gnew), (15, oG Gnew), (18, oG Gacc), (19, oG Gacc), (40, oG G40), (41, oG G41), (37, oG G37), (16, oG Gchk), (17, oG Gchk), (29, oG G29), (39, oG G39)], [], []⟩
theorem h3 : HdOk Try.prog H3 := ((((((h2.pcCons p37).pcCons p41).pcCons p40).pcCons p19).pcCons p18).pcCons p15).pcCons p14

theorem q36 : HcOne Try.prog 36 G36 := hcOne_of_ev h3 10 36 fun args r h => by
  unfold G36 at h; split at h
  · obtain rfl := Option.some.inj h
    exact ⟨by kernel_rfl, by kernel_rfl⟩
  · cases h

noncomputable abbrev H4 : Hd := ⟨H3.pc, [(36, oG G36)], []⟩
theorem h4 : HdOk Try.prog H4 := h3.hcCons q36

end Go.Proofs.Ytgkgepgkeljclaa
