/-
  The estimator: what each of its functions computes, out of the evaluator.
-/
import Derived.Test.YtcplkefmilpmpaaRows
import Derived.Test.YtcplkefmilpmpaaEstA
namespace Go.Proofs.Ytcplkefmilpmpaa
open Go Go.Sx

abbrev I (n : Int) : CV := .int .i64 n

theorem T4 {x1 y1 x2 y2 x3 y3 x4 y4 : Int} (h1 : x1 = y1) (h2 : x2 = y2) (h3 : x3 = y3) (h4 : x4 = y4) : AV.one (.agg [I x1, I x2, I x3, I x4]) = .one (.agg [I y1, I y2, I y3, I y4]) := by
  subst h1; subst h2; subst h3; subst h4; rfl
theorem T5 {x1 y1 x2 y2 x3 y3 x4 y4 x5 y5 : Int} (h1 : x1 = y1) (h2 : x2 = y2) (h3 : x3 = y3) (h4 : x4 = y4) (h5 : x5 = y5) :
    AV.tup [.agg [I x1, I x2, I x3, I x4], .c (I x5)] = .tup [.agg [I y1, I y2, I y3, I y4], .c (I y5)] := by
  subst h1; subst h2; subst h3; subst h4; subst h5; rfl
theorem T1 {x y : Int} (h : x = y) : AV.one (.c (I x)) = .one (.c (I y)) := by subst h; rfl

def G23 : List A1 → Option AV
  | [.c (.int .i64 a), .c (.int .i64 b)] => some (.one (.c (.bool (le 0 a && le a b))))
  | _ => none
def Gchk : List A1 → Option AV
  | [.agg [.int .i64 a, .int .i64 b, .int .i64 c, .int .i64 d]] => some (.one (.c (I (chk a b c d))))
  | _ => none
def Gsample : List A1 → Option AV
  | [.agg [.int .i64 a, .int .i64 b, .int .i64 c, .int .i64 d], .c (.int .i64 t)] =>
    some (.tup [.agg [I (bif ok a b c d t then sA a else 0), I (bif ok a b c d t then sB a b t else 0), I (bif ok a b c d t then sC a b c t else 0), I 0], .c (I (sE a b c d t))])
  | _ => none
def Gnew : List A1 → Option AV
  | [] => some (.one (.agg [I 0, I 0, I 0, I 0]))
  | _ => none
def Gmean : List A1 → Option AV
  | [.agg [.int .i64 a, .int .i64 b, .int .i64 c, .int .i64 d]] => some (.one (.c (I (mean a b c d))))
  | _ => none
def Gexp : List A1 → Option AV
  | [.agg [.int .i64 a, .int .i64 b, .int .i64 c, .int .i64 d]] => some (.one (.agg [I a, I b, I c, I (expd a b c d)]))
  | _ => none
def Gtmo : List A1 → Option AV
  | [.agg [.int .i64 a, .int .i64 b, .int .i64 c, .int .i64 d]] => some (.one (.c (I (tmo a b c d))))
  | _ => none

abbrev H0 : Hd := ⟨[], []⟩
theorem h0 : HdOk Try.prog H0 := HdOk.nil

set_option maxRecDepth 100000

theorem p23 : PcOne Try.prog 23 G23 := pcOne_of_ev h0 10 23 fun args r h => by
  unfold G23 at h; split at h <;> simp at h; subst h
  exact ⟨rfl, by kernel_rfl, by kernel_rfl⟩

theorem p14 : PcOne Try.prog 14 Gchk := pcOne_of_ev h0 10 14 fun args r h => by
  unfold Gchk at h; split at h <;> simp at h; subst h
  rename_i a b c d
  exact ⟨rfl, by kernel_rfl, Eq.trans (by kernel_rfl) (T1 (chk14 a b c d))⟩

abbrev H1 : Hd := ⟨[(23, G23), (14, Gchk)], []⟩
theorem h1 : HdOk Try.prog H1 := (h0.pcCons p14).pcCons p23

theorem p13 : PcOne Try.prog 13 Gchk := pcOne_of_ev h1 10 13 fun args r h => by
  unfold Gchk at h; split at h <;> simp at h; subst h
  rename_i a b c d
  exact ⟨rfl, by kernel_rfl, Eq.trans (by kernel_rfl) (T1 (chk13 a b c d))⟩

abbrev H2 : Hd := ⟨[(13, Gchk), (23, G23), (14, Gchk)], []⟩
theorem h2 : HdOk Try.prog H2 := h1.pcCons p13

theorem p10 : PcOne Try.prog 10 Gsample := pcOne_of_ev h2 10 10 fun args r h => by
  unfold Gsample at h; split at h <;> simp at h; subst h
  rename_i a b c d t
  exact ⟨rfl, by kernel_rfl, Eq.trans (by kernel_rfl) (T5 (s10a a b c d t) (s10b a b c d t) (s10c a b c d t) (s10d a b c d t) (s10e a b c d t))⟩

theorem p11 : PcOne Try.prog 11 Gsample := pcOne_of_ev h2 10 11 fun args r h => by
  unfold Gsample at h; split at h <;> simp at h; subst h
  rename_i a b c d t
  exact ⟨rfl, by kernel_rfl, Eq.trans (by kernel_rfl) (T5 (s11a a b c d t) (s11b a b c d t) (s11c a b c d t) (s11d a b c d t) (s11e a b c d t))⟩

theorem p15 : PcOne Try.prog 15 Gnew := pcOne_of_ev h2 10 15 fun args r h => by
  unfold Gnew at h; split at h <;> simp at h; subst h
  exact ⟨rfl, by kernel_rfl, by kernel_rfl⟩
theorem p16 : PcOne Try.prog 16 Gnew := pcOne_of_ev h2 10 16 fun args r h => by
  unfold Gnew at h; split at h <;> simp at h; subst h
  exact ⟨rfl, by kernel_rfl, by kernel_rfl⟩
theorem p19 : PcOne Try.prog 19 Gmean := pcOne_of_ev h2 10 19 fun args r h => by
  unfold Gmean at h; split at h <;> simp at h; subst h
  rename_i a b c d
  exact ⟨rfl, by kernel_rfl, Eq.trans (by kernel_rfl) (T1 (m19 a b c d))⟩
theorem p20 : PcOne Try.prog 20 Gmean := pcOne_of_ev h2 10 20 fun args r h => by
  unfold Gmean at h; split at h <;> simp at h; subst h
  rename_i a b c d
  exact ⟨rfl, by kernel_rfl, Eq.trans (by kernel_rfl) (T1 (m20 a b c d))⟩
theorem p21 : PcOne Try.prog 21 Gexp := pcOne_of_ev h2 10 21 fun args r h => by
  unfold Gexp at h; split at h <;> simp at h; subst h
  rename_i a b c d
  exact ⟨rfl, by kernel_rfl, Eq.trans (by kernel_rfl) (T4 (Bool.cond_self (chk a b c d == 0) a) (Bool.cond_self (chk a b c d == 0) b) (Bool.cond_self (chk a b c d == 0) c) (e21 a b c d))⟩
theorem p22 : PcOne Try.prog 22 Gexp := pcOne_of_ev h2 10 22 fun args r h => by
  unfold Gexp at h; split at h <;> simp at h; subst h
  rename_i a b c d
  exact ⟨rfl, by kernel_rfl, Eq.trans (by kernel_rfl) (T4 (Bool.cond_self (chk a b c d == 0) a) (Bool.cond_self (chk a b c d == 0) b) (Bool.cond_self (chk a b c d == 0) c) (e21 a b c d))⟩
theorem p17 : PcOne Try.prog 17 Gtmo := pcOne_of_ev h2 10 17 fun args r h => by
  unfold Gtmo at h; split at h <;> simp at h; subst h
  rename_i a b c d
  exact ⟨rfl, needs_of_conds (by kernel_rfl) (t17n a b c d), Eq.trans (by kernel_rfl) (T1 (t17 a b c d))⟩

end Go.Proofs.Ytcplkefmilpmpaa
