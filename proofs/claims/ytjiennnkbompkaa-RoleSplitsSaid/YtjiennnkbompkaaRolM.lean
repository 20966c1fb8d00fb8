/-
  The roles of sites: the laws of Promote, Demote, Isolate, Rejoin.
-/
import Derived.Test.YtjiennnkbompkaaRolL
namespace Go.Proofs.Ytjiennnkbompkaa
open Go Go.Sx Go.RowKit Classical

set_option maxRecDepth 100000

/-- are the results the same? -/
def sameO (k : Int) (x : Sit) : Bool :=
  ((((((((bif k == 0 then x.a else 0) == (bif k == 0 then x.a else 0) && (bif k == 0 then x.r else 0) == (bif k == 0 then x.r else 0)) && (bif k == 0 then x.e else 0) == (bif k == 0 then x.e else 0)) && (bif k == 0 then x.p else 0) == (bif k == 0 then x.p else 0))
    && eqL ⟨⟨bif k == 0 then x.n else 0, x.ρ⟩, ⟨bif k == 0 then x.n else 0, x.ρ⟩⟩) && (bif k == 0 then x.s else 0) == (bif k == 0 then x.s else 0)) && (k == 0 && x.l) == (k == 0 && x.l)) && (k == 0 && x.c) == (k == 0 && x.c))

theorem sameO_t (k : Int) (x : Sit) : sameO k x = true := by
  unfold sameO
  simp [eqL_self]

theorem small20 {n : Nat} (h : (!(le (toInt64 n) 20)) = false) : small n := by
  have : le (toInt64 n) 20 = true := by simpa using h
  have := (le_iff _ _).1 this
  unfold toInt64 at this
  unfold small
  have : (n : Int) ≤ 20 := this
  omega

theorem few_okOr {k : Int} {n : Nat} (h : small n) : dec (fewN (bif k == 0 then n else 0)) = true := by
  cases k == 0
  · exact small_few (by unfold small; simp)
  · exact small_few h

abbrev tT : AV := .one (.c (.bool true))

def v1 (s1 : Bool) (k : Int) : Bool := bif s1 then k == k else false

/-- two pairs of results that are the same -/
theorem all_pairs {n : Nat} {k1 k2 : Int} {x1 x2 : Sit} (h1 : x1.n = n) (h2 : x2.n = n) :
    (Tree.br (!(le (toInt64 n) 20)) (.leaf tT) (.need (dec (small n)) (.need (dec (small n)) (.need (dec (small n)) (.need (dec (small n)) (.need (dec (fewN (bif k1 == 0 then x1.n else 0)))
      (.need (!((v1 (sameO k1 x1) k1 == true) && true) || dec (fewN (bif k2 == 0 then x2.n else 0)))
        (.leaf (.one (.c (.bool (bif v1 (bif v1 (sameO k1 x1) k1 then sameO k2 x2 else false) k2 then true else false)))))))))))).All (fun z => z = .one (.c (.bool true))) := by
  refine ⟨fun _ => rfl, fun h => ?_⟩
  have hs := small20 h
  have hd := dec_iff.2 hs
  refine ⟨hd, hd, hd, hd, by rw [h1]; exact few_okOr hs, by rw [h2, few_okOr hs, Bool.or_true], ?_⟩
  simp [sameO_t, v1, Tree.All]

theorem law3 (x : Sit) (y src : Int) {F : Nat → Prop} {W : World} {vs : List Value} (h : All2 (A1.Rel F W []) [x.cv, .c (I y), .c (I src)] vs) :
    Calls Try.prog 3 vs.toArray W (fun e W' => e = .returned (.bool true) ∧ Below W.heap.size W W') :=
  law_of_tree h14 12 3 (by kernel_rfl) (all_pairs (n := x.n) (k1 := proE x y) (k2 := demoE x y src) (x1 := pro x y) (x2 := demo x y src) rfl rfl) h

theorem law6 (x : Sit) (y src : Int) {F : Nat → Prop} {W : World} {vs : List Value} (h : All2 (A1.Rel F W []) [x.cv, .c (I y), .c (I src)] vs) :
    Calls Try.prog 6 vs.toArray W (fun e W' => e = .returned (.bool true) ∧ Below W.heap.size W W') :=
  law_of_tree h14 12 6 (by kernel_rfl) (all_pairs (n := x.n) (k1 := isoE x) (k2 := rejE x y src) (x1 := iso x) (x2 := rej x y src) rfl rfl) h

/-- the argument of the laws -/
def argS (ρ : Val) : Sit := ⟨(ρ.at 0).N [], (ρ.at 1).N [], (ρ.at 2).N [], (ρ.at 3).N [], (ρ.at 4).L [], ρ.at 4, (ρ.at 5).N [], (ρ.at 6).B [], (ρ.at 7).B []⟩
theorem argS_eq (ρ : Val) : argOf Try.prog 24 [.int .i64, .int .i64, .int .i64, .int .i64, .sl [.int .i64, .int .i64, .int .i64], .int .i64, .bool, .bool] ρ = (argS ρ).cv := by kernel_rfl
theorem argI_eq (ρ : Val) : argOf Try.prog 3 [.int .i64] ρ = .c (I ((ρ.at 0).N [])) := by kernel_rfl

end Go.Proofs.Ytjiennnkbompkaa
