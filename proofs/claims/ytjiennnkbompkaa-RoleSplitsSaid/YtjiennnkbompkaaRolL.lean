/-
  The roles of sites: Promote, Demote, Isolate, Rejoin: the program and the reference alike.
-/
import Derived.Test.YtjiennnkbompkaaRolK
namespace Go.Proofs.Ytjiennnkbompkaa
open Go Go.Sx Classical

set_option maxRecDepth 100000

/-- a site -/
structure Sit where
  a : Int
  r : Int
  e : Int
  p : Int
  n : Nat
  ρ : Val
  s : Int
  l : Bool
  c : Bool

def Sit.cv (x : Sit) : A1 := .agg [I x.a, I x.r, I x.e, I x.p, .sl spSh x.n x.ρ, I x.s, .bool x.l, .bool x.c]
def chkS (x : Sit) : Int := chk x.a x.r x.e x.p ⟨x.n, x.ρ⟩ x.s

/-- an error -/
def Zr (k : Int) : AV := .tup [.agg [I 0, I 0, I 0, I 0, .nils, I 0, .bool false, .bool false], .c (I k)]
/-- a site -/
def Sok (x : Sit) : AV := .tup [x.cv, .c (I 0)]

/-- a site, or an error -/
def okOr (k : Int) (x : Sit) : AV := .tup [.agg [I (bif k == 0 then x.a else 0), I (bif k == 0 then x.r else 0), I (bif k == 0 then x.e else 0), I (bif k == 0 then x.p else 0), .sl spSh (bif k == 0 then x.n else 0) x.ρ, I (bif k == 0 then x.s else 0), .bool (k == 0 && x.l), .bool (k == 0 && x.c)], .c (I k)]

theorem leC_nils {es : List Sh} {ρ : Val} : leC .nils (.sl es 0 ρ) := fun _ _ _ h => by cases h; exact .slnil

theorem le_Zr {k j : Int} {x : Sit} (hj : j = k) (hk : (j == 0) = false) : leA (Zr j) (okOr k x) := by
  subst hj
  unfold Zr okOr
  rw [hk]
  refine leA_tup (.cons (.agg ?_) (.cons le1.refl .nil))
  exact .cons leC.refl (.cons leC.refl (.cons leC.refl (.cons leC.refl (.cons leC_nils (.cons leC.refl (.cons leC.refl (.cons leC.refl .nil)))))))

theorem le_Sok {k : Int} {x y : Sit} (hk : (k == 0) = true) (hy : y = x) : leA (Sok y) (okOr k x) := by
  have hk0 : k = 0 := by simpa using hk
  subst hk0; subst hy
  exact leA.refl

/-- few spans -/
def small (n : Nat) : Prop := n ≤ 100000
theorem small_few {n : Nat} (h : small n) : dec (fewN n) = true := dec_iff.2 (by unfold small at h; unfold fewN; omega)
theorem small_ble {n : Nat} (h : small n) : Nat.ble ((0 + n) * 24) 140737488355328 = true := Nat.ble_eq_true_of_le (by unfold small at h; omega)
theorem small_ble' {n : Nat} (h : small n) : Nat.ble (n * Try.prog.types[61].bytes) 140737488355328 = true := by
  have e : Try.prog.types[61].bytes = 24 := by kernel_rfl
  rw [e]
  exact Nat.ble_eq_true_of_le (by unfold small at h; omega)

theorem dmd_t (x e : Int) : dmd true x e = e := rfl
theorem dmd_f (x : Int) : dmd false x 0 = x := rfl
theorem dmd_e {b : Bool} {x e : Int} (h : (e == 0) = false) : dmd b x e = e := by unfold dmd; rw [h]; cases b <;> rfl

/-- a tree of the program's: an error, or a site -/
theorem all_prog {n : Nat} {k : Int} {x y : Sit} (hs : small n) (hy : y = x) : (Tree.need (Nat.ble ((0 + n) * 24) 140737488355328) (.need (dec (fewN n)) (.br (k != 0) (.leaf (Zr k)) (.leaf (Sok y))))).All (fun z => leA z (okOr k x)) := by
  refine ⟨small_ble hs, small_few hs, fun h => le_Zr rfl (by simpa [bne] using h), fun h => le_Sok (by simpa [bne] using h) hy⟩

def MT : Int := 1073741824

/-- what is demanded, one thing behind the other -/
def chain (e : Int) : List (Bool × Int) → Int
  | [] => e
  | (ok, k) :: r => chain (dmd ok k e) r
/-! ### Promote -/

def pro (x : Sit) (y : Int) : Sit := { x with r := 1, e := y, s := -1 }
def proE (x : Sit) (y : Int) : Int := chain (chkS x) [(x.l, 12), ((x.r == 0 && toInt64 x.n == 0) || x.r == 2 || x.r == 3, 18), (lt x.e y, 13), (le y 1073741824, 2)]

noncomputable def Gpro : List A1 → Option (Bool × AV)
  | [.agg [.int .i64 a, .int .i64 r, .int .i64 e, .int .i64 p, .sl [.int .i64, .int .i64, .int .i64] n ρ, .int .i64 s, .bool l, .bool c], .c (.int .i64 y)] => some (dec (small n), okOr (proE ⟨a, r, e, p, n, ρ, s, l, c⟩ y) (pro ⟨a, r, e, p, n, ρ, s, l, c⟩ y))
  | _ => none

theorem u13 : UcOne Try.prog 13 (nG Gpro) := ucOne_of_tree h13 12 13 fun args r h => by
  unfold Gpro at h; split at h
  · rename_i a r e p n ρ s l c y
    obtain ⟨hp, rfl⟩ := Prod.mk.inj (Option.some.inj h)
    exact ⟨_, by kernel_rfl, all_prog (dec_iff.1 hp) rfl⟩
  · cases h

def goT : List (Bool × Int) → Tree AV → Tree AV
  | [], t => t
  | (ok, k) :: r, t => .br (!ok) (.leaf (Zr k)) (goT r t)
def refT (e : Int) (l : List (Bool × Int)) (t : Tree AV) : Tree AV := .br (e != 0) (.leaf (Zr e)) (goT l t)

theorem chain_e {e : Int} (he : (e == 0) = false) : ∀ l, chain e l = e
  | [] => rfl
  | (ok, k) :: r => by simp only [chain, dmd_e he]; exact chain_e he r

theorem goT_all {x : Sit} {t : Tree AV} : ∀ {l : List (Bool × Int)}, (∀ q ∈ l, (q.2 == 0) = false) → (chain 0 l = 0 → t.All (fun z => leA z (okOr 0 x))) → (goT l t).All (fun z => leA z (okOr (chain 0 l) x))
  | [], _, ht => ht rfl
  | (ok, k) :: r, hk, ht => by
    have hk0 : (k == 0) = false := hk (ok, k) (by simp)
    refine ⟨fun h => ?_, fun h => ?_⟩
    · have h : ok = false := by simpa using h
      subst h
      refine le_Zr ?_ hk0
      show k = chain k r
      rw [chain_e hk0]
    · have h : ok = true := by simpa using h
      subst h
      exact goT_all (l := r) (fun q hq => hk q (by simp [hq])) ht

theorem refT_all {x : Sit} {t : Tree AV} {e : Int} {l : List (Bool × Int)} (hk : ∀ q ∈ l, (q.2 == 0) = false) (ht : chain e l = 0 → t.All (fun z => leA z (okOr 0 x))) : (refT e l t).All (fun z => leA z (okOr (chain e l) x)) := by
  refine ⟨fun h => ?_, fun h => ?_⟩
  · have h : (e == 0) = false := by simpa [bne] using h
    exact le_Zr (chain_e h l).symm h
  · have h : e = 0 := by simpa [bne] using h
    subst h
    exact goT_all hk ht

/-- a tree of the reference's -/
theorem all_ref {x y : Sit} {e : Int} {l : List (Bool × Int)} (hs : small x.n) (hk : ∀ q ∈ l, (q.2 == 0) = false) (hy : y = x) : (Tree.need (dec (fewN x.n)) (refT e l (.need (Nat.ble (x.n * Try.prog.types[61].bytes) 140737488355328) (.leaf (Sok y))))).All (fun z => leA z (okOr (chain e l) x)) :=
  ⟨small_few hs, refT_all hk fun _ => ⟨small_ble' hs, le_Sok rfl hy⟩⟩

theorem le_not (a b : Int) : le a b = !lt b a := by rw [nle]; simp
theorem lt_not (a b : Int) : lt a b = !le b a := nle a b

theorem u14 : UcOne Try.prog 14 (nG Gpro) := ucOne_of_tree h13 12 14 fun args r h => by
  unfold Gpro at h; split at h
  · rename_i a r e p n ρ s l c y
    obtain ⟨hp, rfl⟩ := Prod.mk.inj (Option.some.inj h)
    have h := all_ref (x := pro ⟨a, r, e, p, n, ρ, s, l, c⟩ y) (y := pro ⟨a, r, e, p, n, ρ, s, l, c⟩ y) (e := chkS ⟨a, r, e, p, n, ρ, s, l, c⟩) (l := [(l, 12), ((r == 0 && toInt64 n == 0) || r == 2 || r == 3, 18), (lt e y, 13), (le y 1073741824, 2)]) (dec_iff.1 hp) (by simp) rfl
    have e2 : ((r == 0 && toInt64 n == 0) || r == 2 || r == 3) = !(!(r == 0 && toInt64 n == 0) && r != 2 && r != 3) := by simp [bne]
    refine ⟨_, ?_, h⟩
    rw [e2, le_not y, lt_not e]
    simp only [refT, goT, Bool.not_not]
    kernel_rfl
  · cases h

/-! ### Demote -/

def demo (x : Sit) (y src : Int) : Sit := { x with r := bif src == -1 then 5 else 2, e := y, s := src }
def demoE (x : Sit) (y src : Int) : Int := chain (chkS x) [(x.r == 1, 18), (le x.e y, 13), (le y 1073741824, 2), (src == -1 || oth src x.a, 1)]

noncomputable def Gdem : List A1 → Option (Bool × AV)
  | [.agg [.int .i64 a, .int .i64 r, .int .i64 e, .int .i64 p, .sl [.int .i64, .int .i64, .int .i64] n ρ, .int .i64 s, .bool l, .bool c], .c (.int .i64 y), .c (.int .i64 src)] => some (dec (small n), okOr (demoE ⟨a, r, e, p, n, ρ, s, l, c⟩ y src) (demo ⟨a, r, e, p, n, ρ, s, l, c⟩ y src))
  | _ => none

/-- a way that is told twice -/
theorem all_two {Q : AV → Prop} {b : Bool} {k : Int} {x1 x2 : Sit} (h1 : k = 0 → b = true → Q (Sok x1)) (h2 : k = 0 → b = false → Q (Sok x2)) (h3 : (k == 0) = false → Q (Zr k)) :
    (Tree.br b (.br (k != 0) (.leaf (Zr k)) (.leaf (Sok x1))) (.br (k != 0) (.leaf (Zr k)) (.leaf (Sok x2)))).All Q :=
  ⟨fun hb => ⟨fun hk => h3 (by simpa [bne] using hk), fun hk => h1 (by simpa [bne] using hk) hb⟩, fun hb => ⟨fun hk => h3 (by simpa [bne] using hk), fun hk => h2 (by simpa [bne] using hk) hb⟩⟩

theorem u15 : UcOne Try.prog 15 (nG Gdem) := ucOne_of_tree h13 12 15 fun args r h => by
  unfold Gdem at h; split at h
  · rename_i a r e p n ρ s l c y src
    obtain ⟨hp, rfl⟩ := Prod.mk.inj (Option.some.inj h)
    have hp := dec_iff.1 hp
    refine ⟨.need (Nat.ble ((0 + n) * 24) 140737488355328) (.need (dec (fewN n)) (Tree.br (src == -1) (.br (demoE ⟨a, r, e, p, n, ρ, s, l, c⟩ y src != 0) (.leaf (Zr (demoE ⟨a, r, e, p, n, ρ, s, l, c⟩ y src))) (.leaf (Sok ⟨a, 5, y, p, n, ρ, src, l, c⟩))) (.br (demoE ⟨a, r, e, p, n, ρ, s, l, c⟩ y src != 0) (.leaf (Zr (demoE ⟨a, r, e, p, n, ρ, s, l, c⟩ y src))) (.leaf (Sok ⟨a, 2, y, p, n, ρ, src, l, c⟩))))), by kernel_rfl, small_ble hp, small_few hp, all_two (fun hk hb => ?_) (fun hk hb => ?_) (fun hk => le_Zr rfl hk)⟩
    · exact le_Sok (by rw [hk]; rfl) (by unfold demo; rw [hb]; rfl)
    · exact le_Sok (by rw [hk]; rfl) (by unfold demo; rw [hb]; rfl)
  · cases h

theorem ref_need {x : Sit} {b : Bool} {e : Int} {l : List (Bool × Int)} {y1 y2 : Sit} (hs : small x.n) (hk : ∀ q ∈ l, (q.2 == 0) = false) (h1 : b = true → y1 = x) (h2 : b = false → y2 = x) :
    (Tree.need (dec (fewN x.n)) (refT e l (.need (Nat.ble (x.n * Try.prog.types[61].bytes) 140737488355328) (.br b (.leaf (Sok y1)) (.leaf (Sok y2)))))).All (fun z => leA z (okOr (chain e l) x)) :=
  ⟨small_few hs, refT_all hk fun _ => ⟨small_ble' hs, fun hb => le_Sok rfl (h1 hb), fun hb => le_Sok rfl (h2 hb)⟩⟩

theorem oth_sit (m a : Int) : oth m a = !(!(le 0 m && lt m 4) || m == a) := by
  unfold oth
  have h := sit3 m
  unfold sit at h
  rw [h]
  simp [bne]

theorem u16 : UcOne Try.prog 16 (nG Gdem) := ucOne_of_tree h13 12 16 fun args r h => by
  unfold Gdem at h; split at h
  · rename_i a r e p n ρ s l c y src
    obtain ⟨hp, rfl⟩ := Prod.mk.inj (Option.some.inj h)
    have h := ref_need (x := demo ⟨a, r, e, p, n, ρ, s, l, c⟩ y src) (b := src == -1) (y1 := ⟨a, 5, y, p, n, ρ, src, l, c⟩) (y2 := ⟨a, 2, y, p, n, ρ, src, l, c⟩) (e := chkS ⟨a, r, e, p, n, ρ, s, l, c⟩) (l := [(r == 1, 18), (le e y, 13), (le y 1073741824, 2), (src == -1 || oth src a, 1)]) (dec_iff.1 hp) (by simp) (fun hb => by unfold demo; rw [hb]; rfl) (fun hb => by unfold demo; rw [hb]; rfl)
    refine ⟨_, ?_, h⟩
    have e2 : (src == -1 || oth src a) = !(src != -1 && (!(le 0 src && lt src 4) || src == a)) := by rw [oth_sit]; simp [bne]
    rw [e2, le_not y, le_not e]
    simp only [refT, goT, Bool.not_not]
    show _ = _
    kernel_rfl
  · cases h

/-! ### Isolate -/

def iso (x : Sit) : Sit := { x with r := 3, s := -1 }
def isoE (x : Sit) : Int := chain (chkS x) [(x.r == 2, 18)]

noncomputable def Giso : List A1 → Option (Bool × AV)
  | [.agg [.int .i64 a, .int .i64 r, .int .i64 e, .int .i64 p, .sl [.int .i64, .int .i64, .int .i64] n ρ, .int .i64 s, .bool l, .bool c]] => some (dec (small n), okOr (isoE ⟨a, r, e, p, n, ρ, s, l, c⟩) (iso ⟨a, r, e, p, n, ρ, s, l, c⟩))
  | _ => none

theorem u24 : UcOne Try.prog 24 (nG Giso) := ucOne_of_tree h13 12 24 fun args r h => by
  unfold Giso at h; split at h
  · rename_i a r e p n ρ s l c
    obtain ⟨hp, rfl⟩ := Prod.mk.inj (Option.some.inj h)
    exact ⟨_, by kernel_rfl, all_prog (k := isoE ⟨a, r, e, p, n, ρ, s, l, c⟩) (y := iso ⟨a, r, e, p, n, ρ, s, l, c⟩) (dec_iff.1 hp) rfl⟩
  · cases h

theorem u25 : UcOne Try.prog 25 (nG Giso) := ucOne_of_tree h13 12 25 fun args r h => by
  unfold Giso at h; split at h
  · rename_i a r e p n ρ s l c
    obtain ⟨hp, rfl⟩ := Prod.mk.inj (Option.some.inj h)
    have h := all_ref (x := iso ⟨a, r, e, p, n, ρ, s, l, c⟩) (y := iso ⟨a, r, e, p, n, ρ, s, l, c⟩) (e := chkS ⟨a, r, e, p, n, ρ, s, l, c⟩) (l := [(r == 2, 18)]) (dec_iff.1 hp) (by simp) rfl
    exact ⟨_, by kernel_rfl, h⟩
  · cases h

/-! ### Rejoin -/

def rej (x : Sit) (y src : Int) : Sit := { x with r := bif x.r == 3 && y == x.e then 2 else 4, e := y, s := src }
def rejE (x : Sit) (y src : Int) : Int := chain (chkS x) [(x.r != 1 && x.r != 2, 18), (le x.e y && y != 0, 13), (le y 1073741824, 2), (oth src x.a, 1)]

noncomputable def Grej : List A1 → Option (Bool × AV)
  | [.agg [.int .i64 a, .int .i64 r, .int .i64 e, .int .i64 p, .sl [.int .i64, .int .i64, .int .i64] n ρ, .int .i64 s, .bool l, .bool c], .c (.int .i64 y), .c (.int .i64 src)] => some (dec (small n), okOr (rejE ⟨a, r, e, p, n, ρ, s, l, c⟩ y src) (rej ⟨a, r, e, p, n, ρ, s, l, c⟩ y src))
  | _ => none

theorem u26 : UcOne Try.prog 26 (nG Grej) := ucOne_of_tree h13 12 26 fun args r h => by
  unfold Grej at h; split at h
  · rename_i a r e p n ρ s l c y src
    obtain ⟨hp, rfl⟩ := Prod.mk.inj (Option.some.inj h)
    have hp := dec_iff.1 hp
    refine ⟨.need (Nat.ble ((0 + n) * 24) 140737488355328) (.need (dec (fewN n)) (Tree.br (r == 3 && y == e) (.br (rejE ⟨a, r, e, p, n, ρ, s, l, c⟩ y src != 0) (.leaf (Zr (rejE ⟨a, r, e, p, n, ρ, s, l, c⟩ y src))) (.leaf (Sok ⟨a, 2, y, p, n, ρ, src, l, c⟩))) (.br (rejE ⟨a, r, e, p, n, ρ, s, l, c⟩ y src != 0) (.leaf (Zr (rejE ⟨a, r, e, p, n, ρ, s, l, c⟩ y src))) (.leaf (Sok ⟨a, 4, y, p, n, ρ, src, l, c⟩))))), by kernel_rfl, small_ble hp, small_few hp, all_two (fun hk hb => ?_) (fun hk hb => ?_) (fun hk => le_Zr rfl hk)⟩
    · exact le_Sok (by rw [hk]; rfl) (by unfold rej; rw [hb]; rfl)
    · exact le_Sok (by rw [hk]; rfl) (by unfold rej; rw [hb]; rfl)
  · cases h

theorem u27 : UcOne Try.prog 27 (nG Grej) := ucOne_of_tree h13 12 27 fun args r h => by
  unfold Grej at h; split at h
  · rename_i a r e p n ρ s l c y src
    obtain ⟨hp, rfl⟩ := Prod.mk.inj (Option.some.inj h)
    have h := ref_need (x := rej ⟨a, r, e, p, n, ρ, s, l, c⟩ y src) (b := r == 3 && y == e) (y1 := ⟨a, 2, y, p, n, ρ, src, l, c⟩) (y2 := ⟨a, 4, y, p, n, ρ, src, l, c⟩) (e := chkS ⟨a, r, e, p, n, ρ, s, l, c⟩) (l := [(r != 1 && r != 2, 18), (le e y && y != 0, 13), (le y 1073741824, 2), (oth src a, 1)]) (dec_iff.1 hp) (by simp) (fun hb => by unfold rej; rw [hb]; rfl) (fun hb => by unfold rej; rw [hb]; rfl)
    refine ⟨_, ?_, h⟩
    have e1 : (r != 1 && r != 2) = !(r == 1 || r == 2) := by simp [bne]
    have e2 : (le e y && y != 0) = !(lt y e || y == 0) := by rw [le_not]; simp [bne]
    rw [oth_sit, e1, e2, le_not y]
    simp only [refT, goT, Bool.not_not]
    show _ = _
    kernel_rfl
  · cases h

noncomputable abbrev H14 : Hd := ⟨H13.pc, [(13, nG Gpro), (14, nG Gpro), (15, nG Gdem), (16, nG Gdem), (24, nG Giso), (25, nG Giso), (26, nG Grej), (27, nG Grej)], [], H13.mc⟩
theorem h14 : HdOk Try.prog H14 := (((((((h13.ucCons u27).ucCons u26).ucCons u25).ucCons u24).ucCons u16).ucCons u15).ucCons u14).ucCons u13

end Go.Proofs.Ytjiennnkbompkaa
