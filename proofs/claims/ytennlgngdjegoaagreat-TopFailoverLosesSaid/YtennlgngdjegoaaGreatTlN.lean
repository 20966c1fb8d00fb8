/-
  Part TlN of the proof: RolL RolZ RolZa RolZb RolZc RolZd RolP RolQ.
-/
import Derived.Test.YtennlgngdjegoaaGreatTlM
namespace Go.Proofs.YtennlgngdjegoaaGreat
open Go Go.Sx Classical
set_option maxRecDepth 100000
structure Sit where
  a : Int
  r : Int
  e : Int
  p : Int
  n : Nat
  ρ : Val
  s : Int
  l : Bool
  c : Bool
def Sit.cv (x : Sit) : A1 := .agg [I x.a, I x.r, I x.e, I x.p, .sl spSh x.n x.ρ, I x.s, .bool x.l, .bool x.c]
def chkS (x : Sit) : Int := chk x.a x.r x.e x.p ⟨x.n, x.ρ⟩ x.s
def Zr (k : Int) : AV := .tup [.agg [I 0, I 0, I 0, I 0, .nils, I 0, .bool false, .bool false], .c (I k)]
def Sok (x : Sit) : AV := .tup [x.cv, .c (I 0)]
def okOr (k : Int) (x : Sit) : AV := .tup [.agg [I (bif k == 0 then x.a else 0), I (bif k == 0 then x.r else 0), I (bif k == 0 then x.e else 0), I (bif k == 0 then x.p else 0), .sl spSh (bif k == 0 then x.n else 0) x.ρ, I (bif k == 0 then x.s else 0), .bool (k == 0 && x.l), .bool (k == 0 && x.c)], .c (I k)]
theorem leC_nils {es : List Sh} {ρ : Val} : leC .nils (.sl es 0 ρ) := fun _ _ _ h => by cases h; exact .slnil
theorem le_Zr {k j : Int} {x : Sit} (hj : j = k) (hk : (j == 0) = false) : leA (Zr j) (okOr k x) := by
  subst hj
  unfold Zr okOr
  rw [hk]
  refine leA_tup (.cons (.agg ?_) (.cons le1.refl .nil))
  exact .cons leC.refl (.cons leC.refl (.cons leC.refl (.cons leC.refl (.cons leC_nils (.cons leC.refl (.cons leC.refl (.cons leC.refl .nil)))))))
theorem le_Sok {k : Int} {x y : Sit} (hk : (k == 0) = true) (hy : y = x) : leA (Sok y) (okOr k x) := by
  have hk0 : k = 0 := by simpa using hk
  subst hk0; subst hy
  exact leA.refl
def small (n : Nat) : Prop := n ≤ 100000
theorem small_few {n : Nat} (h : small n) : dec (fewN n) = true := dec_iff.2 (by unfold small at h; unfold fewN; omega)
theorem small_ble {n : Nat} (h : small n) : Nat.ble ((0 + n) * 24) 140737488355328 = true := Nat.ble_eq_true_of_le (by unfold small at h; omega)
theorem small_ble' {n : Nat} (h : small n) : Nat.ble (n * Tryz.prog.types[114].bytes) 140737488355328 = true := by
  have e : Tryz.prog.types[114].bytes = 24 := by kernel_rfl
  rw [e]
  exact Nat.ble_eq_true_of_le (by unfold small at h; omega)
theorem dmd_e {b : Bool} {x e : Int} (h : (e == 0) = false) : dmd b x e = e := by unfold dmd; rw [h]; cases b <;> rfl
theorem all_prog {n : Nat} {k : Int} {x y : Sit} (hs : small n) (hy : y = x) : (Tree.need (Nat.ble ((0 + n) * 24) 140737488355328) (.need (dec (fewN n)) (.br (k != 0) (.leaf (Zr k)) (.leaf (Sok y))))).All (fun z => leA z (okOr k x)) := by
  refine ⟨small_ble hs, small_few hs, fun h => le_Zr rfl (by simpa [bne] using h), fun h => le_Sok (by simpa [bne] using h) hy⟩
def chain (e : Int) : List (Bool × Int) → Int
  | [] => e
  | (ok, k) :: r => chain (dmd ok k e) r
def pro (x : Sit) (y : Int) : Sit := { x with r := 1, e := y, s := -1 }
def proE (x : Sit) (y : Int) : Int := chain (chkS x) [(x.l, 12), ((x.r == 0 && toInt64 x.n == 0) || x.r == 2 || x.r == 3, 18), (lt x.e y, 13), (le y 1073741824, 2)]
noncomputable def Gpro : List A1 → Option (Bool × AV)
  | [.agg [.int .i64 a, .int .i64 r, .int .i64 e, .int .i64 p, .sl [.int .i64, .int .i64, .int .i64] n ρ, .int .i64 s, .bool l, .bool c], .c (.int .i64 y)] => some (dec (small n), okOr (proE ⟨a, r, e, p, n, ρ, s, l, c⟩ y) (pro ⟨a, r, e, p, n, ρ, s, l, c⟩ y))
  | _ => none
theorem u13 : UcOne Tryz.prog 104 (nG Gpro) := ucOne_of_tree h13 12 104 fun args r h => by
  unfold Gpro at h; split at h
  · rename_i a r e p n ρ s l c y
    obtain ⟨hp, rfl⟩ := Prod.mk.inj (Option.some.inj h)
    exact ⟨_, by kernel_rfl, all_prog (dec_iff.1 hp) rfl⟩
  · cases h
def goT : List (Bool × Int) → Tree AV → Tree AV
  | [], t => t
  | (ok, k) :: r, t => .br (!ok) (.leaf (Zr k)) (goT r t)
def refT (e : Int) (l : List (Bool × Int)) (t : Tree AV) : Tree AV := .br (e != 0) (.leaf (Zr e)) (goT l t)
theorem chain_e {e : Int} (he : (e == 0) = false) : ∀ l, chain e l = e
  | [] => rfl
  | (ok, k) :: r => by simp only [chain, dmd_e he]; exact chain_e he r
theorem goT_all {x : Sit} {t : Tree AV} : ∀ {l : List (Bool × Int)}, (∀ q ∈ l, (q.2 == 0) = false) → (chain 0 l = 0 → t.All (fun z => leA z (okOr 0 x))) → (goT l t).All (fun z => leA z (okOr (chain 0 l) x))
  | [], _, ht => ht rfl
  | (ok, k) :: r, hk, ht => by
    have hk0 : (k == 0) = false := hk (ok, k) (by simp)
    refine ⟨fun h => ?_, fun h => ?_⟩
    · have h : ok = false := by simpa using h
      subst h
      refine le_Zr ?_ hk0
      show k = chain k r
      rw [chain_e hk0]
    · have h : ok = true := by simpa using h
      subst h
      exact goT_all (l := r) (fun q hq => hk q (by simp [hq])) ht
theorem refT_all {x : Sit} {t : Tree AV} {e : Int} {l : List (Bool × Int)} (hk : ∀ q ∈ l, (q.2 == 0) = false) (ht : chain e l = 0 → t.All (fun z => leA z (okOr 0 x))) : (refT e l t).All (fun z => leA z (okOr (chain e l) x)) := by
  refine ⟨fun h => ?_, fun h => ?_⟩
  · have h : (e == 0) = false := by simpa [bne] using h
    exact le_Zr (chain_e h l).symm h
  · have h : e = 0 := by simpa [bne] using h
    subst h
    exact goT_all hk ht
theorem all_ref {x y : Sit} {e : Int} {l : List (Bool × Int)} (hs : small x.n) (hk : ∀ q ∈ l, (q.2 == 0) = false) (hy : y = x) : (Tree.need (dec (fewN x.n)) (refT e l (.need (Nat.ble (x.n * Tryz.prog.types[114].bytes) 140737488355328) (.leaf (Sok y))))).All (fun z => leA z (okOr (chain e l) x)) :=
  ⟨small_few hs, refT_all hk fun _ => ⟨small_ble' hs, le_Sok rfl hy⟩⟩
theorem le_not (a b : Int) : le a b = !lt b a := by rw [nle]; simp
theorem lt_not (a b : Int) : lt a b = !le b a := nle a b
theorem u14 : UcOne Tryz.prog 62 (nG Gpro) := ucOne_of_tree h13 12 62 fun args r h => by
  unfold Gpro at h; split at h
  · rename_i a r e p n ρ s l c y
    obtain ⟨hp, rfl⟩ := Prod.mk.inj (Option.some.inj h)
    have h := all_ref (x := pro ⟨a, r, e, p, n, ρ, s, l, c⟩ y) (y := pro ⟨a, r, e, p, n, ρ, s, l, c⟩ y) (e := chkS ⟨a, r, e, p, n, ρ, s, l, c⟩) (l := [(l, 12), ((r == 0 && toInt64 n == 0) || r == 2 || r == 3, 18), (lt e y, 13), (le y 1073741824, 2)]) (dec_iff.1 hp) (by simp) rfl
    have e2 : ((r == 0 && toInt64 n == 0) || r == 2 || r == 3) = !(!(r == 0 && toInt64 n == 0) && r != 2 && r != 3) := by simp [bne]
    refine ⟨_, ?_, h⟩
    rw [e2, le_not y, lt_not e]
    simp only [refT, goT, Bool.not_not]
    kernel_rfl
  · cases h
def demo (x : Sit) (y src : Int) : Sit := { x with r := bif src == -1 then 5 else 2, e := y, s := src }
def demoE (x : Sit) (y src : Int) : Int := chain (chkS x) [(x.r == 1, 18), (le x.e y, 13), (le y 1073741824, 2), (src == -1 || oth src x.a, 1)]
noncomputable def Gdem : List A1 → Option (Bool × AV)
  | [.agg [.int .i64 a, .int .i64 r, .int .i64 e, .int .i64 p, .sl [.int .i64, .int .i64, .int .i64] n ρ, .int .i64 s, .bool l, .bool c], .c (.int .i64 y), .c (.int .i64 src)] => some (dec (small n), okOr (demoE ⟨a, r, e, p, n, ρ, s, l, c⟩ y src) (demo ⟨a, r, e, p, n, ρ, s, l, c⟩ y src))
  | _ => none
theorem all_two {Q : AV → Prop} {b : Bool} {k : Int} {x1 x2 : Sit} (h1 : k = 0 → b = true → Q (Sok x1)) (h2 : k = 0 → b = false → Q (Sok x2)) (h3 : (k == 0) = false → Q (Zr k)) :
    (Tree.br b (.br (k != 0) (.leaf (Zr k)) (.leaf (Sok x1))) (.br (k != 0) (.leaf (Zr k)) (.leaf (Sok x2)))).All Q :=
  ⟨fun hb => ⟨fun hk => h3 (by simpa [bne] using hk), fun hk => h1 (by simpa [bne] using hk) hb⟩, fun hb => ⟨fun hk => h3 (by simpa [bne] using hk), fun hk => h2 (by simpa [bne] using hk) hb⟩⟩
theorem u15 : UcOne Tryz.prog 102 (nG Gdem) := ucOne_of_tree h13 12 102 fun args r h => by
  unfold Gdem at h; split at h
  · rename_i a r e p n ρ s l c y src
    obtain ⟨hp, rfl⟩ := Prod.mk.inj (Option.some.inj h)
    have hp := dec_iff.1 hp
    refine ⟨.need (Nat.ble ((0 + n) * 24) 140737488355328) (.need (dec (fewN n)) (Tree.br (src == -1) (.br (demoE ⟨a, r, e, p, n, ρ, s, l, c⟩ y src != 0) (.leaf (Zr (demoE ⟨a, r, e, p, n, ρ, s, l, c⟩ y src))) (.leaf (Sok ⟨a, 5, y, p, n, ρ, src, l, c⟩))) (.br (demoE ⟨a, r, e, p, n, ρ, s, l, c⟩ y src != 0) (.leaf (Zr (demoE ⟨a, r, e, p, n, ρ, s, l, c⟩ y src))) (.leaf (Sok ⟨a, 2, y, p, n, ρ, src, l, c⟩))))), by kernel_rfl, small_ble hp, small_few hp, all_two (fun hk hb => ?_) (fun hk hb => ?_) (fun hk => le_Zr rfl hk)⟩
    · exact le_Sok (by rw [hk]; rfl) (by unfold demo; rw [hb]; rfl)
    · exact le_Sok (by rw [hk]; rfl) (by unfold demo; rw [hb]; rfl)
  · cases h
theorem ref_need {x : Sit} {b : Bool} {e : Int} {l : List (Bool × Int)} {y1 y2 : Sit} (hs : small x.n) (hk : ∀ q ∈ l, (q.2 == 0) = false) (h1 : b = true → y1 = x) (h2 : b = false → y2 = x) :
    (Tree.need (dec (fewN x.n)) (refT e l (.need (Nat.ble (x.n * Tryz.prog.types[114].bytes) 140737488355328) (.br b (.leaf (Sok y1)) (.leaf (Sok y2)))))).All (fun z => leA z (okOr (chain e l) x)) :=
  ⟨small_few hs, refT_all hk fun _ => ⟨small_ble' hs, fun hb => le_Sok rfl (h1 hb), fun hb => le_Sok rfl (h2 hb)⟩⟩
theorem oth_sit (m a : Int) : oth m a = !(!(le 0 m && lt m 4) || m == a) := by
  unfold oth
  have h := sit3 m
  unfold sit at h
  rw [h]
  simp [bne]
theorem u16 : UcOne Tryz.prog 61 (nG Gdem) := ucOne_of_tree h13 12 61 fun args r h => by
  unfold Gdem at h; split at h
  · rename_i a r e p n ρ s l c y src
    obtain ⟨hp, rfl⟩ := Prod.mk.inj (Option.some.inj h)
    have h := ref_need (x := demo ⟨a, r, e, p, n, ρ, s, l, c⟩ y src) (b := src == -1) (y1 := ⟨a, 5, y, p, n, ρ, src, l, c⟩) (y2 := ⟨a, 2, y, p, n, ρ, src, l, c⟩) (e := chkS ⟨a, r, e, p, n, ρ, s, l, c⟩) (l := [(r == 1, 18), (le e y, 13), (le y 1073741824, 2), (src == -1 || oth src a, 1)]) (dec_iff.1 hp) (by simp) (fun hb => by unfold demo; rw [hb]; rfl) (fun hb => by unfold demo; rw [hb]; rfl)
    refine ⟨_, ?_, h⟩
    have e2 : (src == -1 || oth src a) = !(src != -1 && (!(le 0 src && lt src 4) || src == a)) := by rw [oth_sit]; simp [bne]
    rw [e2, le_not y, le_not e]
    simp only [refT, goT, Bool.not_not]
    show _ = _
    kernel_rfl
  · cases h
def iso (x : Sit) : Sit := { x with r := 3, s := -1 }
def isoE (x : Sit) : Int := chain (chkS x) [(x.r == 2, 18)]
noncomputable def Giso : List A1 → Option (Bool × AV)
  | [.agg [.int .i64 a, .int .i64 r, .int .i64 e, .int .i64 p, .sl [.int .i64, .int .i64, .int .i64] n ρ, .int .i64 s, .bool l, .bool c]] => some (dec (small n), okOr (isoE ⟨a, r, e, p, n, ρ, s, l, c⟩) (iso ⟨a, r, e, p, n, ρ, s, l, c⟩))
  | _ => none
theorem u24 : UcOne Tryz.prog 105 (nG Giso) := ucOne_of_tree h13 12 105 fun args r h => by
  unfold Giso at h; split at h
  · rename_i a r e p n ρ s l c
    obtain ⟨hp, rfl⟩ := Prod.mk.inj (Option.some.inj h)
    exact ⟨_, by kernel_rfl, all_prog (k := isoE ⟨a, r, e, p, n, ρ, s, l, c⟩) (y := iso ⟨a, r, e, p, n, ρ, s, l, c⟩) (dec_iff.1 hp) rfl⟩
  · cases h
theorem u25 : UcOne Tryz.prog 109 (nG Giso) := ucOne_of_tree h13 12 109 fun args r h => by
  unfold Giso at h; split at h
  · rename_i a r e p n ρ s l c
    obtain ⟨hp, rfl⟩ := Prod.mk.inj (Option.some.inj h)
    have h := all_ref (x := iso ⟨a, r, e, p, n, ρ, s, l, c⟩) (y := iso ⟨a, r, e, p, n, ρ, s, l, c⟩) (e := chkS ⟨a, r, e, p, n, ρ, s, l, c⟩) (l := [(r == 2, 18)]) (dec_iff.1 hp) (by simp) rfl
    exact ⟨_, by kernel_rfl, h⟩
  · cases h
def rej (x : Sit) (y src : Int) : Sit := { x with r := bif x.r == 3 && y == x.e then 2 else 4, e := y, s := src }
def rejE (x : Sit) (y src : Int) : Int := chain (chkS x) [(x.r != 1 && x.r != 2, 18), (le x.e y && y != 0, 13), (le y 1073741824, 2), (oth src x.a, 1)]
noncomputable def Grej : List A1 → Option (Bool × AV)
  | [.agg [.int .i64 a, .int .i64 r, .int .i64 e, .int .i64 p, .sl [.int .i64, .int .i64, .int .i64] n ρ, .int .i64 s, .bool l, .bool c], .c (.int .i64 y), .c (.int .i64 src)] => some (dec (small n), okOr (rejE ⟨a, r, e, p, n, ρ, s, l, c⟩ y src) (rej ⟨a, r, e, p, n, ρ, s, l, c⟩ y src))
  | _ => none
theorem u26 : UcOne Tryz.prog 106 (nG Grej) := ucOne_of_tree h13 12 106 fun args r h => by
  unfold Grej at h; split at h
  · rename_i a r e p n ρ s l c y src
    obtain ⟨hp, rfl⟩ := Prod.mk.inj (Option.some.inj h)
    have hp := dec_iff.1 hp
    refine ⟨.need (Nat.ble ((0 + n) * 24) 140737488355328) (.need (dec (fewN n)) (Tree.br (r == 3 && y == e) (.br (rejE ⟨a, r, e, p, n, ρ, s, l, c⟩ y src != 0) (.leaf (Zr (rejE ⟨a, r, e, p, n, ρ, s, l, c⟩ y src))) (.leaf (Sok ⟨a, 2, y, p, n, ρ, src, l, c⟩))) (.br (rejE ⟨a, r, e, p, n, ρ, s, l, c⟩ y src != 0) (.leaf (Zr (rejE ⟨a, r, e, p, n, ρ, s, l, c⟩ y src))) (.leaf (Sok ⟨a, 4, y, p, n, ρ, src, l, c⟩))))), by kernel_rfl, small_ble hp, small_few hp, all_two (fun hk hb => ?_) (fun hk hb => ?_) (fun hk => le_Zr rfl hk)⟩
    · exact le_Sok (by rw [hk]; rfl) (by unfold rej; rw [hb]; rfl)
    · exact le_Sok (by rw [hk]; rfl) (by unfold rej; rw [hb]; rfl)
  · cases h
theorem u27 : UcOne Tryz.prog 110 (nG Grej) := ucOne_of_tree h13 12 110 fun args r h => by
  unfold Grej at h; split at h
  · rename_i a r e p n ρ s l c y src
    obtain ⟨hp, rfl⟩ := Prod.mk.inj (Option.some.inj h)
    have h := ref_need (x := rej ⟨a, r, e, p, n, ρ, s, l, c⟩ y src) (b := r == 3 && y == e) (y1 := ⟨a, 2, y, p, n, ρ, src, l, c⟩) (y2 := ⟨a, 4, y, p, n, ρ, src, l, c⟩) (e := chkS ⟨a, r, e, p, n, ρ, s, l, c⟩) (l := [(r != 1 && r != 2, 18), (le e y && y != 0, 13), (le y 1073741824, 2), (oth src a, 1)]) (dec_iff.1 hp) (by simp) (fun hb => by unfold rej; rw [hb]; rfl) (fun hb => by unfold rej; rw [hb]; rfl)
    refine ⟨_, ?_, h⟩
    have e1 : (r != 1 && r != 2) = !(r == 1 || r == 2) := by simp [bne]
    have e2 : (le e y && y != 0) = !(lt y e || y == 0) := by rw [le_not]; simp [bne]
    rw [oth_sit, e1, e2, le_not y]
    simp only [refT, goT, Bool.not_not]
    show _ = _
    kernel_rfl
  · cases h
noncomputable abbrev H14 : Hd := ⟨H13.pc, [(104, nG Gpro), (62, nG Gpro), (102, nG Gdem), (61, nG Gdem), (105, nG Giso), (109, nG Giso), (106, nG Grej), (110, nG Grej)], [], H13.mc⟩
theorem h14 : HdOk Tryz.prog H14 := (((((((h13.ucCons u27).ucCons u26).ucCons u25).ucCons u24).ucCons u16).ucCons u15).ucCons u14).ucCons u13
noncomputable abbrev H15 : Hd := H14
theorem h15 : HdOk Tryz.prog H15 := h14
end Go.Proofs.YtennlgngdjegoaaGreat
namespace Go.Proofs.YtennlgngdjegoaaGreat
open Go Go.Sx Go.RowKit Classical
set_option maxRecDepth 100000
abbrev siSh : List Sh := [.int .i64, .int .i64, .int .i64, .int .i64, .sl spSh, .int .i64, .bool, .bool]
structure Ses where
  n : Nat
  ρ : Val
def siAt (v : Val) : Sit := ⟨(v.at 0).N [], (v.at 1).N [], (v.at 2).N [], (v.at 3).N [], (v.at 4).L [], v.at 4, (v.at 5).N [], (v.at 6).B [], (v.at 7).B []⟩
def Ses.at (l : Ses) (i : Nat) : Sit := siAt (l.ρ.at i)
structure VI where
  r : Int
  i : Int
def TXi (m : Int) (n : Nat) (bad : Nat → Bool) (v : VI) : Tree (XE × VI) :=
  .br (lt v.i m) (.need (inRange v.i n) (.br (bad v.i.toNat) (.leaf (.ret, ⟨v.i, v.i⟩)) (.leaf (.normal, ⟨v.r, IntKind.i64.wrap (v.i + 1)⟩)))) (.leaf (.exit 0, v))
def stI (i : Nat) : VI := ⟨0, i⟩
def sbI (i : Nat) : VI := ⟨i, i⟩
def μI (n : Nat) (v : VI) : Nat := (n - v.i).toNat
theorem sqI {m : Int} {n : Nat} (bad : Nat → Bool) (hm : m = toInt64 n) (hn : fewN n) : Sq (TXi m n bad) (μI n) stI sbI n bad .ret (.exit 0) where
  out := by simp
  hit := by simp
  meas i hi := by unfold μI stI; simp only; omega
  round i hi := by
    unfold fewN at hn
    have hw : IntKind.i64.wrap ((i : Int) + 1) = ((i + 1 : Nat) : Int) := by rw [w64_id (by omega) (by omega)]; omega
    refine ⟨fun _ => ⟨inR hi, fun hb => ?_, fun hb => ?_⟩, fun h => ?_⟩
    · have : bad i = true := hb
      simp only [Tree.All, this, if_true]
      rfl
    · have : bad i = false := hb
      simp only [Tree.All, this, Bool.false_eq_true, if_false]
      show (XE.normal, (⟨0, IntKind.i64.wrap ((i : Int) + 1)⟩ : VI)) = _
      rw [hw]; rfl
    · have : lt (i : Int) m = false := h
      rw [hm, ltF hi] at this; cases this
  stop := by
    refine ⟨fun h => ?_, fun _ => rfl⟩
    have : lt (n : Int) m = true := h
    rw [hm, ltS] at this; cases this
def fndB (l : Ses) (y : Sit) (i : Nat) : Bool := (l.at i).a == y.a
def fndC (l : Ses) (y : Sit) (i : Nat) : Bool := (l.at i).r == y.r && (l.at i).e == y.e
structure C56 where
  l : Ses
  m : Int
  y : Sit
def mem56 (y : Sit) : Mem := [some (69, [I y.a, I y.r, I y.e, I y.p, .sl spSh y.n y.ρ, I y.s, .bool y.l, .bool y.c])]
def S56B (c : C56) (v : VI) : St := mkS 19 [(0, .one (.c (.sl siSh c.l.n c.l.ρ))), (1, .one (.c (.fn (.func 72) [] [.ptr 0 0]))), (4, .one (.c (I v.r))), (7, .one (.c (I c.m))), (8, .one (.c (I v.i)))] (mem56 c.y)
def S56C (c : C56) (v : VI) : St := mkS 19 [(0, .one (.c (.sl siSh c.l.n c.l.ρ))), (1, .one (.c (.fn (.func 73) [] [.ptr 0 0]))), (4, .one (.c (I v.r))), (7, .one (.c (I c.m))), (8, .one (.c (I v.i)))] (mem56 c.y)
theorem t56B (c : C56) (v : VI) : ((evCode Tryz.prog H15 (evFn Tryz.prog H15 10) 119 1 1 (loopBody Tryz.prog 119 0) (S56B c v)).bind fun y => gcT [0, 1, 4, 7, 8] 1 y) = (TXi c.m c.l.n (fndB c.l c.y) v).bind fun y => .leaf (y.1, S56B c y.2) := by kernel_rfl
theorem t56C (c : C56) (v : VI) : ((evCode Tryz.prog H15 (evFn Tryz.prog H15 10) 119 1 1 (loopBody Tryz.prog 119 0) (S56C c v)).bind fun y => gcT [0, 1, 4, 7, 8] 1 y) = (TXi c.m c.l.n (fndC c.l c.y) v).bind fun y => .leaf (y.1, S56C c y.2) := by kernel_rfl
noncomputable def inv56 (c : C56) (v : VI) : Bool := dec ((c.m = toInt64 c.l.n ∧ fewN c.l.n) ∧ ∃ i, i ≤ c.l.n ∧ v = stI i)
def run56B (c : C56) (v : VI) : XE × VI := fin (TXi c.m c.l.n (fndB c.l c.y)) (μI c.l.n) v
def run56C (c : C56) (v : VI) : XE × VI := fin (TXi c.m c.l.n (fndC c.l c.y)) (μI c.l.n) v
def get56B : List (Nat × AV) → Mem → Option (C56 × VI)
  | [(0, .one (.c (.sl [.int .i64, .int .i64, .int .i64, .int .i64, .sl [.int .i64, .int .i64, .int .i64], .int .i64, .bool, .bool] n ρ))), (1, .one (.c (.fn (.func 72) [] [.ptr 0 0]))), (4, .one (.c (.int .i64 r))), (7, .one (.c (.int .i64 m))), (8, .one (.c (.int .i64 i)))],
    [some (69, [.int .i64 a, .int .i64 ro, .int .i64 e, .int .i64 p, .sl [.int .i64, .int .i64, .int .i64] k σ, .int .i64 s, .bool l, .bool c])] => some (⟨⟨n, ρ⟩, m, ⟨a, ro, e, p, k, σ, s, l, c⟩⟩, ⟨r, i⟩)
  | _, _ => none
def get56C : List (Nat × AV) → Mem → Option (C56 × VI)
  | [(0, .one (.c (.sl [.int .i64, .int .i64, .int .i64, .int .i64, .sl [.int .i64, .int .i64, .int .i64], .int .i64, .bool, .bool] n ρ))), (1, .one (.c (.fn (.func 73) [] [.ptr 0 0]))), (4, .one (.c (.int .i64 r))), (7, .one (.c (.int .i64 m))), (8, .one (.c (.int .i64 i)))],
    [some (69, [.int .i64 a, .int .i64 ro, .int .i64 e, .int .i64 p, .sl [.int .i64, .int .i64, .int .i64] k σ, .int .i64 s, .bool l, .bool c])] => some (⟨⟨n, ρ⟩, m, ⟨a, ro, e, p, k, σ, s, l, c⟩⟩, ⟨r, i⟩)
  | _, _ => none
noncomputable def L56B : Nat → St → Tree (XE × St) := loopH [0, 1, 4, 7, 8] 1 19 get56B inv56 S56B run56B [.ret, .exit 0]
noncomputable def L56C : Nat → St → Tree (XE × St) := loopH [0, 1, 4, 7, 8] 1 19 get56C inv56 S56C run56C [.ret, .exit 0]
theorem l56B (fn : Func) (c b : Code) (hf : Tryz.prog.funcs[119]? = some fn) (hc : fn.body = some c) (hb : nthLoop c 0 = some b) : LoopOk Tryz.prog b L56B :=
  loopOk_of h15 10 119 0 hf hc hb [0, 1, 4, 7, 8] 1 19 S56B (fun c => TXi c.m c.l.n (fndB c.l c.y)) t56B get56B inv56 (fun c => μI c.l.n) [.ret, .exit 0]
    (fun l m c v h => by unfold get56B at h; split at h <;> simp at h; obtain ⟨rfl, rfl⟩ := h; rfl)
    (rounds_of fun c v hv => by
      have h := (dec_iff.1 hv).1
      exact (sqI (fndB c.l c.y) h.1 h.2).rounds fun x => by unfold inv56; rw [dec_iff]; exact ⟨fun h => h.2, fun k => ⟨h, k⟩⟩)
theorem l56C (fn : Func) (c b : Code) (hf : Tryz.prog.funcs[119]? = some fn) (hc : fn.body = some c) (hb : nthLoop c 0 = some b) : LoopOk Tryz.prog b L56C :=
  loopOk_of h15 10 119 0 hf hc hb [0, 1, 4, 7, 8] 1 19 S56C (fun c => TXi c.m c.l.n (fndC c.l c.y)) t56C get56C inv56 (fun c => μI c.l.n) [.ret, .exit 0]
    (fun l m c v h => by unfold get56C at h; split at h <;> simp at h; obtain ⟨rfl, rfl⟩ := h; rfl)
    (rounds_of fun c v hv => by
      have h := (dec_iff.1 hv).1
      exact (sqI (fndC c.l c.y) h.1 h.2).rounds fun x => by unfold inv56; rw [dec_iff]; exact ⟨fun h => h.2, fun k => ⟨h, k⟩⟩)
noncomputable abbrev HaB : Hd := ⟨H15.pc, H15.hc, [((119, 0), L56B)], H15.mc⟩
theorem haB : HdOk Tryz.prog HaB := HdOk.lhCons h15 l56B
noncomputable abbrev HaC : Hd := ⟨H15.pc, H15.hc, [((119, 0), L56C)], H15.mc⟩
theorem haC : HdOk Tryz.prog HaC := HdOk.lhCons h15 l56C
def T30 {α : Type} (iv : Bool) (x : XE × VI) (f : Bool → α) : Tree α := .need iv (.br (eqXE x.1 .ret) (.leaf (f (le 0 x.2.r))) (.need (eqXE x.1 (.exit 0)) (.leaf (f false))))
theorem T30_all {α : Type} {iv : Bool} {x : XE × VI} {f : Bool → α} {n : Nat} {bad : Nat → Bool} (h : iv = true) (hx : x = bif anyB bad n then (.ret, sbI (firstB bad n)) else (.exit 0, stI n)) : (T30 iv x f).All (fun z => z = f (anyB bad n)) := by
  subst h
  refine ⟨rfl, fun h => ?_, fun h => ?_⟩
  · cases hb : anyB bad n
    · rw [hb] at hx; subst hx; cases h
    · rw [hb] at hx; subst hx
      have : le 0 ((firstB bad n : Nat) : Int) = true := by rw [le_iff]; omega
      show f (le 0 ((firstB bad n : Nat) : Int)) = _
      rw [this]
  · cases hb : anyB bad n
    · rw [hb] at hx; subst hx
      exact ⟨rfl, rfl⟩
    · rw [hb] at hx; subst hx; cases h
theorem iv56 {c : C56} (hm : c.m = toInt64 c.l.n) (hn : fewN c.l.n) : inv56 c (stI 0) = true := dec_iff.2 ⟨⟨hm, hn⟩, 0, Nat.zero_le _, rfl⟩
noncomputable def G30 : List A1 → Mem → Tree (AV × Mem)
  | [.c (.sl [.int .i64, .int .i64, .int .i64, .int .i64, .sl [.int .i64, .int .i64, .int .i64], .int .i64, .bool, .bool] n ρ), .c (.fn (.func 72) [] [.ptr 0 0])], [some (69, [.int .i64 a, .int .i64 ro, .int .i64 e, .int .i64 p, .sl [.int .i64, .int .i64, .int .i64] k σ, .int .i64 s, .bool l, .bool c])] =>
    .need (dec (fewN n)) (.leaf (.one (.c (.bool (anyB (fndB ⟨n, ρ⟩ ⟨a, ro, e, p, k, σ, s, l, c⟩) n))), [some (69, [.int .i64 a, .int .i64 ro, .int .i64 e, .int .i64 p, .sl spSh k σ, .int .i64 s, .bool l, .bool c])]))
  | [.c (.sl [.int .i64, .int .i64, .int .i64, .int .i64, .sl [.int .i64, .int .i64, .int .i64], .int .i64, .bool, .bool] n ρ), .c (.fn (.func 73) [] [.ptr 0 0])], [some (69, [.int .i64 a, .int .i64 ro, .int .i64 e, .int .i64 p, .sl [.int .i64, .int .i64, .int .i64] k σ, .int .i64 s, .bool l, .bool c])] =>
    .need (dec (fewN n)) (.leaf (.one (.c (.bool (anyB (fndC ⟨n, ρ⟩ ⟨a, ro, e, p, k, σ, s, l, c⟩) n))), [some (69, [.int .i64 a, .int .i64 ro, .int .i64 e, .int .i64 p, .sl spSh k σ, .int .i64 s, .bool l, .bool c])]))
  | _, _ => .fail
noncomputable def G30B : List A1 → Mem → Tree (AV × Mem)
  | [.c (.sl [.int .i64, .int .i64, .int .i64, .int .i64, .sl [.int .i64, .int .i64, .int .i64], .int .i64, .bool, .bool] n ρ), .c (.fn (.func 72) [] [.ptr 0 0])], [some (69, [.int .i64 a, .int .i64 ro, .int .i64 e, .int .i64 p, .sl [.int .i64, .int .i64, .int .i64] k σ, .int .i64 s, .bool l, .bool c])] =>
    .need (dec (fewN n)) (.leaf (.one (.c (.bool (anyB (fndB ⟨n, ρ⟩ ⟨a, ro, e, p, k, σ, s, l, c⟩) n))), [some (69, [.int .i64 a, .int .i64 ro, .int .i64 e, .int .i64 p, .sl spSh k σ, .int .i64 s, .bool l, .bool c])]))
  | _, _ => .fail
noncomputable def G30C : List A1 → Mem → Tree (AV × Mem)
  | [.c (.sl [.int .i64, .int .i64, .int .i64, .int .i64, .sl [.int .i64, .int .i64, .int .i64], .int .i64, .bool, .bool] n ρ), .c (.fn (.func 73) [] [.ptr 0 0])], [some (69, [.int .i64 a, .int .i64 ro, .int .i64 e, .int .i64 p, .sl [.int .i64, .int .i64, .int .i64] k σ, .int .i64 s, .bool l, .bool c])] =>
    .need (dec (fewN n)) (.leaf (.one (.c (.bool (anyB (fndC ⟨n, ρ⟩ ⟨a, ro, e, p, k, σ, s, l, c⟩) n))), [some (69, [.int .i64 a, .int .i64 ro, .int .i64 e, .int .i64 p, .sl spSh k σ, .int .i64 s, .bool l, .bool c])]))
  | _, _ => .fail
theorem q30B : McOne Tryz.prog 71 G30B := mcOne_of_tree haB 10 71 fun args mem r mem' h => by
  unfold G30B at h
  split at h
  · rename_i n ρ a ro e p k σ s l c
    cases hp : dec (fewN n)
    · rw [hp] at h; simp [Tree.sel] at h
    · rw [hp] at h
      simp only [Tree.sel, cond_true, Option.some.injEq, Prod.mk.injEq] at h
      obtain ⟨rfl, rfl⟩ := h
      have hf := dec_iff.1 hp
      exact ⟨T30 (inv56 ⟨⟨n, ρ⟩, toInt64 n, ⟨a, ro, e, p, k, σ, s, l, c⟩⟩ (stI 0)) (run56B ⟨⟨n, ρ⟩, toInt64 n, ⟨a, ro, e, p, k, σ, s, l, c⟩⟩ (stI 0)) (fun b => (.one (.c (.bool b)), mem56 ⟨a, ro, e, p, k, σ, s, l, c⟩)), by kernel_rfl, T30_all (f := fun b => (AV.one (.c (.bool b)), mem56 ⟨a, ro, e, p, k, σ, s, l, c⟩)) (iv56 (c := ⟨⟨n, ρ⟩, toInt64 n, ⟨a, ro, e, p, k, σ, s, l, c⟩⟩) rfl hf) (show run56B ⟨⟨n, ρ⟩, toInt64 n, ⟨a, ro, e, p, k, σ, s, l, c⟩⟩ (stI 0) = _ from (sqI (fndB ⟨n, ρ⟩ ⟨a, ro, e, p, k, σ, s, l, c⟩) rfl hf).fin0)⟩
  · simp [Tree.sel] at h
theorem q30C : McOne Tryz.prog 71 G30C := mcOne_of_tree haC 10 71 fun args mem r mem' h => by
  unfold G30C at h
  split at h
  · rename_i n ρ a ro e p k σ s l c
    cases hp : dec (fewN n)
    · rw [hp] at h; simp [Tree.sel] at h
    · rw [hp] at h
      simp only [Tree.sel, cond_true, Option.some.injEq, Prod.mk.injEq] at h
      obtain ⟨rfl, rfl⟩ := h
      have hf := dec_iff.1 hp
      exact ⟨T30 (inv56 ⟨⟨n, ρ⟩, toInt64 n, ⟨a, ro, e, p, k, σ, s, l, c⟩⟩ (stI 0)) (run56C ⟨⟨n, ρ⟩, toInt64 n, ⟨a, ro, e, p, k, σ, s, l, c⟩⟩ (stI 0)) (fun b => (.one (.c (.bool b)), mem56 ⟨a, ro, e, p, k, σ, s, l, c⟩)), by kernel_rfl, T30_all (f := fun b => (AV.one (.c (.bool b)), mem56 ⟨a, ro, e, p, k, σ, s, l, c⟩)) (iv56 (c := ⟨⟨n, ρ⟩, toInt64 n, ⟨a, ro, e, p, k, σ, s, l, c⟩⟩) rfl hf) (show run56C ⟨⟨n, ρ⟩, toInt64 n, ⟨a, ro, e, p, k, σ, s, l, c⟩⟩ (stI 0) = _ from (sqI (fndC ⟨n, ρ⟩ ⟨a, ro, e, p, k, σ, s, l, c⟩) rfl hf).fin0)⟩
  · simp [Tree.sel] at h
theorem q30 : McOne Tryz.prog 71 G30 := fun args mem r mem' h => by
  unfold G30 at h
  split at h
  · exact q30B _ _ _ _ h
  · exact q30C _ _ _ _ h
  · simp [Tree.sel] at h
noncomputable abbrev H30 : Hd := ⟨H15.pc, H15.hc, [], (71, G30) :: H15.mc⟩
theorem h30 : HdOk Tryz.prog H30 := h15.mcCons q30
structure VJ where
  k : Int
  r : Int
  q : Int
structure C35 where
  l : Ses
  i : Int
  e : Int
def fndD (l : Ses) (y : Sit) (k : Nat) : Bool := ((l.at k).r == 1 && y.r == 1) && (l.at k).e == y.e
def S35a (c : C35) (v : VJ) : St := mkS 76 [(0, .one (.c (.sl siSh c.l.n c.l.ρ))), (2, .one (.c (I v.r))), (3, .one (.c (I v.q))), (4, .one (.c (I c.i))), (5, .one (.c (I c.e))), (6, .one (.c (I v.k)))] []
def S35b (c : C35) (v : VJ) : St := mkS 76 [(0, .one (.c (.sl siSh c.l.n c.l.ρ))), (2, .one (.c (I v.r))), (3, .one (.c (I v.q))), (4, .one (.c (I c.i))), (5, .one (.c (I c.e))), (7, .one (.c (I v.k)))] []
def TX35a (c : C35) (v : VJ) : Tree (XE × VJ) :=
  .br (lt v.k c.i) (.need (inRange v.k c.l.n) (.need (inRange c.i c.l.n) (.br (fndB c.l (c.l.at c.i.toNat) v.k.toNat) (.leaf (.ret, ⟨v.k, c.i, 8⟩)) (.leaf (.normal, ⟨IntKind.i64.wrap (v.k + 1), v.r, v.q⟩))))) (.leaf (.exit 2, v))
def TX35b (c : C35) (v : VJ) : Tree (XE × VJ) :=
  let x := c.l.at v.k.toNat
  let y := c.l.at c.i.toNat
  .br (lt v.k c.i) (.need (inRange v.k c.l.n) (.need (!((x.r == 1) == true && true) || inRange c.i c.l.n) (.need (!((x.r == 1 && y.r == 1) == true && true) || inRange v.k c.l.n) (.need (!((x.r == 1 && y.r == 1) == true && true) || inRange c.i c.l.n)
    (.br (fndD c.l y v.k.toNat) (.leaf (.ret, ⟨v.k, c.i, 19⟩)) (.leaf (.normal, ⟨IntKind.i64.wrap (v.k + 1), v.r, v.q⟩))))))) (.leaf (.exit 4, v))
theorem t35a (c : C35) (v : VJ) : ((evCode Tryz.prog H30 (evFn Tryz.prog H30 10) 44 0 1 (loopBody Tryz.prog 44 1) (S35a c v)).bind fun y => gcT [0, 2, 3, 4, 5, 6] 0 y) = (TX35a c v).bind fun y => .leaf (y.1, S35a c y.2) := by kernel_rfl
theorem t35b (c : C35) (v : VJ) : ((evCode Tryz.prog H30 (evFn Tryz.prog H30 10) 44 0 1 (loopBody Tryz.prog 44 2) (S35b c v)).bind fun y => gcT [0, 2, 3, 4, 5, 7] 0 y) = (TX35b c v).bind fun y => .leaf (y.1, S35b c y.2) := by kernel_rfl
def stJ (k : Nat) : VJ := ⟨k, 0, 0⟩
def sbJ (i e : Int) (k : Nat) : VJ := ⟨k, i, e⟩
def μJ (i : Int) (v : VJ) : Nat := (i.toNat - v.k).toNat
theorem sq35a (c : C35) (j : Nat) (hi : c.i = j) (hj : j < c.l.n) (hn : fewN c.l.n) : Sq (TX35a c) (μJ c.i) stJ (sbJ c.i 8) j (fndB c.l (c.l.at j)) .ret (.exit 2) where
  out := by simp
  hit := by simp
  meas k hk := by unfold μJ stJ; rw [hi]; simp only; omega
  round k hk := by
    unfold fewN at hn
    have hw : IntKind.i64.wrap ((k : Int) + 1) = ((k + 1 : Nat) : Int) := by rw [w64_id (by omega) (by omega)]; omega
    have e : c.i.toNat = j := by rw [hi]; rfl
    refine ⟨fun _ => ⟨inR (by omega), by rw [hi]; exact inR hj, fun hb => ?_, fun hb => ?_⟩, fun h => ?_⟩
    · have : fndB c.l (c.l.at c.i.toNat) k = true := hb
      rw [e] at this
      simp only [Tree.All, this, if_true]
      rfl
    · have : fndB c.l (c.l.at c.i.toNat) k = false := hb
      rw [e] at this
      simp only [Tree.All, this, Bool.false_eq_true, if_false]
      show (XE.normal, (⟨IntKind.i64.wrap ((k : Int) + 1), 0, 0⟩ : VJ)) = _
      rw [hw]; rfl
    · have : lt (k : Int) c.i = false := h
      rw [hi, ← Bool.not_eq_true, lt_iff] at this; omega
  stop := by
    refine ⟨fun h => ?_, fun _ => rfl⟩
    have : lt (j : Int) c.i = true := h
    rw [hi, lt_iff] at this; omega
theorem sq35b (c : C35) (j : Nat) (hi : c.i = j) (hj : j < c.l.n) (hn : fewN c.l.n) : Sq (TX35b c) (μJ c.i) stJ (sbJ c.i 19) j (fndD c.l (c.l.at j)) .ret (.exit 4) where
  out := by simp
  hit := by simp
  meas k hk := by unfold μJ stJ; rw [hi]; simp only; omega
  round k hk := by
    unfold fewN at hn
    have hw : IntKind.i64.wrap ((k : Int) + 1) = ((k + 1 : Nat) : Int) := by rw [w64_id (by omega) (by omega)]; omega
    have e : c.i.toNat = j := by rw [hi]; rfl
    have i1 : inRange ((stJ k).k) c.l.n = true := inR (by omega)
    have i2 : inRange c.i c.l.n = true := by rw [hi]; exact inR hj
    refine ⟨fun _ => ⟨i1, by rw [i2, Bool.or_true], by rw [i1, Bool.or_true], by rw [i2, Bool.or_true], fun hb => ?_, fun hb => ?_⟩, fun h => ?_⟩
    · have : fndD c.l (c.l.at c.i.toNat) k = true := hb
      rw [e] at this
      simp only [Tree.All, this, if_true]
      rfl
    · have : fndD c.l (c.l.at c.i.toNat) k = false := hb
      rw [e] at this
      simp only [Tree.All, this, Bool.false_eq_true, if_false]
      show (XE.normal, (⟨IntKind.i64.wrap ((k : Int) + 1), 0, 0⟩ : VJ)) = _
      rw [hw]; rfl
    · have : lt (k : Int) c.i = false := h
      rw [hi, ← Bool.not_eq_true, lt_iff] at this; omega
  stop := by
    refine ⟨fun h => ?_, fun _ => rfl⟩
    have : lt (j : Int) c.i = true := h
    rw [hi, lt_iff] at this; omega
theorem sq35a' {c : C35} (h : ∃ j : Nat, c.i = j ∧ j < c.l.n ∧ fewN c.l.n) : Sq (TX35a c) (μJ c.i) stJ (sbJ c.i 8) c.i.toNat (fndB c.l (c.l.at c.i.toNat)) .ret (.exit 2) := by
  obtain ⟨j, h1, h2, h3⟩ := h
  have e : c.i.toNat = j := by rw [h1]; rfl
  rw [e]
  exact sq35a c j h1 h2 h3
theorem sq35b' {c : C35} (h : ∃ j : Nat, c.i = j ∧ j < c.l.n ∧ fewN c.l.n) : Sq (TX35b c) (μJ c.i) stJ (sbJ c.i 19) c.i.toNat (fndD c.l (c.l.at c.i.toNat)) .ret (.exit 4) := by
  obtain ⟨j, h1, h2, h3⟩ := h
  have e : c.i.toNat = j := by rw [h1]; rfl
  rw [e]
  exact sq35b c j h1 h2 h3
noncomputable def inv35 (c : C35) (v : VJ) : Bool := dec ((∃ j : Nat, c.i = j ∧ j < c.l.n ∧ fewN c.l.n) ∧ ∃ k : Nat, k ≤ c.i.toNat ∧ v = stJ k)
def run35a (c : C35) (v : VJ) : XE × VJ := fin (TX35a c) (μJ c.i) v
def run35b (c : C35) (v : VJ) : XE × VJ := fin (TX35b c) (μJ c.i) v
def get35a : List (Nat × AV) → Mem → Option (C35 × VJ)
  | [(0, .one (.c (.sl [.int .i64, .int .i64, .int .i64, .int .i64, .sl [.int .i64, .int .i64, .int .i64], .int .i64, .bool, .bool] n ρ))), (2, .one (.c (.int .i64 r))), (3, .one (.c (.int .i64 q))), (4, .one (.c (.int .i64 i))), (5, .one (.c (.int .i64 e))), (6, .one (.c (.int .i64 k)))], [] => some (⟨⟨n, ρ⟩, i, e⟩, ⟨k, r, q⟩)
  | _, _ => none
def get35b : List (Nat × AV) → Mem → Option (C35 × VJ)
  | [(0, .one (.c (.sl [.int .i64, .int .i64, .int .i64, .int .i64, .sl [.int .i64, .int .i64, .int .i64], .int .i64, .bool, .bool] n ρ))), (2, .one (.c (.int .i64 r))), (3, .one (.c (.int .i64 q))), (4, .one (.c (.int .i64 i))), (5, .one (.c (.int .i64 e))), (7, .one (.c (.int .i64 k)))], [] => some (⟨⟨n, ρ⟩, i, e⟩, ⟨k, r, q⟩)
  | _, _ => none
noncomputable def L35a : Nat → St → Tree (XE × St) := loopH [0, 2, 3, 4, 5, 6] 0 76 get35a inv35 S35a run35a [.ret, .exit 2]
noncomputable def L35b : Nat → St → Tree (XE × St) := loopH [0, 2, 3, 4, 5, 7] 0 76 get35b inv35 S35b run35b [.ret, .exit 4]
theorem l35a (fn : Func) (c b : Code) (hf : Tryz.prog.funcs[44]? = some fn) (hc : fn.body = some c) (hb : nthLoop c 1 = some b) : LoopOk Tryz.prog b L35a :=
  loopOk_of h30 10 44 1 hf hc hb [0, 2, 3, 4, 5, 6] 0 76 S35a TX35a t35a get35a inv35 (fun c => μJ c.i) [.ret, .exit 2]
    (fun l m c v h => by unfold get35a at h; split at h <;> simp at h; obtain ⟨rfl, rfl⟩ := h; rfl)
    (rounds_of fun c v hv => by
      have hh := (dec_iff.1 hv).1
      exact (sq35a' hh).rounds (inv := fun v => inv35 c v = true) fun x => by
        unfold inv35
        rw [dec_iff]
        exact ⟨fun h => h.2, fun k => ⟨hh, k⟩⟩)
theorem l35b (fn : Func) (c b : Code) (hf : Tryz.prog.funcs[44]? = some fn) (hc : fn.body = some c) (hb : nthLoop c 2 = some b) : LoopOk Tryz.prog b L35b :=
  loopOk_of h30 10 44 2 hf hc hb [0, 2, 3, 4, 5, 7] 0 76 S35b TX35b t35b get35b inv35 (fun c => μJ c.i) [.ret, .exit 4]
    (fun l m c v h => by unfold get35b at h; split at h <;> simp at h; obtain ⟨rfl, rfl⟩ := h; rfl)
    (rounds_of fun c v hv => by
      have hh := (dec_iff.1 hv).1
      exact (sq35b' hh).rounds (inv := fun v => inv35 c v = true) fun x => by
        unfold inv35
        rw [dec_iff]
        exact ⟨fun h => h.2, fun k => ⟨hh, k⟩⟩)
noncomputable abbrev H35 : Hd := ⟨H30.pc, H30.hc, [((44, 1), L35a), ((44, 2), L35b)], H30.mc⟩
theorem h35 : HdOk Tryz.prog H35 := (HdOk.lhCons h30 l35b).lhCons l35a
def fewS (l : Ses) : Prop := fewN l.n ∧ ∀ i, i < l.n → fewN (l.at i).n
theorem fndCD (l : Ses) (x : Sit) (n : Nat) : (x.r == 1 && anyB (fndC l x) n) = anyB (fndD l x) n := by
  cases hr : (x.r == 1)
  · rw [Bool.false_and, eq_comm, ← Bool.not_eq_true]
    intro h
    obtain ⟨i, _, h⟩ := anyB_iff.1 h
    unfold fndD at h
    rw [hr] at h
    simp at h
  · rw [Bool.true_and]
    refine anyB_congr fun i _ _ => ?_
    have hx : x.r = 1 := by simpa using hr
    unfold fndC fndD
    rw [hr, hx, Bool.and_true]
def wrgS (l : Ses) (i : Nat) : Bool := (chkS (l.at i) != 0 || anyB (fndB l (l.at i)) i) || anyB (fndD l (l.at i)) i
def wrgE (l : Ses) (i : Nat) : Int := bif chkS (l.at i) != 0 then chkS (l.at i) else bif anyB (fndB l (l.at i)) i then 8 else 19
def sbS (l : Ses) (i : Nat) : VJ := ⟨i, i, wrgE l i⟩
def μS (n : Nat) (v : VJ) : Nat := (n - v.k).toNat
theorem wrgS_1 {l : Ses} {i : Nat} (h : (chkS (l.at i) != 0) = true) : wrgS l i = true ∧ wrgE l i = chkS (l.at i) := by
  unfold wrgS wrgE; rw [h]; exact ⟨rfl, rfl⟩
theorem wrgS_2 {l : Ses} {i : Nat} (h : (chkS (l.at i) != 0) = false) (h2 : anyB (fndB l (l.at i)) i = true) : wrgS l i = true ∧ wrgE l i = 8 := by
  unfold wrgS wrgE; rw [h, h2]; exact ⟨rfl, rfl⟩
theorem wrgS_3 {l : Ses} {i : Nat} (h : (chkS (l.at i) != 0) = false) (h2 : anyB (fndB l (l.at i)) i = false) (h3 : anyB (fndD l (l.at i)) i = true) : wrgS l i = true ∧ wrgE l i = 19 := by
  unfold wrgS wrgE; rw [h, h2, h3]; exact ⟨rfl, rfl⟩
theorem wrgS_0 {l : Ses} {i : Nat} (h : (chkS (l.at i) != 0) = false) (h2 : anyB (fndB l (l.at i)) i = false) (h3 : anyB (fndD l (l.at i)) i = false) : wrgS l i = false := by
  unfold wrgS; rw [h, h2, h3]; rfl
structure C34 where
  l : Ses
  j : Ses
  m : Int
def S34 (c : C34) (v : VJ) : St := mkS 43 [(0, .one (.c (.sl siSh c.l.n c.l.ρ))), (2, .one (.c (I v.r))), (3, .one (.c (I v.q))), (10, .one (.c (.sl siSh c.j.n c.j.ρ))), (11, .one (.c (I c.m))), (12, .one (.c (I v.k)))] []
noncomputable def TX34 (c : C34) (v : VJ) : Tree (XE × VJ) :=
  let x := c.j.at v.k.toNat
  let nx : VJ := ⟨IntKind.i64.wrap (v.k + 1), v.r, v.q⟩
  let rest (b : Bool) : Tree (XE × VJ) := .br (x.r == 1 && b) (.leaf (.ret, ⟨v.k, v.k, 19⟩)) (.leaf (.normal, nx))
  .br (lt v.k c.m) (.need (inRange v.k c.j.n) (.need (dec (fewN x.n)) (.br (chkS x != 0) (.leaf (.ret, ⟨v.k, v.k, chkS x⟩)) (.need (le 0 v.k && le v.k (toInt64 c.l.n)) (.need (dec (fewN v.k.toNat)) (.br (anyB (fndB ⟨v.k.toNat, c.l.ρ⟩ x) v.k.toNat) (.leaf (.ret, ⟨v.k, v.k, 8⟩))
    (.br ((x.r == 1) == true) (.need (le 0 v.k && le v.k (toInt64 c.l.n)) (.br ((x.r == 1) == true) (.need (dec (fewN v.k.toNat)) (rest (anyB (fndC ⟨v.k.toNat, c.l.ρ⟩ x) v.k.toNat))) (rest false)))
      (.br ((x.r == 1) == true) .fail (rest false))))))))) (.leaf (.exit 0, v))
theorem t34 (c : C34) (v : VJ) : ((evCode Tryz.prog H30 (evFn Tryz.prog H30 10) 30 0 1 (loopBody Tryz.prog 30 0) (S34 c v)).bind fun y => gcT [0, 2, 3, 10, 11, 12] 0 y) = (TX34 c v).bind fun y => .leaf (y.1, S34 c y.2) := by kernel_rfl
theorem sq34 (l : Ses) {m : Int} (hm : m = toInt64 l.n) (hn : fewS l) : Sq (TX34 ⟨l, l, m⟩) (μS l.n) stJ (sbS l) l.n (wrgS l) .ret (.exit 0) where
  out := by simp
  hit := by simp
  meas k hk := by unfold μS stJ; simp only; omega
  round k hk := by
    have hf := hn.2 k hk
    have hn := hn.1
    have hk' : fewN k := by unfold fewN at hn ⊢; omega
    have hkk : fewN ((k : Int).toNat) := hk'
    unfold fewN at hn
    have hw : IntKind.i64.wrap ((k : Int) + 1) = ((k + 1 : Nat) : Int) := by rw [w64_id (by omega) (by omega)]; omega
    have hs : (le 0 (k : Int) && le (k : Int) (toInt64 l.n)) = true := by
      rw [Bool.and_eq_true, le_iff, le_iff]
      exact ⟨by omega, by show (k : Int) ≤ (l.n : Int); omega⟩
    have nxt : ∀ {r}, anyB (fndD l (l.at k)) k = r → (chkS (l.at k) != 0) = false → anyB (fndB l (l.at k)) k = false → r = false → if wrgS l k then (XE.normal, (⟨IntKind.i64.wrap ((k : Int) + 1), 0, 0⟩ : VJ)) = (.ret, sbS l k) else (XE.normal, (⟨IntKind.i64.wrap ((k : Int) + 1), 0, 0⟩ : VJ)) = (.normal, stJ (k + 1)) := fun h1 h2 h3 h4 => by
      rw [wrgS_0 h2 h3 (h1.trans h4), hw]; rfl
    refine ⟨fun _ => ⟨inR hk, dec_iff.2 hf, fun h1 => ?_, fun h1 => ⟨hs, dec_iff.2 hkk, fun h2 => ?_, fun h2 => ⟨fun g => ⟨hs, fun _ => ⟨dec_iff.2 hkk, fun h3 => ?_, fun h3 => ?_⟩, fun ng => ?_⟩, fun g => ⟨fun g' => ?_, fun _ => ⟨fun h3 => ?_, fun _ => ?_⟩⟩⟩⟩⟩, fun h => ?_⟩
    · obtain ⟨b, e⟩ := wrgS_1 (l := l) (i := k) h1
      show if wrgS l k then _ else _
      rw [b, if_pos rfl]
      show (XE.ret, (⟨k, k, chkS (l.at k)⟩ : VJ)) = (.ret, ⟨k, k, wrgE l k⟩)
      rw [e]
    · obtain ⟨b, e⟩ := wrgS_2 (l := l) (i := k) h1 h2
      show if wrgS l k then _ else _
      rw [b, if_pos rfl]
      show (XE.ret, (⟨k, k, 8⟩ : VJ)) = (.ret, ⟨k, k, wrgE l k⟩)
      rw [e]
    · have h3 : ((l.at k).r == 1 && anyB (fndC l (l.at k)) k) = true := h3
      rw [fndCD] at h3
      obtain ⟨b, e⟩ := wrgS_3 (l := l) (i := k) h1 h2 h3
      show if wrgS l k then _ else _
      rw [b, if_pos rfl]
      show (XE.ret, (⟨k, k, 19⟩ : VJ)) = (.ret, ⟨k, k, wrgE l k⟩)
      rw [e]
    · have h3 : ((l.at k).r == 1 && anyB (fndC l (l.at k)) k) = false := h3
      rw [fndCD] at h3
      exact nxt h3 h1 h2 rfl
    · rw [g] at ng; cases ng
    · rw [g] at g'; cases g'
    · rw [Bool.and_false] at h3; cases h3
    · have h3 : ((l.at k).r == 1 && anyB (fndC l (l.at k)) k) = false := by
        have g : (((l.at k).r == 1) == true) = false := g
        have g : ((l.at k).r == 1) = false := by cases hh : ((l.at k).r == 1) <;> simp_all
        rw [g]; rfl
      rw [fndCD] at h3
      exact nxt h3 h1 h2 rfl
    · have : lt (k : Int) m = false := h
      rw [hm, ltF hk] at this; cases this
  stop := by
    refine ⟨fun h => ?_, fun _ => rfl⟩
    have : lt (l.n : Int) m = true := h
    rw [hm, ltS] at this; cases this
noncomputable def inv34 (c : C34) (v : VJ) : Bool := dec ((c.j = c.l ∧ c.m = toInt64 c.l.n ∧ fewS c.l) ∧ ∃ i, i ≤ c.l.n ∧ v = stJ i)
noncomputable def run34 (c : C34) (v : VJ) : XE × VJ := fin (TX34 c) (μS c.l.n) v
def get34 : List (Nat × AV) → Mem → Option (C34 × VJ)
  | [(0, .one (.c (.sl [.int .i64, .int .i64, .int .i64, .int .i64, .sl [.int .i64, .int .i64, .int .i64], .int .i64, .bool, .bool] n ρ))), (2, .one (.c (.int .i64 r))), (3, .one (.c (.int .i64 q))), (10, .one (.c (.sl [.int .i64, .int .i64, .int .i64, .int .i64, .sl [.int .i64, .int .i64, .int .i64], .int .i64, .bool, .bool] n2 ρ2))), (11, .one (.c (.int .i64 m))), (12, .one (.c (.int .i64 k)))], [] => some (⟨⟨n, ρ⟩, ⟨n2, ρ2⟩, m⟩, ⟨k, r, q⟩)
  | _, _ => none
noncomputable def L34 : Nat → St → Tree (XE × St) := loopH [0, 2, 3, 10, 11, 12] 0 43 get34 inv34 S34 run34 [.ret, .exit 0]
theorem l34 (fn : Func) (c b : Code) (hf : Tryz.prog.funcs[30]? = some fn) (hc : fn.body = some c) (hb : nthLoop c 0 = some b) : LoopOk Tryz.prog b L34 :=
  loopOk_of h30 10 30 0 hf hc hb [0, 2, 3, 10, 11, 12] 0 43 S34 TX34 t34 get34 inv34 (fun c => μS c.l.n) [.ret, .exit 0] (Q := fun (c : C34) y => (∃ i, i < c.l.n ∧ wrgS c.l i = true ∧ y = (.ret, sbS c.l i)) ∨ y = (.exit 0, stJ c.l.n))
    (fun l m c v h => by unfold get34 at h; split at h <;> simp at h; obtain ⟨rfl, rfl⟩ := h; rfl)
    (rounds_of fun c v hv => by
      obtain ⟨l, j, m⟩ := c
      have h := (dec_iff.1 hv).1
      have hj : j = l := h.1
      subst hj
      exact (sq34 j h.2.1 h.2.2).rounds (inv := fun v => inv34 ⟨j, j, m⟩ v = true) fun x => by unfold inv34; rw [dec_iff]; exact ⟨fun h => h.2, fun k => ⟨h, k⟩⟩)
def c35 (l : Ses) (v : VJ) : C35 := ⟨l, v.k, chkS (l.at v.k.toNat)⟩
def w35 (l : Ses) (v : VJ) : VJ := ⟨0, (run35a (c35 l v) ⟨0, v.r, v.q⟩).2.r, (run35a (c35 l v) ⟨0, v.r, v.q⟩).2.q⟩
def S35 (l : Ses) (v : VJ) : St := mkS 76 [(0, .one (.c (.sl siSh l.n l.ρ))), (2, .one (.c (I v.r))), (3, .one (.c (I v.q))), (4, .one (.c (I v.k)))] []
noncomputable def TX35 (l : Ses) (v : VJ) : Tree (XE × VJ) :=
  let x := l.at v.k.toNat
  let c := c35 l v
  let a := run35a c ⟨0, v.r, v.q⟩
  let b := run35b c (w35 l v)
  .br (lt v.k (toInt64 l.n)) (.need (inRange v.k l.n) (.need (dec (fewN x.n)) (.br (chkS x != 0) (.leaf (.ret, ⟨v.k, v.k, chkS x⟩))
    (.need (inv35 c ⟨0, v.r, v.q⟩) (.br (eqXE a.1 .ret) (.leaf (.ret, ⟨v.k, a.2.r, a.2.q⟩)) (.need (eqXE a.1 (.exit 2)) (.need (inv35 c (w35 l v)) (.br (eqXE b.1 .ret) (.leaf (.ret, ⟨v.k, b.2.r, b.2.q⟩)) (.need (eqXE b.1 (.exit 4)) (.leaf (.normal, ⟨IntKind.i64.wrap (v.k + 1), b.2.r, b.2.q⟩))))))))))) (.leaf (.exit 0, v))
theorem t35 (l : Ses) (v : VJ) : ((evCode Tryz.prog H35 (evFn Tryz.prog H35 10) 44 0 1 (loopBody Tryz.prog 44 0) (S35 l v)).bind fun y => gcT [0, 2, 3, 4] 0 y) = (TX35 l v).bind fun y => .leaf (y.1, S35 l y.2) := by kernel_rfl
theorem sq35 (l : Ses) (hn : fewS l) : Sq (TX35 l) (μS l.n) stJ (sbS l) l.n (wrgS l) .ret (.exit 0) where
  out := by simp
  hit := by simp
  meas k hk := by unfold μS stJ; simp only; omega
  round k hk := by
    have hf := hn.2 k hk
    have hn := hn.1
    have hx : ∃ j : Nat, (c35 l (stJ k)).i = j ∧ j < (c35 l (stJ k)).l.n ∧ fewN (c35 l (stJ k)).l.n := ⟨k, rfl, hk, hn⟩
    unfold fewN at hn
    have hw : IntKind.i64.wrap ((k : Int) + 1) = ((k + 1 : Nat) : Int) := by rw [w64_id (by omega) (by omega)]; omega
    have ha : run35a (c35 l (stJ k)) (stJ 0) = bif anyB (fndB l (l.at k)) k then (.ret, sbJ k 8 (firstB (fndB l (l.at k)) k)) else (.exit 2, stJ k) := (sq35a' hx).fin0
    have hb : run35b (c35 l (stJ k)) (stJ 0) = bif anyB (fndD l (l.at k)) k then (.ret, sbJ k 19 (firstB (fndD l (l.at k)) k)) else (.exit 4, stJ k) := (sq35b' hx).fin0
    have hi : inv35 (c35 l (stJ k)) (stJ 0) = true := dec_iff.2 ⟨hx, 0, Nat.zero_le _, rfl⟩
    have ha' : run35a (c35 l (stJ k)) ⟨0, (stJ k).r, (stJ k).q⟩ = bif anyB (fndB l (l.at k)) k then (.ret, sbJ k 8 (firstB (fndB l (l.at k)) k)) else (.exit 2, stJ k) := ha
    refine ⟨fun _ => ⟨inR hk, dec_iff.2 hf, fun h1 => ?_, fun h1 => ⟨hi, fun h2 => ?_, fun h2 => ?_⟩⟩, fun h => ?_⟩
    · obtain ⟨b, e⟩ := wrgS_1 (l := l) (i := k) h1
      show if wrgS l k then _ else _
      rw [b, if_pos rfl]
      show (XE.ret, (⟨k, k, chkS (l.at k)⟩ : VJ)) = (.ret, ⟨k, k, wrgE l k⟩)
      rw [e]
    · cases hB : anyB (fndB l (l.at k)) k
      · rw [ha', hB] at h2; cases h2
      · obtain ⟨b, e⟩ := wrgS_2 (l := l) (i := k) h1 hB
        show if wrgS l k then _ else _
        rw [b, if_pos rfl, ha', hB]
        show (XE.ret, (⟨k, k, 8⟩ : VJ)) = (.ret, ⟨k, k, wrgE l k⟩)
        rw [e]
    · cases hB : anyB (fndB l (l.at k)) k
      · have hw35 : w35 l (stJ k) = stJ 0 := by
          unfold w35
          rw [ha', hB]
          rfl
        show Tree.All _ _
        rw [hw35, ha', hB]
        refine ⟨rfl, hi, fun h3 => ?_, fun h3 => ?_⟩
        · cases hD : anyB (fndD l (l.at k)) k
          · rw [hb, hD] at h3; cases h3
          · obtain ⟨b, e⟩ := wrgS_3 (l := l) (i := k) h1 hB hD
            show if wrgS l k then _ else _
            rw [b, if_pos rfl, hb, hD]
            show (XE.ret, (⟨k, k, 19⟩ : VJ)) = (.ret, ⟨k, k, wrgE l k⟩)
            rw [e]
        · cases hD : anyB (fndD l (l.at k)) k
          · have b := wrgS_0 (l := l) (i := k) h1 hB hD
            refine ⟨by rw [hb, hD]; rfl, ?_⟩
            show if wrgS l k then _ else _
            rw [b, if_neg (by simp), hb, hD]
            show (XE.normal, (⟨IntKind.i64.wrap ((k : Int) + 1), 0, 0⟩ : VJ)) = _
            rw [hw]; rfl
          · rw [hb, hD] at h3; cases h3
      · rw [ha', hB] at h2; cases h2
    · have : lt (k : Int) (toInt64 l.n) = false := h
      rw [ltF hk] at this; cases this
  stop := by
    refine ⟨fun h => ?_, fun _ => rfl⟩
    have : lt (l.n : Int) (toInt64 l.n) = true := h
    rw [ltS] at this; cases this
noncomputable def inv35o (l : Ses) (v : VJ) : Bool := dec (fewS l ∧ ∃ i, i ≤ l.n ∧ v = stJ i)
noncomputable def run35 (l : Ses) (v : VJ) : XE × VJ := fin (TX35 l) (μS l.n) v
def get35 : List (Nat × AV) → Mem → Option (Ses × VJ)
  | [(0, .one (.c (.sl [.int .i64, .int .i64, .int .i64, .int .i64, .sl [.int .i64, .int .i64, .int .i64], .int .i64, .bool, .bool] n ρ))), (2, .one (.c (.int .i64 r))), (3, .one (.c (.int .i64 q))), (4, .one (.c (.int .i64 k)))], [] => some (⟨n, ρ⟩, ⟨k, r, q⟩)
  | _, _ => none
noncomputable def L35 : Nat → St → Tree (XE × St) := loopH [0, 2, 3, 4] 0 76 get35 inv35o S35 run35 [.ret, .exit 0]
theorem l35 (fn : Func) (c b : Code) (hf : Tryz.prog.funcs[44]? = some fn) (hc : fn.body = some c) (hb : nthLoop c 0 = some b) : LoopOk Tryz.prog b L35 :=
  loopOk_of h35 10 44 0 hf hc hb [0, 2, 3, 4] 0 76 S35 TX35 t35 get35 inv35o (fun l => μS l.n) [.ret, .exit 0]
    (fun l m c v h => by unfold get35 at h; split at h <;> simp at h; obtain ⟨rfl, rfl⟩ := h; rfl)
    (rounds_of fun l v hv => by
      have h := (dec_iff.1 hv).1
      exact (sq35 l h).rounds (inv := fun v => inv35o l v = true) fun x => by unfold inv35o; rw [dec_iff]; exact ⟨fun h => h.2, fun k => ⟨h, k⟩⟩)
noncomputable abbrev H36 : Hd := ⟨H30.pc, H30.hc, [((30, 0), L34), ((44, 0), L35)], H30.mc⟩
theorem h36 : HdOk Tryz.prog H36 := (HdOk.lhCons h30 l35).lhCons l34
def ckI (l : Ses) : Int := bif lt 4 (toInt64 l.n) then 0 else bif anyB (wrgS l) l.n then (firstB (wrgS l) l.n : Nat) else 0
def ckE (l : Ses) : Int := bif lt 4 (toInt64 l.n) then 6 else bif anyB (wrgS l) l.n then wrgE l (firstB (wrgS l) l.n) else 0
def two (i e : Int) : AV := .tup [.c (I i), .c (I e)]
def T34 (n : Nat) (iv : Bool) (x : XE × VJ) : Tree AV := .br (lt 4 (toInt64 n)) (.leaf (two 0 6)) (.need iv (.br (eqXE x.1 .ret) (.leaf (two x.2.r x.2.q)) (.need (eqXE x.1 (.exit 0)) (.leaf (two 0 0)))))
theorem T34_all {l : Ses} {iv : Bool} {x : XE × VJ} (h : iv = true) (hx : x = bif anyB (wrgS l) l.n then (.ret, sbS l (firstB (wrgS l) l.n)) else (.exit 0, stJ l.n)) : (T34 l.n iv x).All (fun z => z = two (ckI l) (ckE l)) := by
  subst h
  refine ⟨fun h => ?_, fun h => ⟨rfl, fun h2 => ?_, fun h2 => ?_⟩⟩
  · unfold ckI ckE; rw [h]; rfl
  · cases hb : anyB (wrgS l) l.n
    · rw [hb] at hx; subst hx; cases h2
    · rw [hb] at hx; subst hx
      unfold ckI ckE; rw [h, hb]; rfl
  · cases hb : anyB (wrgS l) l.n
    · rw [hb] at hx; subst hx
      refine ⟨rfl, ?_⟩
      unfold ckI ckE; rw [h, hb]; rfl
    · rw [hb] at hx; subst hx; cases h2
noncomputable def G34 : List A1 → Option (Bool × AV)
  | [.c (.sl [.int .i64, .int .i64, .int .i64, .int .i64, .sl [.int .i64, .int .i64, .int .i64], .int .i64, .bool, .bool] n ρ)] => some (dec (fewS ⟨n, ρ⟩), two (ckI ⟨n, ρ⟩) (ckE ⟨n, ρ⟩))
  | _ => none
theorem p34 : TcOne Tryz.prog 30 (nG G34) := tcOne_of_tree h36 12 30 fun args r h => by
  unfold G34 at h; split at h
  · rename_i n ρ
    obtain ⟨hp, rfl⟩ := Prod.mk.inj (Option.some.inj h)
    have hf := dec_iff.1 hp
    exact ⟨rfl, T34 n (inv34 ⟨⟨n, ρ⟩, ⟨n, ρ⟩, toInt64 n⟩ (stJ 0)) (run34 ⟨⟨n, ρ⟩, ⟨n, ρ⟩, toInt64 n⟩ (stJ 0)), by kernel_rfl, T34_all (l := ⟨n, ρ⟩) (dec_iff.2 ⟨⟨rfl, rfl, hf⟩, 0, Nat.zero_le _, rfl⟩) (show run34 ⟨⟨n, ρ⟩, ⟨n, ρ⟩, toInt64 n⟩ (stJ 0) = _ from (sq34 ⟨n, ρ⟩ rfl hf).fin0)⟩
  · cases h
theorem p35 : TcOne Tryz.prog 44 (nG G34) := tcOne_of_tree h36 12 44 fun args r h => by
  unfold G34 at h; split at h
  · rename_i n ρ
    obtain ⟨hp, rfl⟩ := Prod.mk.inj (Option.some.inj h)
    have hf := dec_iff.1 hp
    exact ⟨rfl, T34 n (inv35o ⟨n, ρ⟩ (stJ 0)) (run35 ⟨n, ρ⟩ (stJ 0)), by kernel_rfl, T34_all (l := ⟨n, ρ⟩) (dec_iff.2 ⟨hf, 0, Nat.zero_le _, rfl⟩) (show run35 ⟨n, ρ⟩ (stJ 0) = _ from (sq35 ⟨n, ρ⟩ hf).fin0)⟩
  · cases h
noncomputable abbrev H37 : Hd := ⟨(30, nG G34) :: (44, nG G34) :: H15.pc, H15.hc, [], H15.mc⟩
theorem h37 : HdOk Tryz.prog H37 := (h15.tcCons p35).tcCons p34
structure SpOk (p x : Sp) : Prop where
  f : x.f = p.t + 1
  ft : x.f ≤ x.t
  t : x.t ≤ 1073741824
  e1 : 1 ≤ x.e
  e2 : x.e ≤ 1073741824
  ee : p.e < x.e
  p0 : 0 ≤ p.t
theorem corr_iff {l : Ln} : corr l = true ↔ ∀ i, i < l.n → badC l i = false := by
  unfold corr
  rw [Bool.not_eq_true', ← Bool.not_eq_true, anyB_iff]
  constructor
  · intro h i hi
    rw [← Bool.not_eq_true]
    exact fun hb => h ⟨i, hi, hb⟩
  · rintro h ⟨i, hi, hb⟩
    rw [h i hi] at hb; cases hb
theorem bad_of {p x : Sp} (h : SpOk p x) : badS p x = false := by
  unfold badS
  simp only [Bool.or_eq_false_iff, Bool.not_eq_false', Bool.and_eq_true, le_iff, bne_eq_false_iff_eq]
  rw [w64_id (by have := h.p0; omega) (by have := h.f; have := h.ft; have := h.t; omega)]
  refine ⟨⟨⟨⟨h.f, ?_⟩, ?_⟩, h.e1, h.e2⟩, ?_⟩
  · rw [← Bool.not_eq_true, lt_iff]; have := h.ft; omega
  · rw [← Bool.not_eq_true, lt_iff]; have := h.t; omega
  · rw [← Bool.not_eq_true, le_iff]; have := h.ee; omega
theorem corr_of {l : Ln} (h : ∀ i, i < l.n → SpOk (prv l.ρ i) (spn l.ρ i)) : corr l = true := corr_iff.2 fun i hi => bad_of (h i hi)
theorem upds1_at (ρ : Val) (k i : Nat) (x : CV) : (ρ.upds k 2 [x]).at i = if i = k then .byFst fun g => pickV (Nat.beq g 2) (.ofC x) ((ρ.at i).at g) else ρ.at i := by
  show (Val.upd ρ k 2 x).at i = _
  unfold Val.upd
  rw [byFst_at]
  by_cases h : i = k
  · subst h
    rw [if_pos rfl]
    have : Nat.beq i i = true := Nat.beq_refl i
    rw [this]; rfl
  · rw [if_neg h]
    have : Nat.beq i k = false := by rw [beq_nat]; simpa using h
    rw [this]; rfl
theorem spn_upds (ρ : Val) (k i : Nat) (y : Int) : spn (ρ.upds k 2 [I y]) i = if i = k then { spn ρ i with t := y } else spn ρ i := by
  unfold spn
  rw [upds1_at]
  by_cases h : i = k
  · rw [if_pos h, if_pos h]
    rfl
  · rw [if_neg h, if_neg h]
theorem cat_at (n : Nat) (a b : Val) (i : Nat) : (Val.cat n a b).at i = if i < n then a.at i else b.at (i - n) := by
  unfold Val.cat
  rw [byFst_at]
  by_cases h : i < n
  · have : Nat.blt i n = true := by simpa using h
    rw [if_pos h, this]; rfl
  · have : Nat.blt i n = false := by rw [← Bool.not_eq_true]; simpa using h
    rw [if_neg h, this]; rfl
theorem spn_cat (n : Nat) (a b : Val) (i : Nat) : spn (Val.cat n a b) i = if i < n then spn a i else spn b (i - n) := by
  unfold spn
  rw [cat_at]
  split <;> rfl
def lastI (n : Nat) : Nat := (IntKind.i64.wrap (toInt64 n - 1)).toNat
theorem lastR {n : Nat} (hn : fewN n) (h0 : 0 < n) : inRange (IntKind.i64.wrap (toInt64 n - 1)) n = true := by
  unfold fewN at hn
  have e : IntKind.i64.wrap (toInt64 n - 1) = ((n - 1 : Nat) : Int) := by
    show IntKind.i64.wrap ((n : Int) - 1) = _
    rw [w64_id (by omega) (by omega)]; omega
  rw [e]
  exact inR (by omega)
def extL (l : Ln) (ep behind nu : Int) : Ln := bif lt 0 (toInt64 l.n) && (spn l.ρ (lastI l.n)).e == ep then ⟨l.n, l.ρ.upds (lastI l.n) 2 [I nu]⟩ else ⟨l.n + 1, Val.cat l.n l.ρ (Val.ofFlat 3 [I ep, I (IntKind.i64.wrap (behind + 1)), I nu])⟩
theorem pos_iff {n : Nat} : lt 0 (toInt64 n) = true ↔ 0 < n := by
  rw [lt_iff]
  show (0 : Int) < (n : Int) ↔ _
  omega
def Sit.ln (x : Sit) : Ln := ⟨x.n, x.ρ⟩
def Sit.with (x : Sit) (l : Ln) : Sit := { x with n := l.n, ρ := l.ρ }
def app (x : Sit) (ep nu : Int) : Sit := { x.with (extL x.ln ep x.p nu) with e := ep, p := nu }
def appE (x : Sit) (ep nu : Int) : Int := chain (chkS x) [(x.r == 1 || x.r == 2, 18), ((le x.e ep && ep != 0) && (x.r != 1 || ep == x.e), 13), (le (imax ep nu) 1073741824, 2), (lt x.p nu, 8)]
noncomputable def Gapp : List A1 → Option (Bool × AV)
  | [.agg [.int .i64 a, .int .i64 r, .int .i64 e, .int .i64 p, .sl [.int .i64, .int .i64, .int .i64] n ρ, .int .i64 s, .bool l, .bool c], .c (.int .i64 ep), .c (.int .i64 nu)] => some (dec (small n), okOr (appE ⟨a, r, e, p, n, ρ, s, l, c⟩ ep nu) (app ⟨a, r, e, p, n, ρ, s, l, c⟩ ep nu))
  | _ => none
theorem small_app {n : Nat} (h : small n) : Nat.ble (((n + 1).mul 23).add n) 140737488355327 = true := Nat.ble_eq_true_of_le (by
  unfold small at h
  show (n + 1) * 23 + n ≤ _
  omega)
theorem u20 : UcOne Tryz.prog 122 (nG Gapp) := ucOne_of_tree h15 12 122 fun args r h => by
  unfold Gapp at h; split at h
  · rename_i a ro e p n ρ s l c ep nu
    obtain ⟨hp, rfl⟩ := Prod.mk.inj (Option.some.inj h)
    have hp := dec_iff.1 hp
    let x : Sit := ⟨a, ro, e, p, n, ρ, s, l, c⟩
    refine ⟨.need (Nat.ble ((0 + n) * 24) 140737488355328) (.need (dec (fewN n)) (.br (appE x ep nu == 0)
      (.need (!((lt 0 (toInt64 n) == true) && true) || inRange (IntKind.i64.wrap (toInt64 n - 1)) n) (.br (lt 0 (toInt64 n) && (spn ρ (lastI n)).e == ep)
        (.need (inRange (IntKind.i64.wrap (toInt64 n - 1)) n) (.br (appE x ep nu != 0) (.leaf (Zr (appE x ep nu))) (.leaf (Sok ⟨a, ro, ep, nu, n, ρ.upds (lastI n) 2 [I nu], s, l, c⟩))))
        (.need (Nat.ble (((n + 1).mul 23).add n) 140737488355327) (.br (appE x ep nu != 0) (.leaf (Zr (appE x ep nu))) (.leaf (Sok ⟨a, ro, ep, nu, n + 1, Val.cat n ρ (Val.ofFlat 3 [I ep, I (IntKind.i64.wrap (p + 1)), I nu]), s, l, c⟩))))))
      (.br (appE x ep nu != 0) (.leaf (Zr (appE x ep nu))) (.leaf (Sok x))))), by kernel_rfl, small_ble hp, small_few hp, fun h0 => ⟨?_, fun h1 => ⟨?_, fun h2 => ?_, fun h2 => ?_⟩, fun h1 => ⟨small_app hp, fun h2 => ?_, fun h2 => ?_⟩⟩, fun h0 => ⟨fun h2 => le_Zr rfl h0, fun h2 => ?_⟩⟩
    · cases hn : lt 0 (toInt64 n)
      · rfl
      · rw [lastR (dec_iff.1 (small_few hp)) (pos_iff.1 hn), Bool.or_true]
    · rw [Bool.and_eq_true] at h1
      exact lastR (dec_iff.1 (small_few hp)) (pos_iff.1 h1.1)
    · exact le_Zr rfl (by simpa [bne] using h2)
    · refine le_Sok h0 ?_
      unfold app extL Sit.with Sit.ln
      simp only [h1, cond_true]
    · exact le_Zr rfl (by simpa [bne] using h2)
    · refine le_Sok h0 ?_
      unfold app extL Sit.with Sit.ln
      simp only [h1, cond_false]
    · simp [bne, h0] at h2
  · cases h
theorem imax_le (a b m : Int) : le (imax a b) m = (le a m && le b m) := by
  unfold imax
  cases h : lt a b
  · rw [← Bool.not_eq_true, lt_iff] at h
    rw [Bool.eq_iff_iff, Bool.and_eq_true]
    simp only [cond_false, le_iff]
    omega
  · rw [lt_iff] at h
    rw [Bool.eq_iff_iff, Bool.and_eq_true]
    simp only [cond_true, le_iff]
    omega
end Go.Proofs.YtennlgngdjegoaaGreat
