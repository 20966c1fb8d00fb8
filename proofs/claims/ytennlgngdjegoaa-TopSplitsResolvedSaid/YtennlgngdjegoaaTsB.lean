/-
  A pair of sites that is split: Diverged where nothing has diverged; Rejoin and Synced of a site that was fenced.
-/
import Derived.Test.YtennlgngdjegoaaTsA
import Derived.Test.YtennlgngdjegoaaFoD
namespace Go.Proofs.Ytennlgngdjegoaa
open Go Go.Sx Go.RowKit Classical

set_option maxRecDepth 100000
set_option maxHeartbeats 4000000

namespace Ts
open Fo (cs okT okT_0 lhsOf lhs_ok)

noncomputable abbrev HDa : Hd := ⟨HA.pc, HA.hc, lhsOf Try.prog Ts.HA 4 [(37, 0), (86, 1)], HA.mc⟩
theorem hDa : HdOk Try.prog HDa := lhs_ok hA hA 4 _
noncomputable abbrev HDb : Hd := ⟨HA.pc, HA.hc, lhsOf Try.prog HDa 4 [(37, 0), (86, 0), (86, 1)], HA.mc⟩
theorem hDb : HdOk Try.prog HDb := lhs_ok hA hDa 4 _

def rgt (l : Ln) : Bool := toInt64 l.n == 0 || lt 0 (anc l l).c
def frk (a b : Ln) : Bool := lt (anc a b).c (anc a a).c && lt (anc a b).c (anc b b).c
theorem tDiv (V : Val) : (hcTree Try.prog HDb 10 15 [.c (.sl siSh 2 V)]).follow [false, true, false, true, false, false, false, true, true, false, false, false, false, false, true, false, false] =
    let x0 := Ses.at ⟨2, V⟩ 0
    let x1 := Ses.at ⟨2, V⟩ 1
    some ([(false, false), (true, true), (true, true), (dec (fewN x0.n), true), (chkS x0 != 0, false), (true, true), (true, true), (dec (fewN x1.n), true), (chkS x1 != 0, false), (false, false), (false, false), (true, true), (true, true), (true, true), (true, true),
      (x0.r == 4 || x1.r == 4, false), (dec (fewN x0.n ∧ fewN x0.n), true), (dec (fewN x1.n ∧ fewN x1.n), true), (!rgt x0.ln || !rgt x1.ln, false), (dec (fewN x0.n ∧ fewN x1.n), true), (frk x0.ln x1.ln || (x0.r == 1 && x1.r == 1 && x0.e == x1.e), false),
      (false, false), (false, false), (true, true), (false, false), (false, false)], .tup [.c .nils, .c (I 0)]) := by kernel_rfl

/-- two sites that have not diverged -/
structure Con (l : Ses) : Prop where
  n : l.n = 2
  f0 : fewN (l.at 0).n
  f1 : fewN (l.at 1).n
  c0 : chkS (l.at 0) = 0
  c1 : chkS (l.at 1) = 0
  r0 : (l.at 0).r ≠ 4
  r1 : (l.at 1).r ≠ 4
  g0 : rgt (l.at 0).ln = true
  g1 : rgt (l.at 1).ln = true
  fk : frk (l.at 0).ln (l.at 1).ln = false
  pr : (l.at 0).r ≠ 1 ∨ (l.at 1).r ≠ 1

noncomputable def Gdiv : List A1 → Option (Bool × AV)
  | [.c (.sl [.int .i64, .int .i64, .int .i64, .int .i64, .sl [.int .i64, .int .i64, .int .i64], .int .i64, .bool, .bool] n ρ)] => some (dec (Con ⟨n, ρ⟩), .tup [.c .nils, .c (I 0)])
  | _ => none
theorem uDiv : UcOne Try.prog 15 (nG Gdiv) := ucOne_of_follow hDb 10 15 fun args r h => by
  unfold Gdiv at h; split at h
  · rename_i n ρ
    obtain ⟨hp, rfl⟩ := Prod.mk.inj (Option.some.inj h)
    have hc := dec_iff.1 hp
    have hn : n = 2 := hc.n
    subst hn
    refine ⟨_, _, _, tDiv ρ, ?_, leA.refl⟩
    have e0 : (Ses.at ⟨2, ρ⟩ 0).r ≠ 4 := hc.r0
    have e1 : (Ses.at ⟨2, ρ⟩ 1).r ≠ 4 := hc.r1
    have h4 : ((Ses.at ⟨2, ρ⟩ 0).r == 4 || (Ses.at ⟨2, ρ⟩ 1).r == 4) = false := by
      rw [Bool.or_eq_false_iff, beq_eq_false_iff_ne, beq_eq_false_iff_ne]; exact ⟨e0, e1⟩
    have h1 : ((Ses.at ⟨2, ρ⟩ 0).r == 1 && (Ses.at ⟨2, ρ⟩ 1).r == 1) = false := by
      rw [← Bool.not_eq_true, Bool.and_eq_true, beq_iff_eq, beq_iff_eq]
      rintro ⟨a, b⟩
      rcases hc.pr with h | h
      · exact h a
      · exact h b
    have d0 : dec (fewN (Ses.at ⟨2, ρ⟩ 0).n) = true := dec_iff.2 hc.f0
    have d1 : dec (fewN (Ses.at ⟨2, ρ⟩ 1).n) = true := dec_iff.2 hc.f1
    have d00 : dec (fewN (Ses.at ⟨2, ρ⟩ 0).n ∧ fewN (Ses.at ⟨2, ρ⟩ 0).n) = true := dec_iff.2 ⟨hc.f0, hc.f0⟩
    have d11 : dec (fewN (Ses.at ⟨2, ρ⟩ 1).n ∧ fewN (Ses.at ⟨2, ρ⟩ 1).n) = true := dec_iff.2 ⟨hc.f1, hc.f1⟩
    have d01 : dec (fewN (Ses.at ⟨2, ρ⟩ 0).n ∧ fewN (Ses.at ⟨2, ρ⟩ 1).n) = true := dec_iff.2 ⟨hc.f0, hc.f1⟩
    have c0 := hc.c0
    have c1 := hc.c1
    have g0 := hc.g0
    have g1 := hc.g1
    have fk := hc.fk
    unfold okB
    simp only [List.all_cons, List.all_nil, d0, d1, d00, d11, d01, c0, c1, g0, g1, fk, h4, h1]
    rfl
  · cases h

end Ts
end Go.Proofs.Ytennlgngdjegoaa
/-
  A pair of sites that is split: what the law stands on.
-/
namespace Go.Proofs.Ytennlgngdjegoaa
open Go Go.Sx Go.RowKit Classical

set_option maxRecDepth 100000
set_option maxHeartbeats 4000000

namespace Ts
open Fo (cs okT okT_0 lhsOf lhs_ok)

theorem ucImp {P : Program} {f : Nat} {G G' : List A1 → Tree AV} (h : UcOne P f G) (hw : ∀ args r, (G' args).sel = some r → (G args).sel = some r) : UcOne P f G' := fun args r hr hc F w vs ha => h args r (hw args r hr) hc F w vs ha

/-- a fenced site rejoins -/
noncomputable def GrejF : List A1 → Option (Bool × AV)
  | [.agg [.int .i64 a, .int .i64 r, .int .i64 e, .int .i64 p, .sl [.int .i64, .int .i64, .int .i64] n ρ, .int .i64 s, .bool l, .bool c], .c (.int .i64 ep), .c (.int .i64 src)] =>
    some (dec (small n ∧ r = 5 ∧ rejE ⟨a, r, e, p, n, ρ, s, l, c⟩ ep src = 0), .tup [.agg [I a, I 4, I ep, I p, .sl spSh n ρ, I src, .bool l, .bool c], .c (I 0)])
  | _ => none
theorem uRejF : UcOne Try.prog 13 (nG GrejF) := ucImp u26 fun args r hr => by
  have h := nG_sel hr
  unfold GrejF at h; split at h
  · rename_i a ro e p n ρ s l c ep src
    obtain ⟨hp, rfl⟩ := Prod.mk.inj (Option.some.inj h)
    obtain ⟨h1, rfl, h3⟩ := dec_iff.1 hp
    unfold nG Grej
    simp only [Tree.sel, dec_iff.2 h1, cond_true, h3]
    rfl
  · cases h
/-- it is synced -/
noncomputable def GsynF (Y : Sit → Int → Ln) : List A1 → Option (Bool × AV)
  | [.agg [.int .i64 a, .int .i64 r, .int .i64 e, .int .i64 p, .sl [.int .i64, .int .i64, .int .i64] n ρ, .int .i64 s, .bool l, .bool c], .c (.int .i64 nu)] =>
    some (dec (small n ∧ synE ⟨a, r, e, p, n, ρ, s, l, c⟩ nu = 0), .tup [.agg [I a, I 2, I e, I nu, .sl spSh (Y ⟨a, r, e, p, n, ρ, s, l, c⟩ nu).n (Y ⟨a, r, e, p, n, ρ, s, l, c⟩ nu).ρ, I s, .bool l, .bool c], .c (I 0)])
  | _ => none
def Y0 (x : Sit) (nu : Int) : Ln := (syn x nu).ln
theorem uSynF : UcOne Try.prog 14 (nG (GsynF Y0)) := ucImp u18 fun args r hr => by
  have h := nG_sel hr
  unfold GsynF at h; split at h
  · rename_i a ro e p n ρ s l c nu
    obtain ⟨hp, rfl⟩ := Prod.mk.inj (Option.some.inj h)
    obtain ⟨h1, h3⟩ := dec_iff.1 hp
    unfold nG Gsyn
    simp only [Tree.sel, dec_iff.2 h1, cond_true, h3]
    rfl
  · cases h

/-- the split pair's row -/
noncomputable def VW (W : Int → Int → Val) (n m o q : Int) : Val := twoV (itA 1 (Ses.at ⟨2, W n m⟩ 0) o.toNat) (itA 2 (y1 (Ses.at ⟨2, W n m⟩ 1)) q.toNat)
noncomputable def V0 (n m o q : Int) : Val := VW W0 n m o q
/-- the split pair's row as a variable; when it is right -/
noncomputable def GsplV (V : Val) : List A1 → Tree (AV × Mem)
  | [.c (.int .i64 n), .c (.int .i64 m), .c (.int .i64 o), .c (.int .i64 q)] => .need (dec (((0 ≤ n ∧ n ≤ 7) ∧ (0 ≤ m ∧ m ≤ n) ∧ (0 ≤ o ∧ o ≤ 4) ∧ (1 ≤ q ∧ q ≤ 5)) ∧ V = V0 n m o q)) (.leaf (.tup [.c (.os 0 8), .c (.bool true)], [some (32, [.row false siSh 2 V])]))
  | _ => .fail
noncomputable abbrev HL (Y : Sit → Int → Ln) (V : Val) : Hd := ⟨(12, oG Gtr) :: HA.pc, (15, nG Gdiv) :: (13, nG GrejF) :: (14, nG (GsynF Y)) :: HA.hc, lhsOf Try.prog Ts.HA 4 [(37, 0), (10, 0), (11, 0)], (9, ncG (GsplV V)) :: HA.mc⟩

end Ts
end Go.Proofs.Ytennlgngdjegoaa
/-
  A pair of sites that is split: what the two sites are.
-/
namespace Go.Proofs.Ytennlgngdjegoaa
open Go Go.Sx Go.RowKit Classical

set_option maxRecDepth 100000

namespace Ts
open Fo (cs okT okT_0 SiteOk chk_of_ok)

theorem a0_ok : SitOk a0 0 1 1 0 (-1) := ⟨rfl, rfl, rfl, rfl, ⟨rfl, fun h => by omega⟩, rfl, rfl, rfl⟩
theorem b0_ok : SitOk b0 1 2 1 0 0 := ⟨rfl, rfl, rfl, rfl, ⟨rfl, fun h => by omega⟩, rfl, rfl, rfl⟩

theorem w_nat {k : Nat} (h : k ≤ 100000) : IntKind.i64.wrap ((k : Int) + 1) = (k : Int) + 1 := w64_id (by omega) (by omega)

theorem itB_sit {x : Sit} {a r s : Int} (h : SitOk x a r 1 0 s) (ha : a = 0 ∨ a = 1) (hr : r = 1 ∧ s = -1 ∨ r = 2 ∧ s = 1 - a) : ∀ k : Nat, k ≤ 1000 → SitOk (itB x k) a r 1 (k : Int) s
  | 0, _ => h
  | k + 1, hk => by
    have h1 := itB_sit h ha hr k (by omega)
    have h2 := (h1.app (h1.chk ha hr (by omega) (by omega)) (by omega) (by omega)).2
    exact h2
theorem itB_ok {x : Sit} {a r s : Int} (h : SitOk x a r 1 0 s) (ha : a = 0 ∨ a = 1) (hr : r = 1 ∧ s = -1 ∨ r = 2 ∧ s = 1 - a) {n : Nat} (hn : n ≤ 1000) : okB' x n := fun k hk => by
  have h1 := itB_sit h ha hr k (by omega)
  exact ⟨h1.lin.sml, (h1.app (h1.chk ha hr (by omega) (by omega)) (by omega) (by omega)).1⟩

theorem la_good {n m : Int} (hn : 0 ≤ n ∧ n ≤ 7) (hm : 0 ≤ m ∧ m ≤ n) : La.good ⟨n, m, a0, b0⟩ :=
  ⟨⟨hn.1, by show n ≤ 1000; omega⟩, hm, itB_ok a0_ok (.inl rfl) (.inl ⟨rfl, rfl⟩) (by show n.toNat ≤ 1000; omega), itB_ok b0_ok (.inr rfl) (.inr ⟨rfl, rfl⟩) (by show m.toNat ≤ 1000; omega)⟩

/-- the old primary goes on -/
theorem itA1_sit {x : Sit} {c : Int} (h : SitOk x 0 1 1 c (-1)) (hc : 0 ≤ c ∧ c ≤ 1000) : ∀ k : Nat, k ≤ 1000 → SitOk (itA 1 x k) 0 1 1 (c + k) (-1)
  | 0, _ => by
    have : c + ((0 : Nat) : Int) = c := by omega
    rw [this]; exact h
  | k + 1, hk => by
    have h1 := itA1_sit h hc k (by omega)
    have h2 := (h1.app (h1.chk (.inl rfl) (.inl ⟨rfl, rfl⟩) (by omega) (by omega)) (by omega) (by omega)).2
    have e : IntKind.i64.wrap ((itA 1 x k).p + 1) = c + k + 1 := by rw [h1.p]; exact w64_id (by omega) (by omega)
    show SitOk (app (itA 1 x k) 1 (IntKind.i64.wrap ((itA 1 x k).p + 1))) _ _ _ _ _
    rw [e]
    have e2 : c + ((k + 1 : Nat) : Int) = c + k + 1 := by omega
    rw [e2]; exact h2
theorem itA1_ok {x : Sit} {c : Int} (h : SitOk x 0 1 1 c (-1)) (hc : 0 ≤ c ∧ c ≤ 1000) {n : Nat} (hn : n ≤ 1000) : okA 1 x n := fun k hk => by
  have h1 := itA1_sit h hc k (by omega)
  have e : IntKind.i64.wrap ((itA 1 x k).p + 1) = c + k + 1 := by rw [h1.p]; exact w64_id (by omega) (by omega)
  rw [e]
  exact ⟨h1.lin.sml, (h1.app (h1.chk (.inl rfl) (.inl ⟨rfl, rfl⟩) (by omega) (by omega)) (by omega) (by omega)).1⟩

/-- the cycles 1 to m of epoch 1 and, behind them, those to p of epoch 2 -/
structure LinB (l : Ln) (m p : Int) : Prop where
  less : m < p
  m0 : 0 < m → l.n = 2 ∧ spn l.ρ 0 = ⟨1, 1, m⟩ ∧ spn l.ρ 1 = ⟨2, m + 1, p⟩
  z0 : ¬ 0 < m → l.n = 1 ∧ spn l.ρ 0 = ⟨2, 1, p⟩

theorem LinB.sml {l : Ln} {m p : Int} (h : LinB l m p) : small l.n := by
  unfold small
  by_cases hm : 0 < m
  · rw [(h.m0 hm).1]; omega
  · rw [(h.z0 hm).1]; omega

theorem LinB.corr {l : Ln} {m p : Int} (h : LinB l m p) (hm0 : 0 ≤ m) (hp : p ≤ 1073741824) : Proofs.Ytennlgngdjegoaa.corr l = true := by
  have hlt := h.less
  refine corr_of fun i hi => ?_
  by_cases hm : 0 < m
  · obtain ⟨h1, h2, h3⟩ := h.m0 hm
    rw [h1] at hi
    have : i = 0 ∨ i = 1 := by omega
    rcases this with rfl | rfl
    · rw [h2]
      exact ⟨rfl, by simp only; omega, by simp only; omega, by simp only; omega, by simp only; omega, by simp only [prv]; omega, by simp [prv]⟩
    · rw [h3]
      show SpOk (spn l.ρ 0) _
      rw [h2]
      exact ⟨rfl, by simp only; omega, by simp only; omega, by simp only; omega, by simp only; omega, by simp only; omega, by simp only; omega⟩
  · obtain ⟨h1, h2⟩ := h.z0 hm
    rw [h1] at hi
    obtain rfl : i = 0 := by omega
    rw [h2]
    exact ⟨rfl, by simp only; omega, by simp only; omega, by simp only; omega, by simp only; omega, by simp only [prv]; omega, by simp [prv]⟩

theorem LinB.hd {l : Ln} {m p : Int} (h : LinB l m p) : (hd l).t = p ∧ (hd l).e = 2 := by
  unfold Proofs.Ytennlgngdjegoaa.hd
  by_cases hm : 0 < m
  · obtain ⟨h1, h2, h3⟩ := h.m0 hm
    rw [h1]
    show (spn l.ρ 1).t = p ∧ (spn l.ρ 1).e = 2
    rw [h3]; exact ⟨rfl, rfl⟩
  · obtain ⟨h1, h2⟩ := h.z0 hm
    rw [h1]
    show (spn l.ρ 0).t = p ∧ (spn l.ρ 0).e = 2
    rw [h2]; exact ⟨rfl, rfl⟩

/-- the new primary -/
structure NewOk (x : Sit) (m p : Int) : Prop where
  a : x.a = 1
  r : x.r = 1
  e : x.e = 2
  lin : LinB x.ln m p
  p : x.p = p
  s : x.s = -1
  l : x.l = true
  c : x.c = true

theorem NewOk.site {x : Sit} {m p : Int} (h : NewOk x m p) (hm : 0 ≤ m) (hp : p ≤ 1000) : SiteOk x := by
  obtain ⟨t, e⟩ := h.lin.hd
  have hlt := h.lin.less
  refine ⟨h.lin.corr hm (by omega), by rw [t, h.p], by rw [e, h.e]; omega, by rw [h.e]; omega, by rw [h.e]; omega, by rw [h.p]; omega, by rw [h.p]; omega, by rw [h.a]; rfl, by rw [h.r]; omega, by rw [h.r]; omega, fun hh => ?_, fun hh => ?_, fun _ => h.s⟩
  · rw [h.e] at hh; omega
  · rw [h.r] at hh; cases hh

theorem appE2 {x : Sit} (h : SiteOk x) (hr : x.r = 1) (he : x.e = 2) {nu : Int} (hlt : x.p < nu) (hle : nu ≤ 1073741824) : appE x 2 nu = 0 := by
  unfold appE
  rw [chk_of_ok h, hr, he]
  refine chain_all fun q hq => ?_
  simp only [List.mem_cons, List.not_mem_nil, or_false] at hq
  rcases hq with rfl | rfl | rfl | rfl
  · rfl
  · rfl
  · rw [imax_le, Bool.and_eq_true, le_iff, le_iff]; omega
  · rw [lt_iff]; exact hlt

/-- the secondary that takes over -/
theorem y1_ok {x : Sit} {m : Int} (h : SitOk x 1 2 1 m 0) (hm : 0 ≤ m ∧ m ≤ 7) : isoE x = 0 ∧ z1 x = iso x ∧ proE (iso x) 2 = 0 ∧ y1 x = pro (iso x) 2 ∧ SiteOk (y1 x) := by
  have hk := h.chk (.inr rfl) (.inr ⟨rfl, rfl⟩) (by omega) (by omega)
  have h1 : isoE x = 0 := by
    unfold isoE
    rw [hk, h.r]; rfl
  have hz : z1 x = iso x := by unfold z1; rw [h1, okT_0]
  have hz2 := (Fo.iso_ok h1).1
  have h2 : proE (iso x) 2 = 0 := by
    unfold proE
    rw [chk_of_ok hz2]
    refine chain_all fun q hq => ?_
    simp only [List.mem_cons, List.not_mem_nil, or_false] at hq
    rcases hq with rfl | rfl | rfl | rfl
    · exact h.l
    · show ((((3 : Int) == 0) && (toInt64 x.n == 0)) || ((3 : Int) == 2) || ((3 : Int) == 3)) = true
      simp
    · show lt x.e 2 = true
      rw [h.e]; rfl
    · rfl
  have hy : y1 x = pro (iso x) 2 := by unfold y1; rw [hz, h2, okT_0]
  exact ⟨h1, hz, h2, hy, by rw [hy]; exact (Fo.pro_ok h2).1⟩

theorem LinB.ext {l : Ln} {m p : Int} (h : LinB l m p) (hm0 : 0 ≤ m) (b : Int) : LinB (extL l 2 b (p + 1)) m (p + 1) := by
  have hlt := h.less
  unfold extL
  by_cases hm : 0 < m
  · obtain ⟨h1, h2, h3⟩ := h.m0 hm
    have e1 : lt 0 (toInt64 l.n) = true := pos_iff.2 (by omega)
    have e2 : lastI l.n = 1 := by rw [h1]; rfl
    rw [e1, e2, h3]
    show LinB ⟨l.n, l.ρ.upds 1 2 [I (p + 1)]⟩ m (p + 1)
    refine ⟨by omega, fun _ => ⟨h1, ?_, ?_⟩, fun h => (h hm).elim⟩
    · rw [spn_upds, if_neg (by omega), h2]
    · rw [spn_upds, if_pos rfl, h3]
  · obtain ⟨h1, h2⟩ := h.z0 hm
    have e1 : lt 0 (toInt64 l.n) = true := pos_iff.2 (by omega)
    have e2 : lastI l.n = 0 := by rw [h1]; rfl
    rw [e1, e2, h2]
    show LinB ⟨l.n, l.ρ.upds 0 2 [I (p + 1)]⟩ m (p + 1)
    refine ⟨by omega, fun h => (hm h).elim, fun _ => ⟨h1, ?_⟩⟩
    rw [spn_upds, if_pos rfl, h2]

theorem lin_ext2 {n : Nat} {ρ : Val} {m : Int} (h : LinOk n ρ m) (hm0 : 0 ≤ m ∧ m ≤ 1000) : LinB (extL ⟨n, ρ⟩ 2 m (m + 1)) m (m + 1) := by
  have hw : IntKind.i64.wrap (m + 1) = m + 1 := w64_id (by omega) (by omega)
  unfold extL
  simp only
  by_cases hm : 0 < m
  · have hn : n = 1 := by rw [h.n, spN_pos hm]
    have hs := h.sp hm
    have e1 : lt 0 (toInt64 n) = true := pos_iff.2 (by omega)
    have e2 : lastI n = 0 := by rw [hn]; rfl
    rw [e1, e2, hs]
    show LinB ⟨n + 1, Val.cat n ρ (Val.ofFlat 3 [I 2, I (IntKind.i64.wrap (m + 1)), I (m + 1)])⟩ m (m + 1)
    refine ⟨by omega, fun _ => ⟨by show n + 1 = 2; omega, ?_, ?_⟩, fun h => (h hm).elim⟩
    · rw [spn_cat, if_pos (by omega), hs]
    · rw [spn_cat, if_neg (by omega), hn, hw]; rfl
  · have hn : n = 0 := by rw [h.n, spN_zero hm]
    have hz : m = 0 := by omega
    have e1 : lt 0 (toInt64 n) = false := by rw [hn]; rfl
    rw [e1]
    show LinB ⟨n + 1, Val.cat n ρ (Val.ofFlat 3 [I 2, I (IntKind.i64.wrap (m + 1)), I (m + 1)])⟩ m (m + 1)
    refine ⟨by omega, fun h => (hm h).elim, fun _ => ⟨by show n + 1 = 1; omega, ?_⟩⟩
    rw [spn_cat, if_neg (by omega), hn, hw, hz]; rfl

theorem y1_facts {x : Sit} {m : Int} (h : SitOk x 1 2 1 m 0) (hm : 0 ≤ m ∧ m ≤ 7) : (y1 x).a = 1 ∧ (y1 x).r = 1 ∧ (y1 x).e = 2 ∧ (y1 x).p = m ∧ (y1 x).ln = x.ln ∧ (y1 x).s = -1 ∧ (y1 x).l = true ∧ (y1 x).c = true := by
  rw [(y1_ok h hm).2.2.2.1]
  exact ⟨h.a, rfl, rfl, h.p, rfl, rfl, h.l, h.c⟩

theorem itA2_ok {x : Sit} {m : Int} (h : SitOk x 1 2 1 m 0) (hm : 0 ≤ m ∧ m ≤ 7) : ∀ k : Nat, k ≤ 500 → NewOk (itA 2 (y1 x) (k + 1)) m (m + k + 1)
  | 0, _ => by
    obtain ⟨h1, h2, h3, h4, h5, h6, h7, h8⟩ := y1_facts h hm
    have e : IntKind.i64.wrap ((y1 x).p + 1) = m + 1 := by rw [h4]; exact w64_id (by omega) (by omega)
    show NewOk (app (y1 x) 2 (IntKind.i64.wrap ((y1 x).p + 1))) _ _
    rw [e]
    have e0 : m + ((0 : Nat) : Int) + 1 = m + 1 := by omega
    rw [e0]
    refine ⟨h1, h2, rfl, ?_, rfl, h6, h7, h8⟩
    show LinB (extL (y1 x).ln 2 (y1 x).p (m + 1)) m (m + 1)
    rw [h5, h4]
    exact lin_ext2 h.lin (by omega)
  | k + 1, hk => by
    have ih := itA2_ok h hm k (by omega)
    have e : IntKind.i64.wrap ((itA 2 (y1 x) (k + 1)).p + 1) = m + k + 1 + 1 := by rw [ih.p]; exact w64_id (by omega) (by omega)
    show NewOk (app (itA 2 (y1 x) (k + 1)) 2 (IntKind.i64.wrap ((itA 2 (y1 x) (k + 1)).p + 1))) _ _
    rw [e]
    have e0 : m + ((k + 1 : Nat) : Int) + 1 = m + k + 1 + 1 := by omega
    rw [e0]
    exact ⟨ih.a, ih.r, rfl, ih.lin.ext hm.1 _, rfl, ih.s, ih.l, ih.c⟩

theorem itA2_step {x : Sit} {m : Int} (h : SitOk x 1 2 1 m 0) (hm : 0 ≤ m ∧ m ≤ 7) {n : Nat} (hn : n ≤ 500) : okA 2 (y1 x) n := fun k hk => by
  cases k with
  | zero =>
    obtain ⟨h1, h2, h3, h4, h5, h6, h7, h8⟩ := y1_facts h hm
    refine ⟨?_, ?_⟩
    · show small (y1 x).n
      have : (y1 x).n = x.n := congrArg Ln.n h5
      rw [this]; exact h.lin.sml
    · show appE (y1 x) 2 (IntKind.i64.wrap ((y1 x).p + 1)) = 0
      rw [h4, w64_id (by omega) (by omega)]
      exact appE2 (y1_ok h hm).2.2.2.2 h2 h3 (by rw [h4]; omega) (by omega)
  | succ k =>
    have ih := itA2_ok h hm k (by omega)
    refine ⟨ih.lin.sml, ?_⟩
    rw [ih.p, w64_id (by omega) (by omega)]
    exact appE2 (ih.site hm.1 (by omega)) ih.r ih.e (by rw [ih.p]; omega) (by omega)

end Ts
end Go.Proofs.Ytennlgngdjegoaa
/-
  A pair of sites that is split: trySplit as a summary; the ways through the law.
-/
namespace Go.Proofs.Ytennlgngdjegoaa
open Go Go.Sx Go.RowKit Classical

set_option maxRecDepth 100000
set_option maxHeartbeats 4000000

namespace Ts
open Fo (cs okT okT_0 lhsOf lhs_ok SiteOk chk_of_ok)

theorem W_sit {n m : Int} (hn : 0 ≤ n ∧ n ≤ 7) (hm : 0 ≤ m ∧ m ≤ n) : SitOk (Ses.at ⟨2, W0 n m⟩ 0) 0 1 1 n (-1) ∧ SitOk (Ses.at ⟨2, W0 n m⟩ 1) 1 2 1 m 0 := by
  have e : min n.toNat m.toNat = m.toNat := by omega
  have en : ((n.toNat : Nat) : Int) = n := by omega
  have em : ((m.toNat : Nat) : Int) = m := by omega
  have h0 := itB_sit a0_ok (.inl rfl) (.inl ⟨rfl, rfl⟩) n.toNat (by omega)
  have h1 := itB_sit b0_ok (.inr rfl) (.inr ⟨rfl, rfl⟩) (min n.toNat m.toNat) (by omega)
  rw [en] at h0
  rw [e, em] at h1
  refine ⟨h0.same (two_at0 _ _), ?_⟩
  have h2 := h1.same (two_at1 (itB a0 n.toNat) (itB b0 m.toNat))
  have e3 : W0 n m = twoV (itB a0 n.toNat) (itB b0 m.toNat) := by unfold W0; rw [e]
  rw [e3]
  exact h2

noncomputable def splC (W : Int → Int → Val) (n m o q : Int) : List (Bool × Bool) :=
  let x0 := Ses.at ⟨2, W n m⟩ 0
  let x1 := Ses.at ⟨2, W n m⟩ 1
  let y := y1 x1
  let x' := itA 1 x0 o.toNat
  [(dec (La.good ⟨n, m, a0, b0⟩), true), (false, false), (true, true), (dec (small x1.n), true), (isoE x1 == 0, true), (dec (small (z1 x1).n), true), (true, true),
      (dec (Lo.good ⟨o, q, y, x0⟩ ∧ (⟨x0, proE (z1 x1) 2, 0⟩ : Lo.V) = Lo.st ⟨o, q, y, x0⟩ 0), true), (dec (Lw.good ⟨q, x', y⟩ ∧ (⟨y, 0, 0⟩ : Lw.V) = Lw.st ⟨q, x', y⟩ 0), true)]
noncomputable def splM (W : Int → Int → Val) (n m o q : Int) : Mem := [some (32, cs (itA 2 (y1 (Ses.at ⟨2, W n m⟩ 1)) q.toNat)), some (32, cs (itA 1 (Ses.at ⟨2, W n m⟩ 0) o.toNat)), some (32, [.row false siSh 2 (VW W n m o q)])]
theorem tSplW (W : Int → Int → Val) (n m o q : Int) : (evFn Try.prog (HC W) 10 9 [.c (I n), .c (I m), .c (I o), .c (I q)] []).follow [false, true] = some (splC W n m o q, (.tup [.c (.os 2 8), .c (.bool true)], splM W n m o q)) := by kernel_rfl

theorem spl_wk (n m o q : Int) : WkO (.ret (.tup [.c (.os 2 8), .c (.bool true)]), splM W0 n m o q) (.ret (.tup [.c (.os 0 8), .c (.bool true)]), [some (32, [.row false siSh 2 (V0 n m o q)])]) := by
  unfold splM V0
  exact WkO.rowK rfl

theorem spl_ok {n m o q : Int} (hn : 0 ≤ n ∧ n ≤ 7) (hm : 0 ≤ m ∧ m ≤ n) (ho : 0 ≤ o ∧ o ≤ 4) (hq : 1 ≤ q ∧ q ≤ 5) :
    okB (splC W0 n m o q) = true := by
  obtain ⟨s0, s1⟩ := W_sit hn hm
  obtain ⟨t1, t2, t3, t4, t5⟩ := y1_ok s1 (by omega)
  have c1 : dec (La.good ⟨n, m, a0, b0⟩) = true := dec_iff.2 (la_good hn hm)
  have c2 : dec (small (Ses.at ⟨2, W0 n m⟩ 1).n) = true := dec_iff.2 s1.lin.sml
  have c3 : (isoE (Ses.at ⟨2, W0 n m⟩ 1) == 0) = true := by rw [t1]; rfl
  have hp : proE (z1 (Ses.at ⟨2, W0 n m⟩ 1)) 2 = 0 := by rw [t2]; exact t3
  have c4 : dec (small (z1 (Ses.at ⟨2, W0 n m⟩ 1)).n) = true := by rw [t2]; exact c2
  have c5 : dec (Lo.good ⟨o, q, y1 (Ses.at ⟨2, W0 n m⟩ 1), Ses.at ⟨2, W0 n m⟩ 0⟩ ∧ (⟨Ses.at ⟨2, W0 n m⟩ 0, proE (z1 (Ses.at ⟨2, W0 n m⟩ 1)) 2, 0⟩ : Lo.V) = Lo.st ⟨o, q, y1 (Ses.at ⟨2, W0 n m⟩ 1), Ses.at ⟨2, W0 n m⟩ 0⟩ 0) = true := by
    refine dec_iff.2 ⟨⟨⟨ho.1, by show o ≤ 1000; omega⟩, itA1_ok s0 (by omega) (by show o.toNat ≤ 1000; omega)⟩, ?_⟩
    rw [hp]; rfl
  have c6 : dec (Lw.good ⟨q, itA 1 (Ses.at ⟨2, W0 n m⟩ 0) o.toNat, y1 (Ses.at ⟨2, W0 n m⟩ 1)⟩ ∧ (⟨y1 (Ses.at ⟨2, W0 n m⟩ 1), 0, 0⟩ : Lw.V) = Lw.st ⟨q, itA 1 (Ses.at ⟨2, W0 n m⟩ 0) o.toNat, y1 (Ses.at ⟨2, W0 n m⟩ 1)⟩ 0) = true :=
    dec_iff.2 ⟨⟨⟨by show 0 ≤ q; omega, by show q ≤ 1000; omega⟩, itA2_step s1 (by omega) (by show q.toNat ≤ 500; omega)⟩, rfl⟩
  unfold splC
  simp only [okB, List.all_cons, List.all_nil, c1, c2, c3, c4, c5, c6]
  rfl

/-- a function that lays memory of its own, out of one path -/
theorem ncOne_of_follow {P : Program} {H : Hd} (hH : HdOk P H) (n f : Nat) {G : List A1 → Tree (AV × Mem)}
    (h : ∀ args r m, (G args).sel = some (r, m) → ∃ p cs y, (evFn P H n f args []).follow p = some (cs, y) ∧ okB cs = true ∧ WkO (.ret y.1, y.2) (.ret r, m)) : NcOne P f G :=
  ncOne_of_tree hH n f fun args r m hr => by
    obtain ⟨p, cs, y, h1, h2, h3⟩ := h args r m hr
    exact ⟨evFn P H n f args [], rfl, follow_all h1 h2 h3⟩

theorem nSpl (V : Val) : NcOne Try.prog 9 (GsplV V) := ncOne_of_follow hC 10 9 fun args r mm h => by
  unfold GsplV at h; split at h
  · rename_i n m o q
    simp only [Tree.sel] at h
    cases hs : dec (((0 ≤ n ∧ n ≤ 7) ∧ (0 ≤ m ∧ m ≤ n) ∧ (0 ≤ o ∧ o ≤ 4) ∧ (1 ≤ q ∧ q ≤ 5)) ∧ V = V0 n m o q)
    · rw [hs] at h; simp at h
    rw [hs] at h
    simp only [cond_true, Option.some.injEq, Prod.mk.injEq] at h
    obtain ⟨rfl, rfl⟩ := h
    obtain ⟨⟨hn, hm, ho, hq⟩, rfl⟩ := dec_iff.1 hs
    exact ⟨_, _, _, tSplW W0 n m o q, spl_ok hn hm ho hq, spl_wk n m o q⟩
  · simp [Tree.sel] at h

theorem hL (V : Val) : HdOk Try.prog (HL Y0 V) := by
  have h0 : HdOk Try.prog ⟨HA.pc, HA.hc, lhsOf Try.prog Ts.HA 4 [(37, 0), (10, 0), (11, 0)], HA.mc⟩ := lhs_ok hA hA 4 _
  exact ((((h0.mcCons (nSpl V).mc).ucCons uSynF).ucCons uRejF).ucCons uDiv).pcCons pAwk

/-! ### the ways -/

def w64 (x : Int) : Int := IntKind.i64.wrap x
/-- a site that is fenced off -/
def fzS (x b : Sit) : Sit := { x with r := 5, e := imax x.e b.e, s := -1 }
def RA (V : Val) (w : Int) : Val := Val.cat 1 (Val.ofFlat 8 (cs (fzS (Ses.at ⟨2, V⟩ 0) (Ses.at ⟨2, V⟩ w.toNat)))) (Val.ofFlat 8 (cs (Ses.at ⟨2, V⟩ 1)))
def RB (V : Val) (w : Int) : Val := Val.cat 1 (Val.ofFlat 8 (cs (Ses.at ⟨2, V⟩ 0))) (Val.ofFlat 8 (cs (fzS (Ses.at ⟨2, V⟩ 1) (Ses.at ⟨2, V⟩ w.toNat))))

noncomputable def headC (V : Val) (n m o q w : Int) : List (Bool × Bool) :=
  let x0 := Ses.at ⟨2, V⟩ 0
  let x1 := Ses.at ⟨2, V⟩ 1
  let xw := Ses.at ⟨2, V⟩ w.toNat
  [(true, true), (!(w64 (n + 1) == 0), true), (true, true), (true, true), (dec (((0 ≤ n ∧ n ≤ 7) ∧ (0 ≤ m ∧ m ≤ n) ∧ (0 ≤ o ∧ o ≤ 4) ∧ (1 ≤ q ∧ q ≤ 5)) ∧ V = V0 n m o q), true),
   (true, true), (false, false), (true, true), (true, true), (dec (fewN x0.n), true), (chkS x0 != 0, false), (true, true), (true, true), (dec (fewN x1.n), true), (chkS x1 != 0, false), (false, false), (false, false),
   (lt w 0 || le (toInt64 2) w, false), (inRange w 2, true), (xw.r != 1 && xw.r != 2 && xw.r != 3, false)]
def resA (V : Val) (w : Int) : List (Bool × Bool) :=
  let x0 := Ses.at ⟨2, V⟩ 0
  let x1 := Ses.at ⟨2, V⟩ 1
  [(true, true), (true, true), (Nat.ble ((0 + x0.n) * 24) 140737488355328, true), (and' ((0 != w) == true) ((x0.r == 1) == false), false), (0 != w && (x0.r == 1 || false), true), (true, true), (true, true),
   (true, true), (true, true), (Nat.ble ((0 + x1.n) * 24) 140737488355328, true), (and' ((w64 (0 + 1) != w) == true) ((x1.r == 1) == false), false), (w64 (0 + 1) != w && (x1.r == 1 || false), false), (true, true), (false, false), (false, false)]
def resB (V : Val) (w : Int) : List (Bool × Bool) :=
  let x0 := Ses.at ⟨2, V⟩ 0
  let x1 := Ses.at ⟨2, V⟩ 1
  [(true, true), (true, true), (Nat.ble ((0 + x0.n) * 24) 140737488355328, true), (and' ((0 != w) == true) ((x0.r == 1) == false), false), (0 != w && (x0.r == 1 || false), false), (true, true),
   (true, true), (true, true), (Nat.ble ((0 + x1.n) * 24) 140737488355328, true), (and' ((w64 (0 + 1) != w) == true) ((x1.r == 1) == false), false), (w64 (0 + 1) != w && (x1.r == 1 || false), true), (true, true), (true, true), (false, false), (false, false)]
/-- the first part behind Resolve -/
def midC (R : Val) (w k : Int) : List (Bool × Bool) :=
  let u := w64 (1 - w)
  let rw := Ses.at ⟨2, R⟩ w.toNat
  let rl := Ses.at ⟨2, R⟩ u.toNat
  [(inRange w 2, true), (!((rw.r != 1) == false && true) || inRange u 2, true), ((rw.r != 1 || rl.r != 5) == false, true), ((rw.r != 1 || rl.r != 5) == false, true), (false, false), (true, true), (true, true), (true, true),
   ((((Val.ofFlat 1 [I k]).at 0).at 0).N [] != (((Val.ofFlat 1 [I u]).at 0).at 0).N [], false), (false, false), (rw.r != 1 || rl.r != 5 || false, false), (inRange w 2, true)]
def endS (R : Val) (w : Int) : Sit :=
  let u := w64 (1 - w)
  let rw := Ses.at ⟨2, R⟩ w.toNat
  let rl := Ses.at ⟨2, R⟩ u.toNat
  ⟨rl.a, 2, imax (Ses.at ⟨2, R⟩ 0).e (Ses.at ⟨2, R⟩ 1).e, rw.p, rw.n, rw.ρ, w, rl.l, rl.c⟩
noncomputable def endC (R : Val) (w : Int) : List (Bool × Bool) :=
  let u := w64 (1 - w)
  let rw := Ses.at ⟨2, R⟩ w.toNat
  let rl := Ses.at ⟨2, R⟩ u.toNat
  let ep := imax (Ses.at ⟨2, R⟩ 0).e (Ses.at ⟨2, R⟩ 1).e
  [(rw.p == 0, false), (inRange u 2, true), (true, true), (true, true), (dec (small rl.n ∧ rl.r = 5 ∧ rejE rl ep w = 0), true), (false, false), (inRange w 2, true),
   (dec (small rl.n ∧ synE ⟨rl.a, 4, ep, rl.p, rl.n, rl.ρ, w, rl.l, rl.c⟩ rw.p = 0), true), (inRange w 2, true), (inRange u 2, true), (dec (Con (Ses.set ⟨2, R⟩ u.toNat (endS R w))), true)]

theorem pathA (Y : Sit → Int → Ln) (V : Val) (a b x y z : Int) : (evFn Try.prog (HL Y V) 10 3 [.c (.int .u8 a), .c (.int .u8 b), .agg [.int .u8 x, .int .u8 y, .int .u8 z]] []).vals.follow
      [false, true, false, true, false, false, false, false, false, true, false, true, true, false, false, false, false, true, true, false, true, false, false, false, false, false] =
    some (headC V (w64 (a.tmod 8)) ((w64 b).tmod (w64 (w64 (a.tmod 8) + 1))) (w64 (x.tmod 5)) (w64 (1 + w64 (y.tmod 5))) (w64 (z.tmod 2)) ++ (resA V (w64 (z.tmod 2)) ++ (midC (RA V (w64 (z.tmod 2))) (w64 (z.tmod 2)) 0 ++ endC (RA V (w64 (z.tmod 2))) (w64 (z.tmod 2)))), .one (.c (.bool true))) := by kernel_rfl

end Ts
end Go.Proofs.Ytennlgngdjegoaa
/-
  A pair of sites that is split: the way where the old primary wins.
-/
namespace Go.Proofs.Ytennlgngdjegoaa
open Go Go.Sx Go.RowKit Classical

set_option maxRecDepth 100000
set_option maxHeartbeats 4000000

namespace Ts

theorem pathB (Y : Sit → Int → Ln) (V : Val) (a b x y z : Int) : (evFn Try.prog (HL Y V) 10 3 [.c (.int .u8 a), .c (.int .u8 b), .agg [.int .u8 x, .int .u8 y, .int .u8 z]] []).vals.follow
      [false, true, false, true, false, false, false, false, false, true, false, false, true, false, true, false, false, true, true, false, true, false, false, false, false, false] =
    some (headC V (w64 (a.tmod 8)) ((w64 b).tmod (w64 (w64 (a.tmod 8) + 1))) (w64 (x.tmod 5)) (w64 (1 + w64 (y.tmod 5))) (w64 (z.tmod 2)) ++ (resB V (w64 (z.tmod 2)) ++ (midC (RB V (w64 (z.tmod 2))) (w64 (z.tmod 2)) (w64 (0 + 1)) ++ endC (RB V (w64 (z.tmod 2))) (w64 (z.tmod 2)))), .one (.c (.bool true))) := by kernel_rfl

end Ts
end Go.Proofs.Ytennlgngdjegoaa
/-
  A pair of sites that is split: the way where the old primary wins, which has no cycles.
-/
namespace Go.Proofs.Ytennlgngdjegoaa
open Go Go.Sx Go.RowKit Classical

set_option maxRecDepth 100000
set_option maxHeartbeats 4000000

namespace Ts

theorem pathC (Y : Sit → Int → Ln) (V : Val) (a b x y z : Int) : (evFn Try.prog (HL Y V) 10 3 [.c (.int .u8 a), .c (.int .u8 b), .agg [.int .u8 x, .int .u8 y, .int .u8 z]] []).vals.follow
      [false, true, false, true, false, false, false, false, false, true, false, false, true, false, true, false, false, true, true, false, true, false, false, false, true] =
    some (headC V (w64 (a.tmod 8)) ((w64 b).tmod (w64 (w64 (a.tmod 8) + 1))) (w64 (x.tmod 5)) (w64 (1 + w64 (y.tmod 5))) (w64 (z.tmod 2)) ++ (resB V (w64 (z.tmod 2)) ++ (midC (RB V (w64 (z.tmod 2))) (w64 (z.tmod 2)) (w64 (0 + 1)) ++ [((Ses.at ⟨2, RB V (w64 (z.tmod 2))⟩ (w64 (z.tmod 2)).toNat).p == 0, true)])), .one (.c (.bool true))) := by kernel_rfl

end Ts
end Go.Proofs.Ytennlgngdjegoaa
/-
  A pair of sites that is split: what the ways through the law ask holds.
-/
namespace Go.Proofs.Ytennlgngdjegoaa
open Go Go.Sx Go.RowKit Classical

set_option maxRecDepth 100000

namespace Ts
open Fo (cs SiteOk chk_of_ok ok_of_chk ltF')

/-! ### what reads the same -/

theorem prv_same {ρ σ : Val} (h : ∀ i, spn ρ i = spn σ i) (i : Nat) : prv ρ i = prv σ i := by
  cases i with
  | zero => rfl
  | succ i => exact h i
theorem corr_same {a b : Ln} (hn : a.n = b.n) (h : ∀ i, spn a.ρ i = spn b.ρ i) : corr a = corr b := by
  have e : badC a = badC b := funext fun i => by unfold badC; rw [prv_same h, h]
  unfold corr
  rw [e, hn]
theorem hd_same {a b : Ln} (hn : a.n = b.n) (h : ∀ i, spn a.ρ i = spn b.ρ i) : hd a = hd b := by
  unfold hd
  rw [hn, prv_same h]
theorem anc_same {a b c d : Ln} (hn : a.n = b.n) (h : ∀ i, spn a.ρ i = spn b.ρ i) (hm : c.n = d.n) (g : ∀ i, spn c.ρ i = spn d.ρ i) : anc a c = anc b d := by
  have e1 : bad65 ⟨a, c⟩ = bad65 ⟨b, d⟩ := funext fun i => by unfold bad65; simp only [h, g]
  have e2 : len65 ⟨a, c⟩ = len65 ⟨b, d⟩ := by unfold len65; simp only [hn, hm]
  have e3 : ∀ i, st65 ⟨a, c⟩ i = st65 ⟨b, d⟩ i := fun i => by
    cases i with
    | zero => rfl
    | succ i => unfold st65; simp only [h, g]
  have e4 : ∀ i, sb65 ⟨a, c⟩ i = sb65 ⟨b, d⟩ i := fun i => by unfold sb65; simp only [h, g, e3]
  unfold anc
  rw [corr_same hn h, corr_same hm g, e1, e2, e3, e4]

theorem site_same {x y : Sit} (h : SiteOk y) (k : SameSit x y) : SiteOk x := by
  have e1 : corr x.ln = corr y.ln := corr_same k.n k.ρ
  have e2 : hd x.ln = hd y.ln := hd_same k.n k.ρ
  refine ⟨e1.trans h.corr, by rw [e2, k.p]; exact h.ht, by rw [e2, k.e]; exact h.he, by rw [k.e]; exact h.e0, by rw [k.e]; exact h.e1, by rw [k.p]; exact h.p0, by rw [k.p]; exact h.p1, by rw [k.a]; exact h.num, by rw [k.r]; exact h.r0, by rw [k.r]; exact h.r1, by rw [k.e, k.r]; exact h.er, by rw [k.r, k.s, k.a]; exact h.src, by rw [k.r, k.s]; exact h.nsrc⟩

theorem new_same {x y : Sit} {m p : Int} (h : NewOk y m p) (k : SameSit x y) : NewOk x m p :=
  ⟨k.a.trans h.a, k.r.trans h.r, k.e.trans h.e, ⟨h.lin.less, fun hm => ⟨k.n.trans (h.lin.m0 hm).1, (k.ρ 0).trans (h.lin.m0 hm).2.1, (k.ρ 1).trans (h.lin.m0 hm).2.2⟩, fun hm => ⟨k.n.trans (h.lin.z0 hm).1, (k.ρ 0).trans (h.lin.z0 hm).2⟩⟩, k.p.trans h.p, k.s.trans h.s, k.l.trans h.l, k.c.trans h.c⟩

/-! ### the split pair -/

theorem V_sit {n m o q : Int} (hn : 0 ≤ n ∧ n ≤ 7) (hm : 0 ≤ m ∧ m ≤ n) (ho : 0 ≤ o ∧ o ≤ 4) (hq : 1 ≤ q ∧ q ≤ 5) :
    SitOk (Ses.at ⟨2, V0 n m o q⟩ 0) 0 1 1 (n + o) (-1) ∧ NewOk (Ses.at ⟨2, V0 n m o q⟩ 1) m (m + q) := by
  obtain ⟨s0, s1⟩ := W_sit hn hm
  have h0 := itA1_sit s0 (by omega) o.toNat (by omega)
  have eo : ((o.toNat : Nat) : Int) = o := by omega
  rw [eo] at h0
  obtain ⟨k, hk⟩ : ∃ k, q.toNat = k + 1 := ⟨q.toNat - 1, by omega⟩
  have h1 := itA2_ok s1 (by omega) k (by omega)
  have e1 : m + (k : Int) + 1 = m + q := by omega
  rw [e1, ← hk] at h1
  exact ⟨h0.same (two_at0 _ _), new_same h1 (two_at1 _ _)⟩

theorem rgt_of {l : Ln} (h : corr l = true) : rgt l = true := by
  unfold rgt
  cases h0 : (toInt64 l.n == 0)
  · have := anc_self h0
    rw [h, Bool.and_eq_true] at this
    rw [this.2]; rfl
  · rfl

theorem frk_same {a b : Ln} (hn : a.n = b.n) (h : ∀ i, spn a.ρ i = spn b.ρ i) : frk a b = false := by
  unfold frk
  have e : anc a b = anc a a := anc_same rfl (fun _ => rfl) hn.symm fun i => (h i).symm
  rw [e, ltF' (Int.lt_irrefl _)]; rfl

theorem small_few' {n : Nat} (h : small n) : fewN n := by unfold small at h; unfold fewN; omega

section
variable {R : Val} {w u : Int}

/-- the last part -/
theorem end_ok (hw : w = 0 ∧ u = 1 ∨ w = 1 ∧ u = 0) (win : SiteOk (Ses.at ⟨2, R⟩ w.toNat)) (wr : (Ses.at ⟨2, R⟩ w.toNat).r = 1) (ws : small (Ses.at ⟨2, R⟩ w.toNat).n) (wp : 1 ≤ (Ses.at ⟨2, R⟩ w.toNat).p)
    (los : SiteOk (Ses.at ⟨2, R⟩ u.toNat)) (lr : (Ses.at ⟨2, R⟩ u.toNat).r = 5) (ls : small (Ses.at ⟨2, R⟩ u.toNat).n) (la : (Ses.at ⟨2, R⟩ u.toNat).a = u)
    (ep : imax (Ses.at ⟨2, R⟩ 0).e (Ses.at ⟨2, R⟩ 1).e = 2) (we : (Ses.at ⟨2, R⟩ w.toNat).e ≤ 2) (le' : (Ses.at ⟨2, R⟩ u.toNat).e ≤ 2) : okB (endC R w) = true := by
  have hu : w64 (1 - w) = u := by rcases hw with ⟨rfl, rfl⟩ | ⟨rfl, rfl⟩ <;> rfl
  have c1 : inRange w 2 = true := by rcases hw with ⟨rfl, rfl⟩ | ⟨rfl, rfl⟩ <;> rfl
  have c2 : inRange u 2 = true := by rcases hw with ⟨rfl, rfl⟩ | ⟨rfl, rfl⟩ <;> rfl
  have c0 : ((Ses.at ⟨2, R⟩ w.toNat).p == 0) = false := by rw [beq_eq_false_iff_ne]; omega
  have ho : oth w (Ses.at ⟨2, R⟩ u.toNat).a = true := by rw [la]; rcases hw with ⟨rfl, rfl⟩ | ⟨rfl, rfl⟩ <;> rfl
  have hrej : rejE (Ses.at ⟨2, R⟩ u.toNat) 2 w = 0 := by
    unfold rejE
    rw [chk_of_ok los, lr]
    refine chain_all fun q hq => ?_
    simp only [List.mem_cons, List.not_mem_nil, or_false] at hq
    rcases hq with rfl | rfl | rfl | rfl
    · rfl
    · rw [Bool.and_eq_true, le_iff]; exact ⟨le', rfl⟩
    · rfl
    · exact ho
  have hj := (Fo.rej_ok hrej).1
  have ej : rej (Ses.at ⟨2, R⟩ u.toNat) 2 w = ⟨(Ses.at ⟨2, R⟩ u.toNat).a, 4, 2, (Ses.at ⟨2, R⟩ u.toNat).p, (Ses.at ⟨2, R⟩ u.toNat).n, (Ses.at ⟨2, R⟩ u.toNat).ρ, w, (Ses.at ⟨2, R⟩ u.toNat).l, (Ses.at ⟨2, R⟩ u.toNat).c⟩ := by
    unfold rej
    rw [lr]; rfl
  rw [ej] at hj
  have hsyn : synE ⟨(Ses.at ⟨2, R⟩ u.toNat).a, 4, 2, (Ses.at ⟨2, R⟩ u.toNat).p, (Ses.at ⟨2, R⟩ u.toNat).n, (Ses.at ⟨2, R⟩ u.toNat).ρ, w, (Ses.at ⟨2, R⟩ u.toNat).l, (Ses.at ⟨2, R⟩ u.toNat).c⟩ (Ses.at ⟨2, R⟩ w.toNat).p = 0 := by
    unfold synE
    rw [chk_of_ok hj]
    refine chain_all fun q hq => ?_
    simp only [List.mem_cons, List.not_mem_nil, or_false] at hq
    rcases hq with rfl | rfl
    · rfl
    · rw [Bool.and_eq_true, le_iff, le_iff]; exact ⟨wp, win.p1⟩
  have hD : SiteOk (endS R w) := by
    unfold endS
    simp only [hu, ep]
    refine ⟨win.corr, win.ht, ?_, by show (0 : Int) ≤ 2; omega, by show (2 : Int) ≤ 1073741824; omega, win.p0, win.p1, los.num, by show (0 : Int) ≤ 2; omega, by show (2 : Int) ≤ 5; omega, fun h => ?_, fun _ => ho, fun h => ?_⟩
    · have := win.he
      show (hd (Ses.at ⟨2, R⟩ w.toNat).ln).e ≤ 2
      omega
    · have h : (2 : Int) = 0 := h
      omega
    · cases h
  have hcon : Con (Ses.set ⟨2, R⟩ u.toNat (endS R w)) := by
    have k1 : SameSit ((Ses.set ⟨2, R⟩ u.toNat (endS R w)).at u.toNat) (endS R w) := set_same _ _ _
    have k2 : (Ses.set ⟨2, R⟩ u.toNat (endS R w)).at w.toNat = Ses.at ⟨2, R⟩ w.toNat := set_other _ _ _ _ (by rcases hw with ⟨rfl, rfl⟩ | ⟨rfl, rfl⟩ <;> decide)
    have o1 := site_same hD k1
    have n1 : ((Ses.set ⟨2, R⟩ u.toNat (endS R w)).at u.toNat).n = (Ses.at ⟨2, R⟩ w.toNat).n := k1.n
    have s1 : ∀ i, spn ((Ses.set ⟨2, R⟩ u.toNat (endS R w)).at u.toNat).ρ i = spn (Ses.at ⟨2, R⟩ w.toNat).ρ i := k1.ρ
    have r1 : ((Ses.set ⟨2, R⟩ u.toNat (endS R w)).at u.toNat).r = 2 := k1.r
    have f1 : fewN ((Ses.set ⟨2, R⟩ u.toNat (endS R w)).at u.toNat).n := by rw [n1]; exact small_few' ws
    have g1 : rgt ((Ses.set ⟨2, R⟩ u.toNat (endS R w)).at u.toNat).ln = true := rgt_of o1.corr
    have g2 : rgt (Ses.at ⟨2, R⟩ w.toNat).ln = true := rgt_of win.corr
    rcases hw with ⟨rfl, rfl⟩ | ⟨rfl, rfl⟩
    · have k2 : (Ses.set ⟨2, R⟩ 1 (endS R 0)).at 0 = Ses.at ⟨2, R⟩ 0 := k2
      have wr : (Ses.at ⟨2, R⟩ 0).r = 1 := wr
      have r1 : ((Ses.set ⟨2, R⟩ 1 (endS R 0)).at 1).r = 2 := r1
      show Con (Ses.set ⟨2, R⟩ 1 (endS R 0))
      refine ⟨rfl, by rw [k2]; exact small_few' ws, f1, by rw [k2]; exact chk_of_ok win, chk_of_ok o1, by rw [k2, wr]; omega, by rw [r1]; omega, by rw [k2]; exact g2, g1, ?_, .inr (by rw [r1]; omega)⟩
      rw [k2]
      exact frk_same n1.symm fun i => (s1 i).symm
    · have k2 : (Ses.set ⟨2, R⟩ 0 (endS R 1)).at 1 = Ses.at ⟨2, R⟩ 1 := k2
      have wr : (Ses.at ⟨2, R⟩ 1).r = 1 := wr
      have r1 : ((Ses.set ⟨2, R⟩ 0 (endS R 1)).at 0).r = 2 := r1
      show Con (Ses.set ⟨2, R⟩ 0 (endS R 1))
      refine ⟨rfl, f1, by rw [k2]; exact small_few' ws, chk_of_ok o1, by rw [k2]; exact chk_of_ok win, by rw [r1]; omega, by rw [k2, wr]; omega, g1, by rw [k2]; exact g2, ?_, .inl (by rw [r1]; omega)⟩
      rw [k2]
      exact frk_same n1 s1
  have d1 : dec (small (Ses.at ⟨2, R⟩ u.toNat).n ∧ (Ses.at ⟨2, R⟩ u.toNat).r = 5 ∧ rejE (Ses.at ⟨2, R⟩ u.toNat) 2 w = 0) = true := dec_iff.2 ⟨ls, lr, hrej⟩
  have d2 := dec_iff.2 (And.intro ls hsyn)
  have d3 : dec (Con (Ses.set ⟨2, R⟩ u.toNat (endS R w))) = true := dec_iff.2 hcon
  unfold endC
  simp only [hu, ep]
  simp only [okB, List.all_cons, List.all_nil, c0, c1, c2, d1, d2, d3]
  rfl

theorem mid_ok (hw : w = 0 ∧ u = 1 ∨ w = 1 ∧ u = 0) (wr : (Ses.at ⟨2, R⟩ w.toNat).r = 1) (lr : (Ses.at ⟨2, R⟩ u.toNat).r = 5) {k : Int} (hk : k = u) : okB (midC R w k) = true := by
  have hu : w64 (1 - w) = u := by rcases hw with ⟨rfl, rfl⟩ | ⟨rfl, rfl⟩ <;> rfl
  have c1 : inRange w 2 = true := by rcases hw with ⟨rfl, rfl⟩ | ⟨rfl, rfl⟩ <;> rfl
  have c2 : inRange u 2 = true := by rcases hw with ⟨rfl, rfl⟩ | ⟨rfl, rfl⟩ <;> rfl
  have c3 : ((((Val.ofFlat 1 [I u]).at 0).at 0).N [] != (((Val.ofFlat 1 [I u]).at 0).at 0).N []) = false := by simp
  unfold midC
  simp only [hu, hk, wr, lr, okB, List.all_cons, List.all_nil, c1, c2, c3]
  rfl
end

theorem head_ok {n m o q w : Int} (hn : 0 ≤ n ∧ n ≤ 7) (hm : 0 ≤ m ∧ m ≤ n) (ho : 0 ≤ o ∧ o ≤ 4) (hq : 1 ≤ q ∧ q ≤ 5) (hw : w = 0 ∨ w = 1) : okB (headC (V0 n m o q) n m o q w) = true := by
  obtain ⟨s0, s1⟩ := V_sit hn hm ho hq
  have c0 : (!(w64 (n + 1) == 0)) = true := by
    have : w64 (n + 1) = n + 1 := w64_id (by omega) (by omega)
    rw [this]
    have : (n + 1 == 0) = false := by rw [beq_eq_false_iff_ne]; omega
    rw [this]; rfl
  have c1 : dec (((0 ≤ n ∧ n ≤ 7) ∧ (0 ≤ m ∧ m ≤ n) ∧ (0 ≤ o ∧ o ≤ 4) ∧ (1 ≤ q ∧ q ≤ 5)) ∧ True) = true := dec_iff.2 ⟨⟨hn, hm, ho, hq⟩, trivial⟩
  have c2 : dec (fewN (Ses.at ⟨2, V0 n m o q⟩ 0).n) = true := dec_iff.2 (small_few' s0.lin.sml)
  have c3 : dec (fewN (Ses.at ⟨2, V0 n m o q⟩ 1).n) = true := dec_iff.2 (small_few' s1.lin.sml)
  have c4 : chkS (Ses.at ⟨2, V0 n m o q⟩ 0) = 0 := s0.chk (.inl rfl) (.inl ⟨rfl, rfl⟩) (by omega) (by omega)
  have c5 : chkS (Ses.at ⟨2, V0 n m o q⟩ 1) = 0 := chk_of_ok (s1.site hm.1 (by omega))
  have c6 : (lt w 0 || le (toInt64 2) w) = false := by rcases hw with rfl | rfl <;> rfl
  have c7 : inRange w 2 = true := by rcases hw with rfl | rfl <;> rfl
  have c8 : (Ses.at ⟨2, V0 n m o q⟩ w.toNat).r = 1 := by
    rcases hw with rfl | rfl
    · exact s0.r
    · exact s1.r
  unfold headC
  simp only [okB, List.all_cons, List.all_nil, c0, c1, c2, c3, c4, c5, c6, c7, c8]
  rfl

theorem room_of {n : Nat} (h : small n) : Nat.ble ((0 + n) * 24) 140737488355328 = true := Nat.ble_eq_true_of_le (by unfold small at h; omega)

theorem fz_ok {x b : Sit} (h : SiteOk x) (he : imax x.e b.e = 2) (hx : x.e ≤ 2) : SiteOk (fzS x b) := by
  refine ⟨h.corr, h.ht, ?_, by show 0 ≤ imax x.e b.e; omega, by show imax x.e b.e ≤ _; omega, h.p0, h.p1, h.num, by show (0 : Int) ≤ 5; omega, by show (5 : Int) ≤ 5; omega, fun hh => ?_, fun hh => ?_, fun _ => rfl⟩
  · have := h.he
    show (hd x.ln).e ≤ imax x.e b.e
    omega
  · have hh : imax x.e b.e = 0 := hh
    omega
  · cases hh

theorem okB_app (a b : List (Bool × Bool)) : okB (a ++ b) = (okB a && okB b) := List.all_append ..

/-- the second one wins -/
theorem winA {n m o q : Int} (hn : 0 ≤ n ∧ n ≤ 7) (hm : 0 ≤ m ∧ m ≤ n) (ho : 0 ≤ o ∧ o ≤ 4) (hq : 1 ≤ q ∧ q ≤ 5) :
    okB (headC (V0 n m o q) n m o q 1 ++ (resA (V0 n m o q) 1 ++ (midC (RA (V0 n m o q) 1) 1 0 ++ endC (RA (V0 n m o q) 1) 1))) = true := by
  obtain ⟨s0, s1⟩ := V_sit hn hm ho hq
  have o0 : SiteOk (Ses.at ⟨2, V0 n m o q⟩ 0) := ok_of_chk (s0.chk (.inl rfl) (.inl ⟨rfl, rfl⟩) (by omega) (by omega))
  have o1 : SiteOk (Ses.at ⟨2, V0 n m o q⟩ 1) := s1.site hm.1 (by omega)
  have hi : imax (Ses.at ⟨2, V0 n m o q⟩ 0).e (Ses.at ⟨2, V0 n m o q⟩ 1).e = 2 := by rw [s0.e, s1.e]; rfl
  have k0 : SameSit (Ses.at ⟨2, RA (V0 n m o q) 1⟩ 0) (fzS (Ses.at ⟨2, V0 n m o q⟩ 0) (Ses.at ⟨2, V0 n m o q⟩ 1)) := ⟨rfl, rfl, rfl, rfl, rfl, fun _ => rfl, rfl, rfl, rfl⟩
  have k1 : SameSit (Ses.at ⟨2, RA (V0 n m o q) 1⟩ 1) (Ses.at ⟨2, V0 n m o q⟩ 1) := ⟨rfl, rfl, rfl, rfl, rfl, fun _ => rfl, rfl, rfl, rfl⟩
  have f0 := fz_ok o0 hi (by rw [s0.e]; omega)
  have e0 : (Ses.at ⟨2, RA (V0 n m o q) 1⟩ 0).e = 2 := k0.e.trans hi
  have e1 : (Ses.at ⟨2, RA (V0 n m o q) 1⟩ 1).e = 2 := k1.e.trans s1.e
  have r1 : (Ses.at ⟨2, RA (V0 n m o q) 1⟩ 1).r = 1 := k1.r.trans s1.r
  have r0 : (Ses.at ⟨2, RA (V0 n m o q) 1⟩ 0).r = 5 := k0.r
  rw [okB_app, okB_app, okB_app, head_ok hn hm ho hq (.inr rfl), mid_ok (u := 0) (.inr ⟨rfl, rfl⟩) r1 r0 rfl, end_ok (u := 0) (.inr ⟨rfl, rfl⟩) (site_same o1 k1) r1 (by show small (Ses.at ⟨2, RA (V0 n m o q) 1⟩ 1).n; rw [k1.n]; exact s1.lin.sml) (by show 1 ≤ (Ses.at ⟨2, RA (V0 n m o q) 1⟩ 1).p; rw [k1.p, s1.p]; omega)
    (site_same f0 k0) r0 (by show small (Ses.at ⟨2, RA (V0 n m o q) 1⟩ 0).n; rw [k0.n]; exact s0.lin.sml) (k0.a.trans s0.a) (by rw [e0, e1]; rfl) (by show (Ses.at ⟨2, RA (V0 n m o q) 1⟩ 1).e ≤ 2; omega) (by show (Ses.at ⟨2, RA (V0 n m o q) 1⟩ 0).e ≤ 2; omega)]
  unfold resA
  simp only [okB, List.all_cons, List.all_nil, s0.r, s1.r, room_of s0.lin.sml, room_of (n := (Ses.at ⟨2, V0 n m o q⟩ 1).n) s1.lin.sml]
  rfl

theorem wayB {n m o q : Int} (hn : 0 ≤ n ∧ n ≤ 7) (hm : 0 ≤ m ∧ m ≤ n) (ho : 0 ≤ o ∧ o ≤ 4) (hq : 1 ≤ q ∧ q ≤ 5) :
    okB (resB (V0 n m o q) 0) = true ∧ okB (midC (RB (V0 n m o q) 0) 0 (w64 (0 + 1))) = true ∧ (Ses.at ⟨2, RB (V0 n m o q) 0⟩ 0).p = n + o ∧ (1 ≤ n + o → okB (endC (RB (V0 n m o q) 0) 0) = true) := by
  obtain ⟨s0, s1⟩ := V_sit hn hm ho hq
  have o0 : SiteOk (Ses.at ⟨2, V0 n m o q⟩ 0) := ok_of_chk (s0.chk (.inl rfl) (.inl ⟨rfl, rfl⟩) (by omega) (by omega))
  have o1 : SiteOk (Ses.at ⟨2, V0 n m o q⟩ 1) := s1.site hm.1 (by omega)
  have hi : imax (Ses.at ⟨2, V0 n m o q⟩ 1).e (Ses.at ⟨2, V0 n m o q⟩ 0).e = 2 := by rw [s0.e, s1.e]; rfl
  have k0 : SameSit (Ses.at ⟨2, RB (V0 n m o q) 0⟩ 0) (Ses.at ⟨2, V0 n m o q⟩ 0) := ⟨rfl, rfl, rfl, rfl, rfl, fun _ => rfl, rfl, rfl, rfl⟩
  have k1 : SameSit (Ses.at ⟨2, RB (V0 n m o q) 0⟩ 1) (fzS (Ses.at ⟨2, V0 n m o q⟩ 1) (Ses.at ⟨2, V0 n m o q⟩ 0)) := ⟨rfl, rfl, rfl, rfl, rfl, fun _ => rfl, rfl, rfl, rfl⟩
  have f1 := fz_ok o1 hi (by rw [s1.e]; omega)
  have e0 : (Ses.at ⟨2, RB (V0 n m o q) 0⟩ 0).e = 1 := k0.e.trans s0.e
  have e1 : (Ses.at ⟨2, RB (V0 n m o q) 0⟩ 1).e = 2 := k1.e.trans hi
  have r0 : (Ses.at ⟨2, RB (V0 n m o q) 0⟩ 0).r = 1 := k0.r.trans s0.r
  have r1 : (Ses.at ⟨2, RB (V0 n m o q) 0⟩ 1).r = 5 := k1.r
  have p0 : (Ses.at ⟨2, RB (V0 n m o q) 0⟩ 0).p = n + o := k0.p.trans s0.p
  refine ⟨?_, mid_ok (u := 1) (.inl ⟨rfl, rfl⟩) r0 r1 rfl, p0, fun h1 => ?_⟩
  · unfold resB
    simp only [okB, List.all_cons, List.all_nil, s0.r, s1.r, room_of s0.lin.sml, room_of (n := (Ses.at ⟨2, V0 n m o q⟩ 1).n) s1.lin.sml]
    rfl
  · exact end_ok (u := 1) (.inl ⟨rfl, rfl⟩) (site_same o0 k0) r0 (by show small (Ses.at ⟨2, RB (V0 n m o q) 0⟩ 0).n; rw [k0.n]; exact s0.lin.sml) (by show 1 ≤ (Ses.at ⟨2, RB (V0 n m o q) 0⟩ 0).p; omega)
      (site_same f1 k1) r1 (by show small (Ses.at ⟨2, RB (V0 n m o q) 0⟩ 1).n; rw [k1.n]; exact s1.lin.sml) (k1.a.trans s1.a) (by rw [e0, e1]; rfl) (by show (Ses.at ⟨2, RB (V0 n m o q) 0⟩ 0).e ≤ 2; omega) (by show (Ses.at ⟨2, RB (V0 n m o q) 0⟩ 1).e ≤ 2; omega)

end Ts
end Go.Proofs.Ytennlgngdjegoaa
/-
  A pair of sites that is split: the law.
-/
namespace Go.Proofs.Ytennlgngdjegoaa
open Go Go.Sx Go.RowKit Classical

set_option maxRecDepth 100000

namespace Ts

theorem lawSplit (a b x y z : Int) (ha : 0 ≤ a ∧ a ≤ 255) (hb : 0 ≤ b ∧ b ≤ 255) (hx : 0 ≤ x ∧ x ≤ 255) (hy : 0 ≤ y ∧ y ≤ 255) (hz : 0 ≤ z ∧ z ≤ 255) {F : Nat → Prop} {W : World} {vs : List Value}
    (h : All2 (A1.Rel F W []) [.c (.int .u8 a), .c (.int .u8 b), .agg [.int .u8 x, .int .u8 y, .int .u8 z]] vs) :
    Calls Try.prog 3 vs.toArray W (fun e W' => e = .returned (.bool true) ∧ Below W.heap.size W W') := by
  obtain ⟨n, hn⟩ : ∃ n, w64 (a.tmod 8) = n := ⟨_, rfl⟩
  have en : n = a % 8 := by rw [← hn, Int.tmod_eq_emod_of_nonneg ha.1]; exact w64_id (by omega) (by omega)
  have e1 : w64 (n + 1) = n + 1 := w64_id (by omega) (by omega)
  have e2 : w64 b = b := w64_id (by omega) (by omega)
  obtain ⟨m, hm⟩ : ∃ m, (w64 b).tmod (w64 (n + 1)) = m := ⟨_, rfl⟩
  have em : m = b % (n + 1) := by rw [← hm, e1, e2, Int.tmod_eq_emod_of_nonneg hb.1]
  have m0 := Int.emod_nonneg b (by omega : n + 1 ≠ 0)
  have m1 := Int.emod_lt_of_pos b (by omega : 0 < n + 1)
  obtain ⟨o, ho⟩ : ∃ o, w64 (x.tmod 5) = o := ⟨_, rfl⟩
  have eo : o = x % 5 := by rw [← ho, Int.tmod_eq_emod_of_nonneg hx.1]; exact w64_id (by omega) (by omega)
  obtain ⟨q, hq⟩ : ∃ q, w64 (1 + w64 (y.tmod 5)) = q := ⟨_, rfl⟩
  have eq' : q = 1 + y % 5 := by
    have : w64 (y.tmod 5) = y % 5 := by rw [Int.tmod_eq_emod_of_nonneg hy.1]; exact w64_id (by omega) (by omega)
    rw [← hq, this]
    exact w64_id (by omega) (by omega)
  obtain ⟨w, hw⟩ : ∃ w, w64 (z.tmod 2) = w := ⟨_, rfl⟩
  have ew : w = z % 2 := by rw [← hw, Int.tmod_eq_emod_of_nonneg hz.1]; exact w64_id (by omega) (by omega)
  have hn' : 0 ≤ n ∧ n ≤ 7 := by omega
  have hm' : 0 ≤ m ∧ m ≤ n := by omega
  have ho' : 0 ≤ o ∧ o ≤ 4 := by omega
  have hq' : 1 ≤ q ∧ q ≤ 5 := by omega
  have hA := pathA Y0 (V0 n m o q) a b x y z
  have hB := pathB Y0 (V0 n m o q) a b x y z
  have hC := pathC Y0 (V0 n m o q) a b x y z
  rw [hn, hm, ho, hq, hw] at hA hB hC
  obtain ⟨b1, b2, b3, b4⟩ := wayB hn' hm' ho' hq'
  have hd := head_ok (w := 0) hn' hm' ho' hq' (.inl rfl)
  have : w = 0 ∨ w = 1 := by omega
  rcases this with rfl | rfl
  · by_cases hp : 1 ≤ n + o
    · refine law_of_follow (hL (V0 n m o q)) 10 3 hB ?_ rfl h
      rw [okB_app, okB_app, okB_app, hd, b1, b2, b4 hp]; rfl
    · refine law_of_follow (hL (V0 n m o q)) 10 3 hC ?_ rfl h
      have e : okB [((Ses.at ⟨2, RB (V0 n m o q) 0⟩ (Int.toNat 0)).p == 0, true)] = true := by
        show ((((Ses.at ⟨2, RB (V0 n m o q) 0⟩ 0).p == 0) == true) && true) = true
        rw [b3]
        have : (n + o == 0) = true := by rw [beq_iff_eq]; omega
        rw [this]; rfl
      rw [okB_app, okB_app, okB_app, hd, b1, b2, e]; rfl
  · exact law_of_follow (hL (V0 n m o q)) 10 3 hA (winA hn' hm' ho' hq') rfl h

theorem byt_of {ρ : Val} (h : wfL [.int .u8] 0 ρ) : 0 ≤ (ρ.at 0).N [] ∧ (ρ.at 0).N [] ≤ 255 := by
  have h := h.1
  simp only [wfC] at h
  simpa [Lit.wf, IntKind.min, IntKind.max, IntKind.signed, IntKind.bits] using h
theorem argB_eq (ρ : Val) : argOf Try.prog 5 [.int .u8] ρ = .c (.int .u8 ((ρ.at 0).N [])) := by kernel_rfl
theorem argT_eq (ρ : Val) : argOf Try.prog 22 [.int .u8, .int .u8, .int .u8] ρ = .agg [.int .u8 ((ρ.at 0).N []), .int .u8 ((ρ.at 1).N []), .int .u8 ((ρ.at 2).N [])] := by kernel_rfl
theorem byts3 {ρ : Val} (h : wfL [.int .u8, .int .u8, .int .u8] 0 ρ) : (0 ≤ (ρ.at 0).N [] ∧ (ρ.at 0).N [] ≤ 255) ∧ (0 ≤ (ρ.at 1).N [] ∧ (ρ.at 1).N [] ≤ 255) ∧ (0 ≤ (ρ.at 2).N [] ∧ (ρ.at 2).N [] ≤ 255) := by
  obtain ⟨h0, h1, h2, _⟩ := h
  simp only [wfC] at h0 h1 h2
  refine ⟨?_, ?_, ?_⟩
  · simpa [Lit.wf, IntKind.min, IntKind.max, IntKind.signed, IntKind.bits] using h0
  · simpa [Lit.wf, IntKind.min, IntKind.max, IntKind.signed, IntKind.bits] using h1
  · simpa [Lit.wf, IntKind.min, IntKind.max, IntKind.signed, IntKind.bits] using h2

end Ts
end Go.Proofs.Ytennlgngdjegoaa
