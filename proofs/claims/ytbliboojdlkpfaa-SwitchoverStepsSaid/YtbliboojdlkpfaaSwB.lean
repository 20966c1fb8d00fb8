/-
  The planned change of the primary: a switchover under way, an event.
-/
import Derived.Test.YtbliboojdlkpfaaSwA
namespace Go.Proofs.Ytbliboojdlkpfaa
open Go Go.Sx Go.RowKit Classical

set_option maxRecDepth 100000

/-- a switchover under way -/
structure Stt where
  P : Prc
  L : Ses
  cy : Int
  O : Ses
  cl : Bool
  ri : Bool

def Stt.cv (s : Stt) : A1 := .agg [I s.P.k, I s.P.f, I s.P.t, I s.P.s, I s.P.e, I s.P.c, .bool s.P.d, .bool s.P.x, .sl siSh s.L.n s.L.ρ, I s.cy, .sl siSh s.O.n s.O.ρ, .bool s.cl, .bool s.ri]
def Stt.A (s : Stt) : Sit := s.L.at 0
def Stt.B (s : Stt) : Sit := s.L.at 1

def two2C (a b : List CV) : Ses := ⟨2, Val.ofFlat 8 (a ++ b)⟩
/-- the primary closes a cycle -/
def evA (s : Stt) : Stt := { s with L := two2C (okC (appE s.A 1 (IntKind.i64.wrap (s.cy + 1))) (app s.A 1 (IntKind.i64.wrap (s.cy + 1)))) s.B.cs, cy := IntKind.i64.wrap (s.cy + 1), ri := s.ri && appE s.A 1 (IntKind.i64.wrap (s.cy + 1)) == 0 }
/-- the secondary applies one -/
def evB (s : Stt) : Stt := { s with L := two2C s.A.cs (okC (appE s.B 1 (IntKind.i64.wrap (s.B.p + 1))) (app s.B 1 (IntKind.i64.wrap (s.B.p + 1)))), ri := s.ri && appE s.B 1 (IntKind.i64.wrap (s.B.p + 1)) == 0 }
/-- it is given up -/
def evC (s : Stt) : Stt := bif abtE s.P s.L == 0 then { s with P := abtP s.P s.L, L := abtL s.P s.L } else s
/-- a step is reported -/
def evD (s : Stt) (ok : Bool) (w : Int) : Stt :=
  bif stpE s.P s.L ok w == 0 then { s with P := stpP s.P s.L ok w, L := stpL s.P s.L ok w, O := bif s.P.s == 3 then s.L else s.O } else { s with O := bif s.P.s == 3 then s.L else s.O }
def Stt.val (s : Stt) : Int := bif s.P.s == 0 then s.A.p else bif s.P.s == 1 then s.B.p else 7

/-- an event -/
def stepS (s : Stt) (kd v : Int) : Stt :=
  bif toInt64 s.L.n != 2 then { s with ri := false } else
  bif kd.tmod 9 == 8 then (bif s.A.r == 1 && s.cl then evA s else s) else
  bif kd.tmod 9 == 6 then (bif (lt s.B.p s.cy && s.B.r == 2) && s.A.r == 1 then evB s else s) else
  bif kd.tmod 9 == 7 then evC s else evD s (kd.tmod 9 != 4) (bif kd.tmod 9 == 5 then v else s.val)

noncomputable def Gstp : List A1 → Option (Bool × AV)
  | [.agg [.int .i64 k, .int .i64 f, .int .i64 t, .int .i64 s, .int .i64 e, .int .i64 c, .bool d, .bool x, .sl [.int .i64, .int .i64, .int .i64, .int .i64, .sl [.int .i64, .int .i64, .int .i64], .int .i64, .bool, .bool] n ρ, .int .i64 cy, .sl [.int .i64, .int .i64, .int .i64, .int .i64, .sl [.int .i64, .int .i64, .int .i64], .int .i64, .bool, .bool] m σ, .bool cl, .bool ri], .agg [.int .u8 kd, .int .i64 v]] =>
    some (dec (smallS ⟨n, ρ⟩), .one (stepS ⟨⟨k, f, t, s, e, c, d, x⟩, ⟨n, ρ⟩, cy, ⟨m, σ⟩, cl, ri⟩ kd v).cv)
  | _ => none

noncomputable abbrev HT : Hd := ⟨HL.pc, (48, nG Gapp) :: HL.hc, [], HL.mc⟩
theorem u20' : UcOne Try.prog 48 (nG Gapp) := u20
theorem hT : HdOk Try.prog HT := hL.ucCons u20'

noncomputable def tD (s : Stt) (kd w : Int) : Tree AV :=
  .br (s.P.s == 3) (.need true (.need (dec (smallS s.L)) (.br (stpE s.P s.L (kd.tmod 9 != 4) w == 0) (.leaf (.one ({ s with P := stpP s.P s.L (kd.tmod 9 != 4) w, L := stpL s.P s.L (kd.tmod 9 != 4) w, O := s.L } : Stt).cv)) (.leaf (.one ({ s with O := s.L } : Stt).cv)))))
    (.need true (.need (dec (smallS s.L)) (.br (stpE s.P s.L (kd.tmod 9 != 4) w == 0) (.leaf (.one ({ s with P := stpP s.P s.L (kd.tmod 9 != 4) w, L := stpL s.P s.L (kd.tmod 9 != 4) w } : Stt).cv)) (.leaf (.one s.cv)))))
noncomputable def tV (s : Stt) (kd v w : Int) : Tree AV := .need true (.br (kd.tmod 9 == 5) (tD s kd v) (tD s kd w))

noncomputable def tS (s : Stt) (kd v : Int) : Tree AV :=
  let n := s.L.n
  .br (toInt64 n != 2) (.leaf (.one ({ s with ri := false } : Stt).cv)) (.need true
    (.br (kd.tmod 9 == 8) (.need (inRange 0 n) (.br (s.A.r == 1 && s.cl) (.need (inRange 0 n) (.need (dec (small s.A.n)) (.need (inRange 1 n) (.leaf (.one (evA s).cv))))) (.leaf (.one s.cv))))
    (.br (kd.tmod 9 == 6) (.need (inRange 1 n) (.need (!((lt s.B.p s.cy) == true && true) || inRange 1 n) (.need (!((lt s.B.p s.cy && s.B.r == 2) == true && true) || inRange 0 n) (.br ((lt s.B.p s.cy && s.B.r == 2) && s.A.r == 1) (.need (inRange 1 n) (.need (inRange 1 n) (.need (dec (small s.B.n)) (.need (inRange 0 n) (.leaf (.one (evB s).cv)))))) (.leaf (.one s.cv))))))
    (.br (kd.tmod 9 == 7) (.need (dec (smallS s.L)) (.br (abtE s.P s.L == 0) (.leaf (.one ({ s with P := abtP s.P s.L, L := abtL s.P s.L } : Stt).cv)) (.leaf (.one s.cv))))
    (.br (s.P.s == 0) (.need (inRange 0 n) (tV s kd v s.A.p)) (.br (s.P.s == 1) (.need (inRange 1 n) (tV s kd v s.B.p)) (tV s kd v 7)))))))

theorem tD_sel {s : Stt} (hs : smallS s.L) (kd w : Int) : (tD s kd w).sel = some (.one (evD s (kd.tmod 9 != 4) w).cv) := by
  have hd : dec (smallS s.L) = true := dec_iff.2 hs
  unfold tD evD
  simp only [Tree.sel, hd, cond_true]
  cases s.P.s == 3 <;> cases stpE s.P s.L (kd.tmod 9 != 4) w == 0 <;> rfl

theorem tV_sel {s : Stt} (hs : smallS s.L) (kd v w : Int) : (tV s kd v w).sel = some (.one (evD s (kd.tmod 9 != 4) (bif kd.tmod 9 == 5 then v else w)).cv) := by
  unfold tV
  simp only [Tree.sel, cond_true, tD_sel hs]
  cases kd.tmod 9 == 5 <;> rfl

theorem tS_sel {s : Stt} (hs : smallS s.L) (kd v : Int) : (tS s kd v).sel = some (.one (stepS s kd v).cv) := by
  have hd : dec (smallS s.L) = true := dec_iff.2 hs
  unfold tS stepS
  cases h2 : toInt64 s.L.n != 2
  · have hn : s.L.n = 2 := by
      have h2 : (s.L.n : Int) = 2 := by simpa [toInt64] using h2
      omega
    have hA : dec (small s.A.n) = true := dec_iff.2 (hs.2 0 (by omega))
    have hB : dec (small s.B.n) = true := dec_iff.2 (hs.2 1 (by omega))
    have i0 : inRange 0 s.L.n = true := by rw [hn]; rfl
    have i1 : inRange 1 s.L.n = true := by rw [hn]; rfl
    simp only [Tree.sel, cond_false, cond_true, h2, i0, i1, hA, hB, hd, Bool.or_true, tV_sel hs]
    cases kd.tmod 9 == 8
    · cases kd.tmod 9 == 6
      · cases kd.tmod 9 == 7
        · unfold Stt.val
          cases s.P.s == 0
          · cases s.P.s == 1 <;> rfl
          · rfl
        · unfold evC
          cases abtE s.P s.L == 0 <;> rfl
      · cases ((lt s.B.p s.cy && s.B.r == 2) && s.A.r == 1) <;> rfl
    · cases (s.A.r == 1 && s.cl) <;> rfl
  · simp only [Tree.sel, h2, cond_true]

theorem uStp : UcOne Try.prog 29 (nG Gstp) := ucOne_of_tree hT 12 29 fun args r h => by
  unfold Gstp at h; split at h
  · rename_i k f t s e c d x n ρ cy m σ cl ri kd v
    obtain ⟨hp, rfl⟩ := Prod.mk.inj (Option.some.inj h)
    exact ⟨tS ⟨⟨k, f, t, s, e, c, d, x⟩, ⟨n, ρ⟩, cy, ⟨m, σ⟩, cl, ri⟩ kd v, by kernel_rfl, all_sel_le (tS_sel (dec_iff.1 hp) kd v)⟩
  · cases h

end Go.Proofs.Ytbliboojdlkpfaa
/-
  The planned change of the primary: two sites with the cycles of one epoch.
-/
namespace Go.Proofs.Ytbliboojdlkpfaa
open Go Go.Sx Go.RowKit Classical

set_option maxRecDepth 100000

/-- the cycles 1 to c of epoch 1 -/
structure LinOk (n : Nat) (ρ : Val) (c : Int) : Prop where
  n : n = spN c
  sp : 0 < c → spn ρ 0 = ⟨1, 1, c⟩

/-- one of the two sites -/
structure SitOk (x : Sit) (a r e c s : Int) : Prop where
  a : x.a = a
  r : x.r = r
  e : x.e = e
  p : x.p = c
  lin : LinOk x.n x.ρ c
  s : x.s = s
  l : x.l = true
  c : x.c = true

theorem spN_pos {c : Int} (h : 0 < c) : spN c = 1 := by unfold spN; rw [(lt_iff _ _).2 h]; rfl
theorem spN_zero {c : Int} (h : ¬ 0 < c) : spN c = 0 := by
  have : lt 0 c = false := by rw [← Bool.not_eq_true, lt_iff]; exact h
  unfold spN; rw [this]; rfl

theorem lin_pair (c : Int) : LinOk (spN c) (spV c) c := ⟨rfl, fun h => by
  unfold spV
  rw [(lt_iff _ _).2 h]
  rfl⟩

/-- a value that is kept in a cell reads the same -/
theorem spn_ofC (es : List Sh) (n : Nat) (ρ : Val) (i : Nat) : spn (.ofC (.sl es n ρ)) i = spn ρ i := rfl

theorem LinOk.sml {n : Nat} {ρ : Val} {c : Int} (h : LinOk n ρ c) : small n := by
  rw [h.n]
  unfold small
  by_cases hc : 0 < c
  · rw [spN_pos hc]; omega
  · rw [spN_zero hc]; omega

theorem LinOk.corr {n : Nat} {ρ : Val} {c : Int} (h : LinOk n ρ c) (hc : c ≤ 1073741824) : corr ⟨n, ρ⟩ = true := by
  refine corr_of fun i hi => ?_
  have hi : i < n := hi
  by_cases hp : 0 < c
  · rw [h.n, spN_pos hp] at hi
    obtain rfl : i = 0 := by omega
    have e := h.sp hp
    show SpOk (prv ρ 0) (spn ρ 0)
    rw [e]
    exact ⟨rfl, by simp only; omega, hc, by simp only; omega, by simp only; omega, by simp only [prv]; omega, by simp [prv]⟩
  · rw [h.n, spN_zero hp] at hi; omega

theorem LinOk.hd {n : Nat} {ρ : Val} {c : Int} (h : LinOk n ρ c) (hc0 : 0 ≤ c) : (hd ⟨n, ρ⟩).t = c ∧ (hd ⟨n, ρ⟩).e ≤ 1 := by
  unfold Go.Proofs.Ytbliboojdlkpfaa.hd
  by_cases hp : 0 < c
  · rw [h.n, spN_pos hp]
    show (spn ρ 0).t = c ∧ (spn ρ 0).e ≤ 1
    rw [h.sp hp]
    exact ⟨rfl, by simp⟩
  · rw [h.n, spN_zero hp]
    exact ⟨by simp only [prv]; omega, by simp [prv]⟩

/-- such a site is in order -/
theorem SitOk.chk {x : Sit} {a r e c s : Int} (h : SitOk x a r e c s) (ha : a = 0 ∨ a = 1) (hr : r = 1 ∧ s = -1 ∨ r = 2 ∧ s = 1 - a) (he : 1 ≤ e ∧ e ≤ 1073741824) (hc : 0 ≤ c ∧ c ≤ 1073741824) : chkS x = 0 := by
  obtain ⟨h1, h2, h3, h4, h5, h6, h7, h8⟩ := h
  have hco := h5.corr hc.2
  obtain ⟨ht, hhe⟩ := h5.hd hc.1
  unfold chkS Go.Proofs.Ytbliboojdlkpfaa.chk
  rw [h1, h2, h3, h4, h6, hco, ht]
  have e1 : sit a = true := by unfold sit; rw [Bool.and_eq_true, le_iff, lt_iff]; omega
  have e2 : (le 0 r && le r 5) = true := by rw [Bool.and_eq_true, le_iff, le_iff]; omega
  have e3 : tim e = true := by unfold tim; rw [Bool.and_eq_true, le_iff, le_iff]; omega
  have e4 : tim c = true := by unfold tim; rw [Bool.and_eq_true, le_iff, le_iff]; omega
  have e5 : (e == 0) = false := by rw [beq_eq_false_iff_ne]; omega
  have e6 : lt e (Go.Proofs.Ytbliboojdlkpfaa.hd ⟨x.n, x.ρ⟩).e = false := by rw [← Bool.not_eq_true, lt_iff]; omega
  have e7 : (c != c) = false := by simp
  have e8 : ((rcv r && !oth s a) || (!rcv r && s != -1)) = false := by
    rcases hr with ⟨rfl, rfl⟩ | ⟨rfl, rfl⟩
    · rfl
    · rcases ha with rfl | rfl <;> rfl
  rw [e1, e2, e3, e4, e5, e6, e7, e8]
  rfl

/-- two such sites, with different numbers -/
structure TwoOk (l : Ses) (rA eA cA sA rB eB cB sB : Int) : Prop where
  n : l.n = 2
  A : SitOk (l.at 0) 0 rA eA cA sA
  B : SitOk (l.at 1) 1 rB eB cB sB

theorem TwoOk.sml {l : Ses} {rA eA cA sA rB eB cB sB : Int} (h : TwoOk l rA eA cA sA rB eB cB sB) : smallS l := by
  refine ⟨by rw [h.n]; unfold fewN; omega, fun i hi => ?_⟩
  rw [h.n] at hi
  match i, hi with
  | 0, _ => exact h.A.lin.sml
  | 1, _ => exact h.B.lin.sml

theorem anyB_two (f : Nat → Bool) : anyB f 2 = (f 0 || f 1) := by simp [anyB]

theorem TwoOk.ck {l : Ses} {rA eA cA sA rB eB cB sB : Int} (h : TwoOk l rA eA cA sA rB eB cB sB) (hA : chkS (l.at 0) = 0) (hB : chkS (l.at 1) = 0) (hr : ¬ (rA = 1 ∧ rB = 1)) : ckE l = 0 := by
  unfold ckE
  rw [h.n]
  have e0 : wrgS l 0 = false := by unfold wrgS; rw [hA]; rfl
  have e1 : wrgS l 1 = false := by
    have f1 : fndB l (l.at 1) 0 = false := by
      unfold fndB
      rw [h.A.a, h.B.a]; rfl
    have f2 : fndD l (l.at 1) 0 = false := by
      unfold fndD
      rw [h.A.r, h.B.r]
      have : (rA == 1 && rB == 1) = false := by
        rw [← Bool.not_eq_true, Bool.and_eq_true, beq_iff_eq, beq_iff_eq]; exact hr
      rw [this]; rfl
    unfold wrgS
    rw [hB]
    simp [anyB, f1, f2]
  rw [anyB_two, e0, e1]
  rfl

theorem TwoOk.has0 {l : Ses} {rA eA cA sA rB eB cB sB : Int} (h : TwoOk l rA eA cA sA rB eB cB sB) : hasN l 0 = true ∧ idxN l 0 = 0 := by
  have f0 : fndN l 0 0 = true := by unfold fndN; rw [h.A.a]; rfl
  unfold hasN idxN
  rw [h.n]
  exact firstB_eq (by omega) f0 fun j hj => absurd hj (Nat.not_lt_zero j)
theorem TwoOk.has1 {l : Ses} {rA eA cA sA rB eB cB sB : Int} (h : TwoOk l rA eA cA sA rB eB cB sB) : hasN l 1 = true ∧ idxN l 1 = 1 := by
  have f0 : fndN l 1 0 = false := by unfold fndN; rw [h.A.a]; rfl
  have f1 : fndN l 1 1 = true := by unfold fndN; rw [h.B.a]; rfl
  unfold hasN idxN
  rw [h.n]
  exact firstB_eq (by omega) f1 fun j hj => by
    obtain rfl : j = 0 := by omega
    exact f0

theorem TwoOk.by0 {l : Ses} {rA eA cA sA rB eB cB sB : Int} (h : TwoOk l rA eA cA sA rB eB cB sB) : l.by 0 = l.at 0 := by unfold Ses.by; rw [h.has0.2]
theorem TwoOk.by1 {l : Ses} {rA eA cA sA rB eB cB sB : Int} (h : TwoOk l rA eA cA sA rB eB cB sB) : l.by 1 = l.at 1 := by unfold Ses.by; rw [h.has1.2]

/-! ### sites that are put together -/

/-- what a site is, told by its cells -/
structure SameSit (x y : Sit) : Prop where
  a : x.a = y.a
  r : x.r = y.r
  e : x.e = y.e
  p : x.p = y.p
  n : x.n = y.n
  ρ : ∀ i, spn x.ρ i = spn y.ρ i
  s : x.s = y.s
  l : x.l = y.l
  c : x.c = y.c

theorem SitOk.same {x y : Sit} {a r e c s : Int} (h : SitOk y a r e c s) (k : SameSit x y) : SitOk x a r e c s :=
  ⟨k.a.trans h.a, k.r.trans h.r, k.e.trans h.e, k.p.trans h.p, ⟨k.n.trans h.lin.n, fun hc => (k.ρ 0).trans (h.lin.sp hc)⟩, k.s.trans h.s, k.l.trans h.l, k.c.trans h.c⟩

theorem two_at0 (x y : Sit) : SameSit ((two2C x.cs y.cs).at 0) x := ⟨rfl, rfl, rfl, rfl, rfl, fun _ => rfl, rfl, rfl, rfl⟩
theorem two_at1 (x y : Sit) : SameSit ((two2C x.cs y.cs).at 1) y := ⟨rfl, rfl, rfl, rfl, rfl, fun _ => rfl, rfl, rfl, rfl⟩

theorem set_same (l : Ses) (i : Nat) (x : Sit) : SameSit ((l.set i x).at i) x := by
  have e : ∀ f, f < 8 → (((l.set i x).ρ.at i).at f) = match nth x.cs f with | some y => .ofC y | none => Val.zero := fun f hf => by
    show ((l.ρ.upds i 0 x.cs).at i).at f = _
    rw [at_upds, if_pos ⟨rfl, by omega, by simpa [Sit.cs] using hf⟩]
    rfl
  have e0 := e 0 (by omega); have e1 := e 1 (by omega); have e2 := e 2 (by omega); have e3 := e 3 (by omega); have e4 := e 4 (by omega); have e5 := e 5 (by omega); have e6 := e 6 (by omega); have e7 := e 7 (by omega)
  unfold Ses.at siAt
  constructor
  · show (((l.set i x).ρ.at i).at 0).N [] = _
    rw [e0]; rfl
  · show (((l.set i x).ρ.at i).at 1).N [] = _
    rw [e1]; rfl
  · show (((l.set i x).ρ.at i).at 2).N [] = _
    rw [e2]; rfl
  · show (((l.set i x).ρ.at i).at 3).N [] = _
    rw [e3]; rfl
  · show (((l.set i x).ρ.at i).at 4).L [] = _
    rw [e4]; rfl
  · intro j
    show spn (((l.set i x).ρ.at i).at 4) j = _
    rw [e4]; rfl
  · show (((l.set i x).ρ.at i).at 5).N [] = _
    rw [e5]; rfl
  · show (((l.set i x).ρ.at i).at 6).B [] = _
    rw [e6]; rfl
  · show (((l.set i x).ρ.at i).at 7).B [] = _
    rw [e7]; rfl

theorem set_other (l : Ses) (i j : Nat) (x : Sit) (h : j ≠ i) : (l.set i x).at j = l.at j := by
  unfold Ses.at siAt
  have e : ∀ f, ((l.set i x).ρ.at j).at f = (l.ρ.at j).at f := fun f => by
    show ((l.ρ.upds i 0 x.cs).at j).at f = _
    rw [at_upds, if_neg fun hh => h hh.1]
  rw [e 0, e 1, e 2, e 3, e 4, e 5, e 6, e 7]

/-! ### Apply -/

theorem chain_all : ∀ {l : List (Bool × Int)}, (∀ q ∈ l, q.1 = true) → chain 0 l = 0
  | [], _ => rfl
  | (ok, k) :: r, h => by
    have : ok = true := h (ok, k) (by simp)
    subst this
    exact chain_all (l := r) fun q hq => h q (by simp [hq])

theorem SitOk.app {x : Sit} {a r c s : Int} (h : SitOk x a r 1 c s) (hk : chkS x = 0) (hr : r = 1 ∨ r = 2) (hc : 0 ≤ c ∧ c + 1 ≤ 1073741824) : appE x 1 (c + 1) = 0 ∧ SitOk (app x 1 (c + 1)) a r 1 (c + 1) s := by
  have hx := h
  obtain ⟨h1, h2, h3, h4, h5, h6, h7, h8⟩ := h
  constructor
  · unfold appE
    rw [hk, h2, h3, h4]
    refine chain_all fun q hq => ?_
    simp only [List.mem_cons, List.not_mem_nil, or_false] at hq
    rcases hq with rfl | rfl | rfl | rfl
    · rcases hr with rfl | rfl <;> rfl
    · simp [le]
    · rw [imax_le, Bool.and_eq_true, le_iff, le_iff]; omega
    · rw [lt_iff]; omega
  · have hlin : LinOk (extL x.ln 1 x.p (c + 1)).n (extL x.ln 1 x.p (c + 1)).ρ (c + 1) := by
      unfold extL Sit.ln
      simp only
      by_cases hp : 0 < c
      · have hn : x.n = 1 := by rw [h5.n, spN_pos hp]
        have hs := h5.sp hp
        have e1 : lt 0 (toInt64 x.n) = true := pos_iff.2 (by omega)
        have e2 : lastI x.n = 0 := by rw [hn]; rfl
        rw [e1, e2, hs]
        show LinOk x.n (x.ρ.upds 0 2 [I (c + 1)]) (c + 1)
        refine ⟨by rw [hn, spN_pos (by omega)], fun _ => ?_⟩
        rw [spn_upds, if_pos rfl, hs]
      · have hn : x.n = 0 := by rw [h5.n, spN_zero hp]
        have hc0 : c = 0 := by omega
        have e1 : lt 0 (toInt64 x.n) = false := by rw [hn]; rfl
        rw [e1, h4, hc0, hn]
        refine ⟨by rw [spN_pos (by omega)]; rfl, fun _ => ?_⟩
        show spn (Val.cat 0 x.ρ (Val.ofFlat 3 [I 1, I (IntKind.i64.wrap (0 + 1)), I (0 + 1)])) 0 = _
        rw [spn_cat, if_neg (by omega)]
        rfl
    exact ⟨h1, h2, rfl, rfl, hlin, h6, h7, h8⟩

/-- lineages of two such sites are the same if they have the same cycles -/
theorem lin_eq {n m : Nat} {ρ σ : Val} {c : Int} (h1 : LinOk n ρ c) (h2 : LinOk m σ c) : eqL ⟨⟨n, ρ⟩, ⟨m, σ⟩⟩ = true := by
  unfold eqL
  have e : n = m := h1.n.trans h2.n.symm
  have : anyB (difL ⟨⟨n, ρ⟩, ⟨m, σ⟩⟩) n = false := anyB_none fun i hi => by
    by_cases hp : 0 < c
    · rw [h1.n, spN_pos hp] at hi
      obtain rfl : i = 0 := by omega
      have a1 := h1.sp hp
      have a2 := h2.sp hp
      unfold spn at a1 a2
      simp only [Sp.mk.injEq] at a1 a2
      unfold difL dif
      rw [a1.1, a1.2.1, a1.2.2, a2.1, a2.2.1, a2.2.2]
      simp
    · rw [h1.n, spN_zero hp] at hi; omega
  simp [e ▸ this, e]

theorem SitOk.sameS {x y : Sit} {a r e c s : Int} (h1 : SitOk x a r e c s) (h2 : SitOk y a r e c s) : sameS x y = true := by
  unfold Go.Proofs.Ytbliboojdlkpfaa.sameS
  rw [lin_eq h1.lin h2.lin, h1.a, h2.a, h1.r, h2.r, h1.e, h2.e, h1.p, h2.p, h1.s, h2.s, h1.l, h2.l, h1.c, h2.c]
  simp

theorem pr1_ok (c : Int) : SitOk (pr1 c) 0 1 1 c (-1) := ⟨rfl, rfl, rfl, rfl, lin_pair c, rfl, rfl, rfl⟩
theorem pr2_ok (c : Int) : SitOk (pr2 c) 1 2 1 c 0 := ⟨rfl, rfl, rfl, rfl, lin_pair c, rfl, rfl, rfl⟩

end Go.Proofs.Ytbliboojdlkpfaa
/-
  The planned change of the primary: what holds while it goes on.
-/
namespace Go.Proofs.Ytbliboojdlkpfaa
open Go Go.Sx Go.RowKit Classical

set_option maxRecDepth 100000

/-- before the old primary is demoted -/
structure PhA (s : Stt) : Prop where
  d : s.P.d = false
  s0 : 0 ≤ s.P.s ∧ s.P.s ≤ 3
  e : s.P.s = 3 → 2 ≤ s.P.e
  L : ∃ b, (0 ≤ b ∧ b ≤ s.cy) ∧ TwoOk s.L 1 1 s.cy (-1) 2 1 b 0
  c : s.cl = false → 1 ≤ s.P.s → s.P.c = s.cy

structure OldOk (s : Stt) : Prop where
  n : s.O.n = 2
  A : SitOk (s.O.at 0) 0 1 1 s.cy (-1)

/-- before the new one is promoted -/
structure PhB (s : Stt) : Prop where
  d : s.P.d = false
  x : s.P.x = false
  s0 : s.P.s = 4
  e : 2 ≤ s.P.e
  c : s.P.c = s.cy
  L : TwoOk s.L 2 s.P.e s.cy 1 2 1 s.cy 0
  O : OldOk s

/-- it is done -/
structure PhC (s : Stt) : Prop where
  d : s.P.d = true
  x : s.P.x = false
  s0 : s.P.s = 5
  e : 2 ≤ s.P.e
  c : s.P.c = s.cy
  L : TwoOk s.L 2 s.P.e s.cy 1 1 s.P.e s.cy (-1)
  O : OldOk s

/-- what holds behind some events -/
structure Good (s : Stt) (k : Nat) : Prop where
  ri : s.ri = true
  cy : 0 ≤ s.cy ∧ s.cy ≤ 5 + k
  pk : s.P.k = 1
  pf : s.P.f = 0
  pt : s.P.t = 1
  pe : 0 ≤ s.P.e ∧ s.P.e ≤ 1073741824
  pc : 0 ≤ s.P.c ∧ s.P.c ≤ s.cy
  ph : PhA s ∨ PhB s ∨ PhC s

theorem Good.fmd {s : Stt} {k : Nat} (h : Good s k) (hk : k ≤ 1000) : fmd s.P = true := by
  obtain ⟨_, hcy, h1, h2, h3, h4, h5, h6⟩ := h
  unfold Go.Proofs.Ytbliboojdlkpfaa.fmd
  have a1 : tim s.P.e = true := by unfold tim; rw [Bool.and_eq_true, le_iff, le_iff]; omega
  have a2 : tim s.P.c = true := by unfold tim; rw [Bool.and_eq_true, le_iff, le_iff]; omega
  rw [h1, h2, h3, a1, a2]
  rcases h6 with h | h | h
  · have b1 : (le 0 s.P.s) = true := (le_iff _ _).2 h.s0.1
    have b2 : (le s.P.s 5) = true := (le_iff _ _).2 (by have := h.s0.2; omega)
    have b3 : (s.P.s == 5) = false := by rw [beq_eq_false_iff_ne]; have := h.s0.2; omega
    have b4 : lt 3 s.P.s = false := by rw [← Bool.not_eq_true, lt_iff]; have := h.s0.2; omega
    rw [b1, b2, b3, b4, h.d]; simp [le, lt]
  · rw [h.s0, h.d, h.x]; rfl
  · rw [h.s0, h.d, h.x]; rfl

theorem Good.chkP {s : Stt} {k : Nat} (h : Good s k) (hk : k ≤ 1000) : chkP s.P = 0 := by
  unfold Go.Proofs.Ytbliboojdlkpfaa.chkP
  rw [h.fmd hk]; rfl

/-- the sites: which two they are -/
theorem Good.two {s : Stt} {k : Nat} (h : Good s k) (hk : k ≤ 1000) : ∃ rA eA cA sA rB eB cB sB, TwoOk s.L rA eA cA sA rB eB cB sB ∧ chkS (s.L.at 0) = 0 ∧ chkS (s.L.at 1) = 0 ∧ ¬ (rA = 1 ∧ rB = 1) := by
  have hcy := h.cy
  have hpe := h.pe
  rcases h.ph with g | g | g
  · obtain ⟨b, hb, hL⟩ := g.L
    exact ⟨_, _, _, _, _, _, _, _, hL, hL.A.chk (.inl rfl) (.inl ⟨rfl, rfl⟩) (by omega) (by omega), hL.B.chk (.inr rfl) (.inr ⟨rfl, rfl⟩) (by omega) (by omega), by omega⟩
  · have := g.e
    exact ⟨_, _, _, _, _, _, _, _, g.L, g.L.A.chk (.inl rfl) (.inr ⟨rfl, rfl⟩) (by omega) (by omega), g.L.B.chk (.inr rfl) (.inr ⟨rfl, rfl⟩) (by omega) (by omega), by omega⟩
  · have := g.e
    exact ⟨_, _, _, _, _, _, _, _, g.L, g.L.A.chk (.inl rfl) (.inr ⟨rfl, rfl⟩) (by omega) (by omega), g.L.B.chk (.inr rfl) (.inl ⟨rfl, rfl⟩) (by omega) (by omega), by omega⟩

theorem Good.ck {s : Stt} {k : Nat} (h : Good s k) (hk : k ≤ 1000) : ckE s.L = 0 := by
  obtain ⟨_, _, _, _, _, _, _, _, h1, h2, h3, h4⟩ := h.two hk
  exact h1.ck h2 h3 h4
theorem Good.sml {s : Stt} {k : Nat} (h : Good s k) (hk : k ≤ 1000) : smallS s.L := by
  obtain ⟨_, _, _, _, _, _, _, _, h1, _⟩ := h.two hk
  exact h1.sml
theorem Good.n2 {s : Stt} {k : Nat} (h : Good s k) (hk : k ≤ 1000) : s.L.n = 2 := by
  obtain ⟨_, _, _, _, _, _, _, _, h1, _⟩ := h.two hk
  exact h1.n

theorem Good.pre {s : Stt} {k : Nat} (h : Good s k) (hk : k ≤ 1000) : preE s.P s.L = bif !(!s.P.d && !s.P.x) then 12 else 0 := by
  obtain ⟨_, _, _, _, _, _, _, _, h1, _⟩ := h.two hk
  unfold preE
  rw [h.chkP hk, h.ck hk, h.pf, h.pt, h1.has0.1, h1.has1.1]
  rfl

theorem Good.abt {s : Stt} {k : Nat} (h : Good s k) (hk : k ≤ 1000) : abtE s.P s.L = bif !((!s.P.d && !s.P.x) && le s.P.s 3) then 12 else 0 := by
  unfold abtE
  rw [h.chkP hk, h.ck hk]
  rfl

theorem Good.mono {s : Stt} {k : Nat} (h : Good s k) : Good s (k + 1) := ⟨h.ri, ⟨h.cy.1, by have := h.cy.2; omega⟩, h.pk, h.pf, h.pt, h.pe, h.pc, h.ph⟩

theorem wrap_cy {c : Int} (h : 0 ≤ c ∧ c ≤ 2000) : IntKind.i64.wrap (c + 1) = c + 1 := w64_id (by omega) (by omega)

/-- a further cycle of the primary -/
theorem Good.evA {s : Stt} {k : Nat} (h : Good s k) (hk : k ≤ 1000) (g : PhA s) (hcl : s.cl = true) : Good (evA s) (k + 1) := by
  obtain ⟨b, hb, hL⟩ := g.L
  have hcy := h.cy
  have hw : IntKind.i64.wrap (s.cy + 1) = s.cy + 1 := wrap_cy (by omega)
  have hchk := hL.A.chk (.inl rfl) (.inl ⟨rfl, rfl⟩) (by omega) (by omega)
  obtain ⟨hE, hA⟩ := hL.A.app hchk (.inl rfl) (by omega)
  have hE : appE s.A 1 (s.cy + 1) = 0 := hE
  have hA : SitOk (app s.A 1 (s.cy + 1)) 0 1 1 (s.cy + 1) (-1) := hA
  have e : Go.Proofs.Ytbliboojdlkpfaa.evA s = { s with L := two2C (app s.A 1 (s.cy + 1)).cs s.B.cs, cy := s.cy + 1 } := by
    unfold Go.Proofs.Ytbliboojdlkpfaa.evA
    rw [hw, hE, h.ri]
    have hri := h.ri
    obtain ⟨P, L, cy, O, cl, ri⟩ := s
    simp only at hri
    subst hri
    rfl
  rw [e]
  have hpc := h.pc
  refine ⟨h.ri, ⟨by simp only; omega, by simp only; omega⟩, h.pk, h.pf, h.pt, h.pe, ⟨hpc.1, by simp only; omega⟩, .inl ⟨g.d, g.s0, g.e, ⟨b, ⟨hb.1, by simp only; omega⟩, rfl, hA.same (two_at0 _ _), ?_⟩, fun hf => ?_⟩⟩
  · exact (show SitOk s.B 1 2 1 b 0 from hL.B).same (two_at1 _ _)
  · simp only at hf; rw [hcl] at hf; cases hf

/-- a cycle that the secondary applies -/
theorem Good.evB {s : Stt} {k : Nat} (h : Good s k) (hk : k ≤ 1000) (g : PhA s) (hlt : lt s.B.p s.cy = true) : Good (evB s) (k + 1) ∧ (evB s).cy = s.cy ∧ (evB s).P = s.P ∧ (evB s).cl = s.cl ∧ (∀ b, TwoOk s.L 1 1 s.cy (-1) 2 1 b 0 → TwoOk (evB s).L 1 1 s.cy (-1) 2 1 (b + 1) 0) := by
  obtain ⟨b, hb, hL⟩ := g.L
  have hcy := h.cy
  have hbp : s.B.p = b := hL.B.p
  rw [hbp, lt_iff] at hlt
  have hw : IntKind.i64.wrap (s.B.p + 1) = b + 1 := by rw [hbp]; exact wrap_cy (by omega)
  have hchk := hL.B.chk (.inr rfl) (.inr ⟨rfl, rfl⟩) (by omega) (by omega)
  obtain ⟨hE, hB⟩ := hL.B.app hchk (.inr rfl) (by omega)
  have hE : appE s.B 1 (b + 1) = 0 := hE
  have hB : SitOk (app s.B 1 (b + 1)) 1 2 1 (b + 1) 0 := hB
  have e : Go.Proofs.Ytbliboojdlkpfaa.evB s = { s with L := two2C s.A.cs (app s.B 1 (b + 1)).cs } := by
    unfold Go.Proofs.Ytbliboojdlkpfaa.evB
    rw [hw, hE, h.ri]
    have hri := h.ri
    obtain ⟨P, L, cy, O, cl, ri⟩ := s
    simp only at hri
    subst hri
    rfl
  have hT : TwoOk (two2C s.A.cs (app s.B 1 (b + 1)).cs) 1 1 s.cy (-1) 2 1 (b + 1) 0 := ⟨rfl, (show SitOk s.A 0 1 1 s.cy (-1) from hL.A).same (two_at0 _ _), hB.same (two_at1 _ _)⟩
  rw [e]
  refine ⟨⟨h.ri, ⟨by simp only; omega, by simp only; omega⟩, h.pk, h.pf, h.pt, h.pe, h.pc, .inl ⟨g.d, g.s0, g.e, ⟨b + 1, ⟨by omega, by simp only; omega⟩, hT⟩, g.c⟩⟩, rfl, rfl, rfl, fun b' hb' => ?_⟩
  have : b' = b := hb'.B.p.symm.trans hL.B.p
  subst this
  exact hT

/-- it is given up -/
theorem Good.evC {s : Stt} {k : Nat} (h : Good s k) (hk : k ≤ 1000) : Good (evC s) (k + 1) := by
  unfold Go.Proofs.Ytbliboojdlkpfaa.evC
  have ha := h.abt hk
  cases he : abtE s.P s.L == 0
  · exact h.mono
  · have h0 : abtE s.P s.L = 0 := by simpa using he
    have e1 : abtP s.P s.L = { s.P with x := true } := by unfold abtP; rw [h0]; rfl
    have e2 : abtL s.P s.L = s.L := by unfold abtL; rw [h0]; rfl
    rw [e1, e2]
    rw [h0] at ha
    rcases h.ph with g | g | g
    · exact ⟨h.ri, ⟨h.cy.1, by have := h.cy.2; show s.cy ≤ _; omega⟩, h.pk, h.pf, h.pt, h.pe, h.pc, .inl ⟨g.d, g.s0, g.e, g.L, g.c⟩⟩
    · rw [g.d, g.x, g.s0] at ha; cases ha
    · rw [g.d] at ha; cases ha

end Go.Proofs.Ytbliboojdlkpfaa
/-
  The planned change of the primary: what holds behind a step that is reported.
-/
namespace Go.Proofs.Ytbliboojdlkpfaa
open Go Go.Sx Go.RowKit Classical

set_option maxRecDepth 100000

/-- the step before which the sites are kept -/
def setO (s : Stt) : Stt := { s with O := bif s.P.s == 3 then s.L else s.O }

theorem Good.setO {s : Stt} {k : Nat} (h : Good s k) : Good (setO s) (k + 1) := by
  obtain ⟨h1, h2, h3, h4, h5, h6, h7, h8⟩ := h
  refine ⟨h1, ⟨h2.1, by have := h2.2; show s.cy ≤ _; omega⟩, h3, h4, h5, h6, h7, ?_⟩
  rcases h8 with g | g | g
  · exact .inl ⟨g.d, g.s0, g.e, g.L, g.c⟩
  · have e : Go.Proofs.Ytbliboojdlkpfaa.setO s = s := by
      unfold Go.Proofs.Ytbliboojdlkpfaa.setO
      rw [g.s0]; rfl
    rw [e]; exact .inr (.inl g)
  · have e : Go.Proofs.Ytbliboojdlkpfaa.setO s = s := by
      unfold Go.Proofs.Ytbliboojdlkpfaa.setO
      rw [g.s0]; rfl
    rw [e]; exact .inr (.inr g)

theorem bif_zero {b : Bool} {x y : Int} (h : (bif !b then x else y) = 0) (hx : x ≠ 0) : b = true ∧ y = 0 := by
  cases b
  · exact (hx h).elim
  · exact ⟨rfl, h⟩

/-- behind a step that is done -/
structure Done (s t : Stt) (w : Int) : Prop where
  pre : s.P.d = false ∧ s.P.x = false
  step : (s.P.s = 0 ∧ w = s.cy ∧ t = { s with P := { s.P with c := w, s := 1 } }) ∨
    (s.P.s = 1 ∧ w = s.B.p ∧ w < s.P.c ∧ t = s) ∨
    (s.P.s = 1 ∧ w = s.B.p ∧ w = s.P.c ∧ t = { s with P := { s.P with s := 2 } }) ∨
    (s.P.s = 2 ∧ w ≤ 1073741824 ∧ 2 ≤ w ∧ t = { s with P := { s.P with e := w, s := 3 } }) ∨
    (s.P.s = 3 ∧ s.cy = s.P.c ∧ s.B.p = s.P.c ∧ t = { s with P := { s.P with s := 4 }, L := s.L.set 0 (demo s.A s.P.e 1), O := s.L }) ∨
    (s.P.s = 4 ∧ t = { s with P := { s.P with s := 5, d := true }, L := s.L.set 1 (pro s.B s.P.e) })

theorem Good.done {s : Stt} {k : Nat} (h : Good s k) (hk : k ≤ 1000) {w : Int} (h0 : stpE s.P s.L true w = 0) :
    Done s { s with P := stpP s.P s.L true w, L := stpL s.P s.L true w, O := bif s.P.s == 3 then s.L else s.O } w := by
  have hpre := h.pre hk
  have hp : stpP s.P s.L true w = sucP s.P w := by unfold stpP; rw [h0]; rfl
  have hl : stpL s.P s.L true w = sucL s.P s.L := by unfold stpL; rw [h0]; rfl
  unfold stpE at h0
  rw [hpre] at h0
  have hpf := h.pf
  have hpt := h.pt
  cases hdx : (!s.P.d && !s.P.x)
  · rw [hdx] at h0; cases h0
  · rw [hdx] at h0
    have h0 : sucE s.P (s.L.by s.P.f) (s.L.by s.P.t) w = 0 := h0
    rw [Bool.and_eq_true, Bool.not_eq_true', Bool.not_eq_true'] at hdx
    refine ⟨hdx, ?_⟩
    rw [hp, hl]
    obtain ⟨_, _, _, _, _, _, _, _, hT, _⟩ := h.two hk
    rw [hpf, hpt, hT.by0, hT.by1] at h0
    have h0 : sucE s.P s.A s.B w = 0 := h0
    have hb0 : s.L.by 0 = s.A := hT.by0
    have hb1 : s.L.by 1 = s.B := hT.by1
    obtain ⟨⟨pk, pf, pt, ps, pe, pc, pd, px⟩, L, cy, O, cl, ri⟩ := s
    simp only at hpf hpt hdx
    subst hpf; subst hpt
    have hsz : ps = 0 ∨ ps = 1 ∨ ps = 2 ∨ ps = 3 ∨ ps = 4 ∨ ps = 5 := by
      have := fmd_step (h.fmd hk)
      exact this
    rcases hsz with rfl | rfl | rfl | rfl | rfl | rfl
    · rcases h.ph with g | g | g
      · obtain ⟨b, hb, hL⟩ := g.L
        have h0 : s0E (L.at 0) w = 0 := h0
        unfold s0E at h0
        obtain ⟨_, h0⟩ := bif_zero h0 (by omega)
        obtain ⟨h1, _⟩ := bif_zero h0 (by omega)
        have h1 : w = (L.at 0).p := by simpa using h1
        rw [hL.A.p] at h1
        exact .inl ⟨rfl, h1, rfl⟩
      · have := g.s0; simp at this
      · have := g.s0; simp at this
    · have h0 : s1E ⟨pk, 0, 1, 1, pe, pc, pd, px⟩ (L.at 0) (L.at 1) w = 0 := h0
      unfold s1E at h0
      obtain ⟨h1, h0⟩ := bif_zero h0 (by omega)
      rw [Bool.and_eq_true, le_iff, beq_iff_eq] at h1
      cases hlt : lt w pc
      · have h2 : ¬ w < pc := by rw [← lt_iff, hlt]; simp
        refine .inr (.inr (.inl ⟨rfl, h1.1, by have := h1.2; simp only at this; show w = pc; omega, ?_⟩))
        show (⟨bif lt w pc then _ else _, L, cy, O, cl, ri⟩ : Stt) = _
        rw [hlt]; rfl
      · refine .inr (.inl ⟨rfl, h1.1, (lt_iff _ _).1 hlt, ?_⟩)
        show (⟨bif lt w pc then _ else _, L, cy, O, cl, ri⟩ : Stt) = _
        rw [hlt]; rfl
    · rcases h.ph with g | g | g
      · obtain ⟨b, hb, hL⟩ := g.L
        have h0 : s2E (L.at 0) (L.at 1) w = 0 := h0
        unfold s2E at h0
        obtain ⟨h1, h0⟩ := bif_zero h0 (by omega)
        obtain ⟨h2, _⟩ := bif_zero h0 (by omega)
        rw [le_iff] at h1
        rw [Bool.and_eq_true, lt_iff, hL.A.e] at h2
        exact .inr (.inr (.inr (.inl ⟨rfl, h1, by omega, rfl⟩)))
      · have := g.s0; simp at this
      · have := g.s0; simp at this
    · rcases h.ph with g | g | g
      · obtain ⟨b, hb, hL⟩ := g.L
        have h0 : s3E ⟨pk, 0, 1, 3, pe, pc, pd, px⟩ (L.at 0) (L.at 1) = 0 := h0
        unfold s3E at h0
        obtain ⟨h1, _⟩ := bif_zero h0 (by omega)
        rw [Bool.and_eq_true, beq_iff_eq, beq_iff_eq, hL.A.p] at h1
        refine .inr (.inr (.inr (.inr (.inl ⟨rfl, h1.1, h1.2, ?_⟩))))
        show (⟨_, L.set (idxN L 0) (demo (L.by 0) pe 1), cy, L, cl, ri⟩ : Stt) = _
        rw [hT.has0.2, hb0]; rfl
      · have := g.s0; simp at this
      · have := g.s0; simp at this
    · refine .inr (.inr (.inr (.inr (.inr ⟨rfl, ?_⟩))))
      show (⟨_, L.set (idxN L 1) (pro (L.by 1) pe), cy, O, cl, ri⟩ : Stt) = _
      rw [hT.has1.2, hb1]; rfl
    · have := fmd_done (h.fmd hk) rfl
      simp only at this
      rw [this] at hdx
      cases hdx.1

theorem Good.of_done {s t : Stt} {k : Nat} (h : Good s k) {w : Int} (hd : Done s t w) : Good t (k + 1) := by
  have hcy := h.cy
  have hpc := h.pc
  have hpe := h.pe
  rcases hd.step with ⟨h1, h2, rfl⟩ | ⟨h1, h2, h3, rfl⟩ | ⟨h1, h2, h3, rfl⟩ | ⟨h1, h2, h3, rfl⟩ | ⟨h1, h2, h3, rfl⟩ | ⟨h1, rfl⟩
  · rcases h.ph with g | g | g
    · exact ⟨h.ri, ⟨hcy.1, by show s.cy ≤ _; omega⟩, h.pk, h.pf, h.pt, h.pe, ⟨by show 0 ≤ w; omega, by show w ≤ s.cy; omega⟩, .inl ⟨g.d, ⟨by simp, by simp⟩, by simp, g.L, fun _ _ => h2⟩⟩
    · have := g.s0; omega
    · have := g.s0; omega
  · exact h.mono
  · rcases h.ph with g | g | g
    · exact ⟨h.ri, ⟨hcy.1, by show s.cy ≤ _; omega⟩, h.pk, h.pf, h.pt, h.pe, h.pc, .inl ⟨g.d, ⟨by simp, by simp⟩, by simp, g.L, fun hf _ => g.c hf (by omega)⟩⟩
    · have := g.s0; omega
    · have := g.s0; omega
  · rcases h.ph with g | g | g
    · exact ⟨h.ri, ⟨hcy.1, by show s.cy ≤ _; omega⟩, h.pk, h.pf, h.pt, ⟨by show 0 ≤ w; omega, h2⟩, h.pc, .inl ⟨g.d, ⟨by simp, by simp⟩, fun _ => h3, g.L, fun hf _ => g.c hf (by omega)⟩⟩
    · have := g.s0; omega
    · have := g.s0; omega
  · rcases h.ph with g | g | g
    · obtain ⟨b, hb, hL⟩ := g.L
      have hbc : b = s.cy := by
        have : s.B.p = b := hL.B.p
        omega
      subst hbc
      have hA : SitOk (demo s.A s.P.e 1) 0 2 s.P.e s.cy 1 := ⟨hL.A.a, rfl, rfl, hL.A.p, hL.A.lin, rfl, hL.A.l, hL.A.c⟩
      refine ⟨h.ri, ⟨hcy.1, by show s.cy ≤ _; omega⟩, h.pk, h.pf, h.pt, h.pe, h.pc, .inr (.inl ⟨g.d, hd.pre.2, rfl, g.e h1, h2.symm, ⟨hL.n, hA.same (set_same _ _ _), ?_⟩, ⟨hL.n, hL.A⟩⟩)⟩
      show SitOk ((s.L.set 0 _).at 1) 1 2 1 s.cy 0
      rw [set_other _ 0 1 _ (by omega)]
      exact hL.B
    · have := g.s0; omega
    · have := g.s0; omega
  · rcases h.ph with g | g | g
    · have := g.s0; omega
    · have hL := g.L
      have hB : SitOk (pro s.B s.P.e) 1 1 s.P.e s.cy (-1) := ⟨hL.B.a, rfl, rfl, hL.B.p, hL.B.lin, rfl, hL.B.l, hL.B.c⟩
      refine ⟨h.ri, ⟨hcy.1, by show s.cy ≤ _; omega⟩, h.pk, h.pf, h.pt, h.pe, h.pc, .inr (.inr ⟨rfl, g.x, rfl, g.e, g.c, ⟨hL.n, ?_, hB.same (set_same _ _ _)⟩, ⟨g.O.n, g.O.A⟩⟩)⟩
      show SitOk ((s.L.set 1 _).at 0) 0 2 s.P.e s.cy 1
      rw [set_other _ 1 0 _ (by omega)]
      exact hL.A
    · have := g.s0; omega

theorem Good.evD {s : Stt} {k : Nat} (h : Good s k) (hk : k ≤ 1000) (ok : Bool) (w : Int) : Good (evD s ok w) (k + 1) := by
  unfold Go.Proofs.Ytbliboojdlkpfaa.evD
  cases he : stpE s.P s.L ok w == 0
  · exact h.setO
  · have h0 : stpE s.P s.L ok w = 0 := by simpa using he
    simp only [cond_true]
    cases ok
    · have hpre := h.pre hk
      have e1 : stpP s.P s.L false w = { s.P with x := le s.P.s 3 } := by unfold stpP; rw [h0]; rfl
      have e2 : stpL s.P s.L false w = s.L := by unfold stpL; rw [h0]; rfl
      rw [e1, e2]
      have hs := h.setO
      rcases h.ph with g | g | g
      · refine ⟨hs.ri, hs.cy, hs.pk, hs.pf, hs.pt, hs.pe, hs.pc, .inl ⟨g.d, g.s0, g.e, g.L, g.c⟩⟩
      · have e3 : ({ s with P := { s.P with x := le s.P.s 3 }, L := s.L, O := bif s.P.s == 3 then s.L else s.O } : Stt) = Go.Proofs.Ytbliboojdlkpfaa.setO s := by
          have hx : le s.P.s 3 = s.P.x := by rw [g.s0, g.x]; rfl
          rw [hx]; rfl
        rw [e3]; exact hs
      · unfold stpE at h0
        rw [hpre, g.d] at h0; cases h0
    · exact h.of_done (h.done hk h0)

/-- **what holds goes on holding** -/
theorem Good.step {s : Stt} {k : Nat} (h : Good s k) (hk : k ≤ 1000) (kd v : Int) : Good (stepS s kd v) (k + 1) := by
  unfold stepS
  have hn : (toInt64 s.L.n != 2) = false := by rw [h.n2 hk]; rfl
  rw [hn]
  simp only [cond_false]
  cases kd.tmod 9 == 8
  · cases kd.tmod 9 == 6
    · cases kd.tmod 9 == 7
      · exact h.evD hk _ _
      · exact h.evC hk
    · simp only [cond_true, cond_false]
      cases hc : (lt s.B.p s.cy && s.B.r == 2) && s.A.r == 1
      · exact h.mono
      · rw [Bool.and_eq_true, Bool.and_eq_true] at hc
        have hr : s.A.r = 1 := by simpa using hc.2
        rcases h.ph with g | g | g
        · exact (h.evB hk g hc.1.1).1
        · have := g.L.A.r; have : s.A.r = 2 := this; omega
        · have := g.L.A.r; have : s.A.r = 2 := this; omega
  · simp only [cond_true]
    cases hc : s.A.r == 1 && s.cl
    · exact h.mono
    · rw [Bool.and_eq_true] at hc
      have hr : s.A.r = 1 := by simpa using hc.1
      rcases h.ph with g | g | g
      · exact h.evA hk g hc.2
      · have := g.L.A.r; have : s.A.r = 2 := this; omega
      · have := g.L.A.r; have : s.A.r = 2 := this; omega

end Go.Proofs.Ytbliboojdlkpfaa
/-
  The planned change of the primary: events that are carried out.
-/
namespace Go.Proofs.Ytbliboojdlkpfaa
open Go Go.Sx Go.RowKit Classical

set_option maxRecDepth 100000

noncomputable abbrev HR : Hd := ⟨HL.pc, (29, nG Gstp) :: HT.hc, [], HL.mc⟩
theorem hR : HdOk Try.prog HR := hT.ucCons uStp

abbrev evSh : List Sh := [.int .u8, .int .i64]
def Stt.cs (s : Stt) : List CV := [I s.P.k, I s.P.f, I s.P.t, I s.P.s, I s.P.e, I s.P.c, .bool s.P.d, .bool s.P.x, .sl siSh s.L.n s.L.ρ, I s.cy, .sl siSh s.O.n s.O.ρ, .bool s.cl, .bool s.ri]
def zSt : List CV := [I 0, I 0, I 0, I 0, I 0, I 0, .bool false, .bool false, .nils, I 0, .nils, .bool false, .bool false]

/-- events, and the state before them -/
structure CR where
  n : Nat
  ε : Val
  s : Stt
structure VR where
  s : Stt
  i : Int

def SR (c : CR) (v : VR) : St := mkS 56 [(2, .one (.c (.sl evSh c.n c.ε))), (8, .one (.c (.ptr 0 0))), (13, .one (.c (.ptr 1 0))), (14, .one (.c (I v.i)))] [some (51, zSt), some (51, v.s.cs)]
/-- the event with a number -/
def ekd (ε : Val) (i : Nat) : Int := ((ε.at i).at 0).N []
def evl (ε : Val) (i : Nat) : Int := ((ε.at i).at 1).N []
noncomputable def TXR (c : CR) (v : VR) : Tree (XE × VR) :=
  .br (lt v.i (toInt64 c.n) && v.s.ri) (.need (inRange v.i c.n) (.need (dec (smallS v.s.L)) (.leaf (.normal, ⟨stepS v.s (ekd c.ε v.i.toNat) (evl c.ε v.i.toNat), IntKind.i64.wrap (v.i + 1)⟩)))) (.leaf (.exit 0, v))
theorem tR (c : CR) (v : VR) : ((evCode Try.prog HR (evFn Try.prog HR 10) 24 0 1 (loopBody Try.prog 24 0) (SR c v)).bind fun y => gcT [2, 8, 13, 14] 0 y) = (TXR c v).bind fun y => .leaf (y.1, SR c y.2) := by kernel_rfl

/-- the state behind some events -/
def foldS (s : Stt) (ε : Val) : Nat → Stt
  | 0 => s
  | i + 1 => stepS (foldS s ε i) (ekd ε i) (evl ε i)

theorem Good.fold {s : Stt} (h : Good s 0) (ε : Val) : ∀ i : Nat, i ≤ 1000 → Good (foldS s ε i) i
  | 0, _ => h
  | i + 1, hi => (Good.fold h ε i (by omega)).step (by omega) _ _

def goodR (c : CR) : Prop := Good c.s 0 ∧ c.n ≤ 900
def stR (c : CR) (i : Nat) : VR := ⟨foldS c.s c.ε i, i⟩
theorem sqR (c : CR) (h : goodR c) : Sq (TXR c) (fun v => (c.n - v.i).toNat) (stR c) (stR c) c.n (fun _ => false) .ret (.exit 0) where
  out := by simp
  hit := by simp
  meas i hi := by show ((c.n : Int) - (i : Int)).toNat = _; omega
  round i hi := by
    obtain ⟨hg, hn⟩ := h
    have hgi := hg.fold c.ε i (by omega)
    have hw : IntKind.i64.wrap ((i : Int) + 1) = ((i + 1 : Nat) : Int) := by rw [w64_id (by omega) (by omega)]; omega
    refine ⟨fun _ => ⟨inR hi, dec_iff.2 (hgi.sml (by omega)), ?_⟩, fun hlt => ?_⟩
    · show (XE.normal, (⟨stepS (foldS c.s c.ε i) (ekd c.ε i) (evl c.ε i), IntKind.i64.wrap ((i : Int) + 1)⟩ : VR)) = (.normal, stR c (i + 1))
      rw [hw]; rfl
    · have : (lt (i : Int) (toInt64 c.n) && (foldS c.s c.ε i).ri) = false := hlt
      rw [ltF hi, hgi.ri] at this; cases this
  stop := by
    refine ⟨fun hlt => ?_, fun _ => rfl⟩
    have : (lt (c.n : Int) (toInt64 c.n) && (foldS c.s c.ε c.n).ri) = true := hlt
    rw [ltS] at this; cases this

def getR : List (Nat × AV) → Mem → Option (CR × VR)
  | [(2, .one (.c (.sl [.int .u8, .int .i64] n ε))), (8, .one (.c (.ptr 0 0))), (13, .one (.c (.ptr 1 0))), (14, .one (.c (.int .i64 i)))],
    [some (51, [.int .i64 0, .int .i64 0, .int .i64 0, .int .i64 0, .int .i64 0, .int .i64 0, .bool false, .bool false, .nils, .int .i64 0, .nils, .bool false, .bool false]),
     some (51, [.int .i64 k, .int .i64 f, .int .i64 t, .int .i64 s, .int .i64 e, .int .i64 c, .bool d, .bool x, .sl [.int .i64, .int .i64, .int .i64, .int .i64, .sl [.int .i64, .int .i64, .int .i64], .int .i64, .bool, .bool] ln lρ, .int .i64 cy, .sl [.int .i64, .int .i64, .int .i64, .int .i64, .sl [.int .i64, .int .i64, .int .i64], .int .i64, .bool, .bool] on oρ, .bool cl, .bool ri])] =>
    some (⟨n, ε, ⟨⟨k, f, t, s, e, c, d, x⟩, ⟨ln, lρ⟩, cy, ⟨on, oρ⟩, cl, ri⟩⟩, ⟨⟨⟨k, f, t, s, e, c, d, x⟩, ⟨ln, lρ⟩, cy, ⟨on, oρ⟩, cl, ri⟩, i⟩)
  | _, _ => none

noncomputable def LR : Nat → St → Tree (XE × St) := flatMH 2 10 siSh (lqH [2, 8, 13, 14] 0 56 getR fun c v => lq1 (SR c) (goodR c ∧ v = stR c 0) (.exit 0) (stR c c.n))

theorem lR (fn : Func) (c b : Code) (hf : Try.prog.funcs[24]? = some fn) (hc : fn.body = some c) (hb : nthLoop c 0 = some b) : LoopOk Try.prog b LR :=
  flatMH_ok 2 10 siSh (lq1_ok hR 10 24 0 hf hc hb [2, 8, 13, 14] 0 56 SR TXR tR getR (fun l m c v h => by unfold getR at h; split at h <;> simp at h; obtain ⟨rfl, rfl⟩ := h; rfl)
    goodR (fun c v => (c.n - v.i).toNat) stR (fun c => c.n) (.exit 0) sqR (fun c => stR c c.n) (fun _ _ => StWk.refl))

noncomputable abbrev HR2 : Hd := ⟨HR.pc, HR.hc, [((24, 0), LR)], HR.mc⟩
theorem hR2 : HdOk Try.prog HR2 := HdOk.lhCons hR lR

/-! ### run -/

def nC (a : Int) : Int := IntKind.i64.wrap (a.tmod 6)
def mC (a b : Int) : Int := (IntKind.i64.wrap b).tmod (IntKind.i64.wrap (nC a + 1))
/-- a switchover that begins -/
def ini (c m : Int) (cl : Bool) : Stt := ⟨begP (pairS c m) 0 1, pairS c m, c, ⟨0, Val.zero⟩, cl, begE (pairS c m) 0 1 == 0⟩
def runS (a b : Int) (n : Nat) (ε : Val) (cl : Bool) : Stt := foldS (ini (nC a) (mC a b) cl) ε n
def byt (a : Int) : Prop := 0 ≤ a ∧ a ≤ 255

theorem nC_ok {a : Int} (h : byt a) : 0 ≤ nC a ∧ nC a ≤ 5 ∧ IntKind.i64.wrap (nC a + 1) = nC a + 1 := by
  unfold byt at h
  have e : a.tmod 6 = a % 6 := Int.tmod_eq_emod_of_nonneg h.1
  have : nC a = a % 6 := by
    unfold nC
    rw [e, w64_id (by omega) (by omega)]
  rw [this]
  exact ⟨by omega, by omega, w64_id (by omega) (by omega)⟩
theorem mC_ok {a b : Int} (ha : byt a) (hb : byt b) : 0 ≤ mC a b ∧ mC a b ≤ nC a := by
  obtain ⟨h1, h2, h3⟩ := nC_ok ha
  unfold byt at hb
  unfold mC
  rw [h3, w64_id (by omega) (by omega), Int.tmod_eq_emod_of_nonneg hb.1]
  have a1 := Int.emod_nonneg b (show nC a + 1 ≠ 0 by omega)
  have a2 := Int.emod_lt_of_pos b (show 0 < nC a + 1 by omega)
  omega

theorem pair_two (c m : Int) : TwoOk (pairS c m) 1 1 c (-1) 2 1 m 0 := ⟨rfl, (pr1_ok c).same (two_at0 _ _), (pr2_ok m).same (two_at1 _ _)⟩

theorem ini_good {c m : Int} (hc : 0 ≤ c ∧ c ≤ 5) (hm : 0 ≤ m ∧ m ≤ c) (cl : Bool) : Good (ini c m cl) 0 := by
  have hT := pair_two c m
  have hck : ckE (pairS c m) = 0 := hT.ck (hT.A.chk (.inl rfl) (.inl ⟨rfl, rfl⟩) (by omega) (by omega)) (hT.B.chk (.inr rfl) (.inr ⟨rfl, rfl⟩) (by omega) (by omega)) (by omega)
  have hE : begE (pairS c m) 0 1 = 0 := by
    unfold begE
    rw [hck, hT.has0.1, hT.has1.1]
    unfold ok18 ok12
    rw [hT.by0, hT.by1, hT.A.r, hT.B.r, hT.B.s, hT.A.l, hT.B.l, hT.B.c]
    rfl
  have hP : begP (pairS c m) 0 1 = ⟨1, 0, 1, 0, 0, c, false, false⟩ := by
    unfold begP
    rw [hE, hT.by0, hT.A.p]; rfl
  have e : ini c m cl = ⟨⟨1, 0, 1, 0, 0, c, false, false⟩, pairS c m, c, ⟨0, Val.zero⟩, cl, true⟩ := by
    unfold ini
    rw [hP, hE]; rfl
  rw [e]
  exact ⟨rfl, ⟨hc.1, by show c ≤ _; omega⟩, rfl, rfl, rfl, ⟨by simp, by simp⟩, ⟨hc.1, by simp⟩, .inl ⟨rfl, ⟨by simp, by simp⟩, by simp, ⟨m, hm, hT⟩, fun _ h => by simp at h⟩⟩

theorem run_good {a b : Int} (ha : byt a) (hb : byt b) {n : Nat} (hn : n ≤ 1000) (ε : Val) (cl : Bool) : Good (runS a b n ε cl) n :=
  (ini_good ⟨(nC_ok ha).1, (nC_ok ha).2.1⟩ (mC_ok ha hb) cl).fold ε n hn

noncomputable def Grun : List A1 → Option (Bool × AV)
  | [.c (.int .u8 a), .c (.int .u8 b), .c (.sl [.int .u8, .int .i64] n ε), .c (.bool cl)] => some (dec (n ≤ 900 ∧ byt a ∧ byt b), .one (runS a b n ε cl).cv)
  | _ => none

theorem uRun : UcOne Try.prog 24 (nG Grun) := ucOne_of_tree hR2 12 24 fun args r h => by
  unfold Grun at h; split at h
  · rename_i a b n ε cl
    obtain ⟨hp, rfl⟩ := Prod.mk.inj (Option.some.inj h)
    obtain ⟨hn, ha, hb⟩ := dec_iff.1 hp
    refine ⟨.need (!((6 : Int) == 0)) (.need (!(IntKind.i64.wrap (nC a + 1) == 0)) (.need (dec (smallS (pairS (nC a) (mC a b)))) (.need (dec (goodR ⟨n, ε, ini (nC a) (mC a b) cl⟩ ∧ (⟨ini (nC a) (mC a b) cl, 0⟩ : VR) = stR ⟨n, ε, ini (nC a) (mC a b) cl⟩ 0)) (.leaf (.one (runS a b n ε cl).cv))))), by kernel_rfl, rfl, ?_, ?_, ?_, leA.refl⟩
    · have := nC_ok ha
      rw [this.2.2]
      have : (nC a + 1 == 0) = false := by rw [beq_eq_false_iff_ne]; omega
      rw [this]; rfl
    · exact dec_iff.2 (pair_two _ _).sml
    · exact dec_iff.2 ⟨⟨ini_good ⟨(nC_ok ha).1, (nC_ok ha).2.1⟩ (mC_ok ha hb) cl, hn⟩, rfl⟩
  · cases h

noncomputable abbrev HX : Hd := ⟨HL.pc, (24, nG Grun) :: HR.hc, [], HL.mc⟩
theorem hX : HdOk Try.prog HX := hR.ucCons uRun

end Go.Proofs.Ytbliboojdlkpfaa
/-
  The planned change of the primary: what is said of a switchover that is carried out.
-/
namespace Go.Proofs.Ytbliboojdlkpfaa
open Go Go.Sx Go.RowKit Classical

set_option maxRecDepth 100000

/-- the right side of a conjunction is asked for only where the left side holds -/
theorem gd {b c : Bool} (h : c = true) : (!(b == true && true) || c) = true := by rw [h, Bool.or_true]

theorem argB_eq (ρ : Val) : argOf Try.prog 5 [.int .u8] ρ = .c (.int .u8 ((ρ.at 0).N [])) := by kernel_rfl
theorem argE_eq (ρ : Val) : argOf Try.prog 49 [.sl [.int .u8, .int .i64]] ρ = .c (.sl evSh ((ρ.at 0).L []) (ρ.at 0)) := by kernel_rfl
theorem byt_of {ρ : Val} (h : wfL [.int .u8] 0 ρ) : byt ((ρ.at 0).N []) := by
  have h : (Lit.int .u8 ((ρ.at 0).N [])).wf = true := h.1
  unfold byt
  simpa [Lit.wf, IntKind.min, IntKind.max, IntKind.signed, IntKind.bits] using h

/-! ### Keeps -/

noncomputable def tK8 (R : Stt) : Tree AV :=
  let A := R.L.at 0
  let B := R.L.at 1
  let O := R.O.at 0
  let b1 := B.r == 1
  let b2 := b1 && B.p == O.p
  let b3 := b2 && B.p == R.cy
  let b4 := b3 && eqL ⟨B.ln, O.ln⟩
  let b5 := b4 && A.r == 2
  let b6 := b5 && A.s == 1
  .br (!R.ri || !R.P.d) (.leaf (bT R.ri)) (.br (toInt64 R.O.n != 2 || toInt64 R.L.n != 2) (.leaf (bT false))
    (.need (!(true && true) || inRange 1 R.L.n) (.need (!(b1 == true && true) || inRange 1 R.L.n) (.need (!(b1 == true && true) || inRange 0 R.O.n) (.need (!(b2 == true && true) || inRange 1 R.L.n) (.need (!(b3 == true && true) || inRange 1 R.L.n) (.need (!(b3 == true && true) || inRange 0 R.O.n) (.need (!(b3 == true && true) || dec (fewN B.n))
      (.need (!(b4 == true && true) || inRange 0 R.L.n) (.need (!(b5 == true && true) || inRange 0 R.L.n) (.need (!(b6 == true && true) || inRange 0 R.L.n) (.need (!(b6 == true && true) || inRange 1 R.L.n) (.leaf (bT (b6 && A.e == B.e)))))))))))))))

theorem tK8_all {R : Stt} {k : Nat} (h : Good R k) (hk : k ≤ 1000) : (tK8 R).All (fun z => z = .one (.c (.bool true))) := by
  have hn := h.n2 hk
  have i0 : inRange 0 R.L.n = true := by rw [hn]; rfl
  have i1 : inRange 1 R.L.n = true := by rw [hn]; rfl
  unfold tK8
  refine ⟨fun _ => by show bT R.ri = _; rw [h.ri]; rfl, fun hd => ?_⟩
  rw [h.ri] at hd
  have hd : R.P.d = true := by simpa using hd
  rcases h.ph with g | g | g
  · rw [g.d] at hd; cases hd
  · rw [g.d] at hd; cases hd
  · have hO := g.O
    have o0 : inRange 0 R.O.n = true := by rw [hO.n]; rfl
    have hf : dec (fewN (R.L.at 1).n) = true := dec_iff.2 (dec_iff.1 (small_few g.L.B.lin.sml))
    refine ⟨fun hh => ?_, fun _ => ⟨(by rw [i1]; rfl), gd i1, gd o0, gd i1, gd i1, gd o0, gd hf, gd i0, gd i0, gd i0, gd i1, ?_⟩⟩
    · rw [hO.n, hn] at hh; cases hh
    · show bT _ = _
      have e : eqL ⟨(R.L.at 1).ln, (R.O.at 0).ln⟩ = true := lin_eq g.L.B.lin hO.A.lin
      rw [e, g.L.B.r, g.L.B.p, hO.A.p, g.L.A.r, g.L.A.s, g.L.A.e, g.L.B.e]
      simp [bT]

theorem toInt_lt {n m : Nat} : (lt (m : Int) (toInt64 n) = true) ↔ m < n := by
  rw [lt_iff]
  show (m : Int) < (n : Int) ↔ _
  omega

theorem law8 (a b : Int) (ha : byt a) (hb : byt b) (n : Nat) (ε : Val) {F : Nat → Prop} {W : World} {vs : List Value} (h : All2 (A1.Rel F W []) [.c (.int .u8 a), .c (.int .u8 b), .c (.sl evSh n ε)] vs) :
    Calls Try.prog 8 vs.toArray W (fun e W' => e = .returned (.bool true) ∧ Below W.heap.size W W') := by
  refine law_of_tree hX 12 8 (u := .br (lt 40 (toInt64 n)) (.leaf (bT true)) (.need (dec (n ≤ 900 ∧ byt a ∧ byt b)) (tK8 (runS a b n ε true)))) (by kernel_rfl) ⟨fun _ => rfl, fun hn => ?_⟩ h
  have hn : ¬ 40 < n := by rw [← toInt_lt (m := 40)]; show ¬ lt 40 (toInt64 n) = true; rw [hn]; simp
  exact ⟨dec_iff.2 ⟨by omega, ha, hb⟩, tK8_all (run_good ha hb (by omega) ε true) (by omega)⟩

/-! ### Leaves -/

noncomputable def tK9 (R : Stt) : Tree AV :=
  let A := R.L.at 0
  let B := R.L.at 1
  let c1 := stpE R.P R.L true 1 == 12
  let c2 := c1 && sameS A ((pairS R.cy 0).at 0)
  let c3 := c2 && B.r == 2
  let c4 := c3 && B.s == 0
  .br (!R.ri || !R.P.x) (.leaf (bT R.ri)) (.need (dec (smallS R.L)) (.br (toInt64 R.L.n != 2) (.leaf (bT false))
    (.need (!(c1 == true && true) || inRange 0 R.L.n) (.need (!(c1 == true && true) || true) (.need (!(c1 == true && true) || dec (fewN A.n)) (.need (!(c2 == true && true) || inRange 1 R.L.n) (.need (!(c3 == true && true) || inRange 1 R.L.n) (.need (!(c4 == true && true) || inRange 1 R.L.n)
      (.leaf (bT (c4 && B.e == 1)))))))))))

theorem tK9_all {R : Stt} {k : Nat} (h : Good R k) (hk : k ≤ 1000) : (tK9 R).All (fun z => z = .one (.c (.bool true))) := by
  have hn := h.n2 hk
  have i0 : inRange 0 R.L.n = true := by rw [hn]; rfl
  have i1 : inRange 1 R.L.n = true := by rw [hn]; rfl
  unfold tK9
  refine ⟨fun _ => by show bT R.ri = _; rw [h.ri]; rfl, fun hd => ?_⟩
  rw [h.ri] at hd
  have hx : R.P.x = true := by simpa using hd
  refine ⟨dec_iff.2 (h.sml hk), fun hh => ?_, fun _ => ?_⟩
  · rw [hn] at hh; cases hh
  · rcases h.ph with g | g | g
    · obtain ⟨b, hb, hL⟩ := g.L
      have hf : dec (fewN (R.L.at 0).n) = true := dec_iff.2 (dec_iff.1 (small_few hL.A.lin.sml))
      have hE : stpE R.P R.L true 1 = 12 := by
        unfold stpE
        rw [h.pre hk, hx]
        cases R.P.d <;> rfl
      refine ⟨gd i0, gd rfl, gd hf, gd i1, gd i1, gd i1, ?_⟩
      show bT _ = _
      have hS : sameS (R.L.at 0) ((pairS R.cy 0).at 0) = true := hL.A.sameS (pair_two R.cy 0).A
      rw [hE, hS, hL.B.r, hL.B.s, hL.B.e]
      rfl
    · rw [g.x] at hx; cases hx
    · rw [g.x] at hx; cases hx

theorem law9 (a b : Int) (ha : byt a) (hb : byt b) (n : Nat) (ε : Val) {F : Nat → Prop} {W : World} {vs : List Value} (h : All2 (A1.Rel F W []) [.c (.int .u8 a), .c (.int .u8 b), .c (.sl evSh n ε)] vs) :
    Calls Try.prog 9 vs.toArray W (fun e W' => e = .returned (.bool true) ∧ Below W.heap.size W W') := by
  refine law_of_tree hX 12 9 (u := .br (lt 40 (toInt64 n)) (.leaf (bT true)) (.need (dec (n ≤ 900 ∧ byt a ∧ byt b)) (tK9 (runS a b n ε true)))) (by kernel_rfl) ⟨fun _ => rfl, fun hn => ?_⟩ h
  have hn : ¬ 40 < n := by rw [← toInt_lt (m := 40)]; show ¬ lt 40 (toInt64 n) = true; rw [hn]; simp
  exact ⟨dec_iff.2 ⟨by omega, ha, hb⟩, tK9_all (run_good ha hb (by omega) ε true) (by omega)⟩

end Go.Proofs.Ytbliboojdlkpfaa
