/-
  Part TlZB of the proof: CasA.
-/
import Derived.Test.YtennlgngdjegoaaGreatTlZA
namespace Go.Proofs.YtennlgngdjegoaaGreat
open Go Go.Sx Go.RowKit Classical
set_option maxRecDepth 100000
def spN (c : Int) : Nat := bif lt 0 c then 1 else 0
def spV (c : Int) : Val := bif lt 0 c then Val.ofFlat 3 [I 1, I 1, I c] else Val.zero
def pr1 (c : Int) : Sit := ⟨0, 1, 1, c, spN c, spV c, -1, true, true⟩
def pr2 (b : Int) : Sit := ⟨1, 2, 1, b, spN b, spV b, 0, true, true⟩
def two2S (x y : Sit) : Ses := ⟨2, Val.ofFlat 8 (x.cs ++ y.cs)⟩
def pairS (c b : Int) : Ses := two2S (pr1 c) (pr2 b)
structure Stt where
  P : Prc
  L : Ses
  cy : Int
  O : Ses
  cl : Bool
  ri : Bool
def Stt.A (s : Stt) : Sit := s.L.at 0
def Stt.B (s : Stt) : Sit := s.L.at 1
def two2C (a b : List CV) : Ses := ⟨2, Val.ofFlat 8 (a ++ b)⟩
def evA (s : Stt) : Stt := { s with L := two2C (okC (appE s.A 1 (IntKind.i64.wrap (s.cy + 1))) (app s.A 1 (IntKind.i64.wrap (s.cy + 1)))) s.B.cs, cy := IntKind.i64.wrap (s.cy + 1), ri := s.ri && appE s.A 1 (IntKind.i64.wrap (s.cy + 1)) == 0 }
def evB (s : Stt) : Stt := { s with L := two2C s.A.cs (okC (appE s.B 1 (IntKind.i64.wrap (s.B.p + 1))) (app s.B 1 (IntKind.i64.wrap (s.B.p + 1)))), ri := s.ri && appE s.B 1 (IntKind.i64.wrap (s.B.p + 1)) == 0 }
def evD (s : Stt) (ok : Bool) (w : Int) : Stt :=
  bif stpE s.P s.L ok w == 0 then { s with P := stpP s.P s.L ok w, L := stpL s.P s.L ok w, O := bif s.P.s == 3 then s.L else s.O } else { s with O := bif s.P.s == 3 then s.L else s.O }
structure LinOk (n : Nat) (ρ : Val) (c : Int) : Prop where
  n : n = spN c
  sp : 0 < c → spn ρ 0 = ⟨1, 1, c⟩
structure SitOk (x : Sit) (a r e c s : Int) : Prop where
  a : x.a = a
  r : x.r = r
  e : x.e = e
  p : x.p = c
  lin : LinOk x.n x.ρ c
  s : x.s = s
  l : x.l = true
  c : x.c = true
theorem spN_pos {c : Int} (h : 0 < c) : spN c = 1 := by unfold spN; rw [(lt_iff _ _).2 h]; rfl
theorem spN_zero {c : Int} (h : ¬ 0 < c) : spN c = 0 := by
  have : lt 0 c = false := by rw [← Bool.not_eq_true, lt_iff]; exact h
  unfold spN; rw [this]; rfl
theorem lin_pair (c : Int) : LinOk (spN c) (spV c) c := ⟨rfl, fun h => by
  unfold spV
  rw [(lt_iff _ _).2 h]
  rfl⟩
theorem LinOk.sml {n : Nat} {ρ : Val} {c : Int} (h : LinOk n ρ c) : small n := by
  rw [h.n]
  unfold small
  by_cases hc : 0 < c
  · rw [spN_pos hc]; omega
  · rw [spN_zero hc]; omega
theorem LinOk.corr {n : Nat} {ρ : Val} {c : Int} (h : LinOk n ρ c) (hc : c ≤ 1073741824) : corr ⟨n, ρ⟩ = true := by
  refine corr_of fun i hi => ?_
  have hi : i < n := hi
  by_cases hp : 0 < c
  · rw [h.n, spN_pos hp] at hi
    obtain rfl : i = 0 := by omega
    have e := h.sp hp
    show SpOk (prv ρ 0) (spn ρ 0)
    rw [e]
    exact ⟨rfl, by simp only; omega, hc, by simp only; omega, by simp only; omega, by simp only [prv]; omega, by simp [prv]⟩
  · rw [h.n, spN_zero hp] at hi; omega
theorem LinOk.hd {n : Nat} {ρ : Val} {c : Int} (h : LinOk n ρ c) (hc0 : 0 ≤ c) : (hd ⟨n, ρ⟩).t = c ∧ (hd ⟨n, ρ⟩).e ≤ 1 := by
  unfold Go.Proofs.YtennlgngdjegoaaGreat.hd
  by_cases hp : 0 < c
  · rw [h.n, spN_pos hp]
    show (spn ρ 0).t = c ∧ (spn ρ 0).e ≤ 1
    rw [h.sp hp]
    exact ⟨rfl, by simp⟩
  · rw [h.n, spN_zero hp]
    exact ⟨by simp only [prv]; omega, by simp [prv]⟩
theorem SitOk.chk {x : Sit} {a r e c s : Int} (h : SitOk x a r e c s) (ha : a = 0 ∨ a = 1) (hr : r = 1 ∧ s = -1 ∨ r = 2 ∧ s = 1 - a) (he : 1 ≤ e ∧ e ≤ 1073741824) (hc : 0 ≤ c ∧ c ≤ 1073741824) : chkS x = 0 := by
  obtain ⟨h1, h2, h3, h4, h5, h6, h7, h8⟩ := h
  have hco := h5.corr hc.2
  obtain ⟨ht, hhe⟩ := h5.hd hc.1
  unfold chkS Go.Proofs.YtennlgngdjegoaaGreat.chk
  rw [h1, h2, h3, h4, h6, hco, ht]
  have e1 : sit a = true := by unfold sit; rw [Bool.and_eq_true, le_iff, lt_iff]; omega
  have e2 : (le 0 r && le r 5) = true := by rw [Bool.and_eq_true, le_iff, le_iff]; omega
  have e3 : tim e = true := by unfold tim; rw [Bool.and_eq_true, le_iff, le_iff]; omega
  have e4 : tim c = true := by unfold tim; rw [Bool.and_eq_true, le_iff, le_iff]; omega
  have e5 : (e == 0) = false := by rw [beq_eq_false_iff_ne]; omega
  have e6 : lt e (Go.Proofs.YtennlgngdjegoaaGreat.hd ⟨x.n, x.ρ⟩).e = false := by rw [← Bool.not_eq_true, lt_iff]; omega
  have e7 : (c != c) = false := by simp
  have e8 : ((rcv r && !oth s a) || (!rcv r && s != -1)) = false := by
    rcases hr with ⟨rfl, rfl⟩ | ⟨rfl, rfl⟩
    · rfl
    · rcases ha with rfl | rfl <;> rfl
  rw [e1, e2, e3, e4, e5, e6, e7, e8]
  rfl
structure TwoOk (l : Ses) (rA eA cA sA rB eB cB sB : Int) : Prop where
  n : l.n = 2
  A : SitOk (l.at 0) 0 rA eA cA sA
  B : SitOk (l.at 1) 1 rB eB cB sB
theorem TwoOk.sml {l : Ses} {rA eA cA sA rB eB cB sB : Int} (h : TwoOk l rA eA cA sA rB eB cB sB) : smallS l := by
  refine ⟨by rw [h.n]; unfold fewN; omega, fun i hi => ?_⟩
  rw [h.n] at hi
  match i, hi with
  | 0, _ => exact h.A.lin.sml
  | 1, _ => exact h.B.lin.sml
theorem anyB_two (f : Nat → Bool) : anyB f 2 = (f 0 || f 1) := by simp [anyB]
theorem TwoOk.ck {l : Ses} {rA eA cA sA rB eB cB sB : Int} (h : TwoOk l rA eA cA sA rB eB cB sB) (hA : chkS (l.at 0) = 0) (hB : chkS (l.at 1) = 0) (hr : ¬ (rA = 1 ∧ rB = 1)) : ckE l = 0 := by
  unfold ckE
  rw [h.n]
  have e0 : wrgS l 0 = false := by unfold wrgS; rw [hA]; rfl
  have e1 : wrgS l 1 = false := by
    have f1 : fndB l (l.at 1) 0 = false := by
      unfold fndB
      rw [h.A.a, h.B.a]; rfl
    have f2 : fndD l (l.at 1) 0 = false := by
      unfold fndD
      rw [h.A.r, h.B.r]
      have : (rA == 1 && rB == 1) = false := by
        rw [← Bool.not_eq_true, Bool.and_eq_true, beq_iff_eq, beq_iff_eq]; exact hr
      rw [this]; rfl
    unfold wrgS
    rw [hB]
    simp [anyB, f1, f2]
  rw [anyB_two, e0, e1]
  rfl
theorem TwoOk.has0 {l : Ses} {rA eA cA sA rB eB cB sB : Int} (h : TwoOk l rA eA cA sA rB eB cB sB) : hasN l 0 = true ∧ idxN l 0 = 0 := by
  have f0 : fndN l 0 0 = true := by unfold fndN; rw [h.A.a]; rfl
  unfold hasN idxN
  rw [h.n]
  exact firstB_eq (by omega) f0 fun j hj => absurd hj (Nat.not_lt_zero j)
theorem TwoOk.has1 {l : Ses} {rA eA cA sA rB eB cB sB : Int} (h : TwoOk l rA eA cA sA rB eB cB sB) : hasN l 1 = true ∧ idxN l 1 = 1 := by
  have f0 : fndN l 1 0 = false := by unfold fndN; rw [h.A.a]; rfl
  have f1 : fndN l 1 1 = true := by unfold fndN; rw [h.B.a]; rfl
  unfold hasN idxN
  rw [h.n]
  exact firstB_eq (by omega) f1 fun j hj => by
    obtain rfl : j = 0 := by omega
    exact f0
theorem TwoOk.by0 {l : Ses} {rA eA cA sA rB eB cB sB : Int} (h : TwoOk l rA eA cA sA rB eB cB sB) : l.by 0 = l.at 0 := by unfold Ses.by; rw [h.has0.2]
theorem TwoOk.by1 {l : Ses} {rA eA cA sA rB eB cB sB : Int} (h : TwoOk l rA eA cA sA rB eB cB sB) : l.by 1 = l.at 1 := by unfold Ses.by; rw [h.has1.2]
structure SameSit (x y : Sit) : Prop where
  a : x.a = y.a
  r : x.r = y.r
  e : x.e = y.e
  p : x.p = y.p
  n : x.n = y.n
  ρ : ∀ i, spn x.ρ i = spn y.ρ i
  s : x.s = y.s
  l : x.l = y.l
  c : x.c = y.c
theorem SitOk.same {x y : Sit} {a r e c s : Int} (h : SitOk y a r e c s) (k : SameSit x y) : SitOk x a r e c s :=
  ⟨k.a.trans h.a, k.r.trans h.r, k.e.trans h.e, k.p.trans h.p, ⟨k.n.trans h.lin.n, fun hc => (k.ρ 0).trans (h.lin.sp hc)⟩, k.s.trans h.s, k.l.trans h.l, k.c.trans h.c⟩
theorem two_at0 (x y : Sit) : SameSit ((two2C x.cs y.cs).at 0) x := ⟨rfl, rfl, rfl, rfl, rfl, fun _ => rfl, rfl, rfl, rfl⟩
theorem two_at1 (x y : Sit) : SameSit ((two2C x.cs y.cs).at 1) y := ⟨rfl, rfl, rfl, rfl, rfl, fun _ => rfl, rfl, rfl, rfl⟩
theorem set_same (l : Ses) (i : Nat) (x : Sit) : SameSit ((l.set i x).at i) x := by
  have e : ∀ f, f < 8 → (((l.set i x).ρ.at i).at f) = match nth x.cs f with | some y => .ofC y | none => Val.zero := fun f hf => by
    show ((l.ρ.upds i 0 x.cs).at i).at f = _
    rw [at_upds, if_pos ⟨rfl, by omega, by simpa [Sit.cs] using hf⟩]
    rfl
  have e0 := e 0 (by omega); have e1 := e 1 (by omega); have e2 := e 2 (by omega); have e3 := e 3 (by omega); have e4 := e 4 (by omega); have e5 := e 5 (by omega); have e6 := e 6 (by omega); have e7 := e 7 (by omega)
  unfold Ses.at siAt
  constructor
  · show (((l.set i x).ρ.at i).at 0).N [] = _
    rw [e0]; rfl
  · show (((l.set i x).ρ.at i).at 1).N [] = _
    rw [e1]; rfl
  · show (((l.set i x).ρ.at i).at 2).N [] = _
    rw [e2]; rfl
  · show (((l.set i x).ρ.at i).at 3).N [] = _
    rw [e3]; rfl
  · show (((l.set i x).ρ.at i).at 4).L [] = _
    rw [e4]; rfl
  · intro j
    show spn (((l.set i x).ρ.at i).at 4) j = _
    rw [e4]; rfl
  · show (((l.set i x).ρ.at i).at 5).N [] = _
    rw [e5]; rfl
  · show (((l.set i x).ρ.at i).at 6).B [] = _
    rw [e6]; rfl
  · show (((l.set i x).ρ.at i).at 7).B [] = _
    rw [e7]; rfl
theorem set_other (l : Ses) (i j : Nat) (x : Sit) (h : j ≠ i) : (l.set i x).at j = l.at j := by
  unfold Ses.at siAt
  have e : ∀ f, ((l.set i x).ρ.at j).at f = (l.ρ.at j).at f := fun f => by
    show ((l.ρ.upds i 0 x.cs).at j).at f = _
    rw [at_upds, if_neg fun hh => h hh.1]
  rw [e 0, e 1, e 2, e 3, e 4, e 5, e 6, e 7]
theorem chain_all : ∀ {l : List (Bool × Int)}, (∀ q ∈ l, q.1 = true) → chain 0 l = 0
  | [], _ => rfl
  | (ok, k) :: r, h => by
    have : ok = true := h (ok, k) (by simp)
    subst this
    exact chain_all (l := r) fun q hq => h q (by simp [hq])
theorem SitOk.app {x : Sit} {a r c s : Int} (h : SitOk x a r 1 c s) (hk : chkS x = 0) (hr : r = 1 ∨ r = 2) (hc : 0 ≤ c ∧ c + 1 ≤ 1073741824) : appE x 1 (c + 1) = 0 ∧ SitOk (app x 1 (c + 1)) a r 1 (c + 1) s := by
  have hx := h
  obtain ⟨h1, h2, h3, h4, h5, h6, h7, h8⟩ := h
  constructor
  · unfold appE
    rw [hk, h2, h3, h4]
    refine chain_all fun q hq => ?_
    simp only [List.mem_cons, List.not_mem_nil, or_false] at hq
    rcases hq with rfl | rfl | rfl | rfl
    · rcases hr with rfl | rfl <;> rfl
    · simp [le]
    · rw [imax_le, Bool.and_eq_true, le_iff, le_iff]; omega
    · rw [lt_iff]; omega
  · have hlin : LinOk (extL x.ln 1 x.p (c + 1)).n (extL x.ln 1 x.p (c + 1)).ρ (c + 1) := by
      unfold extL Sit.ln
      simp only
      by_cases hp : 0 < c
      · have hn : x.n = 1 := by rw [h5.n, spN_pos hp]
        have hs := h5.sp hp
        have e1 : lt 0 (toInt64 x.n) = true := pos_iff.2 (by omega)
        have e2 : lastI x.n = 0 := by rw [hn]; rfl
        rw [e1, e2, hs]
        show LinOk x.n (x.ρ.upds 0 2 [I (c + 1)]) (c + 1)
        refine ⟨by rw [hn, spN_pos (by omega)], fun _ => ?_⟩
        rw [spn_upds, if_pos rfl, hs]
      · have hn : x.n = 0 := by rw [h5.n, spN_zero hp]
        have hc0 : c = 0 := by omega
        have e1 : lt 0 (toInt64 x.n) = false := by rw [hn]; rfl
        rw [e1, h4, hc0, hn]
        refine ⟨by rw [spN_pos (by omega)]; rfl, fun _ => ?_⟩
        show spn (Val.cat 0 x.ρ (Val.ofFlat 3 [I 1, I (IntKind.i64.wrap (0 + 1)), I (0 + 1)])) 0 = _
        rw [spn_cat, if_neg (by omega)]
        rfl
    exact ⟨h1, h2, rfl, rfl, hlin, h6, h7, h8⟩
theorem pr1_ok (c : Int) : SitOk (pr1 c) 0 1 1 c (-1) := ⟨rfl, rfl, rfl, rfl, lin_pair c, rfl, rfl, rfl⟩
theorem pr2_ok (c : Int) : SitOk (pr2 c) 1 2 1 c 0 := ⟨rfl, rfl, rfl, rfl, lin_pair c, rfl, rfl, rfl⟩
structure PhA (s : Stt) : Prop where
  d : s.P.d = false
  s0 : 0 ≤ s.P.s ∧ s.P.s ≤ 3
  e : s.P.s = 3 → 2 ≤ s.P.e
  L : ∃ b, (0 ≤ b ∧ b ≤ s.cy) ∧ TwoOk s.L 1 1 s.cy (-1) 2 1 b 0
  c : s.cl = false → 1 ≤ s.P.s → s.P.c = s.cy
structure OldOk (s : Stt) : Prop where
  n : s.O.n = 2
  A : SitOk (s.O.at 0) 0 1 1 s.cy (-1)
structure PhB (s : Stt) : Prop where
  d : s.P.d = false
  x : s.P.x = false
  s0 : s.P.s = 4
  e : 2 ≤ s.P.e
  c : s.P.c = s.cy
  L : TwoOk s.L 2 s.P.e s.cy 1 2 1 s.cy 0
  O : OldOk s
structure PhC (s : Stt) : Prop where
  d : s.P.d = true
  x : s.P.x = false
  s0 : s.P.s = 5
  e : 2 ≤ s.P.e
  c : s.P.c = s.cy
  L : TwoOk s.L 2 s.P.e s.cy 1 1 s.P.e s.cy (-1)
  O : OldOk s
structure Good (s : Stt) (k : Nat) : Prop where
  ri : s.ri = true
  cy : 0 ≤ s.cy ∧ s.cy ≤ 5 + k
  pk : s.P.k = 1
  pf : s.P.f = 0
  pt : s.P.t = 1
  pe : 0 ≤ s.P.e ∧ s.P.e ≤ 1073741824
  pc : 0 ≤ s.P.c ∧ s.P.c ≤ s.cy
  ph : PhA s ∨ PhB s ∨ PhC s
theorem Good.fmd {s : Stt} {k : Nat} (h : Good s k) (hk : k ≤ 1000) : fmd s.P = true := by
  obtain ⟨_, hcy, h1, h2, h3, h4, h5, h6⟩ := h
  unfold Go.Proofs.YtennlgngdjegoaaGreat.fmd
  have a1 : tim s.P.e = true := by unfold tim; rw [Bool.and_eq_true, le_iff, le_iff]; omega
  have a2 : tim s.P.c = true := by unfold tim; rw [Bool.and_eq_true, le_iff, le_iff]; omega
  rw [h1, h2, h3, a1, a2]
  rcases h6 with h | h | h
  · have b1 : (le 0 s.P.s) = true := (le_iff _ _).2 h.s0.1
    have b2 : (le s.P.s 5) = true := (le_iff _ _).2 (by have := h.s0.2; omega)
    have b3 : (s.P.s == 5) = false := by rw [beq_eq_false_iff_ne]; have := h.s0.2; omega
    have b4 : lt 3 s.P.s = false := by rw [← Bool.not_eq_true, lt_iff]; have := h.s0.2; omega
    rw [b1, b2, b3, b4, h.d]; simp [le, lt]
  · rw [h.s0, h.d, h.x]; rfl
  · rw [h.s0, h.d, h.x]; rfl
theorem Good.chkP {s : Stt} {k : Nat} (h : Good s k) (hk : k ≤ 1000) : chkP s.P = 0 := by
  unfold Go.Proofs.YtennlgngdjegoaaGreat.chkP
  rw [h.fmd hk]; rfl
theorem Good.two {s : Stt} {k : Nat} (h : Good s k) (hk : k ≤ 1000) : ∃ rA eA cA sA rB eB cB sB, TwoOk s.L rA eA cA sA rB eB cB sB ∧ chkS (s.L.at 0) = 0 ∧ chkS (s.L.at 1) = 0 ∧ ¬ (rA = 1 ∧ rB = 1) := by
  have hcy := h.cy
  have hpe := h.pe
  rcases h.ph with g | g | g
  · obtain ⟨b, hb, hL⟩ := g.L
    exact ⟨_, _, _, _, _, _, _, _, hL, hL.A.chk (.inl rfl) (.inl ⟨rfl, rfl⟩) (by omega) (by omega), hL.B.chk (.inr rfl) (.inr ⟨rfl, rfl⟩) (by omega) (by omega), by omega⟩
  · have := g.e
    exact ⟨_, _, _, _, _, _, _, _, g.L, g.L.A.chk (.inl rfl) (.inr ⟨rfl, rfl⟩) (by omega) (by omega), g.L.B.chk (.inr rfl) (.inr ⟨rfl, rfl⟩) (by omega) (by omega), by omega⟩
  · have := g.e
    exact ⟨_, _, _, _, _, _, _, _, g.L, g.L.A.chk (.inl rfl) (.inr ⟨rfl, rfl⟩) (by omega) (by omega), g.L.B.chk (.inr rfl) (.inl ⟨rfl, rfl⟩) (by omega) (by omega), by omega⟩
theorem Good.ck {s : Stt} {k : Nat} (h : Good s k) (hk : k ≤ 1000) : ckE s.L = 0 := by
  obtain ⟨_, _, _, _, _, _, _, _, h1, h2, h3, h4⟩ := h.two hk
  exact h1.ck h2 h3 h4
theorem Good.sml {s : Stt} {k : Nat} (h : Good s k) (hk : k ≤ 1000) : smallS s.L := by
  obtain ⟨_, _, _, _, _, _, _, _, h1, _⟩ := h.two hk
  exact h1.sml
theorem Good.n2 {s : Stt} {k : Nat} (h : Good s k) (hk : k ≤ 1000) : s.L.n = 2 := by
  obtain ⟨_, _, _, _, _, _, _, _, h1, _⟩ := h.two hk
  exact h1.n
theorem Good.pre {s : Stt} {k : Nat} (h : Good s k) (hk : k ≤ 1000) : preE s.P s.L = bif !(!s.P.d && !s.P.x) then 12 else 0 := by
  obtain ⟨_, _, _, _, _, _, _, _, h1, _⟩ := h.two hk
  unfold preE
  rw [h.chkP hk, h.ck hk, h.pf, h.pt, h1.has0.1, h1.has1.1]
  rfl
theorem Good.mono {s : Stt} {k : Nat} (h : Good s k) : Good s (k + 1) := ⟨h.ri, ⟨h.cy.1, by have := h.cy.2; omega⟩, h.pk, h.pf, h.pt, h.pe, h.pc, h.ph⟩
theorem wrap_cy {c : Int} (h : 0 ≤ c ∧ c ≤ 2000) : IntKind.i64.wrap (c + 1) = c + 1 := w64_id (by omega) (by omega)
theorem Good.evA {s : Stt} {k : Nat} (h : Good s k) (hk : k ≤ 1000) (g : PhA s) (hcl : s.cl = true) : Good (evA s) (k + 1) := by
  obtain ⟨b, hb, hL⟩ := g.L
  have hcy := h.cy
  have hw : IntKind.i64.wrap (s.cy + 1) = s.cy + 1 := wrap_cy (by omega)
  have hchk := hL.A.chk (.inl rfl) (.inl ⟨rfl, rfl⟩) (by omega) (by omega)
  obtain ⟨hE, hA⟩ := hL.A.app hchk (.inl rfl) (by omega)
  have hE : appE s.A 1 (s.cy + 1) = 0 := hE
  have hA : SitOk (app s.A 1 (s.cy + 1)) 0 1 1 (s.cy + 1) (-1) := hA
  have e : Go.Proofs.YtennlgngdjegoaaGreat.evA s = { s with L := two2C (app s.A 1 (s.cy + 1)).cs s.B.cs, cy := s.cy + 1 } := by
    unfold Go.Proofs.YtennlgngdjegoaaGreat.evA
    rw [hw, hE, h.ri]
    have hri := h.ri
    obtain ⟨P, L, cy, O, cl, ri⟩ := s
    simp only at hri
    subst hri
    rfl
  rw [e]
  have hpc := h.pc
  refine ⟨h.ri, ⟨by simp only; omega, by simp only; omega⟩, h.pk, h.pf, h.pt, h.pe, ⟨hpc.1, by simp only; omega⟩, .inl ⟨g.d, g.s0, g.e, ⟨b, ⟨hb.1, by simp only; omega⟩, rfl, hA.same (two_at0 _ _), ?_⟩, fun hf => ?_⟩⟩
  · exact (show SitOk s.B 1 2 1 b 0 from hL.B).same (two_at1 _ _)
  · simp only at hf; rw [hcl] at hf; cases hf
theorem Good.evB {s : Stt} {k : Nat} (h : Good s k) (hk : k ≤ 1000) (g : PhA s) (hlt : lt s.B.p s.cy = true) : Good (evB s) (k + 1) ∧ (evB s).cy = s.cy ∧ (evB s).P = s.P ∧ (evB s).cl = s.cl ∧ (∀ b, TwoOk s.L 1 1 s.cy (-1) 2 1 b 0 → TwoOk (evB s).L 1 1 s.cy (-1) 2 1 (b + 1) 0) := by
  obtain ⟨b, hb, hL⟩ := g.L
  have hcy := h.cy
  have hbp : s.B.p = b := hL.B.p
  rw [hbp, lt_iff] at hlt
  have hw : IntKind.i64.wrap (s.B.p + 1) = b + 1 := by rw [hbp]; exact wrap_cy (by omega)
  have hchk := hL.B.chk (.inr rfl) (.inr ⟨rfl, rfl⟩) (by omega) (by omega)
  obtain ⟨hE, hB⟩ := hL.B.app hchk (.inr rfl) (by omega)
  have hE : appE s.B 1 (b + 1) = 0 := hE
  have hB : SitOk (app s.B 1 (b + 1)) 1 2 1 (b + 1) 0 := hB
  have e : Go.Proofs.YtennlgngdjegoaaGreat.evB s = { s with L := two2C s.A.cs (app s.B 1 (b + 1)).cs } := by
    unfold Go.Proofs.YtennlgngdjegoaaGreat.evB
    rw [hw, hE, h.ri]
    have hri := h.ri
    obtain ⟨P, L, cy, O, cl, ri⟩ := s
    simp only at hri
    subst hri
    rfl
  have hT : TwoOk (two2C s.A.cs (app s.B 1 (b + 1)).cs) 1 1 s.cy (-1) 2 1 (b + 1) 0 := ⟨rfl, (show SitOk s.A 0 1 1 s.cy (-1) from hL.A).same (two_at0 _ _), hB.same (two_at1 _ _)⟩
  rw [e]
  refine ⟨⟨h.ri, ⟨by simp only; omega, by simp only; omega⟩, h.pk, h.pf, h.pt, h.pe, h.pc, .inl ⟨g.d, g.s0, g.e, ⟨b + 1, ⟨by omega, by simp only; omega⟩, hT⟩, g.c⟩⟩, rfl, rfl, rfl, fun b' hb' => ?_⟩
  have : b' = b := hb'.B.p.symm.trans hL.B.p
  subst this
  exact hT
def setO (s : Stt) : Stt := { s with O := bif s.P.s == 3 then s.L else s.O }
theorem Good.setO {s : Stt} {k : Nat} (h : Good s k) : Good (setO s) (k + 1) := by
  obtain ⟨h1, h2, h3, h4, h5, h6, h7, h8⟩ := h
  refine ⟨h1, ⟨h2.1, by have := h2.2; show s.cy ≤ _; omega⟩, h3, h4, h5, h6, h7, ?_⟩
  rcases h8 with g | g | g
  · exact .inl ⟨g.d, g.s0, g.e, g.L, g.c⟩
  · have e : Go.Proofs.YtennlgngdjegoaaGreat.setO s = s := by
      unfold Go.Proofs.YtennlgngdjegoaaGreat.setO
      rw [g.s0]; rfl
    rw [e]; exact .inr (.inl g)
  · have e : Go.Proofs.YtennlgngdjegoaaGreat.setO s = s := by
      unfold Go.Proofs.YtennlgngdjegoaaGreat.setO
      rw [g.s0]; rfl
    rw [e]; exact .inr (.inr g)
theorem bif_zero {b : Bool} {x y : Int} (h : (bif !b then x else y) = 0) (hx : x ≠ 0) : b = true ∧ y = 0 := by
  cases b
  · exact (hx h).elim
  · exact ⟨rfl, h⟩
structure Done (s t : Stt) (w : Int) : Prop where
  pre : s.P.d = false ∧ s.P.x = false
  step : (s.P.s = 0 ∧ w = s.cy ∧ t = { s with P := { s.P with c := w, s := 1 } }) ∨
    (s.P.s = 1 ∧ w = s.B.p ∧ w < s.P.c ∧ t = s) ∨
    (s.P.s = 1 ∧ w = s.B.p ∧ w = s.P.c ∧ t = { s with P := { s.P with s := 2 } }) ∨
    (s.P.s = 2 ∧ w ≤ 1073741824 ∧ 2 ≤ w ∧ t = { s with P := { s.P with e := w, s := 3 } }) ∨
    (s.P.s = 3 ∧ s.cy = s.P.c ∧ s.B.p = s.P.c ∧ t = { s with P := { s.P with s := 4 }, L := s.L.set 0 (demo s.A s.P.e 1), O := s.L }) ∨
    (s.P.s = 4 ∧ t = { s with P := { s.P with s := 5, d := true }, L := s.L.set 1 (pro s.B s.P.e) })
theorem Good.done {s : Stt} {k : Nat} (h : Good s k) (hk : k ≤ 1000) {w : Int} (h0 : stpE s.P s.L true w = 0) :
    Done s { s with P := stpP s.P s.L true w, L := stpL s.P s.L true w, O := bif s.P.s == 3 then s.L else s.O } w := by
  have hpre := h.pre hk
  have hp : stpP s.P s.L true w = sucP s.P w := by unfold stpP; rw [h0]; rfl
  have hl : stpL s.P s.L true w = sucL s.P s.L := by unfold stpL; rw [h0]; rfl
  unfold stpE at h0
  rw [hpre] at h0
  have hpf := h.pf
  have hpt := h.pt
  cases hdx : (!s.P.d && !s.P.x)
  · rw [hdx] at h0; cases h0
  · rw [hdx] at h0
    have h0 : sucE s.P (s.L.by s.P.f) (s.L.by s.P.t) w = 0 := h0
    rw [Bool.and_eq_true, Bool.not_eq_true', Bool.not_eq_true'] at hdx
    refine ⟨hdx, ?_⟩
    rw [hp, hl]
    obtain ⟨_, _, _, _, _, _, _, _, hT, _⟩ := h.two hk
    rw [hpf, hpt, hT.by0, hT.by1] at h0
    have h0 : sucE s.P s.A s.B w = 0 := h0
    have hb0 : s.L.by 0 = s.A := hT.by0
    have hb1 : s.L.by 1 = s.B := hT.by1
    obtain ⟨⟨pk, pf, pt, ps, pe, pc, pd, px⟩, L, cy, O, cl, ri⟩ := s
    simp only at hpf hpt hdx
    subst hpf; subst hpt
    have hsz : ps = 0 ∨ ps = 1 ∨ ps = 2 ∨ ps = 3 ∨ ps = 4 ∨ ps = 5 := by
      have := fmd_step (h.fmd hk)
      exact this
    rcases hsz with rfl | rfl | rfl | rfl | rfl | rfl
    · rcases h.ph with g | g | g
      · obtain ⟨b, hb, hL⟩ := g.L
        have h0 : s0E (L.at 0) w = 0 := h0
        unfold s0E at h0
        obtain ⟨_, h0⟩ := bif_zero h0 (by omega)
        obtain ⟨h1, _⟩ := bif_zero h0 (by omega)
        have h1 : w = (L.at 0).p := by simpa using h1
        rw [hL.A.p] at h1
        exact .inl ⟨rfl, h1, rfl⟩
      · have := g.s0; simp at this
      · have := g.s0; simp at this
    · have h0 : s1E ⟨pk, 0, 1, 1, pe, pc, pd, px⟩ (L.at 0) (L.at 1) w = 0 := h0
      unfold s1E at h0
      obtain ⟨h1, h0⟩ := bif_zero h0 (by omega)
      rw [Bool.and_eq_true, le_iff, beq_iff_eq] at h1
      cases hlt : lt w pc
      · have h2 : ¬ w < pc := by rw [← lt_iff, hlt]; simp
        refine .inr (.inr (.inl ⟨rfl, h1.1, by have := h1.2; simp only at this; show w = pc; omega, ?_⟩))
        show (⟨bif lt w pc then _ else _, L, cy, O, cl, ri⟩ : Stt) = _
        rw [hlt]; rfl
      · refine .inr (.inl ⟨rfl, h1.1, (lt_iff _ _).1 hlt, ?_⟩)
        show (⟨bif lt w pc then _ else _, L, cy, O, cl, ri⟩ : Stt) = _
        rw [hlt]; rfl
    · rcases h.ph with g | g | g
      · obtain ⟨b, hb, hL⟩ := g.L
        have h0 : s2E (L.at 0) (L.at 1) w = 0 := h0
        unfold s2E at h0
        obtain ⟨h1, h0⟩ := bif_zero h0 (by omega)
        obtain ⟨h2, _⟩ := bif_zero h0 (by omega)
        rw [le_iff] at h1
        rw [Bool.and_eq_true, lt_iff, hL.A.e] at h2
        exact .inr (.inr (.inr (.inl ⟨rfl, h1, by omega, rfl⟩)))
      · have := g.s0; simp at this
      · have := g.s0; simp at this
    · rcases h.ph with g | g | g
      · obtain ⟨b, hb, hL⟩ := g.L
        have h0 : s3E ⟨pk, 0, 1, 3, pe, pc, pd, px⟩ (L.at 0) (L.at 1) = 0 := h0
        unfold s3E at h0
        obtain ⟨h1, _⟩ := bif_zero h0 (by omega)
        rw [Bool.and_eq_true, beq_iff_eq, beq_iff_eq, hL.A.p] at h1
        refine .inr (.inr (.inr (.inr (.inl ⟨rfl, h1.1, h1.2, ?_⟩))))
        show (⟨_, L.set (idxN L 0) (demo (L.by 0) pe 1), cy, L, cl, ri⟩ : Stt) = _
        rw [hT.has0.2, hb0]; rfl
      · have := g.s0; simp at this
      · have := g.s0; simp at this
    · refine .inr (.inr (.inr (.inr (.inr ⟨rfl, ?_⟩))))
      show (⟨_, L.set (idxN L 1) (pro (L.by 1) pe), cy, O, cl, ri⟩ : Stt) = _
      rw [hT.has1.2, hb1]; rfl
    · have := fmd_done (h.fmd hk) rfl
      simp only at this
      rw [this] at hdx
      cases hdx.1
theorem Good.of_done {s t : Stt} {k : Nat} (h : Good s k) {w : Int} (hd : Done s t w) : Good t (k + 1) := by
  have hcy := h.cy
  have hpc := h.pc
  have hpe := h.pe
  rcases hd.step with ⟨h1, h2, rfl⟩ | ⟨h1, h2, h3, rfl⟩ | ⟨h1, h2, h3, rfl⟩ | ⟨h1, h2, h3, rfl⟩ | ⟨h1, h2, h3, rfl⟩ | ⟨h1, rfl⟩
  · rcases h.ph with g | g | g
    · exact ⟨h.ri, ⟨hcy.1, by show s.cy ≤ _; omega⟩, h.pk, h.pf, h.pt, h.pe, ⟨by show 0 ≤ w; omega, by show w ≤ s.cy; omega⟩, .inl ⟨g.d, ⟨by simp, by simp⟩, by simp, g.L, fun _ _ => h2⟩⟩
    · have := g.s0; omega
    · have := g.s0; omega
  · exact h.mono
  · rcases h.ph with g | g | g
    · exact ⟨h.ri, ⟨hcy.1, by show s.cy ≤ _; omega⟩, h.pk, h.pf, h.pt, h.pe, h.pc, .inl ⟨g.d, ⟨by simp, by simp⟩, by simp, g.L, fun hf _ => g.c hf (by omega)⟩⟩
    · have := g.s0; omega
    · have := g.s0; omega
  · rcases h.ph with g | g | g
    · exact ⟨h.ri, ⟨hcy.1, by show s.cy ≤ _; omega⟩, h.pk, h.pf, h.pt, ⟨by show 0 ≤ w; omega, h2⟩, h.pc, .inl ⟨g.d, ⟨by simp, by simp⟩, fun _ => h3, g.L, fun hf _ => g.c hf (by omega)⟩⟩
    · have := g.s0; omega
    · have := g.s0; omega
  · rcases h.ph with g | g | g
    · obtain ⟨b, hb, hL⟩ := g.L
      have hbc : b = s.cy := by
        have : s.B.p = b := hL.B.p
        omega
      subst hbc
      have hA : SitOk (demo s.A s.P.e 1) 0 2 s.P.e s.cy 1 := ⟨hL.A.a, rfl, rfl, hL.A.p, hL.A.lin, rfl, hL.A.l, hL.A.c⟩
      refine ⟨h.ri, ⟨hcy.1, by show s.cy ≤ _; omega⟩, h.pk, h.pf, h.pt, h.pe, h.pc, .inr (.inl ⟨g.d, hd.pre.2, rfl, g.e h1, h2.symm, ⟨hL.n, hA.same (set_same _ _ _), ?_⟩, ⟨hL.n, hL.A⟩⟩)⟩
      show SitOk ((s.L.set 0 _).at 1) 1 2 1 s.cy 0
      rw [set_other _ 0 1 _ (by omega)]
      exact hL.B
    · have := g.s0; omega
    · have := g.s0; omega
  · rcases h.ph with g | g | g
    · have := g.s0; omega
    · have hL := g.L
      have hB : SitOk (pro s.B s.P.e) 1 1 s.P.e s.cy (-1) := ⟨hL.B.a, rfl, rfl, hL.B.p, hL.B.lin, rfl, hL.B.l, hL.B.c⟩
      refine ⟨h.ri, ⟨hcy.1, by show s.cy ≤ _; omega⟩, h.pk, h.pf, h.pt, h.pe, h.pc, .inr (.inr ⟨rfl, g.x, rfl, g.e, g.c, ⟨hL.n, ?_, hB.same (set_same _ _ _)⟩, ⟨g.O.n, g.O.A⟩⟩)⟩
      show SitOk ((s.L.set 1 _).at 0) 0 2 s.P.e s.cy 1
      rw [set_other _ 1 0 _ (by omega)]
      exact hL.A
    · have := g.s0; omega
theorem Good.evD {s : Stt} {k : Nat} (h : Good s k) (hk : k ≤ 1000) (ok : Bool) (w : Int) : Good (evD s ok w) (k + 1) := by
  unfold Go.Proofs.YtennlgngdjegoaaGreat.evD
  cases he : stpE s.P s.L ok w == 0
  · exact h.setO
  · have h0 : stpE s.P s.L ok w = 0 := by simpa using he
    simp only [cond_true]
    cases ok
    · have hpre := h.pre hk
      have e1 : stpP s.P s.L false w = { s.P with x := le s.P.s 3 } := by unfold stpP; rw [h0]; rfl
      have e2 : stpL s.P s.L false w = s.L := by unfold stpL; rw [h0]; rfl
      rw [e1, e2]
      have hs := h.setO
      rcases h.ph with g | g | g
      · refine ⟨hs.ri, hs.cy, hs.pk, hs.pf, hs.pt, hs.pe, hs.pc, .inl ⟨g.d, g.s0, g.e, g.L, g.c⟩⟩
      · have e3 : ({ s with P := { s.P with x := le s.P.s 3 }, L := s.L, O := bif s.P.s == 3 then s.L else s.O } : Stt) = Go.Proofs.YtennlgngdjegoaaGreat.setO s := by
          have hx : le s.P.s 3 = s.P.x := by rw [g.s0, g.x]; rfl
          rw [hx]; rfl
        rw [e3]; exact hs
      · unfold stpE at h0
        rw [hpre, g.d] at h0; cases h0
    · exact h.of_done (h.done hk h0)
end Go.Proofs.YtennlgngdjegoaaGreat
