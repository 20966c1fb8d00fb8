/-
  Part TlZD of the proof: CasC.
-/
import Derived.Test.YtennlgngdjegoaaGreatTlZC
namespace Go.Proofs.YtennlgngdjegoaaGreat
open Go Go.Sx Go.RowKit Classical
set_option maxRecDepth 100000
set_option maxHeartbeats 4000000
structure Fs where
  E : Prc → Ses → Bool → Int → Int
  P : Prc → Ses → Bool → Int → Prc
  L : Prc → Ses → Bool → Int → Ses
  ck : Ses → Int
  ci : Ses → Int
  aE : Sit → Int → Int → Int
  aX : Sit → Int → Int → Sit
def F0 : Fs := ⟨stpE, stpP, stpL, ckE, ckI, appE, app⟩
noncomputable def GstF (f : Fs) : List A1 → Option (Bool × AV)
  | [.agg [.int .i64 k, .int .i64 f', .int .i64 t, .int .i64 s, .int .i64 e, .int .i64 c, .bool d, .bool x], .c (.sl [.int .i64, .int .i64, .int .i64, .int .i64, .sl [.int .i64, .int .i64, .int .i64], .int .i64, .bool, .bool] n ρ), .c (.bool ok), .c (.int .i64 v)] =>
    some (dec (smallS ⟨n, ρ⟩), thr (f.P ⟨k, f', t, s, e, c, d, x⟩ ⟨n, ρ⟩ ok v) (f.L ⟨k, f', t, s, e, c, d, x⟩ ⟨n, ρ⟩ ok v) (f.E ⟨k, f', t, s, e, c, d, x⟩ ⟨n, ρ⟩ ok v))
  | _ => none
noncomputable def GckF (f : Fs) : List A1 → Option (Bool × AV)
  | [.c (.sl [.int .i64, .int .i64, .int .i64, .int .i64, .sl [.int .i64, .int .i64, .int .i64], .int .i64, .bool, .bool] n ρ)] => some (dec (fewS ⟨n, ρ⟩), two (f.ci ⟨n, ρ⟩) (f.ck ⟨n, ρ⟩))
  | _ => none
noncomputable def GapF (f : Fs) : List A1 → Option (Bool × AV)
  | [.agg [.int .i64 a, .int .i64 r, .int .i64 e, .int .i64 p, .sl [.int .i64, .int .i64, .int .i64] n ρ, .int .i64 s, .bool l, .bool c], .c (.int .i64 ep), .c (.int .i64 nu)] => some (dec (small n), okOr (f.aE ⟨a, r, e, p, n, ρ, s, l, c⟩ ep nu) (f.aX ⟨a, r, e, p, n, ρ, s, l, c⟩ ep nu))
  | _ => none
theorem ucOne_imp {P : Program} {f : Nat} {G G' : List A1 → Tree AV} (h : UcOne P f G) (hw : ∀ args r, (G' args).sel = some r → (G args).sel = some r) : UcOne P f G' := fun args r hr hc F w vs ha => h args r (hw args r hr) hc F w vs ha
theorem tcOne_imp {P : Program} {f : Nat} {G G' : List A1 → Tree AV} (h : TcOne P f G) (hw : ∀ args r, (G' args).sel = some r → (G args).sel = some r) : TcOne P f G' := fun args r hr hc F w vs ha => h args r (hw args r hr) hc F w vs ha
theorem uStepF : UcOne Tryz.prog 126 (nG (GstF F0)) := ucOne_imp uStep fun args r hr => by
  have h := nG_sel hr
  unfold GstF at h; split at h
  · obtain ⟨hp, rfl⟩ := Prod.mk.inj (Option.some.inj h)
    unfold nG Gstep
    simp only [Tree.sel, hp, cond_true]
    rfl
  · cases h
theorem uAppF : UcOne Tryz.prog 122 (nG (GapF F0)) := ucOne_imp u20 fun args r hr => by
  have h := nG_sel hr
  unfold GapF at h; split at h
  · obtain ⟨hp, rfl⟩ := Prod.mk.inj (Option.some.inj h)
    unfold nG Gapp
    simp only [Tree.sel, hp, cond_true]
    rfl
  · cases h
theorem pCkF : TcOne Tryz.prog 30 (nG (GckF F0)) := tcOne_imp p34 fun args r hr => by
  have h := nG_sel hr
  unfold GckF at h; split at h
  · obtain ⟨hp, rfl⟩ := Prod.mk.inj (Option.some.inj h)
    unfold nG G34
    simp only [Tree.sel, hp, cond_true]
    rfl
  · cases h
def valT (s p0 p1 : Int) : Int := bif s == 0 then p0 else bif s == 1 then p1 else bif s == 2 then 2 else 0
noncomputable def Gval : List A1 → Option (Bool × AV)
  | [.agg [.int .i64 _, .int .i64 _, .int .i64 _, .int .i64 s, .int .i64 _, .int .i64 _, .bool _, .bool _], .c (.sl [.int .i64, .int .i64, .int .i64, .int .i64, .sl [.int .i64, .int .i64, .int .i64], .int .i64, .bool, .bool] n ρ)] => some (inRange 0 n && inRange 1 n, .one (.c (I (valT s (Ses.at ⟨n, ρ⟩ 0).p (Ses.at ⟨n, ρ⟩ 1).p))))
  | _ => none
theorem pVal : TcOne Tryz.prog 125 (nG Gval) := tcOne_of_tree (HdOk.nil (P := Tryz.prog)) 10 125 fun args r h => by
  unfold Gval at h; split at h
  · rename_i k f t s e c d x n ρ
    obtain ⟨hp, rfl⟩ := Prod.mk.inj (Option.some.inj h)
    rw [Bool.and_eq_true] at hp
    let V (z : Int) : Tree AV := .leaf (.one (.c (I z)))
    refine ⟨rfl, .br (s == 0) (.need (inRange 0 n) (V (Ses.at ⟨n, ρ⟩ 0).p)) (.br (s == 1) (.need (inRange 1 n) (V (Ses.at ⟨n, ρ⟩ 1).p)) (.br (s == 2) (V 2) (V 0))), by kernel_rfl, all_of_sel ?_⟩
    simp only [Tree.sel, hp.1, hp.2, cond_true]
    unfold valT
    cases s == 0
    · cases s == 1
      · cases s == 2 <;> rfl
      · rfl
    · rfl
  · cases h
noncomputable abbrev HCf (f : Fs) : Hd := ⟨[Fo.litK, (125, nG Gval), (30, nG (GckF f))], [(126, nG (GstF f)), (122, nG (GapF f))], [], []⟩
theorem hCf : HdOk Tryz.prog (HCf F0) := by
  have h3 := ((((HdOk.nil (P := Tryz.prog)).ucCons uAppF).ucCons uStepF).tcCons pCkF).tcCons pVal
  exact h3.tcCons (f := 4294967292) (G := fun _ => .fail) (fun _ _ h => by simp [Tree.sel] at h)
def needs {α : Type} : List Bool → Tree α → Tree α
  | [], t => t
  | b :: l, t => .need b (needs l t)
theorem needs_all {α : Type} {p : α → Prop} : ∀ {l : List Bool} {t : Tree α}, l.all id = true → t.All p → (needs l t).All p
  | [], _, _, h => h
  | b :: l, t, hl, h => by
    rw [List.all_cons, Bool.and_eq_true] at hl
    exact ⟨hl.1, needs_all hl.2 h⟩
abbrev evSh : List Sh := [.int .i64, .int .i64]
def ekd (ε : Val) (i : Nat) : Int := ((ε.at i).at 0).N []
def evl (ε : Val) (i : Nat) : Int := ((ε.at i).at 1).N []
def Prc.cs (p : Prc) : List CV := [I p.k, I p.f, I p.t, I p.s, I p.e, I p.c, .bool p.d, .bool p.x]
namespace Cs
structure C where
  n : Nat
  ε : Val
  m : Int
  P : Prc
  L : Ses
structure V where
  z : Prc
  y : Ses
  P : Prc
  L : Ses
  i : Int
def S (c : C) (v : V) : St := mkS 163 [(0, .one (.c (.sl siSh v.L.n v.L.ρ))), (4, .one (.c (.ptr 0 0))), (5, .one (.c (.sl siSh v.y.n v.y.ρ))), (6, .one (.c (.bool false))), (7, .one (.c (.ptr 1 0))), (30, .one (.c (.sl evSh c.n c.ε))), (31, .one (.c (I c.m))), (32, .one (.c (I v.i)))] [some (33, v.z.cs), some (33, v.P.cs)]
noncomputable def fin (f : Fs) (v : V) (P : Prc) (L : Ses) : Tree (XE × V) :=
  let e := toInt64 L.n != 2
  let r0 := (L.at 0).r == 1
  needs [!(e == false && true) || inRange 0 L.n, !(r0 == true && (e == false && true)) || inRange 1 L.n] (.br (e || (r0 && (L.at 1).r == 1)) (.leaf (.ret, ⟨P, L, P, L, v.i⟩))
    (.need (dec (fewS L)) (.br (f.ck L != 0) (.leaf (.ret, ⟨P, L, P, L, v.i⟩)) (.leaf (.normal, ⟨v.z, v.y, P, L, IntKind.i64.wrap (v.i + 1)⟩)))))
noncomputable def TX (f : Fs) (c : C) (v : V) : Tree (XE × V) :=
  let P := v.P
  let L := v.L
  let n := L.n
  let x0 := L.at 0
  let x1 := L.at 1
  let kd := ekd c.ε v.i.toNat
  let vl := evl c.ε v.i.toNat
  let q0 := IntKind.i64.wrap (x0.p + 1)
  let q1 := IntKind.i64.wrap (x1.p + 1)
  let st (w : Int) : Tree (XE × V) := .need (dec (smallS L)) (.br (f.E P L (kd == 2) w == 0) (fin f v (f.P P L (kd == 2) w) (f.L P L (kd == 2) w)) (fin f v P L))
  let vs (w : Int) : Tree (XE × V) := .need true <| .br (vl.tmod 5 == 4) (st (IntKind.i64.wrap (w + vl))) (st w)
  let K : Tree (XE × V) := .need (inRange 0 n && inRange 1 n) (vs (valT P.s x0.p x1.p))
  .br (lt v.i c.m) (.need (inRange v.i c.n)
    (.br (kd == 0) (needs [inRange 0 n, inRange 0 n, dec (small x0.n)] (.br (f.aE x0 1 q0 == 0 && P.s == 0) (.need (inRange 1 n) (fin f v P (two2C (okC (f.aE x0 1 q0) (f.aX x0 1 q0)) x1.cs))) (fin f v P L)))
    (.br (kd == 1) (needs [inRange 1 n, inRange 0 n, !((lt x1.p x0.p) == true && true) || inRange 1 n] (.br (lt x1.p x0.p && x1.r == 2)
        (needs [inRange 1 n, inRange 1 n, dec (small x1.n)] (.br (f.aE x1 1 q1 != 0) (.leaf (.ret, ⟨P, L, P, L, v.i⟩)) (.need (inRange 0 n) (fin f v P (two2C x0.cs (okC (f.aE x1 1 q1) (f.aX x1 1 q1))))))) (fin f v P L)))
    (.br (kd == 2) (.br (kd == 2) K (fin f v P L)) (.br (kd == 3) K (fin f v P L)))))) (.leaf (.exit 0, v))
theorem t (f : Fs) (c : C) (v : V) : ((evCode Tryz.prog (HCf f) (evFn Tryz.prog (HCf f) 10) 20 2 1 (loopBody Tryz.prog 81 0) (S c v)).bind fun y => gcT [0, 4, 5, 6, 7, 30, 31, 32] 2 y) = (TX f c v).bind fun y => .leaf (y.1, S c y.2) := by kernel_rfl
end Cs
def nx (s : Prc × Ses) (kd vl : Int) : Prc × Ses :=
  let P := s.1
  let L := s.2
  let x0 := L.at 0
  let x1 := L.at 1
  let q0 := IntKind.i64.wrap (x0.p + 1)
  let q1 := IntKind.i64.wrap (x1.p + 1)
  let w := bif vl.tmod 5 == 4 then IntKind.i64.wrap (valT P.s x0.p x1.p + vl) else valT P.s x0.p x1.p
  bif kd == 0 then (bif appE x0 1 q0 == 0 && P.s == 0 then (P, two2C (okC (appE x0 1 q0) (app x0 1 q0)) x1.cs) else s)
  else bif kd == 1 then (bif lt x1.p x0.p && x1.r == 2 then (P, two2C x0.cs (okC (appE x1 1 q1) (app x1 1 q1))) else s)
  else bif kd == 2 || kd == 3 then (bif stpE P L (kd == 2) w == 0 then (stpP P L (kd == 2) w, stpL P L (kd == 2) w) else s)
  else s
def GoodC (s : Prc × Ses) (k : Nat) : Prop := ∃ cy O, Good ⟨s.1, s.2, cy, O, false, true⟩ k
theorem GoodC.mono {s : Prc × Ses} {k : Nat} (h : GoodC s k) : GoodC s (k + 1) := by
  obtain ⟨cy, O, h⟩ := h
  exact ⟨cy, O, h.mono⟩
structure Fin2 (L : Ses) : Prop where
  n : L.n = 2
  sm : smallS L
  ck : ckE L = 0
  r : ((L.at 0).r == 1 && (L.at 1).r == 1) = false
theorem GoodC.fin {s : Prc × Ses} {k : Nat} (h : GoodC s k) (hk : k ≤ 1000) : Fin2 s.2 := by
  obtain ⟨cy, O, h⟩ := h
  obtain ⟨rA, eA, cA, sA, rB, eB, cB, sB, h1, h2, h3, h4⟩ := h.two hk
  refine ⟨h.n2 hk, h.sml hk, h.ck hk, ?_⟩
  rw [← Bool.not_eq_true, Bool.and_eq_true, beq_iff_eq, beq_iff_eq]
  have a : (s.2.at 0).r = rA := h1.A.r
  have b : (s.2.at 1).r = rB := h1.B.r
  rw [a, b]; exact h4
theorem GoodC.kindA {s : Prc × Ses} {k : Nat} (h : GoodC s k) (hk : k ≤ 1000) (hs : s.1.s = 0) :
    GoodC (s.1, two2C (okC (appE (s.2.at 0) 1 (IntKind.i64.wrap ((s.2.at 0).p + 1))) (app (s.2.at 0) 1 (IntKind.i64.wrap ((s.2.at 0).p + 1)))) (s.2.at 1).cs) (k + 1) := by
  obtain ⟨P, L⟩ := s
  obtain ⟨cy, O, h⟩ := h
  rcases h.ph with g | g | g
  · obtain ⟨b, hb, hL⟩ := g.L
    have hp : (L.at 0).p = cy := hL.A.p
    have h' : Good ⟨P, L, cy, O, true, true⟩ k := ⟨rfl, h.cy, h.pk, h.pf, h.pt, h.pe, h.pc, .inl ⟨g.d, g.s0, g.e, g.L, fun hf => by cases hf⟩⟩
    have g' : PhA ⟨P, L, cy, O, true, true⟩ := ⟨g.d, g.s0, g.e, g.L, fun hf => by cases hf⟩
    have hh := h'.evA hk g' rfl
    have hs : P.s = 0 := hs
    rcases hh.ph with k1 | k1 | k1
    · refine ⟨IntKind.i64.wrap (cy + 1), O, ⟨rfl, hh.cy, hh.pk, hh.pf, hh.pt, hh.pe, hh.pc, .inl ⟨k1.d, k1.s0, k1.e, ?_, fun _ h1 => ?_⟩⟩⟩
      · have := k1.L
        show ∃ b, _ ∧ TwoOk (two2C (okC (appE (L.at 0) 1 (IntKind.i64.wrap ((L.at 0).p + 1))) (app (L.at 0) 1 (IntKind.i64.wrap ((L.at 0).p + 1)))) (L.at 1).cs) _ _ _ _ _ _ _ _
        rw [hp]
        exact this
      · have h1 : 1 ≤ P.s := h1
        omega
    · have := k1.s0
      have : P.s = 4 := this
      omega
    · have := k1.s0
      have : P.s = 5 := this
      omega
  · have : P.s = 4 := g.s0
    have hs : P.s = 0 := hs
    omega
  · have : P.s = 5 := g.s0
    have hs : P.s = 0 := hs
    omega
theorem GoodC.kindB {s : Prc × Ses} {k : Nat} (h : GoodC s k) (hk : k ≤ 1000) (hlt : lt (s.2.at 1).p (s.2.at 0).p = true) :
    appE (s.2.at 1) 1 (IntKind.i64.wrap ((s.2.at 1).p + 1)) = 0 ∧ GoodC (s.1, two2C (s.2.at 0).cs (okC (appE (s.2.at 1) 1 (IntKind.i64.wrap ((s.2.at 1).p + 1))) (app (s.2.at 1) 1 (IntKind.i64.wrap ((s.2.at 1).p + 1))))) (k + 1) := by
  obtain ⟨P, L⟩ := s
  obtain ⟨cy, O, h⟩ := h
  rw [lt_iff] at hlt
  have hlt : (L.at 1).p < (L.at 0).p := hlt
  rcases h.ph with g | g | g
  · obtain ⟨b, hb, hL⟩ := g.L
    have hp : (L.at 0).p = cy := hL.A.p
    have hl2 : lt (L.at 1).p cy = true := by rw [lt_iff]; omega
    obtain ⟨hh, _⟩ := h.evB hk g hl2
    have hr : (true && appE (L.at 1) 1 (IntKind.i64.wrap ((L.at 1).p + 1)) == 0) = true := hh.ri
    have hE : appE (L.at 1) 1 (IntKind.i64.wrap ((L.at 1).p + 1)) = 0 := by simpa using hr
    refine ⟨hE, cy, O, ?_⟩
    have e : evB ⟨P, L, cy, O, false, true⟩ = ⟨P, two2C (L.at 0).cs (okC (appE (L.at 1) 1 (IntKind.i64.wrap ((L.at 1).p + 1))) (app (L.at 1) 1 (IntKind.i64.wrap ((L.at 1).p + 1)))), cy, O, false, true && appE (L.at 1) 1 (IntKind.i64.wrap ((L.at 1).p + 1)) == 0⟩ := rfl
    rw [e, hr] at hh
    exact hh
  · have h1 : (L.at 0).p = cy := g.L.A.p
    have h2 : (L.at 1).p = cy := g.L.B.p
    omega
  · have h1 : (L.at 0).p = cy := g.L.A.p
    have h2 : (L.at 1).p = cy := g.L.B.p
    omega
theorem GoodC.kindD {s : Prc × Ses} {k : Nat} (h : GoodC s k) (hk : k ≤ 1000) (ok : Bool) (w : Int) (h0 : stpE s.1 s.2 ok w = 0) : GoodC (stpP s.1 s.2 ok w, stpL s.1 s.2 ok w) (k + 1) := by
  obtain ⟨P, L⟩ := s
  obtain ⟨cy, O, h⟩ := h
  have h0 : stpE P L ok w = 0 := h0
  have hh := h.evD hk ok w
  refine ⟨cy, bif P.s == 3 then L else O, ?_⟩
  have e : evD ⟨P, L, cy, O, false, true⟩ ok w = ⟨stpP P L ok w, stpL P L ok w, cy, bif P.s == 3 then L else O, false, true⟩ := by
    unfold evD
    show (bif stpE P L ok w == 0 then _ else _) = _
    rw [h0]; rfl
  rw [e] at hh
  exact hh
theorem GoodC.nx {s : Prc × Ses} {k : Nat} (h : GoodC s k) (hk : k ≤ 1000) (kd vl : Int) : GoodC (nx s kd vl) (k + 1) := by
  unfold Go.Proofs.YtennlgngdjegoaaGreat.nx
  simp only
  cases kd == 0
  · cases kd == 1
    · cases kd == 2 || kd == 3
      · exact h.mono
      · simp only [cond_true, cond_false]
        generalize (bif vl.tmod 5 == 4 then IntKind.i64.wrap (valT s.1.s (s.2.at 0).p (s.2.at 1).p + vl) else valT s.1.s (s.2.at 0).p (s.2.at 1).p) = w
        cases hE : stpE s.1 s.2 (kd == 2) w == 0
        · exact h.mono
        · exact h.kindD hk _ _ (by simpa using hE)
    · simp only [cond_true, cond_false]
      cases hc : lt (s.2.at 1).p (s.2.at 0).p && (s.2.at 1).r == 2
      · exact h.mono
      · rw [Bool.and_eq_true] at hc
        exact (h.kindB hk hc.1).2
  · simp only [cond_true]
    cases hc : appE (s.2.at 0) 1 (IntKind.i64.wrap ((s.2.at 0).p + 1)) == 0 && s.1.s == 0
    · exact h.mono
    · rw [Bool.and_eq_true, beq_iff_eq, beq_iff_eq] at hc
      exact h.kindA hk hc.2
def foldC (s : Prc × Ses) (ε : Val) : Nat → Prc × Ses
  | 0 => s
  | i + 1 => nx (foldC s ε i) (ekd ε i) (evl ε i)
theorem GoodC.fold {s : Prc × Ses} (h : GoodC s 0) (ε : Val) : ∀ i : Nat, i ≤ 1000 → GoodC (foldC s ε i) i
  | 0, _ => h
  | i + 1, hi => (GoodC.fold h ε i (by omega)).nx (by omega) _ _
namespace Cs
def z0 : Prc := ⟨0, 0, 0, 0, 0, 0, false, false⟩
def st (c : C) (i : Nat) : V := ⟨z0, ⟨0, Val.zero⟩, (foldC (c.P, c.L) c.ε i).1, (foldC (c.P, c.L) c.ε i).2, i⟩
def good (c : C) : Prop := (c.m = toInt64 c.n ∧ c.n ≤ 900) ∧ GoodC (c.P, c.L) 0
theorem fin_ok {v : V} {P : Prc} {L : Ses} {y : XE × V} (h : Fin2 L) (hy : y = (.normal, ⟨v.z, v.y, P, L, IntKind.i64.wrap (v.i + 1)⟩)) : (fin F0 v P L).All (fun z => z = y) := by
  subst hy
  have h0 : inRange 0 L.n = true := by rw [h.n]; rfl
  have h1 : inRange 1 L.n = true := by rw [h.n]; rfl
  have h2 : (toInt64 L.n != 2) = false := by rw [h.n]; rfl
  unfold fin
  refine needs_all ?_ ⟨fun hx => ?_, fun _ => ⟨dec_iff.2 ?_, fun hx => ?_, fun _ => rfl⟩⟩
  · simp [h0, h1]
  · rw [h2, h.r] at hx; cases hx
  · exact ⟨by have := h.sm.1; exact this, fun i hi => dec_iff.1 (small_few (h.sm.2 i hi))⟩
  · have hx : (ckE L != 0) = true := hx
    rw [h.ck] at hx; cases hx
theorem sq (c : C) (h : good c) : Sq (TX F0 c) (fun v => (c.n - v.i).toNat) (st c) (st c) c.n (fun _ => false) .ret (.exit 0) where
  out := by simp
  hit := by simp
  meas i hi := by show ((c.n : Int) - (i : Int)).toNat = _; omega
  round i hi := by
    obtain ⟨⟨hm, hn⟩, hg⟩ := h
    have hgi := hg.fold c.ε i (by omega)
    have hgn := hg.fold c.ε (i + 1) (by omega)
    have hfi := hgi.fin (by omega)
    have hfn := hgn.fin (by omega)
    have hw : IntKind.i64.wrap ((i : Int) + 1) = ((i + 1 : Nat) : Int) := by rw [w64_id (by omega) (by omega)]; omega
    generalize hs : foldC (c.P, c.L) c.ε i = s at hgi hfi
    have hsn : foldC (c.P, c.L) c.ε (i + 1) = nx s (ekd c.ε i) (evl c.ε i) := by
      show nx (foldC (c.P, c.L) c.ε i) _ _ = _
      rw [hs]
    rw [hsn] at hgn hfn
    have est : st c i = ⟨z0, ⟨0, Val.zero⟩, s.1, s.2, i⟩ := by unfold st; rw [hs]
    have esn : st c (i + 1) = ⟨z0, ⟨0, Val.zero⟩, (nx s (ekd c.ε i) (evl c.ε i)).1, (nx s (ekd c.ε i) (evl c.ε i)).2, ((i + 1 : Nat) : Int)⟩ := by unfold st; rw [hsn]
    show (TX F0 c (st c i)).All fun y => y = (.normal, st c (i + 1))
    rw [est, esn, ← hw]
    have g0 : inRange 0 s.2.n = true := by rw [hfi.n]; rfl
    have g1 : inRange 1 s.2.n = true := by rw [hfi.n]; rfl
    have m0 : dec (small (s.2.at 0).n) = true := dec_iff.2 (hfi.sm.2 0 (by rw [hfi.n]; omega))
    have m1 : dec (small (s.2.at 1).n) = true := dec_iff.2 (hfi.sm.2 1 (by rw [hfi.n]; omega))
    have ms : dec (smallS s.2) = true := dec_iff.2 hfi.sm
    have key : ∀ (P : Prc) (L : Ses), nx s (ekd c.ε i) (evl c.ε i) = (P, L) → (fin F0 ⟨z0, ⟨0, Val.zero⟩, s.1, s.2, i⟩ P L).All (fun z => z = (XE.normal, (⟨z0, ⟨0, Val.zero⟩, (nx s (ekd c.ε i) (evl c.ε i)).1, (nx s (ekd c.ε i) (evl c.ε i)).2, IntKind.i64.wrap ((i : Int) + 1)⟩ : V))) := fun P L e => by
      rw [e] at hfn ⊢
      exact fin_ok hfn rfl
    refine ⟨fun _ => ⟨inR hi, fun k0 => ?_, fun k0 => ⟨fun k1 => ?_, fun k1 => ?_⟩⟩, fun hlt => ?_⟩
    · have k0 : (ekd c.ε i == 0) = true := k0
      refine needs_all (by show ([inRange 0 s.2.n, inRange 0 s.2.n, dec (small (s.2.at 0).n)].all id) = true; simp [g0, m0]) ⟨fun hx => ⟨g1, key _ _ ?_⟩, fun hx => key _ _ ?_⟩
      · unfold nx
        have hx : (appE (s.2.at 0) 1 (IntKind.i64.wrap ((s.2.at 0).p + 1)) == 0 && s.1.s == 0) = true := hx
        simp only [k0, hx, cond_true]
        rfl
      · unfold nx
        have hx : (appE (s.2.at 0) 1 (IntKind.i64.wrap ((s.2.at 0).p + 1)) == 0 && s.1.s == 0) = false := hx
        simp only [k0, hx, cond_true, cond_false]
    · have k0 : (ekd c.ε i == 0) = false := k0
      have k1 : (ekd c.ε i == 1) = true := k1
      refine needs_all (by show ([inRange 1 s.2.n, inRange 0 s.2.n, _ || inRange 1 s.2.n].all id) = true; simp [g0, g1]) ⟨fun hx => needs_all (by show ([inRange 1 s.2.n, inRange 1 s.2.n, dec (small (s.2.at 1).n)].all id) = true; simp [g1, m1]) ?_, fun hx => key _ _ ?_⟩
      · have hx : (lt (s.2.at 1).p (s.2.at 0).p && (s.2.at 1).r == 2) = true := hx
        have hlt : lt (s.2.at 1).p (s.2.at 0).p = true := by rw [Bool.and_eq_true] at hx; exact hx.1
        obtain ⟨hE, _⟩ := hgi.kindB (by omega) hlt
        refine ⟨fun hy => ?_, fun _ => ⟨g0, key _ _ ?_⟩⟩
        · have hy : (appE (s.2.at 1) 1 (IntKind.i64.wrap ((s.2.at 1).p + 1)) != 0) = true := hy
          rw [hE] at hy; cases hy
        · unfold nx
          simp only [k0, k1, hx, cond_true, cond_false]
          rfl
      · unfold nx
        have hx : (lt (s.2.at 1).p (s.2.at 0).p && (s.2.at 1).r == 2) = false := hx
        simp only [k0, k1, hx, cond_true, cond_false]
    · have k0 : (ekd c.ε i == 0) = false := k0
      have k1 : (ekd c.ε i == 1) = false := k1
      have hv : (inRange 0 s.2.n && inRange 1 s.2.n) = true := by rw [g0, g1]; rfl
      have stp : ∀ w, (ekd c.ε i == 2 || ekd c.ε i == 3) = true → w = (bif (evl c.ε i).tmod 5 == 4 then IntKind.i64.wrap (valT s.1.s (s.2.at 0).p (s.2.at 1).p + evl c.ε i) else valT s.1.s (s.2.at 0).p (s.2.at 1).p) →
          (Tree.need (dec (smallS s.2)) (.br (stpE s.1 s.2 (ekd c.ε i == 2) w == 0) (fin F0 ⟨z0, ⟨0, Val.zero⟩, s.1, s.2, i⟩ (stpP s.1 s.2 (ekd c.ε i == 2) w) (stpL s.1 s.2 (ekd c.ε i == 2) w)) (fin F0 ⟨z0, ⟨0, Val.zero⟩, s.1, s.2, i⟩ s.1 s.2))).All
            (fun z => z = (XE.normal, (⟨z0, ⟨0, Val.zero⟩, (nx s (ekd c.ε i) (evl c.ε i)).1, (nx s (ekd c.ε i) (evl c.ε i)).2, IntKind.i64.wrap ((i : Int) + 1)⟩ : V))) := fun w hk hw2 => by
        refine ⟨ms, fun hx => key _ _ ?_, fun hx => key _ _ ?_⟩
        · unfold nx
          rw [hw2] at hx ⊢
          simp only [k0, k1, hk, hx, cond_true, cond_false]
        · unfold nx
          rw [hw2] at hx
          simp only [k0, k1, hk, hx, cond_true, cond_false]
      have K : (ekd c.ε i == 2 || ekd c.ε i == 3) = true → (Tree.need (inRange 0 s.2.n && inRange 1 s.2.n) (.need true (.br ((evl c.ε i).tmod 5 == 4)
          (Tree.need (dec (smallS s.2)) (.br (stpE s.1 s.2 (ekd c.ε i == 2) (IntKind.i64.wrap (valT s.1.s (s.2.at 0).p (s.2.at 1).p + evl c.ε i)) == 0) (fin F0 ⟨z0, ⟨0, Val.zero⟩, s.1, s.2, i⟩ (stpP s.1 s.2 (ekd c.ε i == 2) (IntKind.i64.wrap (valT s.1.s (s.2.at 0).p (s.2.at 1).p + evl c.ε i))) (stpL s.1 s.2 (ekd c.ε i == 2) (IntKind.i64.wrap (valT s.1.s (s.2.at 0).p (s.2.at 1).p + evl c.ε i)))) (fin F0 ⟨z0, ⟨0, Val.zero⟩, s.1, s.2, i⟩ s.1 s.2)))
          (Tree.need (dec (smallS s.2)) (.br (stpE s.1 s.2 (ekd c.ε i == 2) (valT s.1.s (s.2.at 0).p (s.2.at 1).p) == 0) (fin F0 ⟨z0, ⟨0, Val.zero⟩, s.1, s.2, i⟩ (stpP s.1 s.2 (ekd c.ε i == 2) (valT s.1.s (s.2.at 0).p (s.2.at 1).p)) (stpL s.1 s.2 (ekd c.ε i == 2) (valT s.1.s (s.2.at 0).p (s.2.at 1).p))) (fin F0 ⟨z0, ⟨0, Val.zero⟩, s.1, s.2, i⟩ s.1 s.2)))))).All
          (fun z => z = (XE.normal, (⟨z0, ⟨0, Val.zero⟩, (nx s (ekd c.ε i) (evl c.ε i)).1, (nx s (ekd c.ε i) (evl c.ε i)).2, IntKind.i64.wrap ((i : Int) + 1)⟩ : V))) := fun hk =>
        ⟨hv, rfl, fun hx => stp _ hk (by rw [hx]; rfl), fun hx => stp _ hk (by rw [hx]; rfl)⟩
      refine ⟨fun k2 => ⟨fun k3 => ?_, fun k3 => ?_⟩, fun k2 => ⟨fun k3 => ?_, fun k3 => ?_⟩⟩
      · have k2 : (ekd c.ε i == 2) = true := k2
        exact K (by rw [k2]; rfl)
      · have k2 : (ekd c.ε i == 2) = true := k2
        have k3 : (ekd c.ε i == 2) = false := k3
        rw [k2] at k3; cases k3
      · have k3 : (ekd c.ε i == 3) = true := k3
        exact K (by rw [k3, Bool.or_true])
      · have k2 : (ekd c.ε i == 2) = false := k2
        have k3 : (ekd c.ε i == 3) = false := k3
        refine key _ _ ?_
        unfold nx
        simp only [k0, k1, k2, k3, Bool.or_self, cond_false]
    · have : lt (i : Int) c.m = false := hlt
      rw [hm, ltF hi] at this; cases this
  stop := by
    refine ⟨fun hlt => ?_, fun _ => rfl⟩
    have : lt (c.n : Int) c.m = true := hlt
    rw [h.1.1, ltS] at this; cases this
def get : List (Nat × AV) → Mem → Option (C × V)
  | [(0, .one (.c (.sl [.int .i64, .int .i64, .int .i64, .int .i64, .sl [.int .i64, .int .i64, .int .i64], .int .i64, .bool, .bool] n ρ))), (4, .one (.c (.ptr 0 0))), (5, .one (.c (.sl [.int .i64, .int .i64, .int .i64, .int .i64, .sl [.int .i64, .int .i64, .int .i64], .int .i64, .bool, .bool] ny ρy))), (6, .one (.c (.bool false))), (7, .one (.c (.ptr 1 0))), (30, .one (.c (.sl [.int .i64, .int .i64] k ε))), (31, .one (.c (.int .i64 m))), (32, .one (.c (.int .i64 i)))],
    [some (33, [.int .i64 k1, .int .i64 f1, .int .i64 t1, .int .i64 s1, .int .i64 e1, .int .i64 c1, .bool d1, .bool x1]), some (33, [.int .i64 k0, .int .i64 f, .int .i64 t, .int .i64 s, .int .i64 e, .int .i64 c, .bool d, .bool x])] => some (⟨k, ε, m, ⟨k0, f, t, s, e, c, d, x⟩, ⟨n, ρ⟩⟩, ⟨⟨k1, f1, t1, s1, e1, c1, d1, x1⟩, ⟨ny, ρy⟩, ⟨k0, f, t, s, e, c, d, x⟩, ⟨n, ρ⟩, i⟩)
  | _, _ => none
noncomputable def L : Nat → St → Tree (XE × St) := ownH [.flat 5 siSh] (lqH [0, 4, 5, 6, 7, 30, 31, 32] 2 163 get fun c v => lq1 (S c) (good c ∧ v = st c 0) (.exit 0) (st c c.n))
theorem ok (fn : Func) (c b : Code) (hf : Tryz.prog.funcs[81]? = some fn) (hc : fn.body = some c) (hb : nthLoop c 0 = some b) : LoopOk Tryz.prog b L :=
  ownH_ok _ (lq1_ok hCf 10 81 0 hf hc hb [0, 4, 5, 6, 7, 30, 31, 32] 2 163 S (TX F0) (t F0) get (fun l m c v h => by unfold get at h; split at h <;> simp at h; obtain ⟨rfl, rfl⟩ := h; rfl)
    good (fun c v => (c.n - v.i).toNat) st (fun c => c.n) (.exit 0) sq (fun c => st c c.n) (fun _ _ => StWk.refl))
end Cs
end Go.Proofs.YtennlgngdjegoaaGreat
