/-
  A pair of sites: a switchover with events.
-/
import Derived.Test.YtennlgngdjegoaaCaA
namespace Go.Proofs.Ytennlgngdjegoaa
open Go Go.Sx Go.RowKit Classical

set_option maxRecDepth 100000
set_option maxHeartbeats 4000000

theorem pair_two (c m : Int) : TwoOk (pairS c m) 1 1 c (-1) 2 1 m 0 := ⟨rfl, (pr1_ok c).same (two_at0 _ _), (pr2_ok m).same (two_at1 _ _)⟩
theorem pair_beg {c m : Int} (hc : 0 ≤ c ∧ c ≤ 1000) (hm : 0 ≤ m ∧ m ≤ c) : begE (pairS c m) 0 1 = 0 ∧ begP (pairS c m) 0 1 = ⟨1, 0, 1, 0, 0, c, false, false⟩ := by
  have hT := pair_two c m
  have hck : ckE (pairS c m) = 0 := hT.ck (hT.A.chk (.inl rfl) (.inl ⟨rfl, rfl⟩) (by omega) (by omega)) (hT.B.chk (.inr rfl) (.inr ⟨rfl, rfl⟩) (by omega) (by omega)) (by omega)
  have hE : begE (pairS c m) 0 1 = 0 := by
    unfold begE
    rw [hck, hT.has0.1, hT.has1.1]
    unfold ok18 ok12
    rw [hT.by0, hT.by1, hT.A.r, hT.B.r, hT.B.s, hT.A.l, hT.B.l, hT.B.c]
    rfl
  refine ⟨hE, ?_⟩
  unfold begP
  rw [hE, hT.by0, hT.A.p]; rfl
theorem pair_good {c m : Int} (hc : 0 ≤ c ∧ c ≤ 5) (hm : 0 ≤ m ∧ m ≤ c) : GoodC (begP (pairS c m) 0 1, pairS c m) 0 := by
  rw [(pair_beg (by omega) hm).2]
  exact ⟨c, ⟨0, Val.zero⟩, ⟨rfl, ⟨hc.1, by show c ≤ _; omega⟩, rfl, rfl, rfl, ⟨by simp, by simp⟩, ⟨hc.1, by simp⟩, .inl ⟨rfl, ⟨by simp, by simp⟩, by simp, ⟨m, hm, pair_two c m⟩, fun _ h => by simp at h⟩⟩⟩

/-! ### caseSwitch -/

noncomputable abbrev HCs : Hd := ⟨(HCf F0).pc, (53, nG Gbeg) :: (HCf F0).hc, [((20, 0), Cs.L)], []⟩
theorem hCs : HdOk Try.prog HCs := HdOk.lhCons (hCf.ucCons uBegin) Cs.ok

def csT (P : Prc) (L : Ses) (k : Bool) : AV := .tup [P.cv, .c (.sl siSh L.n L.ρ), .c (.bool k)]
/-- the procedure and the sites behind the events -/
def csS (l : Ses) (n : Nat) (ε : Val) : Prc × Ses := foldC (begP l 0 1, l) ε n
noncomputable def Gcs : List A1 → Option (Bool × AV)
  | [.c (.sl [.int .i64, .int .i64, .int .i64, .int .i64, .sl [.int .i64, .int .i64, .int .i64], .int .i64, .bool, .bool] n ρ), .c (.sl [.int .i64, .int .i64] k ε)] => some (dec (k ≤ 900 ∧ begE ⟨n, ρ⟩ 0 1 = 0 ∧ GoodC (begP ⟨n, ρ⟩ 0 1, ⟨n, ρ⟩) 0), csT (csS ⟨n, ρ⟩ k ε).1 (csS ⟨n, ρ⟩ k ε).2 true)
  | _ => none
theorem uCs : UcOne Try.prog 20 (nG Gcs) := ucOne_of_tree hCs 12 20 fun args r h => by
  unfold Gcs at h; split at h
  · rename_i n ρ k ε
    obtain ⟨hp, rfl⟩ := Prod.mk.inj (Option.some.inj h)
    obtain ⟨hk, h0, hg⟩ := dec_iff.1 hp
    let l : Ses := ⟨n, ρ⟩
    let p := begP l 0 1
    refine ⟨.need (dec (smallS l)) (.br (begE l 0 1 != 0) (.leaf (csT p l false)) (.need (dec (Cs.good ⟨k, ε, toInt64 k, p, l⟩ ∧ (⟨Cs.z0, ⟨0, Val.zero⟩, p, l, ((0 : Nat) : Int)⟩ : Cs.V) = Cs.st ⟨k, ε, toInt64 k, p, l⟩ 0)) (.leaf (csT (csS l k ε).1 (csS l k ε).2 true)))), by kernel_rfl, dec_iff.2 (hg.fin (by omega)).sm, fun hx => ?_, fun _ => ⟨dec_iff.2 ⟨⟨⟨rfl, hk⟩, hg⟩, rfl⟩, leA.refl⟩⟩
    have hx : (begE l 0 1 != 0) = true := hx
    have h0 : begE l 0 1 = 0 := h0
    rw [h0] at hx; cases hx
  · cases h

/-! ### the example -/

theorem canG_of {P : Program} {f : Nat} {G : List A1 → Tree AV} (h : UcOne P f G) {canon : List A1} (hcl : canon.all closedA = true) {r0 r : AV} (hG : (G canon).sel = some r0) (hr : Fo.sameA r0 r = true) : UcOne P f (Fo.canG canon r) := by
  intro args r' hr' _ F w vs ha
  unfold Fo.canG at hr'
  simp only [Tree.sel] at hr'
  cases hs : Fo.sames args canon
  · rw [hs] at hr'; simp at hr'
  · rw [hs] at hr'
    simp only [cond_true, Option.some.injEq] at hr'
    subst hr'
    refine (h canon r0 hG hcl F w vs (Fo.sames_le hs ha)).mono fun e w2 ⟨u, he, hb, hu⟩ => ⟨u, he, hb, Fo.sameA_le hr _ _ _ hu⟩

def evC7 : CV := .sl evSh 7 (Val.ofFlat 2 [I 2, I 0, I 1, I 0, I 1, I 0, I 2, I 0, I 2, I 0, I 2, I 0, I 2, I 0])
def siC (a r e p s : Int) : List CV := [I a, I r, I e, I p, .sl spSh 1 (Val.ofFlat 3 [I 1, I 1, I p]), I s, .bool true, .bool true]
def siL7 : CV := .sl siSh 2 (Val.ofFlat 8 (siC 0 2 2 3 1 ++ siC 1 1 2 3 (-1)))
def r7 : AV := .tup [(⟨1, 0, 1, 5, 2, 3, true, false⟩ : Prc).cv, .c siL7, .c (.bool true)]
theorem r7_ok : Fo.sameA (csT (csS (pairS 3 1) 7 (Val.ofFlat 2 [I 2, I 0, I 1, I 0, I 1, I 0, I 2, I 0, I 2, I 0, I 2, I 0, I 2, I 0])).1 (csS (pairS 3 1) 7 (Val.ofFlat 2 [I 2, I 0, I 1, I 0, I 1, I 0, I 2, I 0, I 2, I 0, I 2, I 0, I 2, I 0])).2 true) r7 = true := by kernel_rfl
theorem cs7 : UcOne Try.prog 20 (Fo.canG [.c (.sl siSh (pairS 3 1).n (pairS 3 1).ρ), .c evC7] r7) :=
  canG_of uCs rfl (r0 := csT (csS (pairS 3 1) 7 (Val.ofFlat 2 [I 2, I 0, I 1, I 0, I 1, I 0, I 2, I 0, I 2, I 0, I 2, I 0, I 2, I 0])).1 (csS (pairS 3 1) 7 (Val.ofFlat 2 [I 2, I 0, I 1, I 0, I 1, I 0, I 2, I 0, I 2, I 0, I 2, I 0, I 2, I 0])).2 true) (by
    have hd : dec (7 ≤ 900 ∧ begE (pairS 3 1) 0 1 = 0 ∧ GoodC (begP (pairS 3 1) 0 1, pairS 3 1) 0) = true := dec_iff.2 ⟨by omega, (pair_beg (by omega) (by omega)).1, pair_good (by omega) (by omega)⟩
    show (Tree.need (dec (7 ≤ 900 ∧ begE (pairS 3 1) 0 1 = 0 ∧ GoodC (begP (pairS 3 1) 0 1, pairS 3 1) 0)) (.leaf _)).sel = _
    simp only [Tree.sel, hd, cond_true]) r7_ok

def Gtru : List A1 → Option AV
  | [] => some (.one (.c (.bool true)))
  | _ => none

noncomputable abbrev H19 : Hd := ⟨[concK, Fo.litK], [(16, Fo.canG [.c (I 2)] (Fo.cpR 3)), (20, Fo.canG [.c (.sl siSh (pairS 3 1).n (pairS 3 1).ρ), .c evC7] r7)], [], []⟩
theorem h19 : HdOk Try.prog H19 := by
  have h := (((HdOk.nil (P := Try.prog)).ucCons cs7).ucCons Fo.cp2).tcCons (f := 4294967292) (G := fun _ => .fail) (fun _ _ h => by simp [Tree.sel] at h)
  exact h.tcCons concK_ok
theorem pSwd : PcOne Try.prog 19 Gtru := pcOne_of_sel h19 30 19 fun args r h => by
  unfold Gtru at h; split at h
  · obtain rfl := Option.some.inj h
    exact ⟨rfl, by kernel_rfl⟩
  · cases h

end Go.Proofs.Ytennlgngdjegoaa
/-
  A pair of sites: a switchover keeps all cycles.
-/
namespace Go.Proofs.Ytennlgngdjegoaa
open Go Go.Sx Go.RowKit Classical

set_option maxRecDepth 100000
set_option maxHeartbeats 4000000

/-! ### events that are too great -/

def ebad (ε : Val) (i : Nat) : Bool := lt (evl ε i) 0 || lt 1000 (evl ε i)
namespace Eb
structure C where
  n : Nat
  ε : Val
  m : Int
def S (c : C) (v : VI) : St := mkS 19 [(0, .one (.c (.sl evSh c.n c.ε))), (1, .one (.c (.fn (.func 18) [] []))), (4, .one (.c (I v.r))), (7, .one (.c (I c.m))), (8, .one (.c (I v.i)))] []
theorem t (c : C) (v : VI) : ((evCode Try.prog (HCf F0) (evFn Try.prog (HCf F0) 10) 52 0 1 (loopBody Try.prog 52 0) (S c v)).bind fun y => gcT [0, 1, 4, 7, 8] 0 y) = (TXi c.m c.n (ebad c.ε) v).bind fun y => .leaf (y.1, S c y.2) := by kernel_rfl
def good (c : C) : Prop := c.m = toInt64 c.n ∧ fewN c.n
def get : List (Nat × AV) → Mem → Option (C × VI)
  | [(0, .one (.c (.sl [.int .i64, .int .i64] n ε))), (1, .one (.c (.fn (.func 18) [] []))), (4, .one (.c (.int .i64 r))), (7, .one (.c (.int .i64 m))), (8, .one (.c (.int .i64 i)))], [] => some (⟨n, ε, m⟩, ⟨r, i⟩)
  | _, _ => none
noncomputable def L : Nat → St → Tree (XE × St) := lqH [0, 1, 4, 7, 8] 0 19 get fun c v => lqT (S c) (good c ∧ v = stI 0) (anyB (ebad c.ε) c.n) .ret (.exit 0) (sbI (firstB (ebad c.ε) c.n)) (stI c.n)
theorem ok (fn : Func) (c b : Code) (hf : Try.prog.funcs[52]? = some fn) (hc : fn.body = some c) (hb : nthLoop c 0 = some b) : LoopOk Try.prog b L :=
  lq_ok hCf 10 52 0 hf hc hb [0, 1, 4, 7, 8] 0 19 S (fun c => TXi c.m c.n (ebad c.ε)) t get (fun l m c v h => by unfold get at h; split at h <;> simp at h; obtain ⟨rfl, rfl⟩ := h; rfl)
    good (fun c => μI c.n) (fun _ => stI) (fun _ => sbI) (fun c => c.n) (fun c => ebad c.ε) .ret (.exit 0) (fun c h => sqI (ebad c.ε) h.1 h.2) (fun c => sbI (firstB (ebad c.ε) c.n)) (fun c => stI c.n) (fun _ _ _ => StWk.refl) (fun _ _ _ => StWk.refl)
end Eb

noncomputable abbrev HSw4 : Hd := ⟨(19, oG Gtru) :: (21, nG GE) :: (HCf F0).pc, [(20, nG Gcs), (16, nG Fo.Gcp)], [((52, 0), Eb.L)], []⟩
theorem hSw4 : HdOk Try.prog HSw4 := by
  have h0 := ((HdOk.nil (P := Try.prog)).ucCons Fo.uCp).ucCons uCs
  have h3 := ((h0.tcCons pCkF).tcCons pVal)
  have h4 := h3.tcCons (f := 4294967292) (G := fun _ => .fail) (fun _ _ h => by simp [Tree.sel] at h)
  exact HdOk.lhCons ((h4.tcCons p46).pcCons pSwd) Eb.ok

def bT (b : Bool) : AV := .one (.c (.bool b))
theorem pairK {k : Int} (hk : 0 ≤ k ∧ k ≤ 4) : begE (pairS (k + 1) 1) 0 1 = 0 ∧ GoodC (begP (pairS (k + 1) 1) 0 1, pairS (k + 1) 1) 0 :=
  ⟨(pair_beg (by omega) (by omega)).1, pair_good (by omega) (by omega)⟩

/-- what is left of the old primary's cycles -/
theorem GoodC.ends {s : Prc × Ses} {k : Nat} (h : GoodC s k) : (lt s.1.s 4 = true → (s.2.at 0).r = 1 ∧ (s.2.at 1).r = 2) ∧
    (lt s.1.s 4 = false → (s.2.at 0).p = (s.2.at 1).p ∧ (s.2.at 0).r = 2 ∧ eqL ⟨⟨(s.2.at 0).n, (s.2.at 0).ρ⟩, ⟨(s.2.at 1).n, (s.2.at 1).ρ⟩⟩ = true ∧ s.1.d = ((s.2.at 1).r == 1)) := by
  obtain ⟨P, L⟩ := s
  obtain ⟨cy, O, h⟩ := h
  rcases h.ph with g | g | g
  · obtain ⟨b, hb, hL⟩ := g.L
    refine ⟨fun _ => ⟨hL.A.r, hL.B.r⟩, fun hs => ?_⟩
    have h1 : P.s ≤ 3 := g.s0.2
    have hs : lt P.s 4 = false := hs
    rw [(lt_iff _ _).2 (by omega)] at hs; cases hs
  · have h1 : P.s = 4 := g.s0
    refine ⟨fun hs => ?_, fun _ => ⟨?_, g.L.A.r, lin_eq g.L.A.lin g.L.B.lin, ?_⟩⟩
    · have hs : lt P.s 4 = true := hs
      rw [h1] at hs; cases hs
    · have a : (L.at 0).p = cy := g.L.A.p
      have b : (L.at 1).p = cy := g.L.B.p
      show (L.at 0).p = (L.at 1).p
      omega
    · have a : (L.at 1).r = 2 := g.L.B.r
      have b : P.d = false := g.d
      show P.d = ((L.at 1).r == 1)
      rw [a, b]; rfl
  · have h1 : P.s = 5 := g.s0
    refine ⟨fun hs => ?_, fun _ => ⟨?_, g.L.A.r, lin_eq g.L.A.lin g.L.B.lin, ?_⟩⟩
    · have hs : lt P.s 4 = true := hs
      rw [h1] at hs; cases hs
    · have a : (L.at 0).p = cy := g.L.A.p
      have b : (L.at 1).p = cy := g.L.B.p
      show (L.at 0).p = (L.at 1).p
      omega
    · have a : (L.at 1).r = 1 := g.L.B.r
      have b : P.d = true := g.d
      show P.d = ((L.at 1).r == 1)
      rw [a, b]; rfl

/-- what is said behind the events -/
noncomputable def mainT (l : Ses) (n : Nat) (ε : Val) : Tree AV :=
  let P := (csS l n ε).1
  let L := (csS l n ε).2
  let x0 := L.at 0
  let x1 := L.at 1
  let e1 := x0.p != x1.p
  let e2 := e1 || x0.r != 2
  .need (dec (n ≤ 900 ∧ begE l 0 1 = 0 ∧ GoodC (begP l 0 1, l) 0)) (.br false (.leaf (bT false)) (.br (lt P.s 4)
    (needs [inRange 0 L.n, !((x0.r == 1) == true && true) || inRange 1 L.n] (.leaf (bT ((x0.r == 1 && x1.r == 2) && true))))
    (needs [inRange 0 L.n, inRange 1 L.n, !(e1 == false && true) || inRange 0 L.n, !(e2 == false && true) || inRange 0 L.n, !(e2 == false && true) || inRange 1 L.n, !(e2 == false && true) || dec (fewN x0.n)]
      (.br (e2 || !eqL ⟨⟨x0.n, x0.ρ⟩, ⟨x1.n, x1.ρ⟩⟩) (.leaf (bT false)) (.need (inRange 1 L.n) (.leaf (bT ((P.d == (x1.r == 1)) && true))))))))

theorem mainT_ok {k : Int} (hk : 0 ≤ k ∧ k ≤ 4) {n : Nat} (hn : n ≤ 40) (ε : Val) : (mainT (pairS (k + 1) 1) n ε).All (fun z => z = .one (.c (.bool true))) := by
  obtain ⟨h1, h2⟩ := pairK hk
  have hg : GoodC (csS (pairS (k + 1) 1) n ε) n := h2.fold ε n (by omega)
  have hf := hg.fin (by omega)
  obtain ⟨e1, e2⟩ := hg.ends
  have g0 : inRange 0 (csS (pairS (k + 1) 1) n ε).2.n = true := by rw [hf.n]; rfl
  have g1 : inRange 1 (csS (pairS (k + 1) 1) n ε).2.n = true := by rw [hf.n]; rfl
  have m0 : dec (fewN ((csS (pairS (k + 1) 1) n ε).2.at 0).n) = true := small_few (hf.sm.2 0 (by rw [hf.n]; omega))
  refine ⟨dec_iff.2 ⟨by omega, h1, h2⟩, fun h => (by cases h), fun _ => ⟨fun hs => needs_all (by simp [g0, g1]) ?_, fun hs => needs_all (by simp [g0, g1, m0]) ⟨fun hb => ?_, fun _ => ⟨g1, ?_⟩⟩⟩⟩
  · obtain ⟨a, b⟩ := e1 hs
    show bT _ = _
    rw [a, b]; rfl
  · obtain ⟨a, b, c, d⟩ := e2 hs
    rw [a, b, c] at hb
    simp at hb
  · obtain ⟨a, b, c, d⟩ := e2 hs
    show bT _ = _
    rw [d]
    simp [bT]

theorem lawSwk (a : Int) (ha : 0 ≤ a ∧ a ≤ 255) (n : Nat) (ε : Val) {F : Nat → Prop} {W : World} {vs : List Value} (h : All2 (A1.Rel F W []) [.c (.int .u8 a), .c (.sl evSh n ε)] vs) :
    Calls Try.prog 4 vs.toArray W (fun e W' => e = .returned (.bool true) ∧ Below W.heap.size W W') := by
  let k := IntKind.i64.wrap (a.tmod 5)
  have hk0 : k = a % 5 := by
    show IntKind.i64.wrap (a.tmod 5) = _
    rw [Int.tmod_eq_emod_of_nonneg ha.1, w64_id (by omega) (by omega)]
  have hk : 0 ≤ k ∧ k ≤ 4 := by rw [hk0]; omega
  let M := mainT (pairS (k + 1) 1) n ε
  let T : Tree AV := .leaf (bT true)
  let b := Sx.lt 40 (toInt64 n)
  refine law_of_tree hSw4 12 4 (u := .need true (.need (dec (0 ≤ k ∧ k ≤ 8)) (.br false (.leaf (bT false)) (.br (b == false) (.need (dec (Eb.good ⟨n, ε, toInt64 n⟩ ∧ (⟨0, 0⟩ : VI) = stI 0)) (.br (anyB (ebad ε) n) (.br (b || le 0 (firstB (ebad ε) n : Nat)) T M) (.br (b || le 0 (-1)) T M))) (.br (b || false) T M))))) (by kernel_rfl) ?_ h
  have hM : b = false → M.All (fun z => z = .one (.c (.bool true))) := fun hb => by
    have hb : Sx.lt 40 (toInt64 n) = false := hb
    rw [← Bool.not_eq_true, lt_iff] at hb
    have hb : ¬ (40 : Int) < (n : Int) := hb
    exact mainT_ok hk (by omega) ε
  have hor : ∀ {c : Bool}, (b || c) = false → b = false := fun {c} h => by rw [Bool.or_eq_false_iff] at h; exact h.1
  refine ⟨rfl, dec_iff.2 ⟨hk.1, by omega⟩, fun h => (by cases h), fun _ => ⟨fun hb => ⟨?_, fun _ => ⟨fun _ => rfl, fun h => hM (hor h)⟩, fun _ => ⟨fun _ => rfl, fun h => hM (hor h)⟩⟩, fun _ => ⟨fun _ => rfl, fun h => hM (hor h)⟩⟩⟩
  have hb : Sx.lt 40 (toInt64 n) = false := by simpa using hb
  rw [← Bool.not_eq_true, lt_iff] at hb
  have hb : ¬ (40 : Int) < (n : Int) := hb
  exact dec_iff.2 ⟨⟨rfl, by unfold fewN; show n ≤ _; omega⟩, rfl⟩

theorem byt_of {ρ : Val} (h : wfL [.int .u8] 0 ρ) : 0 ≤ (ρ.at 0).N [] ∧ (ρ.at 0).N [] ≤ 255 := by
  have h : (Lit.int .u8 ((ρ.at 0).N [])).wf = true := h.1
  simpa [Lit.wf, IntKind.min, IntKind.max, IntKind.signed, IntKind.bits] using h
theorem argU_eq (ρ : Val) : argOf Try.prog 5 [.int .u8] ρ = .c (.int .u8 ((ρ.at 0).N [])) := by kernel_rfl
theorem argE_eq (ρ : Val) : argOf Try.prog 42 [.sl evSh] ρ = .c (.sl evSh ((ρ.at 0).L []) (ρ.at 0)) := by kernel_rfl

end Go.Proofs.Ytennlgngdjegoaa
