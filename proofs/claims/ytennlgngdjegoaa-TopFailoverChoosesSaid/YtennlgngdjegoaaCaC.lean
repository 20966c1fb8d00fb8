/-
  A pair of sites, as a slice of one's own: what a concrete run lays in the memory.
-/
import Derived.Test.YtennlgngdjegoaaCaB
import Derived.Test.YtennlgngdjegoaaEnE
import Derived.Test.YtennlgngdjegoaaFoD
namespace Go.Proofs.Ytennlgngdjegoaa
open Go Go.Sx Go.RowKit Classical

set_option maxRecDepth 100000
set_option maxHeartbeats 4000000

namespace Fo

/-- rows of the same length that read the same -/
def rowsB (es : List Sh) (n : Nat) (ρ σ : Val) : Bool := allB (fun i => allB (fun f => match nth es f with
  | some s => sameC 6 (cellOf s ((ρ.at i).at f)) (cellOf s ((σ.at i).at f))
  | none => true) es.length) n

theorem row1C {P : Program} {F : Nat → Prop} {w : World} {x : BI} {T : TypeId} {es : List Sh} {n : Nat} {ρ σ : Val} (h : MemRel P F w [x] [some (T, [.row false es n ρ])]) (he : rowsB es n ρ σ = true) : MemRel P F w [x] [some (T, [.row false es n σ])] := by
  have h0 := h.row 0 T false es n ρ x rfl rfl
  have hk : MemRel P F w [x] [none] := h.kill 0
  have hk0 : nth ([none] : Mem) 0 = some none := rfl
  refine hk.put (b := 0) (x := x) (T := T) (cs := [.row false es n σ]) rfl (fun T cs hh => by cases hh) (fun hl => h.loc 0 x T _ rfl rfl ⟨rfl, hl.2⟩) (fun _ k y T' cs' hk hc _ => ?_) (fun hh => by simp [isRowL] at hh) (fun fz es' n' ρ' hh => ?_)
  · cases k with
    | zero => cases hc
    | succ k => simp [nth] at hc
  · simp only [List.cons.injEq, CV.row.injEq, and_true] at hh
    obtain ⟨rfl, rfl, rfl, rfl⟩ := hh
    refine ⟨h0.len, h0.le, h0.mx, fun hc => ?_, fun _ h => by cases h⟩
    obtain ⟨arr, a1, a2, val, a3, a4⟩ := h0.blk hc
    refine ⟨arr, a1, a2, val, a3, fun i f s hi hs => ?_⟩
    have h3 := allB_ok (allB_ok he i hi) f (nth_lt hs)
    simp only [hs] at h3
    exact sameC_le h3 (a4 i f s hi hs)

/-- a slice of one's own and a truth value, the slice as the only block -/
theorem WkO.rowT {mem : Mem} {b sz : Nat} {k : Bool} {T : TypeId} {es : List Sh} {n : Nat} {ρ σ : Val} (hb : nth mem b = some (some (T, [.row false es n ρ]))) (he : rowsB es n ρ σ = true) :
    WkO (.ret (.tup [.c (.os b sz), .c (.bool k)]), mem) (.ret (.tup [.c (.os 0 sz), .c (.bool k)]), [some (T, [.row false es n σ])]) := by
  intro P F w bs e hm hr
  obtain ⟨v, rfl, hv⟩ := hr
  obtain ⟨vs, rfl, hv⟩ := hv
  cases hv with
  | cons hv1 hv2 =>
  rename_i v1 vs2
  have hbl : b < mem.length := nth_lt hb
  have hm1 := hm.ren (pm := [b]) rfl (fun x hx => by simp at hx; subst hx; exact hbl)
  have e1 : [b].map (renE [b] mem) = [some (T, [.row false es n ρ])] := by
    simp only [List.map_cons, List.map_nil, renE, hb, renC]
  rw [e1] at hm1
  obtain ⟨y, hy⟩ : ∃ y, nth bs b = some y := by
    have : b < bs.length := by rw [hm.len]; exact hbl
    exact ⟨bs[b], by rw [nth_eq]; exact List.getElem?_eq_getElem this⟩
  have e2 : renB [b] bs = [y] := by simp only [renB, List.map_cons, List.map_nil, hy]
  rw [e2] at hm1
  refine ⟨F, [y], ⟨Nat.le_refl _, fun _ _ h => h, fun p h _ _ => h, fun _ _ _ => rfl, rfl, rfl, rfl, fun k x hk _ => (by omega), fun x hx => ?_⟩, row1C hm1 he, _, rfl, _, rfl, ?_⟩
  · simp only [List.mem_cons, List.not_mem_nil, or_false] at hx
    subst hx
    exact .inl ⟨_, nth_mem hy, rfl⟩
  · have hv1 : CV.Rel F w bs (.os b sz) v1 := hv1
    have h1 := renC_ok (pm := [b]) hv1
    rw [e2] at h1
    refine .cons (show CV.Rel F w [y] (.os 0 sz) v1 by simpa [renC, idx] using h1) ?_
    cases hv2 with
    | cons hb2 hn =>
      cases hn
      have hb2 : CV.Rel F w bs (.bool k) _ := hb2
      cases hb2
      exact .cons (.bool _) .nil

/-- does a run end with such a slice? -/
def chkT (T : TypeId) (es : List Sh) (sz n : Nat) (σ : Val) (x : Option (AV × Mem)) : Bool :=
  match x with
  | some (.tup [.c (.os b z), .c (.bool true)], mem) => match nth mem b with
    | some (some (T', [.row false es' n' ρ])) => T' == T && shEq.shsEq es' es && n' == n && z == sz && rowsB es n ρ σ
    | _ => false
  | _ => false

/-- a function that lays one slice and says that it is right, at arguments that read as given ones -/
def canN (canon : List A1) (T : TypeId) (es : List Sh) (sz n : Nat) (σ : Val) (args : List A1) : Tree (AV × Mem) := .need (sames args canon) (.leaf (.tup [.c (.os 0 sz), .c (.bool true)], [some (T, [.row false es n σ])]))

theorem canN_ok {P : Program} {H : Hd} (hH : HdOk P H) (d f : Nat) {canon : List A1} {T : TypeId} {es : List Sh} {sz n : Nat} {σ : Val} (h : chkT T es sz n σ (evFn P H d f canon []).sel = true) : NcOne P f (canN canon T es sz n σ) := by
  intro args r m hr _ F w vs ha
  unfold canN at hr
  simp only [Tree.sel] at hr
  cases hs : sames args canon
  · rw [hs] at hr; simp at hr
  · rw [hs] at hr
    simp only [cond_true, Option.some.injEq, Prod.mk.injEq] at hr
    obtain ⟨rfl, rfl⟩ := hr
    have hargs := sames_le hs ha
    unfold chkT at h
    split at h
    · rename_i b z mem hsel
      split at h
      · rename_i T' es' n' ρ hb
        simp only [Bool.and_eq_true, beq_iff_eq] at h
        obtain ⟨⟨⟨⟨rfl, h2⟩, rfl⟩, rfl⟩, h5⟩ := h
        have h2 := shsEq_eq h2
        subst h2
        refine (evFn_ok0 hH d f canon _ _ hsel F w [] vs MemRel.nil hargs).mono fun e w2 ⟨v, F', bs', he, hext, hm', hr⟩ => ?_
        obtain ⟨F2, bs2, e2, m2, v2, hv2, r2⟩ := WkO.rowT (k := true) hb h5 P F' w2 bs' (.returned v) hm' ⟨v, rfl, hr⟩
        simp only [Ending.returned.injEq] at hv2
        subst hv2
        exact ⟨v, F2, bs2, he, hext.trans e2 (Nat.le_refl _), m2, r2⟩
      · cases h
    · cases h

end Fo
end Go.Proofs.Ytennlgngdjegoaa
/-
  A pair of sites, as a slice of one's own: nine runs.
-/
namespace Go.Proofs.Ytennlgngdjegoaa
open Go Go.Sx Go.RowKit Classical

set_option maxRecDepth 100000
set_option maxHeartbeats 4000000

namespace Fo

theorem np0 : NcOne Try.prog 16 (canN [.c (I 0)] 32 siSh 8 2 (pairS 1 1).ρ) := canN_ok lc4_ok 30 16 (by kernel_rfl)
theorem np1 : NcOne Try.prog 16 (canN [.c (I 1)] 32 siSh 8 2 (pairS 2 1).ρ) := canN_ok lc4_ok 30 16 (by kernel_rfl)
theorem np2 : NcOne Try.prog 16 (canN [.c (I 2)] 32 siSh 8 2 (pairS 3 1).ρ) := canN_ok lc4_ok 30 16 (by kernel_rfl)
theorem np3 : NcOne Try.prog 16 (canN [.c (I 3)] 32 siSh 8 2 (pairS 4 1).ρ) := canN_ok lc4_ok 30 16 (by kernel_rfl)
theorem np4 : NcOne Try.prog 16 (canN [.c (I 4)] 32 siSh 8 2 (pairS 5 1).ρ) := canN_ok lc4_ok 30 16 (by kernel_rfl)
theorem np5 : NcOne Try.prog 16 (canN [.c (I 5)] 32 siSh 8 2 (pairS 6 1).ρ) := canN_ok lc4_ok 30 16 (by kernel_rfl)
theorem np6 : NcOne Try.prog 16 (canN [.c (I 6)] 32 siSh 8 2 (pairS 7 1).ρ) := canN_ok lc4_ok 30 16 (by kernel_rfl)
theorem np7 : NcOne Try.prog 16 (canN [.c (I 7)] 32 siSh 8 2 (pairS 8 1).ρ) := canN_ok lc4_ok 30 16 (by kernel_rfl)
theorem np8 : NcOne Try.prog 16 (canN [.c (I 8)] 32 siSh 8 2 (pairS 9 1).ρ) := canN_ok lc4_ok 30 16 (by kernel_rfl)

/-- the pair, with some cycles, as a slice of one's own -/
noncomputable def Gnp : List A1 → Tree (AV × Mem)
  | [.c (.int .i64 k)] => .need (dec (0 ≤ k ∧ k ≤ 8)) (.leaf (.tup [.c (.os 0 8), .c (.bool true)], [some (32, [.row false siSh 2 (pairS (k + 1) 1).ρ])]))
  | _ => .fail
theorem canN_self {args : List A1} {T : TypeId} {es : List Sh} {sz n : Nat} {σ : Val} (h : sames args args = true) : (canN args T es sz n σ args).sel = some (.tup [.c (.os 0 sz), .c (.bool true)], [some (T, [.row false es n σ])]) := by
  unfold canN; rw [h]; rfl
theorem nCp : NcOne Try.prog 16 Gnp := fun args r m hr hc F w vs ha => by
  unfold Gnp at hr; split at hr
  · rename_i k
    simp only [Tree.sel] at hr
    cases hd : dec (0 ≤ k ∧ k ≤ 8)
    · rw [hd] at hr; cases hr
    · rw [hd] at hr
      simp only [cond_true, Option.some.injEq, Prod.mk.injEq] at hr
      obtain ⟨rfl, rfl⟩ := hr
      have hk := dec_iff.1 hd
      have : k = 0 ∨ k = 1 ∨ k = 2 ∨ k = 3 ∨ k = 4 ∨ k = 5 ∨ k = 6 ∨ k = 7 ∨ k = 8 := by omega
      rcases this with rfl | rfl | rfl | rfl | rfl | rfl | rfl | rfl | rfl
      · exact np0 _ _ _ (canN_self (by rfl)) hc F w vs ha
      · exact np1 _ _ _ (canN_self (by rfl)) hc F w vs ha
      · exact np2 _ _ _ (canN_self (by rfl)) hc F w vs ha
      · exact np3 _ _ _ (canN_self (by rfl)) hc F w vs ha
      · exact np4 _ _ _ (canN_self (by rfl)) hc F w vs ha
      · exact np5 _ _ _ (canN_self (by rfl)) hc F w vs ha
      · exact np6 _ _ _ (canN_self (by rfl)) hc F w vs ha
      · exact np7 _ _ _ (canN_self (by rfl)) hc F w vs ha
      · exact np8 _ _ _ (canN_self (by rfl)) hc F w vs ha
  · simp [Tree.sel] at hr

end Fo
end Go.Proofs.Ytennlgngdjegoaa
/-
  A site that is new: it rejoins, and is synced.
-/
namespace Go.Proofs.Ytennlgngdjegoaa
open Go Go.Sx Go.RowKit Classical

set_option maxRecDepth 100000
set_option maxHeartbeats 4000000

namespace Fo

noncomputable def Hy0 : Hd := ⟨headK :: tailK :: H15.pc, H15.hc, [], H15.mc⟩
theorem hy0 : HdOk Try.prog Hy0 := by
  have h := (h15.tail).tcCons (f := 4294967291) (G := fun _ => .fail) (fun _ _ h => by simp [Tree.sel] at h)
  exact h
noncomputable def Hy : Hd := ⟨headK :: tailK :: H15.pc, H15.hc, lhsOf Try.prog Hy0 1 [(85, 0), (47, 0)], H15.mc⟩
theorem hy : HdOk Try.prog Hy := lhs_ok hy0 hy0 1 _


/-- the error of a new site that is synced -/
def synK (a e s nu : Int) (ρ : Val) : Int := dmd (le 1 nu && le nu 1073741824) 2 (dmd true 18 (chk a 4 e 0 ⟨0, ρ⟩ s))
theorem synT (a e s nu : Int) (l c : Bool) (ρ : Val) : (hcTree Try.prog Hy 10 14 [.agg [I a, I 4, I e, I 0, .sl spSh 0 ρ, I s, .bool l, .bool c], .c (I nu)]).follow [false, false, true, false, true, false, false] =
    some ([(true, true), (dec (fewN 0), true), (synK a e s nu ρ != 0, false), (false, false), (true, true), (false, false), (dec (fewN 0), true), (lt 0 nu, true), (true, true), (false, false), (true, true), (synK a e s nu ρ != 0, false)],
      .tup [.agg [I a, I 2, I e, I nu, .sl spSh 1 (Val.cat 0 ρ (Val.ofFlat 3 [I e, I (IntKind.i64.wrap (0 + 1)), I nu])), I s, .bool l, .bool c], .c (I 0)]) := by kernel_rfl

/-- a new site that was synced -/
def synS (a e s nu : Int) (l c : Bool) (ρ : Val) : AV := .tup [.agg [I a, I 2, I e, I nu, .sl spSh 1 (Val.cat 0 ρ (Val.ofFlat 3 [I e, I (IntKind.i64.wrap (0 + 1)), I nu])), I s, .bool l, .bool c], .c (I 0)]
noncomputable def Gsyn0 : List A1 → Option (Bool × AV)
  | [.agg [.int .i64 a, .int .i64 r, .int .i64 e, .int .i64 p, .sl [.int .i64, .int .i64, .int .i64] n ρ, .int .i64 s, .bool l, .bool c], .c (.int .i64 nu)] => some (dec (r = 4 ∧ p = 0 ∧ n = 0 ∧ chk a 4 e 0 ⟨0, ρ⟩ s = 0 ∧ 1 ≤ nu ∧ nu ≤ 1073741824), synS a e s nu l c ρ)
  | _ => none
theorem uSyn0 : UcOne Try.prog 14 (nG Gsyn0) := ucOne_of_follow hy 10 14 fun args r h => by
  unfold Gsyn0 at h; split at h
  · rename_i a ro e p n ρ s l c nu
    obtain ⟨hp, rfl⟩ := Prod.mk.inj (Option.some.inj h)
    obtain ⟨rfl, rfl, rfl, h1, h2, h3⟩ := dec_iff.1 hp
    have hk : synK a e s nu ρ = 0 := by
      unfold synK
      rw [h1, (le_iff _ _).2 h2, (le_iff _ _).2 h3]; rfl
    have hf : dec (fewN 0) = true := dec_iff.2 (by unfold fewN; omega)
    have hl : lt 0 nu = true := by rw [lt_iff]; omega
    exact ⟨_, _, _, synT a e s nu l c ρ, by rw [hk, hf, hl]; rfl, leA.refl⟩
  · cases h

/-- where nil is told as a slice -/
theorem ucOne_un {P : Program} {f : Nat} {G : List A1 → Tree AV} (h : UcOne P f G) : UcOne P f (fun args => G (args.map un1)) := fun args r hr hc F w vs ha =>
  h (args.map un1) r hr (by
    rw [List.all_map]
    rw [List.all_eq_true] at hc ⊢
    intro x hx
    have := hc x hx
    cases x with
    | c x => cases x <;> first | exact this | rfl
    | agg l =>
      simp only [Function.comp, un1, closedA, List.all_map, List.all_eq_true] at this ⊢
      intro y hy
      have := this y hy
      cases y <;> first | exact this | rfl) F w vs (ha.map_left fun _ _ h => un1_ok h)

end Fo
end Go.Proofs.Ytennlgngdjegoaa
/-
  A pair of sites: the primary is lost.
-/
namespace Go.Proofs.Ytennlgngdjegoaa
open Go Go.Sx Go.RowKit Classical

set_option maxRecDepth 100000
set_option maxHeartbeats 4000000

namespace Fo

/-! ### the loop over those that follow -/

namespace Fl
structure C where
  l : Ses
  j : Ses
  w : Sit
  q : Int
  t : Int
  m : Int
def S (c : C) (v : Int) : St := mkS 245 [(4, .one (.c (.bool false))), (5, .one (.c (.sl siSh c.l.n c.l.ρ))), (7, .one (.c (.ptr 0 0))), (8, .one (.c (I c.q))), (15, .one (.c (I c.t))), (180, .one (.c (.sl siSh c.j.n c.j.ρ))), (181, .one (.c (I c.m))), (182, .one (.c (I v)))] [some (32, cs c.w)]
def TX (c : C) (v : Int) : Tree (XE × Int) :=
  let x := c.j.at v.toNat
  let g := v != c.t && v != 0
  .br (lt v c.m) (.need (inRange v c.j.n) (.need (!((x.r != 4) == false && (g == true && true)) || inRange c.t c.l.n) (.br (g && (x.r != 4 || x.s != (c.l.at c.t.toNat).a)) (.leaf (.ret, v)) (.leaf (.normal, IntKind.i64.wrap (v + 1)))))) (.leaf (.exit 4, v))
theorem t (c : C) (v : Int) : ((evCode Try.prog ⟨[], [], [], []⟩ (evFn Try.prog ⟨[], [], [], []⟩ 10) 5 0 3 (loopBody Try.prog 5 2) (S c v)).bind fun y => gcT [4, 5, 7, 8, 15, 180, 181, 182] 0 y) = (TX c v).bind fun y => .leaf (y.1, S c y.2) := by kernel_rfl
def good (c : C) : Prop := (c.j = c.l ∧ c.m = toInt64 c.l.n ∧ c.l.n ≤ 1000) ∧ inRange c.t c.l.n = true ∧ ∀ i : Nat, i < c.l.n → (i : Int) ≠ c.t → i ≠ 0 → (c.l.at i).r = 4 ∧ (c.l.at i).s = (c.l.at c.t.toNat).a
theorem sq (c : C) (h : good c) : Sq (TX c) (fun v => (c.l.n - v).toNat) (fun i => (i : Int)) (fun i => (i : Int)) c.l.n (fun _ => false) .ret (.exit 4) where
  out := by simp
  hit := by simp
  meas i hi := by show ((c.l.n : Int) - (i : Int)).toNat = _; omega
  round i hi := by
    obtain ⟨⟨hj, hm, hn⟩, ht, hr⟩ := h
    have hw : IntKind.i64.wrap ((i : Int) + 1) = ((i + 1 : Nat) : Int) := by rw [w64_id (by omega) (by omega)]; omega
    refine ⟨fun _ => ⟨by rw [hj]; exact inR hi, by rw [ht, Bool.or_true], fun hx => ?_, fun _ => ?_⟩, fun hlt => ?_⟩
    · have hx : (((i : Int) != c.t && (i : Int) != 0) && ((c.j.at i).r != 4 || (c.j.at i).s != (c.l.at c.t.toNat).a)) = true := hx
      rw [Bool.and_eq_true, Bool.and_eq_true] at hx
      have a : (i : Int) ≠ c.t := by simpa using hx.1.1
      have b : (i : Int) ≠ 0 := by simpa using hx.1.2
      obtain ⟨r1, r2⟩ := hr i hi a (by omega)
      have := hx.2
      rw [hj, r1, r2] at this
      simp at this
    · show (XE.normal, IntKind.i64.wrap ((i : Int) + 1)) = _
      rw [hw]
    · have : lt (i : Int) c.m = false := hlt
      rw [hm, ltF hi] at this; cases this
  stop := by
    refine ⟨fun hlt => ?_, fun _ => rfl⟩
    have : lt (c.l.n : Int) c.m = true := hlt
    rw [h.1.2.1, ltS] at this; cases this
def get : List (Nat × AV) → Mem → Option (C × Int)
  | [(4, .one (.c (.bool false))), (5, .one (.c (.sl [.int .i64, .int .i64, .int .i64, .int .i64, .sl [.int .i64, .int .i64, .int .i64], .int .i64, .bool, .bool] n ρ))), (7, .one (.c (.ptr 0 0))), (8, .one (.c (.int .i64 q))), (15, .one (.c (.int .i64 t))), (180, .one (.c (.sl [.int .i64, .int .i64, .int .i64, .int .i64, .sl [.int .i64, .int .i64, .int .i64], .int .i64, .bool, .bool] k σ))), (181, .one (.c (.int .i64 m))), (182, .one (.c (.int .i64 i)))],
    [some (32, [.int .i64 a, .int .i64 r, .int .i64 e, .int .i64 p, .sl [.int .i64, .int .i64, .int .i64] wn wρ, .int .i64 s, .bool l, .bool c])] => some (⟨⟨n, ρ⟩, ⟨k, σ⟩, ⟨a, r, e, p, wn, wρ, s, l, c⟩, q, t, m⟩, i)
  | _, _ => none
noncomputable def L : Nat → St → Tree (XE × St) := lqH [4, 5, 7, 8, 15, 180, 181, 182] 0 245 get fun c v => lq1 (S c) (good c ∧ v = ((0 : Nat) : Int)) (.exit 4) (c.l.n : Int)
theorem ok (fn : Func) (c b : Code) (hf : Try.prog.funcs[5]? = some fn) (hc : fn.body = some c) (hb : nthLoop c 2 = some b) : LoopOk Try.prog b L :=
  lq1_ok HdOk.nil 10 5 2 hf hc hb [4, 5, 7, 8, 15, 180, 181, 182] 0 245 S TX t get (fun l m c v h => by unfold get at h; split at h <;> simp at h; obtain ⟨rfl, rfl⟩ := h; rfl)
    good (fun c v => (c.l.n - v).toNat) (fun _ i => (i : Int)) (fun c => c.l.n) (.exit 4) sq (fun c => (c.l.n : Int)) (fun _ _ => StWk.refl)
end Fl

/-! ### what the law stands on; the functions that it calls as variables -/

structure Fs where
  E : Prc → Ses → Bool → Int → Int
  P : Prc → Ses → Bool → Int → Prc
  L : Prc → Ses → Bool → Int → Ses
  bE : Ses → Los → Int → Int
  bP : Ses → Los → Int → Prc
  cE : Ses → Los → Int
  cI : Ses → Los → Int
  aE : Sit → Int → Int → Int
  aX : Sit → Int → Int → Sit
  an : Ln → Ln → V65
def F0 : Fs := ⟨stpE, stpP, stpL, begE, begP, choE, choI, appE, app, anc⟩

noncomputable def GstF (f : Fs) : List A1 → Option (Bool × AV)
  | [.agg [.int .i64 k, .int .i64 f', .int .i64 t, .int .i64 s, .int .i64 e, .int .i64 c, .bool d, .bool x], .c (.sl [.int .i64, .int .i64, .int .i64, .int .i64, .sl [.int .i64, .int .i64, .int .i64], .int .i64, .bool, .bool] n ρ), .c (.bool ok), .c (.int .i64 v)] =>
    some (dec (smallS ⟨n, ρ⟩), thr (f.P ⟨k, f', t, s, e, c, d, x⟩ ⟨n, ρ⟩ ok v) (f.L ⟨k, f', t, s, e, c, d, x⟩ ⟨n, ρ⟩ ok v) (f.E ⟨k, f', t, s, e, c, d, x⟩ ⟨n, ρ⟩ ok v))
  | _ => none
noncomputable def GbeF (f : Fs) : List A1 → Option (Bool × AV)
  | [.c (.sl [.int .i64, .int .i64, .int .i64, .int .i64, .sl [.int .i64, .int .i64, .int .i64], .int .i64, .bool, .bool] n ρ), .c (.sl [.bool] k σ), .c (.int .i64 t)] => some (dec (fewS ⟨n, ρ⟩), prE (f.bP ⟨n, ρ⟩ ⟨k, σ⟩ t) (f.bE ⟨n, ρ⟩ ⟨k, σ⟩ t))
  | _ => none
noncomputable def GchF (f : Fs) : List A1 → Option (Bool × AV)
  | [.c (.sl [.int .i64, .int .i64, .int .i64, .int .i64, .sl [.int .i64, .int .i64, .int .i64], .int .i64, .bool, .bool] n ρ), .c (.sl [.bool] k σ)] => some (dec (fewS ⟨n, ρ⟩), two (f.cI ⟨n, ρ⟩ ⟨k, σ⟩) (f.cE ⟨n, ρ⟩ ⟨k, σ⟩))
  | _ => none
noncomputable def GapF (f : Fs) : List A1 → Option (Bool × AV)
  | [.agg [.int .i64 a, .int .i64 r, .int .i64 e, .int .i64 p, .sl [.int .i64, .int .i64, .int .i64] n ρ, .int .i64 s, .bool l, .bool c], .c (.int .i64 ep), .c (.int .i64 nu)] => some (dec (small n), okOr (f.aE ⟨a, r, e, p, n, ρ, s, l, c⟩ ep nu) (f.aX ⟨a, r, e, p, n, ρ, s, l, c⟩ ep nu))
  | _ => none
noncomputable def GanF (f : Fs) : List A1 → Option (Bool × AV)
  | [.c (.sl [.int .i64, .int .i64, .int .i64] n ρ), .c (.sl [.int .i64, .int .i64, .int .i64] m σ)] => some (dec (fewN n ∧ fewN m), .tup [.c (I (f.an ⟨n, ρ⟩ ⟨m, σ⟩).c), .c (I (f.an ⟨n, ρ⟩ ⟨m, σ⟩).e)])
  | _ => none
theorem ucOne_imp' {P : Program} {f : Nat} {G G' : List A1 → Tree AV} (h : UcOne P f G) (hw : ∀ args r, (G' args).sel = some r → (G args).sel = some r) : UcOne P f G' := fun args r hr hc F w vs ha => h args r (hw args r hr) hc F w vs ha
theorem tcOne_imp' {P : Program} {f : Nat} {G G' : List A1 → Tree AV} (h : TcOne P f G) (hw : ∀ args r, (G' args).sel = some r → (G args).sel = some r) : TcOne P f G' := fun args r hr hc F w vs ha => h args r (hw args r hr) hc F w vs ha
theorem uStF : UcOne Try.prog 24 (nG (GstF F0)) := ucOne_imp' uStep fun args r hr => by
  have h := nG_sel hr
  unfold GstF at h; split at h
  · obtain ⟨hp, rfl⟩ := Prod.mk.inj (Option.some.inj h)
    unfold nG Gstp
    simp only [Tree.sel, hp, cond_true]
    rfl
  · cases h
theorem pBeF : TcOne Try.prog 23 (nG (GbeF F0)) := tcOne_imp' pBeg fun args r hr => by
  have h := nG_sel hr
  unfold GbeF at h; split at h
  · obtain ⟨hp, rfl⟩ := Prod.mk.inj (Option.some.inj h)
    unfold nG Gbeg
    simp only [Tree.sel, hp, cond_true]
    rfl
  · cases h
theorem pChF : TcOne Try.prog 22 (nG (GchF F0)) := tcOne_imp' pCho fun args r hr => by
  have h := nG_sel hr
  unfold GchF at h; split at h
  · obtain ⟨hp, rfl⟩ := Prod.mk.inj (Option.some.inj h)
    unfold nG Gcho
    simp only [Tree.sel, hp, cond_true]
    rfl
  · cases h
theorem uApF : UcOne Try.prog 25 (nG (GapF F0)) := ucOne_imp' u20 fun args r hr => by
  have h := nG_sel hr
  unfold GapF at h; split at h
  · obtain ⟨hp, rfl⟩ := Prod.mk.inj (Option.some.inj h)
    unfold nG Gapp
    simp only [Tree.sel, hp, cond_true]
    rfl
  · cases h
theorem pAnF : TcOne Try.prog 26 (nG (GanF F0)) := tcOne_imp' p65 fun args r hr => by
  have h := nG_sel hr
  unfold GanF at h; split at h
  · obtain ⟨hp, rfl⟩ := Prod.mk.inj (Option.some.inj h)
    unfold nG G65
    simp only [Tree.sel, hp, cond_true]
    rfl
  · cases h

noncomputable abbrev pcF (f : Fs) : List (Nat × (List A1 → Tree AV)) := [headK, (19, oG Gtru), (22, nG (GchF f)), (23, nG (GbeF f)), (26, nG (GanF f))]
noncomputable abbrev hcF (f : Fs) : List (Nat × (List A1 → Tree AV)) := [(24, nG (GstF f)), (25, nG (GapF f)), (13, fun args => nG Grej (args.map un1)), (14, nG Gsyn0)]
noncomputable abbrev mcF : List (Nat × (List A1 → Mem → Tree (AV × Mem))) := [(16, ncG Gnp)]
theorem hF0 : HdOk Try.prog ⟨pcF F0, hcF F0, [], mcF⟩ := by
  have h0 := (HdOk.nil (P := Try.prog)).mcCons nCp.mc
  have h1 := (((h0.ucCons uSyn0).ucCons (ucOne_un u26)).ucCons uApF).ucCons uStF
  have h2 := (((h1.tcCons pAnF).tcCons pBeF).tcCons pChF).pcCons pSwd
  exact h2.tcCons (f := 4294967291) (G := fun _ => .fail) (fun _ _ h => by simp [Tree.sel] at h)
noncomputable abbrev HF5 (f : Fs) : Hd := ⟨pcF f, hcF f, ((5, 2), Fl.L) :: lhsOf Try.prog ⟨pcF f, hcF f, [], mcF⟩ 5 [(5, 0), (5, 1)], mcF⟩
theorem hF5 : HdOk Try.prog (HF5 F0) := HdOk.lhCons (lhs_ok hF0 hF0 5 _) Fl.ok

end Fo
end Go.Proofs.Ytennlgngdjegoaa
/-
  A pair of sites, the primary is lost: the four steps.
-/
namespace Go.Proofs.Ytennlgngdjegoaa
open Go Go.Sx Go.RowKit Classical

set_option maxRecDepth 100000
set_option maxHeartbeats 4000000

namespace Fo

/-! ### the loop of the steps -/

theorem rnP_small {l : Ses} (o : Los) (t : Int) (h : smallS l) : ∀ i, smallS (rnP l o t i).2
  | 0 => h
  | i + 1 => stpL_small _ _ (rnP_small o t h i)
theorem BegOk.alE {l : Ses} {o : Los} {t : Int} {tn : Nat} (h : BegOk l o t tn) : ∀ i, i < 4 → rnE l o t i = 0 ∧ (rnP l o t i).1.e = mosE l + 1
  | 0, _ => ⟨h.step0.1, by rw [h.rn0]; rfl⟩
  | 1, _ => ⟨h.step1.1, by rw [h.step0.2]; rfl⟩
  | 2, _ => ⟨h.step2.1, by rw [h.step1.2]; rfl⟩
  | 3, _ => ⟨h.step3.1, by rw [h.step2.2]; rfl⟩

namespace Sl
structure C where
  w : Sit
  o : Los
  l0 : Ses
  q : Int
  t : Int
structure V where
  p : Prc
  l : Ses
  e : Int
  i : Int
def S (c : C) (v : V) : St := mkS 245 [(4, .one (.c (.bool false))), (5, .one (.c (.sl siSh v.l.n v.l.ρ))), (7, .one (.c (.ptr 0 0))), (8, .one (.c (I c.q))), (14, .one (.c (.os 1 1))), (15, .one (.c (I c.t))), (16, .one (.c (I v.e))), (17, .one (.c (.ptr 2 0))), (131, .one (.c (I v.i)))]
  [some (32, cs c.w), some (4, [.row false [.bool] c.o.n c.o.ρ]), some (49, v.p.cs)]
noncomputable def TX (f : Fs) (c : C) (v : V) : Tree (XE × V) :=
  .br (lt v.i 4) (.br (v.e != 0) (.leaf (.ret, v)) (.need (dec (smallS v.l)) (.leaf (.normal, ⟨f.P v.p v.l true 2, f.L v.p v.l true 2, f.E v.p v.l true 2, IntKind.i64.wrap (v.i + 1)⟩)))) (.leaf (.exit 2, v))
noncomputable abbrev H0 (f : Fs) : Hd := ⟨[], [(24, nG (GstF f))], [], []⟩
theorem t (f : Fs) (c : C) (v : V) : ((evCode Try.prog (H0 f) (evFn Try.prog (H0 f) 10) 5 0 2 (loopBody Try.prog 5 1) (S c v)).bind fun y => gcT [4, 5, 7, 8, 14, 15, 16, 17, 131] 0 y) = (TX f c v).bind fun y => .leaf (y.1, S c y.2) := by kernel_rfl
def st (c : C) (i : Nat) : V := ⟨(rnP c.l0 c.o c.t i).1, (rnP c.l0 c.o c.t i).2, 0, i⟩
def good (c : C) : Prop := smallS c.l0 ∧ mosE c.l0 = 1 ∧ ∃ tn, BegOk c.l0 c.o c.t tn
theorem sq (c : C) (h : good c) : Sq (TX F0 c) (fun v => (4 - v.i).toNat) (st c) (st c) 4 (fun _ => false) .ret (.exit 2) where
  out := by simp
  hit := by simp
  meas i hi := by show ((4 : Int) - (i : Int)).toNat = _; omega
  round i hi := by
    obtain ⟨w, o, l, q, t⟩ := c
    obtain ⟨hs, hm, tn, hb⟩ := h
    have hm : mosE l = 1 := hm
    have hw : IntKind.i64.wrap ((i : Int) + 1) = ((i + 1 : Nat) : Int) := by rw [w64_id (by omega) (by omega)]; omega
    obtain ⟨h1, h2⟩ := BegOk.alE hb i hi
    have h2 : (rnP l o t i).1.e = 2 := by rw [h2, hm]; rfl
    refine ⟨fun _ => ⟨fun hx => (by cases hx), fun _ => ⟨dec_iff.2 (rnP_small o t hs i), ?_⟩⟩, fun hlt => ?_⟩
    · show (XE.normal, (⟨stpP (rnP l o t i).1 (rnP l o t i).2 true 2, stpL (rnP l o t i).1 (rnP l o t i).2 true 2, stpE (rnP l o t i).1 (rnP l o t i).2 true 2, IntKind.i64.wrap ((i : Int) + 1)⟩ : V)) = (XE.normal, (⟨stpP (rnP l o t i).1 (rnP l o t i).2 true (rnP l o t i).1.e, stpL (rnP l o t i).1 (rnP l o t i).2 true (rnP l o t i).1.e, 0, ((i + 1 : Nat) : Int)⟩ : V))
      rw [hw]
      have h1 : stpE (rnP l o t i).1 (rnP l o t i).2 true (rnP l o t i).1.e = 0 := h1
      rw [h2] at h1
      rw [h2, h1]
    · have : lt (i : Int) 4 = false := hlt
      have := of_ltF this
      omega
  stop := ⟨fun hlt => (by cases hlt), fun _ => rfl⟩
def get : List (Nat × AV) → Mem → Option (C × V)
  | [(4, .one (.c (.bool false))), (5, .one (.c (.sl [.int .i64, .int .i64, .int .i64, .int .i64, .sl [.int .i64, .int .i64, .int .i64], .int .i64, .bool, .bool] n ρ))), (7, .one (.c (.ptr 0 0))), (8, .one (.c (.int .i64 q))), (14, .one (.c (.os 1 1))), (15, .one (.c (.int .i64 t))), (16, .one (.c (.int .i64 e))), (17, .one (.c (.ptr 2 0))), (131, .one (.c (.int .i64 i)))],
    [some (32, [.int .i64 a, .int .i64 r, .int .i64 ee, .int .i64 p, .sl [.int .i64, .int .i64, .int .i64] wn wρ, .int .i64 s, .bool l, .bool c]), some (4, [.row false [.bool] m σ]), some (49, [.int .i64 pk, .int .i64 pf, .int .i64 pt, .int .i64 ps, .int .i64 pe, .int .i64 pc, .bool pd, .bool px])] =>
    some (⟨⟨a, r, ee, p, wn, wρ, s, l, c⟩, ⟨m, σ⟩, ⟨n, ρ⟩, q, t⟩, ⟨⟨pk, pf, pt, ps, pe, pc, pd, px⟩, ⟨n, ρ⟩, e, i⟩)
  | _, _ => none
/-- what the four steps leave, as a variable -/
def R0 : Ses → Los → Int → Prc × Ses := fun l o t => rnP l o t 4
noncomputable def L (R : Ses → Los → Int → Prc × Ses) : Nat → St → Tree (XE × St) := frzH 5 (lqH [4, 5, 7, 8, 14, 15, 16, 17, 131] 0 245 get fun c v => lq1 (S c) (good c ∧ v = st c 0) (.exit 2) ⟨(R c.l0 c.o c.t).1, (R c.l0 c.o c.t).2, 0, 4⟩)
theorem h0 : HdOk Try.prog (H0 F0) := (HdOk.nil (P := Try.prog)).ucCons uStF
theorem ok (fn : Func) (c b : Code) (hf : Try.prog.funcs[5]? = some fn) (hc : fn.body = some c) (hb : nthLoop c 1 = some b) : LoopOk Try.prog b (L R0) :=
  frzH_ok 5 (lq1_ok h0 10 5 1 hf hc hb [4, 5, 7, 8, 14, 15, 16, 17, 131] 0 245 S (TX F0) (t F0) get (fun l m c v h => by unfold get at h; split at h <;> simp at h; obtain ⟨rfl, rfl⟩ := h; rfl)
    good (fun c v => (4 - v.i).toNat) st (fun _ => 4) (.exit 2) sq (fun c => ⟨(R0 c.l0 c.o c.t).1, (R0 c.l0 c.o c.t).2, 0, 4⟩) (fun _ _ => StWk.refl))
end Sl

noncomputable abbrev HF6 (f : Fs) (R : Ses → Los → Int → Prc × Ses) : Hd := ⟨pcF f, hcF f, ((5, 1), Sl.L R) :: ((5, 2), Fl.L) :: lhsOf Try.prog ⟨pcF f, hcF f, [], mcF⟩ 5 [(5, 0)], mcF⟩
theorem hF6 : HdOk Try.prog (HF6 F0 Sl.R0) := HdOk.lhCons (HdOk.lhCons (lhs_ok hF0 hF0 5 _) Fl.ok) Sl.ok

end Fo
end Go.Proofs.Ytennlgngdjegoaa
/-
  A pair of sites, the primary is lost: the pair's row and the row of a new site as variables too.
-/
namespace Go.Proofs.Ytennlgngdjegoaa
open Go Go.Sx Go.RowKit Classical

set_option maxRecDepth 100000
set_option maxHeartbeats 4000000

namespace Fo

/-- the row of the pair and the row of a new site's lineage, as variables -/
structure Gs where
  W : Int → Val
  Y : Val → Int → Int → Val
def G0 : Gs := ⟨fun k => (pairS (k + 1) 1).ρ, fun ρ e nu => Val.cat 0 ρ (Val.ofFlat 3 [I e, I (IntKind.i64.wrap (0 + 1)), I nu])⟩

noncomputable def GnpV (g : Gs) : List A1 → Tree (AV × Mem)
  | [.c (.int .i64 k)] => .need (dec (0 ≤ k ∧ k ≤ 8)) (.leaf (.tup [.c (.os 0 8), .c (.bool true)], [some (32, [.row false siSh 2 (g.W k)])]))
  | _ => .fail
theorem nCpV : NcOne Try.prog 16 (GnpV G0) := fun args r m hr => nCp args r m (by
  unfold GnpV at hr; split at hr
  · exact hr
  · simp [Tree.sel] at hr)
noncomputable def GsynV (g : Gs) : List A1 → Option (Bool × AV)
  | [.agg [.int .i64 a, .int .i64 r, .int .i64 e, .int .i64 p, .sl [.int .i64, .int .i64, .int .i64] n ρ, .int .i64 s, .bool l, .bool c], .c (.int .i64 nu)] => some (dec (r = 4 ∧ p = 0 ∧ n = 0 ∧ chk a 4 e 0 ⟨0, ρ⟩ s = 0 ∧ 1 ≤ nu ∧ nu ≤ 1073741824), .tup [.agg [I a, I 2, I e, I nu, .sl spSh 1 (g.Y ρ e nu), I s, .bool l, .bool c], .c (I 0)])
  | _ => none
theorem uSynV : UcOne Try.prog 14 (nG (GsynV G0)) := ucOne_imp' uSyn0 fun args r hr => by
  have h := nG_sel hr
  unfold GsynV at h; split at h
  · obtain ⟨hp, rfl⟩ := Prod.mk.inj (Option.some.inj h)
    unfold nG Gsyn0
    simp only [Tree.sel, hp, cond_true]
    rfl
  · cases h

noncomputable abbrev hcV (f : Fs) (g : Gs) : List (Nat × (List A1 → Tree AV)) := [(24, nG (GstF f)), (25, nG (GapF f)), (13, fun args => nG Grej (args.map un1)), (14, nG (GsynV g))]
noncomputable abbrev mcV (g : Gs) : List (Nat × (List A1 → Mem → Tree (AV × Mem))) := [(16, ncG (GnpV g))]
theorem hV0 : HdOk Try.prog ⟨pcF F0, hcV F0 G0, [], mcV G0⟩ := by
  have h0 := (HdOk.nil (P := Try.prog)).mcCons nCpV.mc
  have h1 := (((h0.ucCons uSynV).ucCons (ucOne_un u26)).ucCons uApF).ucCons uStF
  have h2 := (((h1.tcCons pAnF).tcCons pBeF).tcCons pChF).pcCons pSwd
  exact h2.tcCons (f := 4294967291) (G := fun _ => .fail) (fun _ _ h => by simp [Tree.sel] at h)
noncomputable abbrev HV (f : Fs) (g : Gs) (R : Ses → Los → Int → Prc × Ses) : Hd := ⟨pcF f, hcV f g, ((5, 1), Sl.L R) :: ((5, 2), Fl.L) :: lhsOf Try.prog ⟨pcF f, hcV f g, [], mcV g⟩ 5 [(5, 0)], mcV g⟩
theorem hV : HdOk Try.prog (HV F0 G0 Sl.R0) := HdOk.lhCons (HdOk.lhCons (lhs_ok hV0 hV0 5 _) Fl.ok) Sl.ok

end Fo
end Go.Proofs.Ytennlgngdjegoaa
