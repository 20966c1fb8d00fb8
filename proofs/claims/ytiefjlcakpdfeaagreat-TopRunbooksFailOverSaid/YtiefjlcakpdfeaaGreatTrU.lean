/-
 Part TrU of the proof: FaiB FaiC FaiD FaiE FaiF.
-/
import Derived.Test.YtiefjlcakpdfeaaGreatTrT
namespace Go.Proofs.YtiefjlcakpdfeaaGreat.Ro
open Go Go.Sx Go.RowKit Classical
set_option maxRecDepth 100000
namespace Fo
def bstI (al : Nat → Bool) (gr : Nat → Nat → Bool) : Nat → Int
 | 0 => -1
 | i + 1 => bif al i && (lt (bstI al gr i) 0 || gr i (bstI al gr i).toNat) then (i : Int) else bstI al gr i
theorem bst_rng (al : Nat → Bool) (gr : Nat → Nat → Bool) : ∀ n, -1 ≤ bstI al gr n ∧ bstI al gr n < n
 | 0 => by unfold bstI; omega
 | i + 1 => by
   have := bst_rng al gr i
   unfold bstI
   cases (al i && (lt (bstI al gr i) 0 || gr i (bstI al gr i).toNat))
   ·simp only [cond_false]; omega
   ·simp only [cond_true]; omega
theorem bst_none {al : Nat → Bool} {gr : Nat → Nat → Bool} : ∀ n, bstI al gr n < 0 → ∀ i, i < n → al i = false
 | 0, _, i, hi => by omega
 | k + 1, h, i, hi => by
   unfold bstI at h
   cases hb : (al k && (lt (bstI al gr k) 0 || gr k (bstI al gr k).toNat))
   ·rw [hb] at h
    simp only [cond_false] at h
    rw [(lt_iff _ _).2 h, Bool.true_or, Bool.and_true] at hb
    rcases Nat.lt_succ_iff_lt_or_eq.1 hi with hi | rfl
    ·exact bst_none k h i hi
    ·exact hb
   ·rw [hb] at h
    simp only [cond_true] at h
    omega
theorem bst_some {al : Nat → Bool} {gr : Nat → Nat → Bool} {n i : Nat} (hi : i < n) (ha : al i = true) : 0 ≤ bstI al gr n := by
 rcases Int.lt_or_le (bstI al gr n) 0 with h | h
 ·rw [bst_none n h i hi] at ha; cases ha
 ·exact h
structure Los where
 n : Nat
 ρ : Val
def Los.at (l : Los) (i : Nat) : Bool := ((l.ρ.at i).at 0).B []
def cand (l : Ses) (o : Los) (i : Nat) : Bool := ((l.at i).l && !o.at i) && fol (l.at i).r
def newr (x y : Sit) : Bool := lt 0 (cmp2 (age x) x.p (age y) y.p)
def nwr (l : Ses) (i j : Nat) : Bool := newr (l.at i) (l.at j)
def newI (l : Ses) (o : Los) : Int := bstI (cand l o) (nwr l) l.n
structure VG where
 b : Int
 i : Int
structure CG where
 l : Ses
 j : Ses
 q : Ses
 o : Los
 m : Int
def SG (c : CG) (v : VG) : St := mkS 43 [(0, .one (.c (.sl siSh c.l.n c.l.ρ))), (1, .one (.c (.fn (.func 120) [] [.ptr 0 0, .ptr 1 0]))), (2, .one (.c (.fn (.func 72) [] []))), (3, .one (.c (.fn (.func 71) [] []))), (9, .one (.c (I v.b))), (12, .one (.c (.sl siSh c.j.n c.j.ρ))), (13, .one (.c (I c.m))), (14, .one (.c (I v.i)))] [some (34, [.sl siSh c.q.n c.q.ρ]), some (65, [.sl [.bool] c.o.n c.o.ρ])]
noncomputable def TXG (c : CG) (v : VG) : Tree (XE × VG) :=
 let x := c.j.at v.i.toNat
 let z := c.q.at v.i.toNat
 let y := c.l.at v.b.toNat
 let g := lt v.b 0 == false && ((cand c.q c.o v.i.toNat) == true && true)
 .br (lt v.i c.m) (.need (inRange v.i c.j.n) (.need (inRange v.i c.q.n) (.need (!(z.l == true && true) || inRange v.i c.o.n) (.need (!((z.l && !c.o.at v.i.toNat) == true && true) || inRange v.i c.q.n)
  (.need (!g || dec (fewN x.n)) (.need (!g || inRange v.b c.l.n) (.need (!g || dec (fewN y.n))
   (.br (cand c.q c.o v.i.toNat && (lt v.b 0 || newr x y)) (.leaf (.normal, ⟨v.i, IntKind.i64.wrap (v.i + 1)⟩)) (.leaf (.normal, ⟨v.b, IntKind.i64.wrap (v.i + 1)⟩))))))))))
  (.leaf (.exit 0, v))
theorem tG (c : CG) (v : VG) : ((evCode Tryz.prog HFb (evFn Tryz.prog HFb 10) 119 2 1 (loopBody Tryz.prog 119 0) (SG c v)).bind fun y => gcT [0, 1, 2, 3, 9, 12, 13, 14] 2 y) = (TXG c v).bind fun y => .leaf (y.1, SG c y.2) := by kernel_rfl
def stG (c : CG) (i : Nat) : VG := ⟨bstI (cand c.l c.o) (nwr c.l) i, i⟩
def goodG (c : CG) : Prop := (c.j = c.l ∧ c.q = c.l) ∧ (c.m = toInt64 c.l.n ∧ c.o.n = c.l.n) ∧ fewS c.l
theorem imp_or {g b : Bool} (h : g = true → b = true) : (!g || b) = true := by
 cases g
 ·rfl
 ·rw [h rfl]; rfl
theorem sqG (c : CG) (h : goodG c) : Sq (TXG c) (fun v => (c.l.n - v.i).toNat) (stG c) (stG c) c.l.n (fun _ => false) .ret (.exit 0) where
 out := by simp
 hit := by simp
 meas i hi := by show ((c.l.n : Int) - (i : Int)).toNat = _; omega
 round i hi := by
  obtain ⟨l, j, q, o, m⟩ := c
  obtain ⟨⟨hj, hq⟩, ⟨hm, ho⟩, hn, hs⟩ := h
  have hj : j = l := hj
  have hq : q = l := hq
  subst hj; subst hq
  have hi : i < q.n := hi
  have hsi := hs i hi
  unfold fewN at hn
  have hw : IntKind.i64.wrap ((i : Int) + 1) = ((i + 1 : Nat) : Int) := by rw [w64_id (by omega) (by omega)]; omega
  let c : CG := ⟨q, q, q, o, m⟩
  have hb := bst_rng (cand c.l c.o) (nwr c.l) i
  have hbr : ∀ {qq : Bool}, (lt (stG c i).b 0 == false && qq) = true → inRange (stG c i).b c.l.n = true ∧ fewN (c.l.at (stG c i).b.toNat).n := fun {qq} hq => by
   rw [Bool.and_eq_true] at hq
   have h0 : lt (stG c i).b 0 = false := by simpa using hq.1
   rw [← Bool.not_eq_true, lt_iff] at h0
   have h1 : (stG c i).b = bstI (cand c.l c.o) (nwr c.l) i := rfl
   rw [h1] at h0 ⊢
   obtain ⟨j, hj⟩ : ∃ j : Nat, bstI (cand c.l c.o) (nwr c.l) i = j := ⟨(bstI (cand c.l c.o) (nwr c.l) i).toNat, by omega⟩
   rw [hj] at hb ⊢
   have hjn : j < q.n := by omega
   exact ⟨inR hjn, hs j hjn⟩
  refine ⟨fun _ => ⟨inR hi, inR hi, imp_or fun _ => inR (ho ▸ hi), imp_or fun _ => inR hi, imp_or fun _ => dec_iff.2 hsi, imp_or fun hq => (hbr hq).1, imp_or fun hq => dec_iff.2 (hbr hq).2, fun h1 => ?_, fun h1 => ?_⟩, fun hlt => ?_⟩
  ·show (XE.normal, (⟨(i : Int), IntKind.i64.wrap ((i : Int) + 1)⟩ : VG)) = (.normal, stG c (i + 1))
   have h1 : (cand c.l c.o i && (lt (bstI (cand c.l c.o) (nwr c.l) i) 0 || nwr c.l i (bstI (cand c.l c.o) (nwr c.l) i).toNat)) = true := h1
   unfold stG bstI
   rw [hw, h1]; rfl
  ·show (XE.normal, (⟨bstI (cand c.l c.o) (nwr c.l) i, IntKind.i64.wrap ((i : Int) + 1)⟩ : VG)) = (.normal, stG c (i + 1))
   have h1 : (cand c.l c.o i && (lt (bstI (cand c.l c.o) (nwr c.l) i) 0 || nwr c.l i (bstI (cand c.l c.o) (nwr c.l) i).toNat)) = false := h1
   unfold stG
   rw [hw]
   conv => rhs; unfold bstI
   rw [h1]; rfl
  ·have : lt (i : Int) c.m = false := hlt
   rw [hm, ltF hi] at this; cases this
 stop := by
  refine ⟨fun hlt => ?_, fun _ => rfl⟩
  have : lt (c.l.n : Int) c.m = true := hlt
  rw [h.2.1.1, ltS] at this; cases this
def getG : List (Nat × AV) → Mem → Option (CG × VG)
 | [(0, .one (.c (.sl [.int .i64, .int .i64, .int .i64, .int .i64, .sl [.int .i64, .int .i64, .int .i64], .int .i64, .bool, .bool] n ρ))), (1, .one (.c (.fn (.func 120) [] [.ptr 0 0, .ptr 1 0]))), (2, .one (.c (.fn (.func 72) [] []))), (3, .one (.c (.fn (.func 71) [] []))), (9, .one (.c (.int .i64 b))), (12, .one (.c (.sl [.int .i64, .int .i64, .int .i64, .int .i64, .sl [.int .i64, .int .i64, .int .i64], .int .i64, .bool, .bool] n2 ρ2))), (13, .one (.c (.int .i64 m))), (14, .one (.c (.int .i64 i)))],
   [some (34, [.sl [.int .i64, .int .i64, .int .i64, .int .i64, .sl [.int .i64, .int .i64, .int .i64], .int .i64, .bool, .bool] n3 ρ3]), some (65, [.sl [.bool] k σ])] => some (⟨⟨n, ρ⟩, ⟨n2, ρ2⟩, ⟨n3, ρ3⟩, ⟨k, σ⟩, m⟩, ⟨b, i⟩)
 | _, _ => none
noncomputable def LG : Nat → St → Tree (XE × St) := lqH [0, 1, 2, 3, 9, 12, 13, 14] 2 43 getG fun c v => lq1 (SG c) (goodG c ∧ v = stG c 0) (.exit 0) (stG c c.l.n)
theorem lG (fn : Func) (c b : Code) (hf : Tryz.prog.funcs[119]? = some fn) (hc : fn.body = some c) (hb : nthLoop c 0 = some b) : LoopOk Tryz.prog b LG :=
 lq1_ok hFb 10 119 0 hf hc hb [0, 1, 2, 3, 9, 12, 13, 14] 2 43 SG TXG tG getG (fun l m c v h => by unfold getG at h; split at h <;> simp at h; obtain ⟨rfl, rfl⟩ := h; rfl)
  goodG (fun c v => (c.l.n - v.i).toNat) stG (fun c => c.l.n) (.exit 0) sqG (fun c => stG c c.l.n) (fun _ _ => StWk.refl)
noncomputable abbrev HG0 : Hd := ⟨HFb.pc, HFb.hc, [((119, 0), LG)], HFb.mc⟩
theorem hG0 : HdOk Tryz.prog HG0 := HdOk.lhCons hFb lG
noncomputable def Gnew : List A1 → Option (Bool × AV)
 | [.c (.sl [.int .i64, .int .i64, .int .i64, .int .i64, .sl [.int .i64, .int .i64, .int .i64], .int .i64, .bool, .bool] n ρ), .c (.sl [.bool] k σ)] => some (dec (k = n ∧ fewS ⟨n, ρ⟩), .one (.c (I (newI ⟨n, ρ⟩ ⟨k, σ⟩))))
 | _ => none
theorem pNew : TcOne Tryz.prog 73 (nG Gnew) := tcOne_of_tree hG0 10 73 fun args r h => by
 unfold Gnew at h; split at h
 ·rename_i n ρ k σ
  obtain ⟨hp, rfl⟩ := Prod.mk.inj (Option.some.inj h)
  have hp := dec_iff.1 hp
  refine ⟨rfl, .need (dec (goodG ⟨⟨n, ρ⟩, ⟨n, ρ⟩, ⟨n, ρ⟩, ⟨k, σ⟩, toInt64 n⟩ ∧ (⟨-1, 0⟩ : VG) = stG ⟨⟨n, ρ⟩, ⟨n, ρ⟩, ⟨n, ρ⟩, ⟨k, σ⟩, toInt64 n⟩ 0)) (.leaf (.one (.c (I (newI ⟨n, ρ⟩ ⟨k, σ⟩))))), by kernel_rfl, ?_, rfl⟩
  exact dec_iff.2 ⟨⟨⟨rfl, rfl⟩, ⟨rfl, hp.1⟩, hp.2⟩, rfl⟩
 ·cases h
noncomputable abbrev HEn : Hd := ⟨HFb.pc, HFb.hc, [], HFb.mc⟩
theorem hEn : HdOk Tryz.prog HEn := hFb
noncomputable abbrev HNw : Hd := ⟨(73, nG Gnew) :: HEn.pc, HEn.hc, [], HEn.mc⟩
theorem hNw : HdOk Tryz.prog HNw := hEn.tcCons pNew
def rgtE (l : Ses) (o : Los) : Int := bif ckE l != 0 then ckE l else bif toInt64 o.n != toInt64 l.n then 6 else 0
theorem rgt_n {l : Ses} {o : Los} (h : (rgtE l o != 0) = false) : ckE l = 0 ∧ o.n = l.n := by
 have h : rgtE l o = 0 := by simpa [bne] using h
 unfold rgtE at h
 cases h1 : ckE l != 0
 ·rw [h1] at h
  cases h2 : toInt64 o.n != toInt64 l.n
  ·have h1 : ckE l = 0 := by simpa [bne] using h1
   have h2 : (o.n : Int) = (l.n : Int) := by simpa [bne, toInt64] using h2
   exact ⟨h1, by omega⟩
  ·rw [h2] at h; simp at h
 ·rw [h1] at h
  simp only [cond_true] at h
  rw [h] at h1; simp at h1
noncomputable def Grgt : List A1 → Option (Bool × AV)
 | [.c (.sl [.int .i64, .int .i64, .int .i64, .int .i64, .sl [.int .i64, .int .i64, .int .i64], .int .i64, .bool, .bool] n ρ), .c (.sl [.bool] k σ)] => some (dec (fewS ⟨n, ρ⟩), .one (.c (I (rgtE ⟨n, ρ⟩ ⟨k, σ⟩))))
 | _ => none
theorem pRgt : TcOne Tryz.prog 64 (nG Grgt) := tcOne_of_tree hNw 10 64 fun args r h => by
 unfold Grgt at h; split at h
 ·rename_i n ρ k σ
  obtain ⟨hp, rfl⟩ := Prod.mk.inj (Option.some.inj h)
  refine ⟨rfl, .need (dec (fewS ⟨n, ρ⟩)) (.br (ckE ⟨n, ρ⟩ != 0) (.leaf (.one (.c (I (ckE ⟨n, ρ⟩))))) (.br (toInt64 k != toInt64 n) (.leaf (.one (.c (I 6)))) (.leaf (.one (.c (I 0)))))), by kernel_rfl, all_of_sel ?_⟩
  simp only [Tree.sel, hp, cond_true]
  unfold rgtE
  cases ckE ⟨n, ρ⟩ != 0
  ·cases toInt64 k != toInt64 n <;> rfl
  ·rfl
 ·cases h
noncomputable abbrev HCh : Hd := ⟨(64, nG Grgt) :: HNw.pc, HNw.hc, [], HNw.mc⟩
theorem hCh : HdOk Tryz.prog HCh := hNw.tcCons pRgt
def Gep : List A1 → Option AV
 | [.agg [.int .i64 _, .int .i64 _, .int .i64 e, .int .i64 _, .sl [.int .i64, .int .i64, .int .i64] _ _, .int .i64 _, .bool _, .bool _]] => some (.one (.c (I e)))
 | _ => none
theorem pEp : PcOne Tryz.prog 65 Gep := pcOne_of_ev hFa 10 65 fun args r h => by
 unfold Gep at h; split at h
 ·obtain rfl := Option.some.inj h
  exact ⟨rfl, by kernel_rfl, by kernel_rfl⟩
 ·cases h
noncomputable abbrev HE0 : Hd := ⟨(65, oG Gep) :: HCh.pc, HCh.hc, [], HCh.mc⟩
theorem hE0 : HdOk Tryz.prog HE0 := hCh.pcCons pEp
def prm (l : Ses) (i : Nat) : Bool := (l.at i).r == 1
def epo (l : Ses) (i j : Nat) : Bool := lt 0 (cmpI (l.at i).e (l.at j).e)
def allT (_ : Nat) : Bool := true
theorem bst_in {al : Nat → Bool} {gr : Nat → Nat → Bool} {i n : Nat} {q : Bool} (hi : i ≤ n) (h : (lt (bstI al gr i) 0 == false && q) = true) : inRange (bstI al gr i) n = true := by
 rw [Bool.and_eq_true] at h
 have h0 : lt (bstI al gr i) 0 = false := by simpa using h.1
 rw [← Bool.not_eq_true, lt_iff] at h0
 have hb := bst_rng al gr i
 obtain ⟨j, hj⟩ : ∃ j : Nat, bstI al gr i = j := ⟨(bstI al gr i).toNat, by omega⟩
 rw [hj] at hb ⊢
 exact inR (by omega)
def lvp (l : Ses) (o : Los) (i : Nat) : Bool := prm l i && (l.at i).l && !o.at i
def zP : List CV := [I 0, I 0, I 0, I 0, I 0, I 0, .bool false, .bool false]
namespace La
structure C where
 l : Ses
 j : Ses
 q : Ses
 m : Int
def S (c : C) (v : VG) : St := mkS 43 [(0, .one (.c (.sl siSh c.l.n c.l.ρ))), (1, .one (.c (.fn (.func 66) [] [.ptr 0 0]))), (2, .one (.c (.fn (.func 65) [] []))), (3, .one (.c (.fn (.func 68) [] []))), (9, .one (.c (I v.b))), (12, .one (.c (.sl siSh c.j.n c.j.ρ))), (13, .one (.c (I c.m))), (14, .one (.c (I v.i)))] [some (34, [.sl siSh c.q.n c.q.ρ]), some (67, zP)]
def TX (c : C) (v : VG) : Tree (XE × VG) :=
 let x := c.j.at v.i.toNat
 let y := c.l.at v.b.toNat
 let g := lt v.b 0 == false && ((prm c.q v.i.toNat) == true && true)
 .br (lt v.i c.m) (.need (inRange v.i c.j.n) (.need (inRange v.i c.q.n) (.need (!g || inRange v.b c.l.n)
   (.br (prm c.q v.i.toNat && (lt v.b 0 || lt 0 (cmpI x.e y.e))) (.leaf (.normal, ⟨v.i, IntKind.i64.wrap (v.i + 1)⟩)) (.leaf (.normal, ⟨v.b, IntKind.i64.wrap (v.i + 1)⟩))))))
   (.leaf (.exit 0, v))
theorem t (c : C) (v : VG) : ((evCode Tryz.prog HE0 (evFn Tryz.prog HE0 10) 67 2 1 (loopBody Tryz.prog 67 0) (S c v)).bind fun y => gcT [0, 1, 2, 3, 9, 12, 13, 14] 2 y) = (TX c v).bind fun y => .leaf (y.1, S c y.2) := by kernel_rfl
def st (c : C) (i : Nat) : VG := ⟨bstI (prm c.l) (epo c.l) i, i⟩
def good (c : C) : Prop := (c.j = c.l ∧ c.q = c.l) ∧ c.m = toInt64 c.l.n ∧ fewN c.l.n
theorem sq (c : C) (h : good c) : Sq (TX c) (fun v => (c.l.n - v.i).toNat) (st c) (st c) c.l.n (fun _ => false) .ret (.exit 0) where
 out := by simp
 hit := by simp
 meas i hi := by show ((c.l.n : Int) - (i : Int)).toNat = _; omega
 round i hi := by
  obtain ⟨l, j, q, m⟩ := c
  obtain ⟨⟨hj, hq⟩, hm, hn⟩ := h
  have hj : j = l := hj
  have hq : q = l := hq
  subst hj; subst hq
  have hi : i < q.n := hi
  unfold fewN at hn
  have hw : IntKind.i64.wrap ((i : Int) + 1) = ((i + 1 : Nat) : Int) := by rw [w64_id (by omega) (by omega)]; omega
  have step : ∀ b : Bool, (prm q i && (lt (bstI (prm q) (epo q) i) 0 || epo q i (bstI (prm q) (epo q) i).toNat)) = b → st ⟨q, q, q, m⟩ (i + 1) = ⟨bif b then (i : Int) else bstI (prm q) (epo q) i, ((i + 1 : Nat) : Int)⟩ := fun b hb => by
   unfold st
   conv => lhs; unfold bstI
   rw [show (prm (C.mk q q q m).l i && (lt (bstI (prm (C.mk q q q m).l) (epo (C.mk q q q m).l) i) 0 || epo (C.mk q q q m).l i (bstI (prm (C.mk q q q m).l) (epo (C.mk q q q m).l) i).toNat)) = b from hb]
  refine ⟨fun _ => ⟨inR hi, inR hi, imp_or fun hq => bst_in (by omega) hq, fun h1 => ?_, fun h1 => ?_⟩, fun hlt => ?_⟩
  ·show (XE.normal, (⟨(i : Int), IntKind.i64.wrap ((i : Int) + 1)⟩ : VG)) = (.normal, st ⟨q, q, q, m⟩ (i + 1))
   rw [hw, step true (by exact h1)]; rfl
  ·show (XE.normal, (⟨bstI (prm q) (epo q) i, IntKind.i64.wrap ((i : Int) + 1)⟩ : VG)) = (.normal, st ⟨q, q, q, m⟩ (i + 1))
   rw [hw, step false (by exact h1)]; rfl
  ·have hm : m = toInt64 q.n := hm
   have : lt (i : Int) m = false := hlt
   rw [hm, ltF hi] at this; cases this
 stop := by
  obtain ⟨l, j, q, m⟩ := c
  have hm : m = toInt64 l.n := h.2.1
  refine ⟨fun hlt => ?_, fun _ => rfl⟩
  have : lt (l.n : Int) m = true := hlt
  rw [hm, ltS] at this; cases this
def get : List (Nat × AV) → Mem → Option (C × VG)
 | [(0, .one (.c (.sl [.int .i64, .int .i64, .int .i64, .int .i64, .sl [.int .i64, .int .i64, .int .i64], .int .i64, .bool, .bool] n ρ))), (1, .one (.c (.fn (.func 66) [] [.ptr 0 0]))), (2, .one (.c (.fn (.func 65) [] []))), (3, .one (.c (.fn (.func 68) [] []))), (9, .one (.c (.int .i64 b))), (12, .one (.c (.sl [.int .i64, .int .i64, .int .i64, .int .i64, .sl [.int .i64, .int .i64, .int .i64], .int .i64, .bool, .bool] n2 ρ2))), (13, .one (.c (.int .i64 m))), (14, .one (.c (.int .i64 i)))],
   [some (34, [.sl [.int .i64, .int .i64, .int .i64, .int .i64, .sl [.int .i64, .int .i64, .int .i64], .int .i64, .bool, .bool] n3 ρ3]), some (67, [.int .i64 0, .int .i64 0, .int .i64 0, .int .i64 0, .int .i64 0, .int .i64 0, .bool false, .bool false])] => some (⟨⟨n, ρ⟩, ⟨n2, ρ2⟩, ⟨n3, ρ3⟩, m⟩, ⟨b, i⟩)
 | _, _ => none
noncomputable def L : Nat → St → Tree (XE × St) := lqH [0, 1, 2, 3, 9, 12, 13, 14] 2 43 get fun c v => lq1 (S c) (good c ∧ v = st c 0) (.exit 0) (st c c.l.n)
theorem ok (fn : Func) (c b : Code) (hf : Tryz.prog.funcs[67]? = some fn) (hc : fn.body = some c) (hb : nthLoop c 0 = some b) : LoopOk Tryz.prog b L :=
 lq1_ok hE0 10 67 0 hf hc hb [0, 1, 2, 3, 9, 12, 13, 14] 2 43 S TX t get (fun l m c v h => by unfold get at h; split at h <;> simp at h; obtain ⟨rfl, rfl⟩ := h; rfl)
  good (fun c v => (c.l.n - v.i).toNat) st (fun c => c.l.n) (.exit 0) sq (fun c => st c c.l.n) (fun _ _ => StWk.refl)
end La
namespace Ld
structure C where
 l : Ses
 j : Ses
 m : Int
def S (c : C) (v : VG) : St := mkS 43 [(0, .one (.c (.sl siSh c.l.n c.l.ρ))), (1, .one (.c (.fn (.func 69) [] []))), (2, .one (.c (.fn (.func 65) [] []))), (3, .one (.c (.fn (.func 68) [] []))), (9, .one (.c (I v.b))), (12, .one (.c (.sl siSh c.j.n c.j.ρ))), (13, .one (.c (I c.m))), (14, .one (.c (I v.i)))] []
def TX (c : C) (v : VG) : Tree (XE × VG) :=
 let x := c.j.at v.i.toNat
 let y := c.l.at v.b.toNat
 .br (lt v.i c.m) (.need (inRange v.i c.j.n) (.need (!(lt v.b 0 == false && (true && true)) || inRange v.b c.l.n)
   (.br (lt v.b 0 || lt 0 (cmpI x.e y.e)) (.leaf (.normal, ⟨v.i, IntKind.i64.wrap (v.i + 1)⟩)) (.leaf (.normal, ⟨v.b, IntKind.i64.wrap (v.i + 1)⟩)))))
   (.leaf (.exit 0, v))
theorem t (c : C) (v : VG) : ((evCode Tryz.prog HE0 (evFn Tryz.prog HE0 10) 67 0 1 (loopBody Tryz.prog 67 0) (S c v)).bind fun y => gcT [0, 1, 2, 3, 9, 12, 13, 14] 0 y) = (TX c v).bind fun y => .leaf (y.1, S c y.2) := by kernel_rfl
def st (c : C) (i : Nat) : VG := ⟨bstI (allT) (epo c.l) i, i⟩
def good (c : C) : Prop := c.j = c.l ∧ c.m = toInt64 c.l.n ∧ fewN c.l.n
theorem sq (c : C) (h : good c) : Sq (TX c) (fun v => (c.l.n - v.i).toNat) (st c) (st c) c.l.n (fun _ => false) .ret (.exit 0) where
 out := by simp
 hit := by simp
 meas i hi := by show ((c.l.n : Int) - (i : Int)).toNat = _; omega
 round i hi := by
  obtain ⟨q, j, m⟩ := c
  obtain ⟨hj, hm, hn⟩ := h
  have hj : j = q := hj
  subst hj
  have hi : i < j.n := hi
  unfold fewN at hn
  have hw : IntKind.i64.wrap ((i : Int) + 1) = ((i + 1 : Nat) : Int) := by rw [w64_id (by omega) (by omega)]; omega
  have step : ∀ b : Bool, (allT i && (lt (bstI (allT) (epo j) i) 0 || epo j i (bstI (allT) (epo j) i).toNat)) = b → st ⟨j, j, m⟩ (i + 1) = ⟨bif b then (i : Int) else bstI (allT) (epo j) i, ((i + 1 : Nat) : Int)⟩ := fun b hb => by
   unfold st
   conv => lhs; unfold bstI
   rw [show (allT i && (lt (bstI (allT) (epo (C.mk j j m).l) i) 0 || epo (C.mk j j m).l i (bstI (allT) (epo (C.mk j j m).l) i).toNat)) = b from hb]
  refine ⟨fun _ => ⟨inR hi, imp_or fun hq => bst_in (by omega) hq, fun h1 => ?_, fun h1 => ?_⟩, fun hlt => ?_⟩
  ·show (XE.normal, (⟨(i : Int), IntKind.i64.wrap ((i : Int) + 1)⟩ : VG)) = (.normal, st ⟨j, j, m⟩ (i + 1))
   rw [hw, step true (by exact h1)]; rfl
  ·show (XE.normal, (⟨bstI (allT) (epo j) i, IntKind.i64.wrap ((i : Int) + 1)⟩ : VG)) = (.normal, st ⟨j, j, m⟩ (i + 1))
   rw [hw, step false (by exact h1)]; rfl
  ·have hm : m = toInt64 j.n := hm
   have : lt (i : Int) m = false := hlt
   rw [hm, ltF hi] at this; cases this
 stop := by
  obtain ⟨q, j, m⟩ := c
  have hm : m = toInt64 q.n := h.2.1
  refine ⟨fun hlt => ?_, fun _ => rfl⟩
  have : lt (q.n : Int) m = true := hlt
  rw [hm, ltS] at this; cases this
def get : List (Nat × AV) → Mem → Option (C × VG)
 | [(0, .one (.c (.sl [.int .i64, .int .i64, .int .i64, .int .i64, .sl [.int .i64, .int .i64, .int .i64], .int .i64, .bool, .bool] n ρ))), (1, .one (.c (.fn (.func 69) [] []))), (2, .one (.c (.fn (.func 65) [] []))), (3, .one (.c (.fn (.func 68) [] []))), (9, .one (.c (.int .i64 b))), (12, .one (.c (.sl [.int .i64, .int .i64, .int .i64, .int .i64, .sl [.int .i64, .int .i64, .int .i64], .int .i64, .bool, .bool] n2 ρ2))), (13, .one (.c (.int .i64 m))), (14, .one (.c (.int .i64 i)))],
   [] => some (⟨⟨n, ρ⟩, ⟨n2, ρ2⟩, m⟩, ⟨b, i⟩)
 | _, _ => none
noncomputable def L : Nat → St → Tree (XE × St) := lqH [0, 1, 2, 3, 9, 12, 13, 14] 0 43 get fun c v => lq1 (S c) (good c ∧ v = st c 0) (.exit 0) (st c c.l.n)
theorem ok (fn : Func) (c b : Code) (hf : Tryz.prog.funcs[67]? = some fn) (hc : fn.body = some c) (hb : nthLoop c 0 = some b) : LoopOk Tryz.prog b L :=
 lq1_ok hE0 10 67 0 hf hc hb [0, 1, 2, 3, 9, 12, 13, 14] 0 43 S TX t get (fun l m c v h => by unfold get at h; split at h <;> simp at h; obtain ⟨rfl, rfl⟩ := h; rfl)
  good (fun c v => (c.l.n - v.i).toNat) st (fun c => c.l.n) (.exit 0) sq (fun c => st c c.l.n) (fun _ _ => StWk.refl)
end Ld
namespace Lb
structure C where
 l : Ses
 j : Ses
 q : Ses
 o : Los
 to : Int
 fr : Int
 mo : Int
 m : Int
structure V where
 e : Int
 i : Int
def S (c : C) (v : V) : St := mkS 113 [(1, .one (.c (.sl [.bool] c.o.n c.o.ρ))), (2, .one (.c (I c.to))), (3, .one (.c (.ptr 0 0))), (6, .one (.c (.ptr 1 0))), (7, .one (.c (I v.e))), (10, .one (.c (.fn (.func 66) [] [.ptr 0 0]))), (11, .one (.c (I c.fr))), (12, .one (.c (I c.mo))), (45, .one (.c (.sl siSh c.j.n c.j.ρ))), (46, .one (.c (I c.m))), (47, .one (.c (I v.i)))] [some (34, [.sl siSh c.q.n c.q.ρ]), some (67, zP)]
def TX (c : C) (v : V) : Tree (XE × V) :=
 let x := c.j.at v.i.toNat
 .br (lt v.i c.m) (.need (inRange v.i c.j.n) (.need (inRange v.i c.q.n) (.need (!((prm c.q v.i.toNat && x.l) == true && true) || inRange v.i c.o.n)
  (.br (prm c.q v.i.toNat && x.l && !c.o.at v.i.toNat) (.leaf (.ret, ⟨12, v.i⟩)) (.leaf (.normal, ⟨v.e, IntKind.i64.wrap (v.i + 1)⟩)))))) (.leaf (.exit 0, v))
theorem t (c : C) (v : V) : ((evCode Tryz.prog HE0 (evFn Tryz.prog HE0 10) 26 2 1 (loopBody Tryz.prog 26 0) (S c v)).bind fun y => gcT [1, 2, 3, 6, 7, 10, 11, 12, 45, 46, 47] 2 y) = (TX c v).bind fun y => .leaf (y.1, S c y.2) := by kernel_rfl
def good (c : C) : Prop := (c.j = c.l ∧ c.q = c.l) ∧ (c.m = toInt64 c.l.n ∧ c.o.n = c.l.n) ∧ fewN c.l.n
theorem sq (c : C) (h : good c) : Sq (TX c) (fun v => (c.l.n - v.i).toNat) (fun i => ⟨0, i⟩) (fun i => ⟨12, i⟩) c.l.n (lvp c.l c.o) .ret (.exit 0) where
 out := by simp
 hit := by simp
 meas i hi := by show ((c.l.n : Int) - (i : Int)).toNat = _; omega
 round i hi := by
  obtain ⟨l, j, q, o, to, fr, mo, m⟩ := c
  obtain ⟨⟨hj, hq⟩, ⟨hm, ho⟩, hn⟩ := h
  have hj : j = l := hj
  have hq : q = l := hq
  subst hj; subst hq
  have hi : i < q.n := hi
  unfold fewN at hn
  have hw : IntKind.i64.wrap ((i : Int) + 1) = ((i + 1 : Nat) : Int) := by rw [w64_id (by omega) (by omega)]; omega
  refine ⟨fun _ => ⟨inR hi, inR hi, imp_or fun _ => inR (ho ▸ hi), fun h1 => ?_, fun h1 => ?_⟩, fun hlt => ?_⟩
  ·have h1 : lvp q o i = true := h1
   simp only [Tree.All, h1, if_true]
  ·have h1 : lvp q o i = false := h1
   simp only [Tree.All, h1, Bool.false_eq_true, if_false]
   show (XE.normal, (⟨0, IntKind.i64.wrap ((i : Int) + 1)⟩ : V)) = _
   rw [hw]
  ·have hm : m = toInt64 q.n := hm
   have : lt (i : Int) m = false := hlt
   rw [hm, ltF hi] at this; cases this
 stop := by
  refine ⟨fun hlt => ?_, fun _ => rfl⟩
  have : lt (c.l.n : Int) c.m = true := hlt
  rw [h.2.1.1, ltS] at this; cases this
def get : List (Nat × AV) → Mem → Option (C × V)
 | [(1, .one (.c (.sl [.bool] k σ))), (2, .one (.c (.int .i64 to))), (3, .one (.c (.ptr 0 0))), (6, .one (.c (.ptr 1 0))), (7, .one (.c (.int .i64 e))), (10, .one (.c (.fn (.func 66) [] [.ptr 0 0]))), (11, .one (.c (.int .i64 fr))), (12, .one (.c (.int .i64 mo))), (45, .one (.c (.sl [.int .i64, .int .i64, .int .i64, .int .i64, .sl [.int .i64, .int .i64, .int .i64], .int .i64, .bool, .bool] n2 ρ2))), (46, .one (.c (.int .i64 m))), (47, .one (.c (.int .i64 i)))],
   [some (34, [.sl [.int .i64, .int .i64, .int .i64, .int .i64, .sl [.int .i64, .int .i64, .int .i64], .int .i64, .bool, .bool] n3 ρ3]), some (67, [.int .i64 0, .int .i64 0, .int .i64 0, .int .i64 0, .int .i64 0, .int .i64 0, .bool false, .bool false])] => some (⟨⟨n2, ρ2⟩, ⟨n2, ρ2⟩, ⟨n3, ρ3⟩, ⟨k, σ⟩, to, fr, mo, m⟩, ⟨e, i⟩)
 | _, _ => none
noncomputable def L : Nat → St → Tree (XE × St) := lqH [1, 2, 3, 6, 7, 10, 11, 12, 45, 46, 47] 2 113 get fun c v => lqT (S c) (good c ∧ v = ⟨0, ((0 : Nat) : Int)⟩) (anyB (lvp c.l c.o) c.l.n) .ret (.exit 0) ⟨12, (firstB (lvp c.l c.o) c.l.n : Nat)⟩ ⟨0, c.l.n⟩
theorem ok (fn : Func) (c b : Code) (hf : Tryz.prog.funcs[26]? = some fn) (hc : fn.body = some c) (hb : nthLoop c 0 = some b) : LoopOk Tryz.prog b L :=
 lq_ok hE0 10 26 0 hf hc hb [1, 2, 3, 6, 7, 10, 11, 12, 45, 46, 47] 2 113 S TX t get (fun l m c v h => by unfold get at h; split at h <;> simp at h; obtain ⟨rfl, rfl⟩ := h; rfl)
  good (fun c v => (c.l.n - v.i).toNat) (fun _ i => ⟨0, i⟩) (fun _ i => ⟨12, i⟩) (fun c => c.l.n) (fun c => lvp c.l c.o) .ret (.exit 0)
  sq (fun c => ⟨12, (firstB (lvp c.l c.o) c.l.n : Nat)⟩) (fun c => ⟨0, c.l.n⟩) (fun _ _ _ => StWk.refl) (fun _ _ _ => StWk.refl)
end Lb
noncomputable abbrev HMx : Hd := ⟨HE0.pc, HE0.hc, [((67, 0), Ld.L)], HE0.mc⟩
theorem hMx : HdOk Tryz.prog HMx := HdOk.lhCons hE0 Ld.ok
noncomputable def Gmx : List A1 → Option (Bool × AV)
 | [.c (.sl [.int .i64, .int .i64, .int .i64, .int .i64, .sl [.int .i64, .int .i64, .int .i64], .int .i64, .bool, .bool] n ρ), .c (.fn (.func 69) [] []), .c (.fn (.func 65) [] []), .c (.fn (.func 68) [] [])] => some (dec (fewN n), .one (.c (I (bstI allT (epo ⟨n, ρ⟩) n))))
 | _ => none
theorem pMx : TcOne Tryz.prog 67 (nG Gmx) := tcOne_of_tree hMx 10 67 fun args r h => by
 unfold Gmx at h; split at h
 ·rename_i n ρ
  obtain ⟨hp, rfl⟩ := Prod.mk.inj (Option.some.inj h)
  refine ⟨rfl, .need (dec (Ld.good ⟨⟨n, ρ⟩, ⟨n, ρ⟩, toInt64 n⟩ ∧ (⟨-1, 0⟩ : VG) = Ld.st ⟨⟨n, ρ⟩, ⟨n, ρ⟩, toInt64 n⟩ 0)) (.leaf (.one (.c (I (bstI allT (epo ⟨n, ρ⟩) n))))), by kernel_rfl, dec_iff.2 ⟨⟨rfl, rfl, dec_iff.1 hp⟩, rfl⟩, rfl⟩
 ·cases h
noncomputable abbrev HBg : Hd := ⟨(67, nG Gmx) :: HE0.pc, HE0.hc, [((67, 0), La.L), ((26, 0), Lb.L)], HE0.mc⟩
theorem hBg : HdOk Tryz.prog HBg := HdOk.lhCons (HdOk.lhCons (hE0.tcCons pMx) Lb.ok) La.ok
structure Prc where
 k : Int
 f : Int
 t : Int
 s : Int
 e : Int
 c : Int
 d : Bool
 x : Bool
def Prc.cv (p : Prc) : A1 := .agg [I p.k, I p.f, I p.t, I p.s, I p.e, I p.c, .bool p.d, .bool p.x]
def p0 : Prc := ⟨0, 0, 0, 0, 0, 0, false, false⟩
def prE (p : Prc) (e : Int) : AV := .tup [p.cv, .c (I e)]
def froI (l : Ses) : Int := bstI (prm l) (epo l) l.n
def mosI (l : Ses) : Int := bstI allT (epo l) l.n
def mosE (l : Ses) : Int := (l.at (mosI l).toNat).e
def out (l : Ses) (t : Int) : Bool := lt t 0 || le (toInt64 l.n) t
def begE (l : Ses) (o : Los) (t : Int) : Int :=
 bif rgtE l o != 0 then rgtE l o else bif out l t then 7 else bif anyB (lvp l o) l.n then 12 else bif o.at t.toNat || !(l.at t.toNat).l then 17 else bif !fol (l.at t.toNat).r then 18
 else bif newr (l.at (newI l o).toNat) (l.at t.toNat) then 15 else bif le 1073741824 (mosE l) then 11 else 0
def begP (l : Ses) (o : Los) (t : Int) : Prc := bif begE l o t == 0 then ⟨2, froI l, t, 0, IntKind.i64.wrap (mosE l + 1), (l.at t.toNat).p, false, false⟩ else p0
theorem out_no {l : Ses} {t : Int} (h : out l t = false) : inRange t l.n = true ∧ t.toNat < l.n := by
 unfold out at h
 rw [Bool.or_eq_false_iff] at h
 obtain ⟨h1, h2⟩ := h
 rw [← Bool.not_eq_true, lt_iff] at h1
 rw [← Bool.not_eq_true, le_iff] at h2
 have h2 : ¬ (l.n : Int) ≤ t := h2
 obtain ⟨j, rfl⟩ : ∃ j : Nat, t = j := ⟨t.toNat, by omega⟩
 have : j < l.n := by omega
 exact ⟨inR this, by simpa using this⟩
theorem mos_some {l : Ses} {n : Nat} (h : 0 < n) : 0 ≤ bstI allT (epo l) n := bst_some (i := 0) h rfl
theorem mos_in {l : Ses} (h : 0 < l.n) : inRange (mosI l) l.n = true := by
 have h1 := mos_some (l := l) h
 have h2 := bst_rng allT (epo l) l.n
 unfold mosI
 obtain ⟨j, hj⟩ : ∃ j : Nat, bstI allT (epo l) l.n = j := ⟨(bstI allT (epo l) l.n).toNat, by omega⟩
 rw [hj] at h2 ⊢
 exact inR (by omega)
noncomputable def Gbeg : List A1 → Option (Bool × AV)
 | [.c (.sl [.int .i64, .int .i64, .int .i64, .int .i64, .sl [.int .i64, .int .i64, .int .i64], .int .i64, .bool, .bool] n ρ), .c (.sl [.bool] k σ), .c (.int .i64 t)] => some (dec (fewS ⟨n, ρ⟩), prE (begP ⟨n, ρ⟩ ⟨k, σ⟩ t) (begE ⟨n, ρ⟩ ⟨k, σ⟩ t))
 | _ => none
theorem new_in {l : Ses} {o : Los} {t : Nat} (ht : t < l.n) (h1 : o.at t = false) (h2 : (l.at t).l = true) (h3 : fol (l.at t).r = true) : inRange (newI l o) l.n = true ∧ (newI l o).toNat < l.n ∧ lt (newI l o) 0 = false := by
 have hc : cand l o t = true := by unfold cand; rw [h1, h2, h3]; rfl
 have h4 := bst_some (gr := nwr l) ht hc
 have h5 := bst_rng (cand l o) (nwr l) l.n
 unfold newI
 obtain ⟨j, hj⟩ : ∃ j : Nat, bstI (cand l o) (nwr l) l.n = j := ⟨(bstI (cand l o) (nwr l) l.n).toNat, by omega⟩
 rw [hj] at h4 h5 ⊢
 have hlt : j < l.n := by omega
 refine ⟨inR hlt, by simpa using hlt, ?_⟩
 rw [← Bool.not_eq_true, lt_iff]; omega
theorem pBeg : TcOne Tryz.prog 26 (nG Gbeg) := tcOne_of_tree hBg 10 26 fun args r h => by
 unfold Gbeg at h; split at h
 ·rename_i n ρ k σ t
  obtain ⟨hp, rfl⟩ := Prod.mk.inj (Option.some.inj h)
  let l : Ses := ⟨n, ρ⟩
  let o : Los := ⟨k, σ⟩
  let er (k : Int) : Tree AV := .leaf (prE p0 k)
  let x := l.at (newI l o).toNat
  let rest : Tree AV := .br (!fol (l.at t.toNat).r) (er 18) (.need (dec (k = n ∧ fewS l)) (.need (inRange (newI l o) n) (.need (dec (fewN x.n)) (.need (dec (fewN (l.at t.toNat).n)) (.br (newr x (l.at t.toNat)) (er 15) (.br (le 1073741824 (mosE l)) (er 11) (.need (inRange t n) (.leaf (prE ⟨2, froI l, t, 0, IntKind.i64.wrap (mosE l + 1), (l.at t.toNat).p, false, false⟩ 0)))))))))
  refine ⟨rfl, .need (dec (fewS l)) (.br (rgtE l o != 0) (er (rgtE l o)) (.br (out l t) (er 7) (.need (dec (La.good ⟨l, l, l, toInt64 n⟩ ∧ (⟨-1, 0⟩ : VG) = La.st ⟨l, l, l, toInt64 n⟩ 0)) (.need (dec (fewN n)) (.need (inRange (mosI l) n)
   (.need (dec (Lb.good ⟨l, l, l, o, t, froI l, mosE l, toInt64 n⟩ ∧ (⟨0, 0⟩ : Lb.V) = ⟨0, ((0 : Nat) : Int)⟩)) (.br (anyB (lvp l o) n) (er 12) (.need (inRange t n) (.need (inRange t k) (.br (o.at t.toNat) (.br (o.at t.toNat) (er 17) rest) (.br (!(l.at t.toNat).l) (er 17) rest))))))))))), by kernel_rfl, all_of_sel ?_⟩
  have hp : dec (fewS l) = true := hp
  have hf := dec_iff.1 hp
  show _ = some (prE (begP l o t) (begE l o t))
  unfold begP begE
  cases h1 : rgtE l o != 0
  ·obtain ⟨hck, hon⟩ := rgt_n h1
   have hon : k = n := hon
   subst hon
   cases h2 : out l t
   ·obtain ⟨htr, htn⟩ := out_no h2
    have htr : inRange t k = true := htr
    have d1 : dec (La.good ⟨l, l, l, toInt64 k⟩ ∧ (⟨-1, 0⟩ : VG) = La.st ⟨l, l, l, toInt64 k⟩ 0) = true := dec_iff.2 ⟨⟨⟨rfl, rfl⟩, rfl, hf.1⟩, rfl⟩
    have d2 : dec (fewN k) = true := dec_iff.2 hf.1
    have d3 : inRange (mosI l) k = true := mos_in (l := l) (Nat.lt_of_le_of_lt (Nat.zero_le _) htn)
    have d4 : dec (Lb.good ⟨l, l, l, o, t, froI l, mosE l, toInt64 k⟩ ∧ (⟨0, 0⟩ : Lb.V) = ⟨0, ((0 : Nat) : Int)⟩) = true := dec_iff.2 ⟨⟨⟨rfl, rfl⟩, ⟨rfl, rfl⟩, hf.1⟩, rfl⟩
    have d5 : dec (True ∧ fewS l) = true := dec_iff.2 ⟨trivial, hf⟩
    have d6 : dec (fewN (l.at t.toNat).n) = true := dec_iff.2 (hf.2 _ htn)
    simp only [Tree.sel, hp, d1, d2, d3, d4, htr, cond_true, cond_false]
    show (bif anyB (lvp l o) k then _ else _) = _
    cases h3 : anyB (lvp l o) k
    ·simp only [cond_false]
     have hrest : o.at t.toNat = false → (l.at t.toNat).l = true → rest.sel = some (prE (bif (bif !fol (l.at t.toNat).r then (18 : Int) else bif newr (l.at (newI l o).toNat) (l.at t.toNat) then 15 else bif le 1073741824 (mosE l) then 11 else 0) == 0 then ⟨2, froI l, t, 0, IntKind.i64.wrap (mosE l + 1), (l.at t.toNat).p, false, false⟩ else p0)
       (bif !fol (l.at t.toNat).r then 18 else bif newr (l.at (newI l o).toNat) (l.at t.toNat) then 15 else bif le 1073741824 (mosE l) then 11 else 0)) := fun ho hl => by
      cases h4 : fol (l.at t.toNat).r
      ·simp only [rest, Tree.sel, h4, Bool.not_false, cond_true]; rfl
      ·obtain ⟨g1, g2, _⟩ := new_in htn ho hl h4
       have g1 : inRange (newI l o) k = true := g1
       have d7 : dec (fewN x.n) = true := dec_iff.2 (hf.2 _ g2)
       simp only [rest, Tree.sel, h4, d5, d6, d7, g1, htr, Bool.not_true, cond_true, cond_false]
       cases h5 : newr x (l.at t.toNat)
       ·cases le 1073741824 (mosE l) <;> rfl
       ·rfl
     cases h4 : o.at t.toNat
     ·cases h5 : (l.at t.toNat).l
      ·rfl
      ·simp only [Bool.not_true, Bool.or_self, cond_false]
       exact hrest h4 h5
     ·rfl
    ·rfl
   ·simp only [Tree.sel, hp, cond_true, cond_false]; rfl
  ·simp only [Tree.sel, hp, cond_true]
   have : (rgtE l o == 0) = false := by simpa [bne] using h1
   rw [this]; rfl
 ·cases h
noncomputable abbrev HBe : Hd := ⟨(26, nG Gbeg) :: HCh.pc, HCh.hc, [], HCh.mc⟩
theorem hBe : HdOk Tryz.prog HBe := hCh.tcCons pBeg
def rngA (p : Prc) : Bool := lt p.f (-1) || le 4 p.f || lt p.t 0 || le 4 p.t || p.f == p.t
def rngB (p : Prc) : Bool := lt p.s 0 || lt 4 p.s || lt p.e 1 || lt 1073741824 p.e || lt p.c 0 || lt 1073741824 p.c
def badS (p : Prc) : Bool := !(p.d == (p.s == 4)) || (p.x && p.s != 0)
def chkF (p : Prc) : Int := bif p.k != 2 then 1 else bif rngA p then 2 else bif rngB p then 2 else bif badS p then 12 else 0
def GchkF : List A1 → Option AV
 | [.agg [.int .i64 k, .int .i64 f, .int .i64 t, .int .i64 s, .int .i64 e, .int .i64 c, .bool d, .bool x]] => some (.one (.c (I (chkF ⟨k, f, t, s, e, c, d, x⟩))))
 | _ => none
def swT {α : Type} : List Bool → Tree α → Tree α → Tree α
 | [], _, m => m
 | [c], h, m => .br c h m
 | c :: c' :: r, h, m => .br c (.br c h m) (swT (c' :: r) h m)
theorem swT_sel {α : Type} {h m : Tree α} : ∀ l : List Bool, (swT l h m).sel = bif l.any id then h.sel else m.sel
 | [] => rfl
 | [c] => by simp [swT, Tree.sel]
 | c :: c' :: r => by
   have ih := swT_sel (h := h) (m := m) (c' :: r)
   simp only [swT, Tree.sel, ih, List.any_cons, id]
   cases c <;> rfl
theorem pChk : PcOne Tryz.prog 74 GchkF := pcOne_of_tree hBe 10 74 fun args r h => by
 unfold GchkF at h; split at h
 ·rename_i k f t s e c d x
  obtain rfl := Option.some.inj h
  let E (k : Int) : Tree AV := .leaf (.one (.c (I k)))
  let p : Prc := ⟨k, f, t, s, e, c, d, x⟩
  refine ⟨rfl, .br (k != 2) (E 1) (swT [lt f (-1), le 4 f, lt t 0, le 4 t, f == t] (E 2) (swT [lt s 0, lt 4 s, lt e 1, lt 1073741824 e, lt c 0, lt 1073741824 c] (E 2) (swT [!(d == (s == 4)), x && s != 0] (E 12) (E 0)))), by kernel_rfl, all_of_sel ?_⟩
  have e1 : [lt f (-1), le 4 f, lt t 0, le 4 t, f == t].any id = rngA p := by simp [rngA, p, Bool.or_assoc]
  have e2 : [lt s 0, lt 4 s, lt e 1, lt 1073741824 e, lt c 0, lt 1073741824 c].any id = rngB p := by simp [rngB, p, Bool.or_assoc]
  have e3 : [!(d == (s == 4)), x && s != 0].any id = badS p := by simp [badS, p]
  show (bif k != 2 then (E 1).sel else (swT [lt f (-1), le 4 f, lt t 0, le 4 t, f == t] (E 2) _).sel) = some (.one (.c (I (chkF p))))
  rw [swT_sel, swT_sel, swT_sel, e1, e2, e3]
  unfold chkF
  cases k != 2
  ·cases rngA p
   ·cases rngB p
    ·cases badS p <;> rfl
    ·rfl
   ·rfl
  ·rfl
 ·cases h
def Gcln : List A1 → Option (Bool × AV)
 | [.c (.sl [.int .i64, .int .i64, .int .i64] n ρ)] => some (Nat.ble ((0 + n) * 24) 140737488355328, .one (.c (.sl spSh n ρ)))
 | _ => none
theorem uCln : UcOne Tryz.prog 75 (nG Gcln) := ucOne_of_tree hBe 10 75 fun args r h => by
 unfold Gcln at h; split at h
 ·rename_i n ρ
  obtain ⟨hp, rfl⟩ := Prod.mk.inj (Option.some.inj h)
  refine ⟨.need (Nat.ble ((0 + n) * 24) 140737488355328) (.leaf (.one (.c (.sl spSh n ρ)))), by kernel_rfl, hp, leA.refl⟩
 ·cases h
end Fo
end Go.Proofs.YtiefjlcakpdfeaaGreat.Ro
