/-
 Part TrV of the proof: FaiG FaiH EngNc RcA.
-/
import Derived.Test.YtiefjlcakpdfeaaGreatTrU
import Derived.Test.YtiefjlcakpdfeaaGreatTrT
namespace Go.Proofs.YtiefjlcakpdfeaaGreat.Ro
open Go Go.Sx Go.RowKit Classical
set_option maxRecDepth 100000
set_option maxHeartbeats 4000000
namespace Fo
theorem at_upd (ρ : Val) (i f : Nat) (x : CV) (k g : Nat) : ((ρ.upd i f x).at k).at g = if k = i ∧ g = f then .ofC x else (ρ.at k).at g := by
 have e : ((ρ.upd i f x).at k).at g = (pickV (Nat.beq k i) (.byFst fun g => pickV (Nat.beq g f) (.ofC x) ((ρ.at k).at g)) (ρ.at k)).at g := rfl
 rw [e]
 by_cases hk : k = i
 ·subst hk
  rw [Nat.beq_refl]
  have e2 : (pickV true (.byFst fun g => pickV (Nat.beq g f) (.ofC x) ((ρ.at k).at g)) (ρ.at k)).at g = pickV (Nat.beq g f) (.ofC x) ((ρ.at k).at g) := rfl
  rw [e2]
  by_cases hg : g = f
  ·subst hg
   rw [Nat.beq_refl, if_pos ⟨rfl, rfl⟩]; rfl
  ·rw [if_neg (fun h => hg h.2)]
   have : Nat.beq g f = false := by
    cases h : Nat.beq g f
    ·rfl
    ·exact (hg (Nat.eq_of_beq_eq_true h)).elim
   rw [this]; rfl
 ·rw [if_neg (fun h => hk h.1)]
  have : Nat.beq k i = false := by
   cases h : Nat.beq k i
   ·rfl
   ·exact (hk (Nat.eq_of_beq_eq_true h)).elim
  rw [this]; rfl
theorem at_upds (ρ : Val) (i : Nat) : ∀ (cs : List CV) (f k g : Nat), ((ρ.upds i f cs).at k).at g = if k = i ∧ f ≤ g ∧ g < f + cs.length then (match nth cs (g - f) with | some x => .ofC x | none => Val.zero) else (ρ.at k).at g
 | [], f, k, g => by
   rw [if_neg (by simp only [List.length_nil]; omega)]; rfl
 | x :: r, f, k, g => by
   show (((ρ.upd i f x).upds i (f + 1) r).at k).at g = _
   rw [at_upds (ρ.upd i f x) i r (f + 1) k g, at_upd]
   by_cases hk : k = i
   ·by_cases hg : g = f
    ·subst hg
     rw [if_neg (by omega), if_pos ⟨hk, rfl⟩, if_pos ⟨hk, Nat.le_refl _, by simp only [List.length_cons]; omega⟩]
     simp [nth]
    ·by_cases hin : f + 1 ≤ g ∧ g < f + 1 + r.length
     ·rw [if_pos ⟨hk, hin.1, hin.2⟩, if_pos ⟨hk, by omega, by simp only [List.length_cons]; omega⟩]
      obtain ⟨m, rfl⟩ : ∃ m, g = f + 1 + m := ⟨g - (f + 1), by omega⟩
      rw [show f + 1 + m - (f + 1) = m by omega, show f + 1 + m - f = m + 1 by omega]
      simp [nth]
     ·rw [if_neg (fun h => hin ⟨h.2.1, h.2.2⟩), if_neg (fun h => hg h.2), if_neg (fun h => hin ⟨by omega, by have := h.2.2; simp only [List.length_cons] at this; omega⟩)]
   ·rw [if_neg (fun h => hk h.1), if_neg (fun h => hk h.1), if_neg (fun h => hk h.1)]
def sameV (es : List Sh) (n : Nat) (ρ σ : Val) : Prop := ∀ i f s, i < n → nth es f = some s → cellOf s ((ρ.at i).at f) = cellOf s ((σ.at i).at f)
theorem ofC_sl {es : List Sh} (v : Val) : Val.ofC (.sl es (v.L []) v) = v := by
 obtain ⟨B, N, S, L⟩ := v
 show (⟨B, N, S, _⟩ : Val) = ⟨B, N, S, L⟩
 congr 1
 funext p
 cases p <;> rfl
def cs (x : Sit) : List CV := [I x.a, I x.r, I x.e, I x.p, .sl spSh x.n x.ρ, I x.s, .bool x.l, .bool x.c]
def okT (k : Int) (x : Sit) : Sit := ⟨bif k == 0 then x.a else 0, bif k == 0 then x.r else 0, bif k == 0 then x.e else 0, bif k == 0 then x.p else 0, bif k == 0 then x.n else 0, x.ρ, bif k == 0 then x.s else 0, k == 0 && x.l, k == 0 && x.c⟩
theorem okT_0 (x : Sit) : okT 0 x = x := rfl
theorem cs_read (ρ : Val) (i f : Nat) (s : Sh) (hf : nth siSh f = some s) : cellOf s (match nth (cs (Ses.at ⟨0, ρ⟩ i)) f with | some x => Val.ofC x | none => Val.zero) = cellOf s ((ρ.at i).at f) := by
 match f, hf with
 | 0, hf => simp [nth] at hf; subst hf; rfl
 | 1, hf => simp [nth] at hf; subst hf; rfl
 | 2, hf => simp [nth] at hf; subst hf; rfl
 | 3, hf => simp [nth] at hf; subst hf; rfl
 | 4, hf =>
   simp [nth] at hf; subst hf
   show cellOf (.sl spSh) (Val.ofC (.sl spSh (((ρ.at i).at 4).L []) ((ρ.at i).at 4))) = _
   rw [ofC_sl]
 | 5, hf => simp [nth] at hf; subst hf; rfl
 | 6, hf => simp [nth] at hf; subst hf; rfl
 | 7, hf => simp [nth] at hf; subst hf; rfl
 | f + 8, hf => simp [nth] at hf
def copV (l : Ses) : Nat → Val
 | 0 => Val.zero
 | i + 1 => Val.cat i (copV l i) (Val.ofFlat 8 (cs (l.at i)))
theorem cat_at (n : Nat) (a b : Val) (i : Nat) : (Val.cat n a b).at i = if i < n then a.at i else b.at (i - n) := by
 by_cases h : i < n
 ·rw [if_pos h, cat_lt a b h]
 ·rw [if_neg h, cat_ge a b h]
theorem copV_same (l : Ses) : ∀ n, sameV siSh n (copV l n) l.ρ
 | 0 => fun _ _ _ hi _ => by omega
 | n + 1 => fun i f s hi hf => by
   unfold copV
   rw [cat_at]
   split
   ·rename_i h; exact copV_same l n i f s h hf
   ·rename_i h
    have e : i = n := by omega
    subst e
    rw [Nat.sub_self]
    have := cs_read l.ρ i f s hf
    rw [← this]
    show cellOf s (match nth (cs (l.at i)) (0 * 8 + f) with | some x => Val.ofC x | none => Val.zero) = _
    rw [Nat.zero_mul, Nat.zero_add]; rfl
def smallS (l : Ses) : Prop := l.n ≤ 1000 ∧ ∀ i, i < l.n → small (l.at i).n
theorem small_fewS {l : Ses} (h : smallS l) : fewS l := ⟨by unfold fewN; have := h.1; omega, fun i hi => dec_iff.1 (small_few (h.2 i hi))⟩
def Prc.cs (p : Prc) : List CV := [I p.k, I p.f, I p.t, I p.s, I p.e, I p.c, .bool p.d, .bool p.x]
def stM (p q : Prc) (ok : Bool) (v : Int) (n : Nat) (ρ : Val) : Mem := [some (67, p.cs), some (67, zP), some (144, [I q.k, I q.f, I q.t, I q.s, I q.e, I q.c, .bool q.d, .bool q.x, .os 3 8, .bool ok, I v]), some (56, [.row false siSh n ρ])]
noncomputable abbrev HS0 : Hd := ⟨(74, oG GchkF) :: HBe.pc, (75, nG Gcln) :: H15.hc, [], HBe.mc⟩
theorem hS0 : HdOk Tryz.prog HS0 := by
 have h : HdOk Tryz.prog ⟨HBe.pc, H15.hc, [], HBe.mc⟩ := ⟨⟨hBe.pc.pc, h15.pc.hc, hBe.pc.mc⟩, hBe.lh⟩
 exact (h.ucCons uCln).pcCons pChk
namespace Ga
structure C where
 l : Ses
 m : Int
 p : Prc
 q : Prc
 ok : Bool
 v : Int
structure V where
 σ : Val
 k : Nat
 i : Int
def S (c : C) (v : V) : St := mkS 117 [(4, .one (.c (.ptr 0 0))), (8, .one (.c (.ptr 1 0))), (9, .one (.c .nils)), (10, .one (.c (I 0))), (14, .one (.c (.ptr 2 0))), (55, .one (.c (.sl siSh c.l.n c.l.ρ))), (56, .one (.c (I c.m))), (57, .one (.c (I v.i)))] (stM c.p c.q c.ok c.v v.k v.σ)
def TX (c : C) (v : V) : Tree (XE × V) :=
 .br (lt v.i c.m) (.need (inRange v.i c.l.n) (.need (Nat.ble ((0 + (c.l.at v.i.toNat).n) * 24) 140737488355328) (.need (Nat.ble (((v.k + 1).mul 71).add v.k) 140737488355327)
  (.leaf (.normal, ⟨Val.cat v.k v.σ (Val.ofFlat 8 (cs (c.l.at v.i.toNat))), v.k + 1, IntKind.i64.wrap (v.i + 1)⟩))))) (.leaf (.exit 0, v))
theorem t (c : C) (v : V) : ((evCode Tryz.prog HS0 (evFn Tryz.prog HS0 10) 27 3 1 (loopBody Tryz.prog 27 0) (S c v)).bind fun y => gcT [4, 8, 9, 10, 14, 55, 56, 57] 3 y) = (TX c v).bind fun y => .leaf (y.1, S c y.2) := by kernel_rfl
def st (c : C) (i : Nat) : V := ⟨copV c.l i, i, i⟩
def good (c : C) : Prop := c.m = toInt64 c.l.n ∧ smallS c.l
theorem sq (c : C) (h : good c) : Sq (TX c) (fun v => (c.l.n - v.i).toNat) (st c) (st c) c.l.n (fun _ => false) .ret (.exit 0) where
 out := by simp
 hit := by simp
 meas i hi := by show ((c.l.n : Int) - (i : Int)).toNat = _; omega
 round i hi := by
  obtain ⟨hm, hn, hs⟩ := h
  have hsi := hs i hi
  have hw : IntKind.i64.wrap ((i : Int) + 1) = ((i + 1 : Nat) : Int) := by rw [w64_id (by omega) (by omega)]; omega
  refine ⟨fun _ => ⟨inR hi, small_ble hsi, Nat.ble_eq_true_of_le ?_, ?_⟩, fun hlt => ?_⟩
  ·show (i + 1) * 71 + i ≤ _
   omega
  ·show (XE.normal, (⟨Val.cat i (copV c.l i) (Val.ofFlat 8 (cs (c.l.at i))), i + 1, IntKind.i64.wrap ((i : Int) + 1)⟩ : V)) = (.normal, st c (i + 1))
   rw [hw]; rfl
  ·have : lt (i : Int) c.m = false := hlt
   rw [hm, ltF hi] at this; cases this
 stop := by
  refine ⟨fun hlt => ?_, fun _ => rfl⟩
  have : lt (c.l.n : Int) c.m = true := hlt
  rw [h.1, ltS] at this; cases this
noncomputable def get : List (Nat × AV) → Mem → Option (C × V)
 | [(4, .one (.c (.ptr 0 0))), (8, .one (.c (.ptr 1 0))), (9, .one (.c .nils)), (10, .one (.c (.int .i64 0))), (14, .one (.c (.ptr 2 0))), (55, .one (.c (.sl [.int .i64, .int .i64, .int .i64, .int .i64, .sl [.int .i64, .int .i64, .int .i64], .int .i64, .bool, .bool] n ρ))), (56, .one (.c (.int .i64 m))), (57, .one (.c (.int .i64 i)))],
   [some (67, [.int .i64 k1, .int .i64 f1, .int .i64 t1, .int .i64 s1, .int .i64 e1, .int .i64 c1, .bool d1, .bool x1]), some (67, [.int .i64 0, .int .i64 0, .int .i64 0, .int .i64 0, .int .i64 0, .int .i64 0, .bool false, .bool false]),
    some (144, [.int .i64 k, .int .i64 f, .int .i64 t, .int .i64 s, .int .i64 e, .int .i64 c, .bool d, .bool x, .os 3 8, .bool ok, .int .i64 v]), some (56, [.row false [.int .i64, .int .i64, .int .i64, .int .i64, .sl [.int .i64, .int .i64, .int .i64], .int .i64, .bool, .bool] k2 σ])] => some (⟨⟨n, ρ⟩, m, ⟨k1, f1, t1, s1, e1, c1, d1, x1⟩, ⟨k, f, t, s, e, c, d, x⟩, ok, v⟩, ⟨σ, k2, i⟩)
 | _, _ => none
noncomputable def L : Nat → St → Tree (XE × St) := ownH [.ownM 2 8 56 siSh] (lqH [4, 8, 9, 10, 14, 55, 56, 57] 3 117 get fun c v => lq1 (S c) (good c ∧ v = st c 0) (.exit 0) ⟨c.l.ρ, c.l.n, c.l.n⟩)
theorem ok (fn : Func) (c b : Code) (hf : Tryz.prog.funcs[27]? = some fn) (hc : fn.body = some c) (hb : nthLoop c 0 = some b) : LoopOk Tryz.prog b L :=
 ownH_ok _ (lq1_ok hS0 10 27 0 hf hc hb [4, 8, 9, 10, 14, 55, 56, 57] 3 117 S TX t get (fun l m c v h => by unfold get at h; split at h <;> simp at h; obtain ⟨rfl, rfl⟩ := h; rfl)
  good (fun c v => (c.l.n - v.i).toNat) st (fun c => c.l.n) (.exit 0) sq (fun c => ⟨c.l.ρ, c.l.n, c.l.n⟩)
  (fun c _ => StWk.row (tmps := mkL [(4, .one (.c (.ptr 0 0))), (8, .one (.c (.ptr 1 0))), (9, .one (.c .nils)), (10, .one (.c (I 0))), (14, .one (.c (.ptr 2 0))), (55, .one (.c (.sl siSh c.l.n c.l.ρ))), (56, .one (.c (I c.m))), (57, .one (.c (I c.l.n)))] 117 0) (mem := stM c.p c.q c.ok c.v c.l.n (copV c.l c.l.n)) (b := 3) rfl (copV_same c.l c.l.n)))
end Ga
def jnE (x : Sit) (e a : Int) : Int := bif x.r == 2 then (bif isoE x != 0 then isoE x else rejE (iso x) e a) else rejE x e a
def jnS (x : Sit) (e a : Int) : Sit := bif x.r == 2 then rej (iso x) e a else rej x e a
def skp (t : Int) (l : Ses) (i : Nat) : Bool := (i : Int) == t || !fol (l.at i).r
def jbad (t e a : Int) (l : Ses) (i : Nat) : Bool := !skp t l i && jnE (l.at i) e a != 0
def jnV (t e a : Int) (l : Ses) : Nat → Val
 | 0 => l.ρ
 | i + 1 => bif skp t l i then jnV t e a l i else (jnV t e a l i).upds i 0 (cs (jnS (l.at i) e a))
theorem jnV_ge (t e a : Int) (l : Ses) : ∀ n i f, n ≤ i → ((jnV t e a l n).at i).at f = (l.ρ.at i).at f
 | 0, _, _, _ => rfl
 | n + 1, i, f, h => by
   unfold jnV
   cases skp t l n
   ·show (((jnV t e a l n).upds n 0 _).at i).at f = _
    rw [at_upds, if_neg (by omega)]
    exact jnV_ge t e a l n i f (by omega)
   ·exact jnV_ge t e a l n i f (by omega)
theorem jnV_at (t e a : Int) (l : Ses) {n i : Nat} (h : n ≤ i) : (⟨l.n, jnV t e a l n⟩ : Ses).at i = l.at i := by
 have g := fun f => jnV_ge t e a l n i f h
 show (⟨(((jnV t e a l n).at i).at 0).N [], (((jnV t e a l n).at i).at 1).N [], (((jnV t e a l n).at i).at 2).N [], (((jnV t e a l n).at i).at 3).N [], (((jnV t e a l n).at i).at 4).L [], ((jnV t e a l n).at i).at 4, (((jnV t e a l n).at i).at 5).N [], (((jnV t e a l n).at i).at 6).B [], (((jnV t e a l n).at i).at 7).B []⟩ : Sit) = _
 rw [g 0, g 1, g 2, g 3, g 4, g 5, g 6, g 7]; rfl
theorem jnV_to {e a : Int} {l : Ses} {t : Nat} : ∀ n, (((jnV t e a l n).at t).at 0).N [] = (l.at t).a
 | 0 => rfl
 | n + 1 => by
   unfold jnV
   cases hs : skp t l n
   ·show ((((jnV t e a l n).upds n 0 _).at t).at 0).N [] = _
    have hn : t ≠ n := fun h => by
     subst h
     unfold skp at hs
     simp at hs
    rw [at_upds, if_neg (by omega)]
    exact jnV_to n
   ·exact jnV_to n
namespace Gb
structure C where
 l : Ses
 m : Int
 p : Prc
 q : Prc
 ok : Bool
 v : Int
structure V where
 σ : Val
 e : Int
 i : Int
def S (c : C) (v : V) : St := mkS 75 [(0, .one (.c (.ptr 2 0))), (2, .one (.c (I v.e))), (10, .one (.c (.os 3 8))), (11, .one (.c (I c.m))), (12, .one (.c (I v.i)))] (stM c.p c.q c.ok c.v c.l.n v.σ)
noncomputable def TJ (c : C) (v : V) (x : Sit) : Tree (XE × V) :=
 let l : Ses := ⟨c.l.n, v.σ⟩
 let k := rejE x c.q.e (l.at c.q.t.toNat).a
 let σ := v.σ.upds v.i.toNat 0 (cs (okT k (rej x c.q.e (l.at c.q.t.toNat).a)))
 .need (inRange c.q.t c.l.n) (.need (dec (small x.n)) (.br (k == 0) (.need (inRange v.i c.l.n) (.br (k != 0) (.leaf (.ret, ⟨σ, k, v.i⟩)) (.leaf (.normal, ⟨σ, v.e, IntKind.i64.wrap (v.i + 1)⟩))))
  (.br (k != 0) (.leaf (.ret, ⟨v.σ, k, v.i⟩)) (.leaf (.normal, ⟨v.σ, v.e, IntKind.i64.wrap (v.i + 1)⟩)))))
noncomputable def TX (c : C) (v : V) : Tree (XE × V) :=
 let l : Ses := ⟨c.l.n, v.σ⟩
 let x := l.at v.i.toNat
 .br (lt v.i c.m) (.need (inRange v.i c.l.n) (.br (v.i == c.q.t || !fol x.r) (.leaf (.normal, ⟨v.σ, v.e, IntKind.i64.wrap (v.i + 1)⟩))
  (.br (x.r == 2) (.need (dec (small x.n)) (.br (isoE x != 0) (.leaf (.ret, ⟨v.σ, isoE x, v.i⟩)) (TJ c v (okT (isoE x) (iso x))))) (TJ c v x)))) (.leaf (.exit 0, v))
theorem t (c : C) (v : V) : ((evCode Tryz.prog HS0 (evFn Tryz.prog HS0 10) 79 4 1 (loopBody Tryz.prog 79 0) (S c v)).bind fun y => gcT [0, 2, 10, 11, 12] 4 y) = (TX c v).bind fun y => .leaf (y.1, S c y.2) := by kernel_rfl
def num (c : C) : Int := (c.l.at c.q.t.toNat).a
def row (c : C) (i : Nat) : Val := jnV c.q.t c.q.e (num c) c.l i
def st (c : C) (i : Nat) : V := ⟨row c i, 0, i⟩
def sb (c : C) (i : Nat) : V := ⟨row c i, jnE (c.l.at i) c.q.e (num c), i⟩
def good (c : C) : Prop := (c.m = toInt64 c.l.n ∧ inRange c.q.t c.l.n = true) ∧ smallS c.l
theorem sq (c : C) (h : good c) : Sq (TX c) (fun v => (c.l.n - v.i).toNat) (st c) (sb c) c.l.n (jbad c.q.t c.q.e (num c) c.l) .ret (.exit 0) where
 out := by simp
 hit := by simp
 meas i hi := by show ((c.l.n : Int) - (i : Int)).toNat = _; omega
 round i hi := by
  obtain ⟨⟨hm, ht⟩, hn, hs⟩ := h
  have hsi := hs i hi
  have hw : IntKind.i64.wrap ((i : Int) + 1) = ((i + 1 : Nat) : Int) := by rw [w64_id (by omega) (by omega)]; omega
  have hx : (⟨c.l.n, row c i⟩ : Ses).at i = c.l.at i := jnV_at _ _ _ _ (Nat.le_refl _)
  have ht0 : c.q.t = ((c.q.t.toNat : Nat) : Int) := by
   unfold inRange at ht
   rw [Bool.and_eq_true, le_iff] at ht
   omega
  have hnum : ((⟨c.l.n, row c i⟩ : Ses).at c.q.t.toNat).a = num c := by
   show (((jnV c.q.t c.q.e (num c) c.l i).at c.q.t.toNat).at 0).N [] = (c.l.at c.q.t.toNat).a
   have := jnV_to (e := c.q.e) (a := num c) (l := c.l) (t := c.q.t.toNat) i
   rw [← ht0] at this
   exact this
  have hskp : ((i : Int) == c.q.t || !fol (c.l.at i).r) = skp c.q.t c.l i := rfl
  have key : ∀ y : Sit, small y.n → skp c.q.t c.l i = false → jnE (c.l.at i) c.q.e (num c) = rejE y c.q.e (num c) → jnS (c.l.at i) c.q.e (num c) = rej y c.q.e (num c) →
    (TJ c (st c i) y).All fun z => if jbad c.q.t c.q.e (num c) c.l i then z = (.ret, sb c i) else z = (.normal, st c (i + 1)) := fun y hy hsk h1 h2 => by
   have hj : jbad c.q.t c.q.e (num c) c.l i = (rejE y c.q.e (num c) != 0) := by unfold jbad; rw [hsk, h1]; rfl
   have e1 : rejE y c.q.e ((⟨c.l.n, (st c i).σ⟩ : Ses).at c.q.t.toNat).a = rejE y c.q.e (num c) := by rw [show (⟨c.l.n, (st c i).σ⟩ : Ses).at c.q.t.toNat = (⟨c.l.n, row c i⟩ : Ses).at c.q.t.toNat from rfl, hnum]
   have e2 : rej y c.q.e ((⟨c.l.n, (st c i).σ⟩ : Ses).at c.q.t.toNat).a = rej y c.q.e (num c) := by rw [show (⟨c.l.n, (st c i).σ⟩ : Ses).at c.q.t.toNat = (⟨c.l.n, row c i⟩ : Ses).at c.q.t.toNat from rfl, hnum]
   unfold TJ
   simp only [e1, e2]
   refine ⟨ht, dec_iff.2 hy, fun h0 => ⟨inR hi, fun h3 => ?_, fun _ => ?_⟩, fun h0 => ⟨fun h3 => ?_, fun h3 => ?_⟩⟩
   ·simp [bne, h0] at h3
   ·have h0' : rejE y c.q.e (num c) = 0 := by simpa using h0
    have hb : jbad c.q.t c.q.e (num c) c.l i = false := by rw [hj, h0']; rfl
    simp only [Tree.All, hb, Bool.false_eq_true, if_false]
    rw [h0', okT_0]
    show (XE.normal, (⟨(row c i).upds i 0 (cs (rej y c.q.e (num c))), 0, IntKind.i64.wrap ((i : Int) + 1)⟩ : V)) = (.normal, ⟨jnV c.q.t c.q.e (num c) c.l (i + 1), 0, ((i + 1 : Nat) : Int)⟩)
    rw [hw]
    unfold jnV
    rw [hsk, h2]; rfl
   ·have hb : jbad c.q.t c.q.e (num c) c.l i = true := by rw [hj]; exact h3
    simp only [Tree.All, hb, if_true]
    show (XE.ret, (⟨row c i, rejE y c.q.e (num c), (i : Int)⟩ : V)) = (.ret, ⟨row c i, jnE (c.l.at i) c.q.e (num c), i⟩)
    rw [h1]
   ·simp [bne, h0] at h3
  refine ⟨fun _ => ⟨inR hi, fun h1 => ?_, fun h1 => ⟨fun h2 => ⟨?_, fun h3 => ?_, fun h3 => ?_⟩, fun h2 => ?_⟩⟩, fun hlt => ?_⟩
  ·have h1 : ((i : Int) == c.q.t || !fol ((⟨c.l.n, row c i⟩ : Ses).at i).r) = true := h1
   rw [hx, hskp] at h1
   have hb : jbad c.q.t c.q.e (num c) c.l i = false := by unfold jbad; rw [h1]; rfl
   simp only [Tree.All, hb, Bool.false_eq_true, if_false]
   show (XE.normal, (⟨row c i, 0, IntKind.i64.wrap ((i : Int) + 1)⟩ : V)) = (.normal, ⟨jnV c.q.t c.q.e (num c) c.l (i + 1), 0, ((i + 1 : Nat) : Int)⟩)
   rw [hw]
   unfold jnV
   rw [h1]; rfl
  ·show dec (small ((⟨c.l.n, row c i⟩ : Ses).at i).n) = true
   rw [hx]; exact dec_iff.2 hsi
  ·have h1 : ((i : Int) == c.q.t || !fol ((⟨c.l.n, row c i⟩ : Ses).at i).r) = false := h1
   rw [hx, hskp] at h1
   have h2 : (((⟨c.l.n, row c i⟩ : Ses).at i).r == 2) = true := h2
   rw [hx] at h2
   have h3 : (isoE ((⟨c.l.n, row c i⟩ : Ses).at i) != 0) = true := h3
   rw [hx] at h3
   have hE : jnE (c.l.at i) c.q.e (num c) = isoE (c.l.at i) := by unfold jnE; rw [h2, h3]; rfl
   have hb : jbad c.q.t c.q.e (num c) c.l i = true := by unfold jbad; rw [h1, hE, h3]; rfl
   simp only [Tree.All, hb, if_true]
   show (XE.ret, (⟨row c i, isoE ((⟨c.l.n, row c i⟩ : Ses).at i), (i : Int)⟩ : V)) = (.ret, ⟨row c i, jnE (c.l.at i) c.q.e (num c), i⟩)
   rw [hx, hE]
  ·have h1 : ((i : Int) == c.q.t || !fol ((⟨c.l.n, row c i⟩ : Ses).at i).r) = false := h1
   rw [hx, hskp] at h1
   have h2 : (((⟨c.l.n, row c i⟩ : Ses).at i).r == 2) = true := h2
   rw [hx] at h2
   have h3 : (isoE ((⟨c.l.n, row c i⟩ : Ses).at i) != 0) = false := h3
   rw [hx] at h3
   have h0 : isoE (c.l.at i) = 0 := by simpa [bne] using h3
   have := key (iso (c.l.at i)) hsi h1 (by unfold jnE; rw [h2, h3]; rfl) (by unfold jnS; rw [h2]; rfl)
   show (TJ c (st c i) (okT (isoE ((⟨c.l.n, row c i⟩ : Ses).at i)) (iso ((⟨c.l.n, row c i⟩ : Ses).at i)))).All _
   rw [hx, h0, okT_0]
   exact this
  ·have h1 : ((i : Int) == c.q.t || !fol ((⟨c.l.n, row c i⟩ : Ses).at i).r) = false := h1
   rw [hx, hskp] at h1
   have h2 : (((⟨c.l.n, row c i⟩ : Ses).at i).r == 2) = false := h2
   rw [hx] at h2
   have := key (c.l.at i) hsi h1 (by unfold jnE; rw [h2]; rfl) (by unfold jnS; rw [h2]; rfl)
   show (TJ c (st c i) ((⟨c.l.n, row c i⟩ : Ses).at i)).All _
   rw [hx]
   exact this
  ·have : lt (i : Int) c.m = false := hlt
   rw [hm, ltF hi] at this; cases this
 stop := by
  refine ⟨fun hlt => ?_, fun _ => rfl⟩
  have : lt (c.l.n : Int) c.m = true := hlt
  rw [h.1.1, ltS] at this; cases this
noncomputable def get : List (Nat × AV) → Mem → Option (C × V)
 | [(0, .one (.c (.ptr 2 0))), (2, .one (.c (.int .i64 r))), (10, .one (.c (.os 3 8))), (11, .one (.c (.int .i64 m))), (12, .one (.c (.int .i64 i)))],
   [some (67, [.int .i64 k1, .int .i64 f1, .int .i64 t1, .int .i64 s1, .int .i64 e1, .int .i64 c1, .bool d1, .bool x1]), some (67, [.int .i64 0, .int .i64 0, .int .i64 0, .int .i64 0, .int .i64 0, .int .i64 0, .bool false, .bool false]),
    some (144, [.int .i64 k, .int .i64 f, .int .i64 t, .int .i64 s, .int .i64 e, .int .i64 c, .bool d, .bool x, .os 3 8, .bool ok, .int .i64 v]), some (56, [.row false [.int .i64, .int .i64, .int .i64, .int .i64, .sl [.int .i64, .int .i64, .int .i64], .int .i64, .bool, .bool] n σ])] => some (⟨⟨n, σ⟩, m, ⟨k1, f1, t1, s1, e1, c1, d1, x1⟩, ⟨k, f, t, s, e, c, d, x⟩, ok, v⟩, ⟨σ, r, i⟩)
 | _, _ => none
noncomputable def L : Nat → St → Tree (XE × St) := lqH [0, 2, 10, 11, 12] 4 75 get fun c v => lqT (S c) (good c ∧ v = st c 0) (anyB (jbad c.q.t c.q.e (num c) c.l) c.l.n) .ret (.exit 0) (sb c (firstB (jbad c.q.t c.q.e (num c) c.l) c.l.n)) (st c c.l.n)
theorem ok (fn : Func) (c b : Code) (hf : Tryz.prog.funcs[79]? = some fn) (hc : fn.body = some c) (hb : nthLoop c 0 = some b) : LoopOk Tryz.prog b L :=
 lq_ok hS0 10 79 0 hf hc hb [0, 2, 10, 11, 12] 4 75 S TX t get (fun l m c v h => by unfold get at h; split at h <;> simp at h; obtain ⟨rfl, rfl⟩ := h; rfl)
  good (fun c v => (c.l.n - v.i).toNat) st sb (fun c => c.l.n) (fun c => jbad c.q.t c.q.e (num c) c.l) .ret (.exit 0) sq (fun c => sb c (firstB (jbad c.q.t c.q.e (num c) c.l) c.l.n)) (fun c => st c c.l.n) (fun _ _ _ => StWk.refl) (fun _ _ _ => StWk.refl)
end Gb
def olde (v : Int) (l : Ses) (i : Nat) : Bool := le v (l.at i).e
namespace Gc
structure C where
 l : Ses
 m : Int
 p : Prc
 q : Prc
 ok : Bool
 v : Int
structure V where
 r : Int
 i : Int
def S (c : C) (v : V) : St := mkS 19 [(0, .one (.c (.os 3 8))), (1, .one (.c (.fn (.func 121) [] [.ptr 4 0]))), (4, .one (.c (I v.r))), (7, .one (.c (I c.m))), (8, .one (.c (I v.i)))] (stM c.p c.q c.ok c.v c.l.n c.l.ρ ++ [some (142, [.ptr 2 0])])
def TX (c : C) (v : V) : Tree (XE × V) := .br (lt v.i c.m) (.need (inRange v.i c.l.n) (.br (olde c.v c.l v.i.toNat) (.leaf (.ret, ⟨v.i, v.i⟩)) (.leaf (.normal, ⟨v.r, IntKind.i64.wrap (v.i + 1)⟩)))) (.leaf (.exit 0, v))
theorem t (c : C) (v : V) : ((evCode Tryz.prog HS0 (evFn Tryz.prog HS0 10) 105 5 1 (loopBody Tryz.prog 105 0) (S c v)).bind fun y => gcT [0, 1, 4, 7, 8] 5 y) = (TX c v).bind fun y => .leaf (y.1, S c y.2) := by kernel_rfl
def good (c : C) : Prop := c.m = toInt64 c.l.n ∧ c.l.n ≤ 1000
theorem sq (c : C) (h : good c) : Sq (TX c) (fun v => (c.l.n - v.i).toNat) (fun i => ⟨0, i⟩) (fun i => ⟨i, i⟩) c.l.n (olde c.v c.l) .ret (.exit 0) where
 out := by simp
 hit := by simp
 meas i hi := by show ((c.l.n : Int) - (i : Int)).toNat = _; omega
 round i hi := by
  obtain ⟨hm, hn⟩ := h
  have hw : IntKind.i64.wrap ((i : Int) + 1) = ((i + 1 : Nat) : Int) := by rw [w64_id (by omega) (by omega)]; omega
  refine ⟨fun _ => ⟨inR hi, fun h1 => ?_, fun h1 => ?_⟩, fun hlt => ?_⟩
  ·have h1 : olde c.v c.l i = true := h1
   simp only [Tree.All, h1, if_true]
  ·have h1 : olde c.v c.l i = false := h1
   simp only [Tree.All, h1, Bool.false_eq_true, if_false]
   show (XE.normal, (⟨0, IntKind.i64.wrap ((i : Int) + 1)⟩ : V)) = _
   rw [hw]
  ·have : lt (i : Int) c.m = false := hlt
   rw [hm, ltF hi] at this; cases this
 stop := by
  refine ⟨fun hlt => ?_, fun _ => rfl⟩
  have : lt (c.l.n : Int) c.m = true := hlt
  rw [h.1, ltS] at this; cases this
noncomputable def get : List (Nat × AV) → Mem → Option (C × V)
 | [(0, .one (.c (.os 3 8))), (1, .one (.c (.fn (.func 121) [] [.ptr 4 0]))), (4, .one (.c (.int .i64 r))), (7, .one (.c (.int .i64 m))), (8, .one (.c (.int .i64 i)))],
   [some (67, [.int .i64 k1, .int .i64 f1, .int .i64 t1, .int .i64 s1, .int .i64 e1, .int .i64 c1, .bool d1, .bool x1]), some (67, [.int .i64 0, .int .i64 0, .int .i64 0, .int .i64 0, .int .i64 0, .int .i64 0, .bool false, .bool false]),
    some (144, [.int .i64 k, .int .i64 f, .int .i64 t, .int .i64 s, .int .i64 e, .int .i64 c, .bool d, .bool x, .os 3 8, .bool ok, .int .i64 v]), some (56, [.row false [.int .i64, .int .i64, .int .i64, .int .i64, .sl [.int .i64, .int .i64, .int .i64], .int .i64, .bool, .bool] n σ]), some (142, [.ptr 2 0])] => some (⟨⟨n, σ⟩, m, ⟨k1, f1, t1, s1, e1, c1, d1, x1⟩, ⟨k, f, t, s, e, c, d, x⟩, ok, v⟩, ⟨r, i⟩)
 | _, _ => none
noncomputable def L : Nat → St → Tree (XE × St) := lqH [0, 1, 4, 7, 8] 5 19 get fun c v => lqT (S c) (good c ∧ v = ⟨0, ((0 : Nat) : Int)⟩) (anyB (olde c.v c.l) c.l.n) .ret (.exit 0) ⟨(firstB (olde c.v c.l) c.l.n : Nat), (firstB (olde c.v c.l) c.l.n : Nat)⟩ ⟨0, c.l.n⟩
theorem ok (fn : Func) (c b : Code) (hf : Tryz.prog.funcs[105]? = some fn) (hc : fn.body = some c) (hb : nthLoop c 0 = some b) : LoopOk Tryz.prog b L :=
 lq_ok hS0 10 105 0 hf hc hb [0, 1, 4, 7, 8] 5 19 S TX t get (fun l m c v h => by unfold get at h; split at h <;> simp at h; obtain ⟨rfl, rfl⟩ := h; rfl)
  good (fun c v => (c.l.n - v.i).toNat) (fun _ i => ⟨0, i⟩) (fun _ i => ⟨i, i⟩) (fun c => c.l.n) (fun c => olde c.v c.l) .ret (.exit 0) sq (fun c => ⟨(firstB (olde c.v c.l) c.l.n : Nat), (firstB (olde c.v c.l) c.l.n : Nat)⟩) (fun c => ⟨0, c.l.n⟩) (fun _ _ _ => StWk.refl) (fun _ _ _ => StWk.refl)
end Gc
noncomputable abbrev HSt : Hd := ⟨HS0.pc, HS0.hc, [((27, 0), Ga.L), ((79, 0), Gb.L), ((105, 0), Gc.L)], HS0.mc⟩
theorem hSt : HdOk Tryz.prog HSt := HdOk.lhCons (HdOk.lhCons (HdOk.lhCons hS0 Gc.ok) Gb.ok) Ga.ok
end Fo
end Go.Proofs.YtiefjlcakpdfeaaGreat.Ro
namespace Go.Proofs.YtiefjlcakpdfeaaGreat.Ro
open Go Go.Sx Go.RowKit Classical
set_option maxRecDepth 100000
namespace Fo
def setS (l : Ses) (i : Nat) (x : Sit) : Ses := ⟨l.n, l.ρ.upds i 0 (cs x)⟩
def numT (p : Prc) (l : Ses) : Int := (l.at p.t.toNat).a
def jb (p : Prc) (l : Ses) (i : Nat) : Bool := jbad p.t p.e (numT p l) l i
def askE (l : Ses) (ok : Bool) (v : Int) : Int := bif !ok then 0 else bif lt v 1 || lt 1073741824 v then 2 else bif anyB (olde v l) l.n then 13 else 0
def nofP (p : Prc) (l : Ses) : Bool := lt p.f 0 || (l.at p.f.toNat).r != 1
def fenE (p : Prc) (l : Ses) : Int := bif nofP p l then 0 else demoE (l.at p.f.toNat) p.e (-1)
def joiE (p : Prc) (l : Ses) : Int := bif anyB (jb p l) l.n then jnE (l.at (firstB (jb p l) l.n)) p.e (numT p l) else 0
def actE (p : Prc) (l : Ses) (ok : Bool) (v : Int) : Int := bif p.s == 0 then askE l ok v else bif p.s == 1 then fenE p l else bif p.s == 2 then proE (l.at p.t.toNat) p.e else joiE p l
def actP (p : Prc) (ok : Bool) (v : Int) : Prc := bif p.s == 0 then (bif !ok then { p with x := true } else { p with s := 1, e := v }) else bif p.s == 1 then { p with s := 2 } else bif p.s == 2 then { p with s := 3 } else { p with s := 4, d := true }
def actL (p : Prc) (l : Ses) : Ses := bif p.s == 0 then l else bif p.s == 1 then (bif nofP p l then l else setS l p.f.toNat (demo (l.at p.f.toNat) p.e (-1))) else bif p.s == 2 then setS l p.t.toNat (pro (l.at p.t.toNat) p.e) else ⟨l.n, jnV p.t p.e (numT p l) l l.n⟩
def preE (p : Prc) (l : Ses) : Int := bif chkF p != 0 then chkF p else bif ckE l != 0 then ckE l else bif p.d || p.x then 12 else bif le (toInt64 l.n) (imax p.f p.t) then 7 else 0
def stpE (p : Prc) (l : Ses) (ok : Bool) (v : Int) : Int := bif preE p l != 0 then preE p l else actE p l ok v
def stpP (p : Prc) (l : Ses) (ok : Bool) (v : Int) : Prc := bif stpE p l ok v == 0 then actP p ok v else p0
def stpL (p : Prc) (l : Ses) (ok : Bool) (v : Int) : Ses := bif stpE p l ok v == 0 then actL p l else ⟨0, l.ρ⟩
def thr (p : Prc) (l : Ses) (e : Int) : AV := .tup [p.cv, .c (.sl siSh l.n l.ρ), .c (I e)]
def thr0 (e : Int) : AV := .tup [p0.cv, .c .nils, .c (I e)]
theorem le_thr0 {e : Int} {ρ : Val} : leA (thr0 e) (thr p0 ⟨0, ρ⟩ e) := leA_tup (.cons le1.refl (.cons (.c leC_nils) (.cons le1.refl .nil)))
noncomputable def Gstp : List A1 → Option (Bool × AV)
 | [.agg [.int .i64 k, .int .i64 f, .int .i64 t, .int .i64 s, .int .i64 e, .int .i64 c, .bool d, .bool x], .c (.sl [.int .i64, .int .i64, .int .i64, .int .i64, .sl [.int .i64, .int .i64, .int .i64], .int .i64, .bool, .bool] n ρ), .c (.bool ok), .c (.int .i64 v)] =>
   some (dec (smallS ⟨n, ρ⟩), thr (stpP ⟨k, f, t, s, e, c, d, x⟩ ⟨n, ρ⟩ ok v) (stpL ⟨k, f, t, s, e, c, d, x⟩ ⟨n, ρ⟩ ok v) (stpE ⟨k, f, t, s, e, c, d, x⟩ ⟨n, ρ⟩ ok v))
 | _ => none
def finT (q : Prc) (l : Ses) (e : Int) : Tree AV := .br (e != 0) (.leaf (thr0 e)) (.br (!q.x) (.leaf (thr { q with s := IntKind.i64.wrap (q.s + 1) } l 0)) (.leaf (thr q l 0)))
noncomputable def stT (p : Prc) (l : Ses) (ok : Bool) (v : Int) : Tree AV :=
 let F := l.at p.f.toNat
 let T := l.at p.t.toNat
 let kf := demoE F p.e (-1)
 let kt := proE T p.e
 let ca : Ga.C := ⟨l, toInt64 l.n, p, p, ok, v⟩
 let cb : Gb.C := ⟨l, toInt64 l.n, p, p, ok, v⟩
 let cc : Gc.C := ⟨l, toInt64 l.n, p, p, ok, v⟩
 .br (chkF p != 0) (.leaf (thr0 (chkF p))) (.need (dec (fewS l)) (.br (ckE l != 0) (.leaf (thr0 (ckE l))) (.br (p.d || p.x) (.leaf (thr0 12)) (.br (le (toInt64 l.n) (imax p.f p.t)) (.leaf (thr0 7))
  (.need (dec (Ga.good ca ∧ (⟨Val.zero, 0, 0⟩ : Ga.V) = Ga.st ca 0)) (.need (inRange p.s 4)
   (.br (p.s == 0) (.br (!ok) (finT { p with x := true } l 0) (.br (lt v 1 || lt 1073741824 v) (finT p l 2) (.need (dec (Gc.good cc ∧ (⟨0, 0⟩ : Gc.V) = ⟨0, ((0 : Nat) : Int)⟩))
     (.br (anyB (olde v l) l.n) (.br (le 0 (firstB (olde v l) l.n : Nat)) (finT p l 13) (finT { p with e := v } l 0)) (.br (le 0 (-1)) (finT p l 13) (finT { p with e := v } l 0))))))
   (.br (p.s == 0 + 1) (.need (!(lt p.f 0 == false && true) || inRange p.f l.n) (.br (nofP p l) (finT p l 0) (.need (inRange p.f l.n) (.need (dec (small F.n)) (.br (kf == 0) (.need (inRange p.f l.n) (finT p (setS l p.f.toNat (okT kf (demo F p.e (-1)))) kf)) (finT p l kf))))))
   (.br (p.s == 0 + 1 + 1) (.need (inRange p.t l.n) (.need (dec (small T.n)) (.br (kt == 0) (.need (inRange p.t l.n) (finT p (setS l p.t.toNat (okT kt (pro T p.e))) kt)) (finT p l kt))))
    (.need (dec (Gb.good cb ∧ (⟨l.ρ, 0, 0⟩ : Gb.V) = Gb.st cb 0)) (.br (anyB (jb p l) l.n) (finT p ⟨l.n, Gb.row cb (firstB (jb p l) l.n)⟩ (jnE (l.at (firstB (jb p l) l.n)) p.e (numT p l))) (finT { p with d := true } ⟨l.n, Gb.row cb l.n⟩ 0))))))))))))
theorem stepT (n : Nat) (ρ : Val) (k f t s e c v : Int) (d x ok : Bool) : hcTree Tryz.prog HSt 10 27 [.agg [I k, I f, I t, I s, I e, I c, .bool d, .bool x], .c (.sl siSh n ρ), .c (.bool ok), .c (I v)] = stT ⟨k, f, t, s, e, c, d, x⟩ ⟨n, ρ⟩ ok v := by kernel_rfl
theorem finT_sel (q : Prc) (l : Ses) (e : Int) : (finT q l e).sel = some (bif e != 0 then thr0 e else bif !q.x then thr { q with s := IntKind.i64.wrap (q.s + 1) } l 0 else thr q l 0) := by
 unfold finT
 simp only [Tree.sel]
 cases e != 0
 ·cases q.x <;> rfl
 ·rfl
theorem chkF_ok {p : Prc} (h : (chkF p != 0) = false) : rngA p = false ∧ rngB p = false ∧ badS p = false := by
 unfold chkF at h
 cases h1 : p.k != 2
 ·rw [h1] at h
  cases h2 : rngA p
  ·rw [h2] at h
   cases h3 : rngB p
   ·rw [h3] at h
    cases h4 : badS p
    ·exact ⟨rfl, rfl, rfl⟩
    ·rw [h4] at h; simp at h
   ·rw [h3] at h; simp at h
  ·rw [h2] at h; simp at h
 ·rw [h1] at h; simp at h
theorem chkF_step {p : Prc} (h : (chkF p != 0) = false) (hd : p.d = false) : p.s = 0 ∨ p.s = 1 ∨ p.s = 2 ∨ p.s = 3 := by
 obtain ⟨_, h2, h3⟩ := chkF_ok h
 unfold rngB at h2
 simp only [Bool.or_eq_false_iff] at h2
 unfold badS at h3
 rw [hd] at h3
 have h4 : p.s ≠ 4 := by
  intro h4
  rw [h4] at h3
  simp at h3
 have a := h2.1.1.1.1.1
 have b := h2.1.1.1.1.2
 rw [← Bool.not_eq_true, lt_iff] at a b
 omega
theorem imax_lt {a b m : Int} (h : le m (imax a b) = false) : a < m ∧ b < m := by
 rw [← Bool.not_eq_true, le_iff] at h
 unfold imax at h
 cases h1 : lt a b
 ·rw [h1] at h
  rw [← Bool.not_eq_true, lt_iff] at h1
  simp only [cond_false] at h
  omega
 ·rw [h1] at h
  rw [lt_iff] at h1
  simp only [cond_true] at h
  omega
theorem inI {a : Int} {n : Nat} (h0 : 0 ≤ a) (h1 : a < toInt64 n) : inRange a n = true ∧ a.toNat < n := by
 have h1 : a < (n : Int) := h1
 obtain ⟨j, rfl⟩ : ∃ j : Nat, a = j := ⟨a.toNat, by omega⟩
 have : j < n := by omega
 exact ⟨inR this, by simpa using this⟩
theorem pre_in {p : Prc} {l : Ses} (h : (chkF p != 0) = false) (h7 : le (toInt64 l.n) (imax p.f p.t) = false) : (inRange p.t l.n = true ∧ p.t.toNat < l.n) ∧ (lt p.f 0 = false → inRange p.f l.n = true ∧ p.f.toNat < l.n) := by
 obtain ⟨h1, _, _⟩ := chkF_ok h
 unfold rngA at h1
 simp only [Bool.or_eq_false_iff] at h1
 have a := h1.1.1.2
 rw [← Bool.not_eq_true, lt_iff] at a
 obtain ⟨b, c⟩ := imax_lt h7
 refine ⟨inI (by omega) c, fun h0 => ?_⟩
 rw [← Bool.not_eq_true, lt_iff] at h0
 exact inI (by omega) b
theorem act_sel {p : Prc} {l : Ses} (hsm : smallS l) (ok : Bool) (v : Int) (h1 : (chkF p != 0) = false) (h2 : ckE l = 0) (hd : p.d = false) (hx : p.x = false) (h7 : le (toInt64 l.n) (imax p.f p.t) = false) :
  (stT p l ok v).sel = some (bif actE p l ok v == 0 then thr (actP p ok v) (actL p l) 0 else thr0 (actE p l ok v)) := by
 obtain ⟨⟨ht1, ht2⟩, hf⟩ := pre_in h1 h7
 have hs := chkF_step h1 hd
 have d1 : dec (fewS l) = true := dec_iff.2 (small_fewS hsm)
 have d2 : (ckE l != 0) = false := by rw [h2]; rfl
 have d3 : dec (Ga.good ⟨l, toInt64 l.n, p, p, ok, v⟩ ∧ (⟨Val.zero, 0, 0⟩ : Ga.V) = Ga.st ⟨l, toInt64 l.n, p, p, ok, v⟩ 0) = true := dec_iff.2 ⟨⟨rfl, hsm⟩, rfl⟩
 have d4 : dec (Gc.good ⟨l, toInt64 l.n, p, p, ok, v⟩ ∧ (⟨0, 0⟩ : Gc.V) = ⟨0, ((0 : Nat) : Int)⟩) = true := dec_iff.2 ⟨⟨rfl, hsm.1⟩, rfl⟩
 have d5 : dec (Gb.good ⟨l, toInt64 l.n, p, p, ok, v⟩ ∧ (⟨l.ρ, 0, 0⟩ : Gb.V) = Gb.st ⟨l, toInt64 l.n, p, p, ok, v⟩ 0) = true := dec_iff.2 ⟨⟨⟨rfl, ht1⟩, hsm⟩, rfl⟩
 have d6 : dec (small (l.at p.t.toNat).n) = true := dec_iff.2 (hsm.2 _ ht2)
 have d7 : (p.d || p.x) = false := by rw [hd, hx]; rfl
 unfold stT
 simp only [Tree.sel, finT_sel, h1, d1, d2, d3, d4, d5, d6, d7, h7, ht1, cond_true, cond_false]
 unfold actE actP actL
 rcases hs with h | h | h | h
 ·have hr : inRange p.s 4 = true := by rw [h]; rfl
  have h0 : (p.s == 0) = true := by rw [h]; rfl
  have hw : IntKind.i64.wrap (p.s + 1) = 1 := by rw [h]; rfl
  simp only [hr, h0, hx, hw, cond_true, Bool.not_false]
  unfold askE
  cases ok
  ·rfl
  ·simp only [Bool.not_true, cond_false]
   cases (lt v 1 || lt 1073741824 v)
   ·simp only [cond_false]
    cases anyB (olde v l) l.n
    ·rfl
    ·have : le 0 (firstB (olde v l) l.n : Nat) = true := by rw [le_iff]; omega
     simp only [this, cond_true]; rfl
   ·rfl
 ·have hr : inRange p.s 4 = true := by rw [h]; rfl
  have h0 : (p.s == 0) = false := by rw [h]; rfl
  have h1' : (p.s == 1) = true := by rw [h]; rfl
  have h1'' : (p.s == 0 + 1) = true := by rw [h]; rfl
  have hw : IntKind.i64.wrap (p.s + 1) = 2 := by rw [h]; rfl
  simp only [hr, h0, h1', h1'', hx, hw, cond_true, cond_false, Bool.not_false]
  unfold fenE
  cases hn : nofP p l
  ·have hf0 : lt p.f 0 = false := by
    unfold nofP at hn
    rw [Bool.or_eq_false_iff] at hn
    exact hn.1
   obtain ⟨hf1, hf2⟩ := hf hf0
   have d8 : dec (small (l.at p.f.toNat).n) = true := dec_iff.2 (hsm.2 _ hf2)
   simp only [hf1, d8, Bool.or_true, cond_true, cond_false]
   cases hk : demoE (l.at p.f.toNat) p.e (-1) == 0
   ·have hk' : (demoE (l.at p.f.toNat) p.e (-1) != 0) = true := by simp [bne, hk]
    simp only [hk', cond_true, cond_false]
   ·have hk' : demoE (l.at p.f.toNat) p.e (-1) = 0 := by simpa using hk
    simp only [hk', cond_true]
    rfl
  ·have : (!(lt p.f 0 == false && true) || inRange p.f l.n) = true := by
    cases hf0 : lt p.f 0
    ·rw [(hf hf0).1, Bool.or_true]
    ·rfl
   simp only [this, cond_true]
   rfl
 ·have hr : inRange p.s 4 = true := by rw [h]; rfl
  have h0 : (p.s == 0) = false := by rw [h]; rfl
  have h1' : (p.s == 1) = false := by rw [h]; rfl
  have h1'' : (p.s == 0 + 1) = false := by rw [h]; rfl
  have h2' : (p.s == 2) = true := by rw [h]; rfl
  have h2'' : (p.s == 0 + 1 + 1) = true := by rw [h]; rfl
  have hw : IntKind.i64.wrap (p.s + 1) = 3 := by rw [h]; rfl
  simp only [hr, h0, h1', h1'', h2', h2'', hx, hw, cond_true, cond_false, Bool.not_false]
  cases hk : proE (l.at p.t.toNat) p.e == 0
  ·have hk' : (proE (l.at p.t.toNat) p.e != 0) = true := by simp [bne, hk]
   simp only [hk', cond_true, cond_false]
  ·have hk' : proE (l.at p.t.toNat) p.e = 0 := by simpa using hk
   simp only [hk', cond_true]
   rfl
 ·have hr : inRange p.s 4 = true := by rw [h]; rfl
  have h0 : (p.s == 0) = false := by rw [h]; rfl
  have h1' : (p.s == 1) = false := by rw [h]; rfl
  have h1'' : (p.s == 0 + 1) = false := by rw [h]; rfl
  have h2' : (p.s == 2) = false := by rw [h]; rfl
  have h2'' : (p.s == 0 + 1 + 1) = false := by rw [h]; rfl
  have hw : IntKind.i64.wrap (p.s + 1) = 4 := by rw [h]; rfl
  simp only [hr, h0, h1', h1'', h2', h2'', hx, hw, cond_true, cond_false, Bool.not_false]
  unfold joiE
  cases ha : anyB (jb p l) l.n
  ·rfl
  ·have hj : (jnE (l.at (firstB (jb p l) l.n)) p.e (numT p l) != 0) = true := by
    obtain ⟨_, hb, _⟩ := firstB_ok ha
    unfold jb jbad at hb
    rw [Bool.and_eq_true] at hb
    exact hb.2
   have hj' : (jnE (l.at (firstB (jb p l) l.n)) p.e (numT p l) == 0) = false := by simpa [bne] using hj
   simp only [hj, hj', cond_true, cond_false]
theorem stT_sel {p : Prc} {l : Ses} (hsm : smallS l) (ok : Bool) (v : Int) : (stT p l ok v).sel = some (bif stpE p l ok v == 0 then thr (actP p ok v) (actL p l) 0 else thr0 (stpE p l ok v)) := by
 have d1 : dec (fewS l) = true := dec_iff.2 (small_fewS hsm)
 unfold stpE preE
 cases h1 : chkF p != 0
 ·simp only [cond_false]
  cases h2 : ckE l != 0
  ·simp only [cond_false]
   have h2' : ckE l = 0 := by simpa [bne] using h2
   cases hd : p.d
   ·cases hx : p.x
    ·simp only [Bool.or_self, cond_false]
     cases h7 : le (toInt64 l.n) (imax p.f p.t)
     ·exact act_sel hsm ok v h1 h2' hd hx h7
     ·unfold stT
      have d7 : (p.d || p.x) = false := by rw [hd, hx]; rfl
      simp only [Tree.sel, h1, h2, d1, d7, h7, cond_true, cond_false]; rfl
    ·unfold stT
     have d7 : (p.d || p.x) = true := by rw [hd, hx]; rfl
     simp only [Tree.sel, h1, h2, d1, d7, cond_true, cond_false]; rfl
   ·unfold stT
    have d7 : (p.d || p.x) = true := by rw [hd]; rfl
    simp only [Tree.sel, h1, h2, d1, d7, cond_true, cond_false]; rfl
  ·unfold stT
   have h2' : (ckE l == 0) = false := by simpa [bne] using h2
   simp only [Tree.sel, h1, h2, h2', d1, cond_true, cond_false]
 ·unfold stT
  have h1' : (chkF p == 0) = false := by simpa [bne] using h1
  simp only [Tree.sel, h1, h1', cond_true, cond_false]
theorem thr_of (p : Prc) (l : Ses) (ok : Bool) (v : Int) : leA (bif stpE p l ok v == 0 then thr (actP p ok v) (actL p l) 0 else thr0 (stpE p l ok v)) (thr (stpP p l ok v) (stpL p l ok v) (stpE p l ok v)) := by
 unfold stpP stpL
 cases h : stpE p l ok v == 0
 ·exact le_thr0
 ·have h0 : stpE p l ok v = 0 := by simpa using h
  rw [h0]
  exact leA.refl
theorem all_sel_to {r R : AV} {t : Tree AV} (h : t.sel = some r) (hr : leA r R) : t.All (fun z => leA z R) := All.imp (fun _ h => h ▸ hr) (all_of_sel h)
theorem uStep : UcOne Tryz.prog 27 (nG Gstp) := ucOne_of_tree hSt 10 27 fun args r h => by
 unfold Gstp at h; split at h
 ·rename_i k f t s e c d x n ρ ok v
  obtain ⟨hp, rfl⟩ := Prod.mk.inj (Option.some.inj h)
  exact ⟨_, stepT n ρ k f t s e c v d x ok, all_sel_to (stT_sel (dec_iff.1 hp) ok v) (thr_of _ _ _ _)⟩
 ·cases h
end Fo
end Go.Proofs.YtiefjlcakpdfeaaGreat.Ro
namespace Go.Sx
open Go Go.RowKit
variable {P : Program}
theorem ncOne_of_tree {H : Hd} (hH : HdOk P H) (n f : Nat) {G : List A1 → Tree (AV × Mem)}
  (h : ∀ args r m, (G args).sel = some (r, m) → ∃ u, evFn P H n f args [] = u ∧ u.All (fun y => WkO (.ret y.1, y.2) (.ret r, m))) : NcOne P f G := by
 intro args r m hG _ F w vs hargs
 obtain ⟨u, hu, ha⟩ := h args r m hG
 rw [← hu] at ha
 obtain ⟨y, hsel, hw⟩ := all_sel ha
 refine (evFn_ok0 hH n f args y.1 y.2 hsel F w [] vs MemRel.nil hargs).mono fun e w2 ⟨v, F', bs', he, hext, hm', hr⟩ => ?_
 obtain ⟨F2, bs2, e2, m2, v2, hv2, r2⟩ := hw P F' w2 bs' (.returned v) hm' ⟨v, rfl, hr⟩
 simp only [Ending.returned.injEq] at hv2
 subst hv2
 exact ⟨v, F2, bs2, he, hext.trans e2 (Nat.le_refl _), m2, r2⟩
end Go.Sx
namespace Go.Proofs.YtiefjlcakpdfeaaGreat.Ro
open Go Go.Sx Go.RowKit Classical
set_option maxRecDepth 100000
namespace Fo
theorem nSites : NcOne Tryz.prog 106 (cloneG 56 siSh 8 72) := clone_nc Tryz.func106 rfl rfl rfl rfl rfl rfl rfl rfl (by kernel_rfl) rfl (fun n ρ => by kernel_rfl)
 (fun n ρ => stC siSh n ρ true) (fun n ρ => mkS 8 [(0, .one (.c (.sl siSh n ρ))), (2, .one (.c (.os 1 8))), (3, .one (.c (.sl siSh n ρ))), (4, .one (.c (.bool false))), (5, .one (.c (.os 0 8))), (6, .one (.c (.sl siSh n ρ))), (7, .one (.c (.os 1 8)))] [none, some (56, [.row false siSh (0 + n) (Val.cat 0 (Val.ofFlat 8 []) ρ)])])
 (fun n ρ => by kernel_rfl) (fun n ρ => by kernel_rfl) (fun n ρ => rfl) (fun n ρ => by kernel_rfl) (fun n ρ => by kernel_rfl) (fun n ρ => rfl)
noncomputable abbrev HC : Hd := ⟨HS0.pc, HS0.hc, [], (106, ncG (cloneG 56 siSh 8 72)) :: HS0.mc⟩
theorem hC : HdOk Tryz.prog HC := hS0.mcCons nSites.mc
theorem at_upd1 (ρ : Val) (i f : Nat) (x : CV) (k g : Nat) : ((ρ.upd i f x).at k).at g = if k = i ∧ g = f then .ofC x else (ρ.at k).at g := by
 have e : ((ρ.upd i f x).at k).at g = (pickV (Nat.beq k i) (.byFst fun g => pickV (Nat.beq g f) (.ofC x) ((ρ.at k).at g)) (ρ.at k)).at g := rfl
 rw [e]
 by_cases hk : k = i
 ·subst hk
  rw [Nat.beq_refl]
  have e2 : (pickV true (.byFst fun g => pickV (Nat.beq g f) (.ofC x) ((ρ.at k).at g)) (ρ.at k)).at g = pickV (Nat.beq g f) (.ofC x) ((ρ.at k).at g) := rfl
  rw [e2]
  by_cases hg : g = f
  ·subst hg
   rw [Nat.beq_refl, if_pos ⟨rfl, rfl⟩]; rfl
  ·rw [if_neg (fun h => hg h.2)]
   have : Nat.beq g f = false := by
    cases h : Nat.beq g f
    ·rfl
    ·exact (hg (Nat.eq_of_beq_eq_true h)).elim
   rw [this]; rfl
 ·rw [if_neg (fun h => hk h.1)]
  have : Nat.beq k i = false := by
   cases h : Nat.beq k i
   ·rfl
   ·exact (hk (Nat.eq_of_beq_eq_true h)).elim
  rw [this]; rfl
theorem sameV_upd {n : Nat} {ρ σ : Val} (h : sameV siSh n ρ σ) (j : Nat) : sameV siSh n (ρ.upds j 4 [.sl spSh (((ρ.at j).at 4).L []) ((ρ.at j).at 4)]) σ := by
 intro i f s hi hf
 rw [← h i f s hi hf]
 show cellOf s (((ρ.upd j 4 _).at i).at f) = _
 rw [at_upd1]
 split
 ·rename_i hh
  obtain ⟨rfl, rfl⟩ := hh
  simp only [nth, Option.some.injEq] at hf
  subst hf
  show cellOf (.sl spSh) (Val.ofC (.sl spSh (((ρ.at i).at 4).L []) ((ρ.at i).at 4))) = _
  rw [ofC_sl]
 ·rfl
theorem sameV_at {n : Nat} {ρ σ : Val} (h : sameV siSh n ρ σ) {i : Nat} (hi : i < n) : ((ρ.at i).at 4).L [] = ((σ.at i).at 4).L [] := by
 have := h i 4 (.sl spSh) hi rfl
 simp only [cellOf, CV.sl.injEq] at this
 exact this.2.1
namespace Ca
structure C where
 l : Ses
 m : Int
structure V where
 ρ : Val
 i : Int
def S (c : C) (v : V) : St := mkS 24 [(3, .one (.c (.os 0 8))), (8, .one (.c (I c.m))), (9, .one (.c (I v.i)))] [some (56, [.row false siSh c.l.n v.ρ])]
def up4 (ρ : Val) (i : Nat) : Val := ρ.upds i 4 [.sl spSh (((ρ.at i).at 4).L []) ((ρ.at i).at 4)]
def TX (c : C) (v : V) : Tree (XE × V) :=
 .br (lt v.i c.m) (.need (inRange v.i c.l.n) (.need (Nat.ble ((0 + ((v.ρ.at v.i.toNat).at 4).L []) * 24) 140737488355328) (.need (inRange v.i c.l.n) (.leaf (.normal, ⟨up4 v.ρ v.i.toNat, IntKind.i64.wrap (v.i + 1)⟩))))) (.leaf (.exit 0, v))
theorem t (c : C) (v : V) : ((evCode Tryz.prog HC (evFn Tryz.prog HC 10) 51 0 1 (loopBody Tryz.prog 51 0) (S c v)).bind fun y => gcT [3, 8, 9] 0 y) = (TX c v).bind fun y => .leaf (y.1, S c y.2) := by kernel_rfl
def ups (ρ : Val) : Nat → Val
 | 0 => ρ
 | i + 1 => up4 (ups ρ i) i
theorem ups_same (ρ : Val) (n : Nat) : ∀ i, sameV siSh n (ups ρ i) ρ
 | 0 => fun _ _ _ _ _ => rfl
 | i + 1 => sameV_upd (ups_same ρ n i) i
def st (c : C) (i : Nat) : V := ⟨ups c.l.ρ i, i⟩
def good (c : C) : Prop := c.m = toInt64 c.l.n ∧ smallS c.l
theorem sq (c : C) (h : good c) : Sq (TX c) (fun v => (c.l.n - v.i).toNat) (st c) (st c) c.l.n (fun _ => false) .ret (.exit 0) where
 out := by simp
 hit := by simp
 meas i hi := by show ((c.l.n : Int) - (i : Int)).toNat = _; omega
 round i hi := by
  obtain ⟨hm, hn, hs⟩ := h
  have hsi := hs i hi
  have hw : IntKind.i64.wrap ((i : Int) + 1) = ((i + 1 : Nat) : Int) := by rw [w64_id (by omega) (by omega)]; omega
  refine ⟨fun _ => ⟨inR hi, ?_, inR hi, ?_⟩, fun hlt => ?_⟩
  ·show Nat.ble ((0 + (((ups c.l.ρ i).at i).at 4).L []) * 24) 140737488355328 = true
   rw [sameV_at (ups_same c.l.ρ c.l.n i) hi]
   exact small_ble hsi
  ·show (XE.normal, (⟨up4 (ups c.l.ρ i) i, IntKind.i64.wrap ((i : Int) + 1)⟩ : V)) = (.normal, st c (i + 1))
   rw [hw]; rfl
  ·have : lt (i : Int) c.m = false := hlt
   rw [hm, ltF hi] at this; cases this
 stop := by
  refine ⟨fun hlt => ?_, fun _ => rfl⟩
  have : lt (c.l.n : Int) c.m = true := hlt
  rw [h.1, ltS] at this; cases this
def get : List (Nat × AV) → Mem → Option (C × V)
 | [(3, .one (.c (.os 0 8))), (8, .one (.c (.int .i64 m))), (9, .one (.c (.int .i64 i)))], [some (56, [.row false [.int .i64, .int .i64, .int .i64, .int .i64, .sl [.int .i64, .int .i64, .int .i64], .int .i64, .bool, .bool] n ρ])] => some (⟨⟨n, ρ⟩, m⟩, ⟨ρ, i⟩)
 | _, _ => none
noncomputable def L : Nat → St → Tree (XE × St) := lqH [3, 8, 9] 0 24 get fun c v => lq1 (S c) (good c ∧ v = st c 0) (.exit 0) ⟨c.l.ρ, c.l.n⟩
theorem ok (fn : Func) (c b : Code) (hf : Tryz.prog.funcs[51]? = some fn) (hc : fn.body = some c) (hb : nthLoop c 0 = some b) : LoopOk Tryz.prog b L :=
 lq1_ok hC 10 51 0 hf hc hb [3, 8, 9] 0 24 S TX t get (fun l m c v h => by unfold get at h; split at h <;> simp at h; obtain ⟨rfl, rfl⟩ := h; rfl)
  good (fun c v => (c.l.n - v.i).toNat) st (fun c => c.l.n) (.exit 0) sq (fun c => ⟨c.l.ρ, c.l.n⟩)
  (fun c _ => StWk.row (tmps := mkL [(3, .one (.c (.os 0 8))), (8, .one (.c (I c.m))), (9, .one (.c (I c.l.n)))] 24 0) (b := 0) rfl (ups_same c.l.ρ c.l.n c.l.n))
end Ca
noncomputable abbrev HC1 : Hd := ⟨HC.pc, HC.hc, [((51, 0), Ca.L)], HC.mc⟩
theorem hC1 : HdOk Tryz.prog HC1 := HdOk.lhCons hC Ca.ok
noncomputable def Gcop : List A1 → Tree (AV × Mem)
 | [.c (.sl [.int .i64, .int .i64, .int .i64, .int .i64, .sl [.int .i64, .int .i64, .int .i64], .int .i64, .bool, .bool] n ρ)] =>
   .need (dec (smallS ⟨n, ρ⟩)) (.leaf (.one (.c (.os 0 8)), [some (56, [.row false siSh n ρ])]))
 | _ => .fail
theorem nCop : NcOne Tryz.prog 51 Gcop := ncOne_of_tree hC1 10 51 fun args r m h => by
 unfold Gcop at h; split at h
 ·rename_i n ρ
  simp only [Tree.sel] at h
  cases hs : dec (smallS ⟨n, ρ⟩)
  ·rw [hs] at h; simp at h
  rw [hs] at h
  simp only [cond_true, Option.some.injEq, Prod.mk.injEq] at h
  obtain ⟨rfl, rfl⟩ := h
  have hsm := dec_iff.1 hs
  refine ⟨.need (Nat.ble ((0 + n) * 72) 140737488355328) (.need (dec (Ca.good ⟨⟨n, ρ⟩, toInt64 n⟩ ∧ (⟨ρ, 0⟩ : Ca.V) = Ca.st ⟨⟨n, ρ⟩, toInt64 n⟩ 0)) (.leaf (.one (.c (.os 0 8)), [some (56, [.row false siSh n ρ])]))), by kernel_rfl, ?_, dec_iff.2 ⟨⟨rfl, hsm⟩, rfl⟩, WkO.refl⟩
  have := hsm.1
  exact Nat.ble_eq_true_of_le (by simp only at this; omega)
 ·simp [Tree.sel] at h
end Fo
end Go.Proofs.YtiefjlcakpdfeaaGreat.Ro
