/-
 Part RuZD of the proof: RdE RdF RdG RdH RdI RdJ RdK.
-/
import Derived.Test.YtiefjlcakpdfeaaGreatRuZC
namespace Go.Proofs.YtiefjlcakpdfeaaGreat
open Go Go.Sx Go.RowKit Rb
set_option maxRecDepth 100000
noncomputable abbrev v4 (T : TgF) (R : RunF) (n : Nat) (ρ : Val) (m : Nat) (σ : Val) (fl : Int) : Tree AV := (evFn Tryz.prog (H4 T R) 10 4 [.c (.sl Ro.siSh n ρ), .c (.sl [.int .u8, .int .u8] m σ), .c (.int .u8 fl)] []).vals
def c4a (n : Nat) (ρ : Val) (m : Nat) : Bool := bif (bif !(ov1 false (few12 n ρ)) then true else toInt64 n == 0) then true else lt 12 (toInt64 m)
theorem path4a (T : TgF) (R : RunF) (n : Nat) (ρ : Val) (m : Nat) (σ : Val) (fl : Int) :
  (v4 T R n ρ m σ fl).follow [true] = some ([(os1 (few12 n ρ), true), (c4a n ρ m, true), (true, true)], encBo true) := by kernel_rfl
theorem path4b (T : TgF) (R : RunF) (n : Nat) (ρ : Val) (m : Nat) (σ : Val) (fl : Int) :
  (v4 T R n ρ m σ fl).follow [false, true] = some ([(os1 (few12 n ρ), true), (c4a n ρ m, false), (smallB n ρ, true), (Ro.ckE ⟨n, ρ⟩ != 0, true), (true, true)], encBo true) := by kernel_rfl
def k4 (m : Nat) (fl : Int) : Int := (IntKind.wrap .i64 fl).tmod (IntKind.wrap .i64 (toInt64 m + 1))
def τ4 (k : Int) : Val := Val.cat k.toNat (.byFst fun _ => Val.ofCs [.int .i64 0]) (Val.ofFlat 1 [.int .i64 1])
def run4 (T : TgF) (R : RunF) (n : Nat) (ρ : Val) (m : Nat) (σ : Val) (k : Int) : Option RunR := let d := ov1 dT0 (T n ρ m σ); R d.nm d.b d.bρ n ρ (k.toNat + 1) (τ4 k)
def pre4 (T : TgF) (R : RunF) (n : Nat) (ρ : Val) (m : Nat) (σ : Val) (k : Int) : List (Bool × Bool) :=
 [(os1 (few12 n ρ), true), (c4a n ρ m, false), (smallB n ρ, true), (Ro.ckE ⟨n, ρ⟩ != 0, false), (os1 (T n ρ m σ), true), (!(IntKind.wrap .i64 (toInt64 m + 1) == 0), true),
  (le 0 k && le k k && le (k * toInt64 8) 140737488355328, true), (Nat.ble ((k.toNat + 1) * 8) 140737488355328, true), (os1 (run4 T R n ρ m σ k), true)]
def and2 (a b : Bool) : Bool := bif a then b else false
theorem path4c (T : TgF) (R : RunF) (n : Nat) (ρ : Val) (m : Nat) (σ : Val) (fl : Int) :
  (v4 T R n ρ m σ fl).follow [false, false, true] = let k := k4 m fl; let d := ov1 dT0 (T n ρ m σ); let r := ov1 rr0 (run4 T R n ρ m σ k); let q := eqWS r.pn r.pρ d.l d.lρ
   some (pre4 T R n ρ m σ k ++ [(k == toInt64 m, true), (!((r.e == 0) == true && true) || os1 q, true), (!(and2 (and2 (r.e == 0) (ov1 false q)) (toInt64 r.sn == toInt64 n) == true && true) || true, true)],
    encBo (and2 (and2 (and2 (r.e == 0) (ov1 false q)) (toInt64 r.sn == toInt64 n)) true)) := by kernel_rfl
def wFailDo4 : ByteArray := bs [102, 97, 105, 108, 32, 100, 111]
def want4 (d : DT) (k : Int) : Option (Nat × Val) := wantS d.b d.bρ (d.b + 2) (k.toNat + 1) (Val.cat k.toNat d.lρ (Val.ofFlat 1 [.str wFailDo4])) (IntKind.wrap .i64 (k - 1))
theorem path4d (T : TgF) (R : RunF) (n : Nat) (ρ : Val) (m : Nat) (σ : Val) (fl : Int) :
  (v4 T R n ρ m σ fl).follow [false, false, false, true] = let k := k4 m fl; let d := ov1 dT0 (T n ρ m σ); let r := ov1 rr0 (run4 T R n ρ m σ k); let w := ov1 (0, .zero) (want4 d k); let s := eqSS r.sn r.sρ n ρ; let q := eqWS r.pn r.pρ w.1 w.2
   some (pre4 T R n ρ m σ k ++ [(k == toInt64 m, false), (le 0 k && le k (toInt64 d.l), true), (Nat.ble ((0 + k.toNat) * 16) 140737488355328, true), (Nat.ble ((k.toNat + 1) * 16) 140737488355328, true), (os1 (want4 d k), true),
    (!((r.e == 29) == true && true) || os1 s, true), (and2 (r.e == 29) (ov1 false s) == true, true), (os1 q, true), (!(and2 (and2 (r.e == 29) (ov1 false s)) (ov1 false q) == true && true) || true, true)],
    encBo (and2 (and2 (and2 (r.e == 29) (ov1 false s)) (ov1 false q)) true)) := by kernel_rfl
def onC : Nat → ByteArray
 | 0 => wUp
 | 1 => wDown
 | 2 => wConnect
 | _ => wDisconnect
def offC : Nat → ByteArray
 | 0 => wDown
 | 1 => wUp
 | 2 => wDisconnect
 | _ => wConnect
def V4 (c k : Nat) : Val := stepV (onC c) (offC c) (siteW k)
structure Steps (m n : Nat) (κ : Val) : Prop where
 h : ∀ j, j < m → ∃ c k, c < 4 ∧ k < n ∧ κ.at j = (V4 c k).at 0
def all44 (p : Nat → Nat → Bool) : Bool := allB (fun c => allB (fun k => p c k) 4) 4
theorem all44_ok {p : Nat → Nat → Bool} (h : all44 p = true) {c k : Nat} (hc : c < 4) (hk : k < 4) : p c k = true := allB_ok (allB_ok h c hc) k hk
def cntK (n : Nat) (l : Int) : Nat → Int → Int → Int → Option (Int × Int)
 | 0, _, _, _ => none
 | k + 1, i, a, b => bif lt i l then (bif inRange i n then cntK n l k (IntKind.wrap .i64 (i + 1)) (cntA a 1 0) (cntB b 1 0) else none) else some (a, b)
theorem inRange_lt {i : Int} {n : Nat} (h : inRange i n = true) : i.toNat < n := by
 unfold inRange le lt toInt64 at h
 simp at h
 omega
theorem cntL_eq {R : RC} {n : Nat} {κ : Val} {l : Int} (h : ∀ j, j < n → R (bodN κ j) (bodV κ j) = some (1, 1) ∧ R (elsN κ j) (elsV κ j) = some (0, 0)) : ∀ f i a b, cntL R n κ l f i a b = cntK n l f i a b
 | 0, _, _, _ => rfl
 | f + 1, i, a, b => by
   unfold cntL cntK
   cases lt i l with
  | false => rfl
  | true =>
    cases hr : inRange i n with
   | false => rfl
   | true =>
     obtain ⟨h1, h2⟩ := h i.toNat (inRange_lt hr)
     simp only [cond_true, h1, h2]
     exact cntL_eq h f _ _ _
def chkCnt (c k : Nat) : Bool := (cntF 19 (bodN (V4 c k) 0) (bodV (V4 c k) 0) == some (1, 1)) && (cntF 19 (elsN (V4 c k) 0) (elsV (V4 c k) 0) == some (0, 0))
theorem chkCnt_all : all44 chkCnt = true := by kernel_rfl
def smallAB : Option (Int × Int) → Bool
 | some (a, b) => !(lt 4096 a) && !(lt 16 b)
 | none => false
def cntMax : Nat → Bool := fun m => smallAB (cntK m (toInt64 m) (m + 1) 0 0 0)
theorem cntMax_all : allB cntMax 13 = true := by kernel_rfl
theorem cnt_ok {m n : Nat} {κ : Val} (hm : m ≤ 12) (hn : n ≤ 4) (h : Steps m n κ) : ∃ a b, cntF 20 m κ = some (a, b) ∧ lt 4096 a = false ∧ lt 16 b = false := by
 have e : cntF 20 m κ = cntL (cntF 19) m κ (toInt64 m) (m + 1) 0 0 0 := rfl
 rw [e, cntL_eq fun j hj => ?_]
 ·have := allB_ok cntMax_all m (by omega)
  unfold cntMax at this
  cases hk : cntK m (toInt64 m) (m + 1) 0 0 0 with
  | none => rw [hk] at this; cases this
  | some y =>
    rw [hk] at this
    obtain ⟨a, b⟩ := y
    simp only [smallAB, Bool.and_eq_true, Bool.not_eq_true'] at this
    exact ⟨a, b, rfl, this.1, this.2⟩
 ·obtain ⟨c, k, hc, hk, e⟩ := h.h j hj
  have := all44_ok chkCnt_all hc (Nat.lt_of_lt_of_le hk hn)
  simp only [chkCnt, Bool.and_eq_true, beq_iff_eq] at this
  simp only [bodN, bodV, elsN, elsV, e] at this ⊢
  exact this
def blkK (n : Nat) (l : Int) : Nat → Int → Option Int
 | 0, _ => none
 | k + 1, i => bif lt i l then (bif inRange i n then blkK n l k (IntKind.wrap .i64 (i + 1)) else none) else some 0
def okSt (R : RBl) (s : RS) : Bool := fldD s && fldV s && !(condB s.kind) && (R s.bn s.bρ == some 0) && (R s.en s.eρ == some 0)
theorem blkL_eq {f : Nat} {R : RBl} {n : Nat} {κ : Val} {l : Int} (h : ∀ j, j < n → okSt R (stAt κ j) = true) : ∀ k i, blkL f R n κ l k i = blkK n l k i
 | 0, _ => rfl
 | k + 1, i => by
   unfold blkL blkK
   cases lt i l with
  | false => rfl
  | true =>
    cases hr : inRange i n with
   | false => rfl
   | true =>
     have h1 := h i.toNat (inRange_lt hr)
     simp only [okSt, Bool.and_eq_true, beq_iff_eq, Bool.not_eq_true'] at h1
     obtain ⟨⟨⟨⟨a1, a2⟩, a3⟩, a4⟩, a5⟩ := h1
     simp only [cond_true, cond_false, a1, a2, a3, a4, a5, Bool.not_true]
     exact blkL_eq h k _
def chkBlk (c k : Nat) : Bool := okSt (blkF 20 19) (stAt (V4 c k) 0)
theorem chkBlk_all : all44 chkBlk = true := by kernel_rfl
def blkMax : Nat → Bool := fun m => (blkK m (toInt64 m) (m + 1) 0 == some 0)
theorem blkMax_all : allB blkMax 13 = true := by kernel_rfl
theorem stAt_of {κ κ' : Val} {i j : Nat} (h : κ.at i = κ'.at j) : stAt κ i = stAt κ' j := by
 unfold stAt
 rw [h]
theorem blk_ok {m n : Nat} {κ : Val} (hm : m ≤ 12) (hn : n ≤ 4) (h : Steps m n κ) : blkF 20 20 m κ = some 0 := by
 have e : blkF 20 20 m κ = blkL 20 (blkF 20 19) m κ (toInt64 m) (m + 1) 0 := rfl
 rw [e, blkL_eq fun j hj => ?_]
 ·have := allB_ok blkMax_all m (by omega)
  simpa [blkMax] using this
 ·obtain ⟨c, k, hc, hk, e⟩ := h.h j hj
  rw [stAt_of e]
  exact all44_ok chkBlk_all hc (Nat.lt_of_lt_of_le hk hn)
def misK (n : Nat) (l : Int) : Nat → Int → Option (Int × Bool)
 | 0, _ => none
 | k + 1, i => bif lt i l then nd (inRange i n) (misK n l k (IntKind.wrap .i64 (i + 1))) else some (0, false)
def notMis : Option (Int × Bool) → Bool
 | some (_, b) => !b
 | none => false
def okMs (f : Nat) (R : MsF) (k : Int) (s : RS) : Bool := (badS f s k == some false) && notMis (R s.bn s.bρ k) && notMis (R s.en s.eρ k)
theorem notMis_some {o : Option (Int × Bool)} (h : notMis o = true) : ∃ a, o = some (a, false) := by
 unfold notMis at h
 split at h
 ·rename_i a b
  cases b with
  | false => exact ⟨a, rfl⟩
  | true => cases h
 ·cases h
theorem misL_eq {f : Nat} {R : MsF} {n : Nat} {κ : Val} {l k : Int} (h : ∀ j, j < n → okMs f R k (stAt κ j) = true) : ∀ g i, misL f R n κ l k g i = misK n l g i
 | 0, _ => rfl
 | g + 1, i => by
   unfold misL misK
   cases lt i l with
  | false => rfl
  | true =>
    cases hr : inRange i n with
   | false => rfl
   | true =>
     have h1 := h i.toNat (inRange_lt hr)
     simp only [okMs, Bool.and_eq_true, beq_iff_eq] at h1
     obtain ⟨⟨a1, a2⟩, a3⟩ := h1
     obtain ⟨x, a2⟩ := notMis_some a2
     obtain ⟨y, a3⟩ := notMis_some a3
     simp only [cond_true, cond_false, nd, a1, a2, a3, Option.bind]
     exact misL_eq h g _
def chkMs (n : Nat) (c k : Nat) : Bool := !(Nat.blt k n) || okMs 20 (misF 20 19) (toInt64 n) (stAt (V4 c k) 0)
theorem chkMs_all : allB (fun n => all44 (chkMs n)) 5 = true := by kernel_rfl
def misMax : Nat → Bool := fun m => notMis (misK m (toInt64 m) (m + 1) 0)
theorem misMax_all : allB misMax 13 = true := by kernel_rfl
theorem mis_ok {m n : Nat} {κ : Val} (hm : m ≤ 12) (hn : n ≤ 4) (h : Steps m n κ) : ∃ a, misF 20 20 m κ (toInt64 n) = some (a, false) := by
 have e : misF 20 20 m κ (toInt64 n) = misL 20 (misF 20 19) m κ (toInt64 m) (toInt64 n) (m + 1) 0 := rfl
 rw [e, misL_eq fun j hj => ?_]
 ·exact notMis_some (allB_ok misMax_all m (by omega))
 ·obtain ⟨c, k, hc, hk, e⟩ := h.h j hj
  rw [stAt_of e]
  have := all44_ok (allB_ok chkMs_all n (by omega)) hc (Nat.lt_of_lt_of_le hk hn)
  simp only [chkMs, Bool.or_eq_true, Bool.not_eq_true'] at this
  rcases this with h1 | h1
  ·have : Nat.blt k n = true := by unfold Nat.blt; rw [Nat.ble_eq]; exact hk
   rw [this] at h1; cases h1
  ·exact h1
theorem nameTg : nameN wToggles = true ∧ isNameS wToggles = true := ⟨by kernel_rfl, by kernel_rfl⟩
theorem check_ok {m n : Nat} {ρ κ : Val} (hm : m ≤ 12) (hn : n ≤ 4) (h : Steps m n κ) (hs : smallB n ρ = true) (hc : Ro.ckE ⟨n, ρ⟩ = 0) : check0 wToggles m κ n ρ = some (0, 0) := by
 unfold check0 checkS formedS
 obtain ⟨a, b, e1, e2, e3⟩ := cnt_ok hm hn h
 obtain ⟨y, e4⟩ := mis_ok hm hn h
 rw [hs, hc, nameTg.1, nameTg.2, e1, e4, blk_ok hm hn h]
 simp only [e2, e3]
 rfl
def fC (c : Nat) : Nat := 6 + c / 2
def bC (c : Nat) : Bool := Nat.beq (c % 2) 0
structure SitesAre (ρ0 : Val) (F : Nat → Nat → Bool) (ρ : Val) : Prop where
 fix : ∀ j f, f ≠ 6 → f ≠ 7 → (ρ.at j).at f = (ρ0.at j).at f
 fl : ∀ j g, g < 2 → ((ρ.at j).at (6 + g)).B [] = F g j
variable {ρ0 ρ : Val} {F : Nat → Nat → Bool} {n : Nat}
theorem SitesAre.small (h : SitesAre ρ0 F ρ) : smallB n ρ = smallB n ρ0 := by
 unfold smallB
 have : (fun i => Nat.ble (((ρ.at i).at 4).L []) 100000) = fun i => Nat.ble (((ρ0.at i).at 4).L []) 100000 := by
  funext i
  rw [h.fix i 4 (by omega) (by omega)]
 rw [this]
theorem SitesAre.ck (h : SitesAre ρ0 F ρ) : Ro.ckE ⟨n, ρ⟩ = Ro.ckE ⟨n, ρ0⟩ := by
 have hn : ∀ j, (Ro.siAt (ρ.at j)).a = (Ro.siAt (ρ0.at j)).a ∧ (Ro.siAt (ρ.at j)).r = (Ro.siAt (ρ0.at j)).r ∧ (Ro.siAt (ρ.at j)).e = (Ro.siAt (ρ0.at j)).e ∧ Ro.chkS (Ro.siAt (ρ.at j)) = Ro.chkS (Ro.siAt (ρ0.at j)) := by
  intro j
  unfold Ro.siAt Ro.chkS
  simp only [h.fix j 0 (by omega) (by omega), h.fix j 1 (by omega) (by omega), h.fix j 2 (by omega) (by omega), h.fix j 3 (by omega) (by omega), h.fix j 4 (by omega) (by omega), h.fix j 5 (by omega) (by omega)]
  exact ⟨trivial, trivial, trivial, trivial⟩
 have hB : ∀ i, Ro.fndB ⟨n, ρ⟩ (Ro.siAt (ρ.at i)) = Ro.fndB ⟨n, ρ0⟩ (Ro.siAt (ρ0.at i)) := by
  intro i
  funext k
  unfold Ro.fndB Ro.Ses.at
  rw [(hn k).1, (hn i).1]
 have hD : ∀ i, Ro.fndD ⟨n, ρ⟩ (Ro.siAt (ρ.at i)) = Ro.fndD ⟨n, ρ0⟩ (Ro.siAt (ρ0.at i)) := by
  intro i
  funext k
  unfold Ro.fndD Ro.Ses.at
  rw [(hn k).2.1, (hn i).2.1, (hn k).2.2.1, (hn i).2.2.1]
 have h1 : Ro.wrgS ⟨n, ρ⟩ = Ro.wrgS ⟨n, ρ0⟩ := by
  funext i
  unfold Ro.wrgS Ro.Ses.at
  rw [(hn i).2.2.2, hB, hD]
 have h2 : ∀ i, Ro.wrgE ⟨n, ρ⟩ i = Ro.wrgE ⟨n, ρ0⟩ i := by
  intro i
  unfold Ro.wrgE Ro.Ses.at
  rw [(hn i).2.2.2, hB]
 unfold Ro.ckE
 rw [h1, h2]
def updF (F : Nat → Nat → Bool) (c k : Nat) : Nat → Nat → Bool := fun g j => bif Nat.beq g (c / 2) && Nat.beq j k then bC c else F g j
theorem at_upd (a : Val) (i f : Nat) (x : CV) (j g : Nat) : ((a.upds i f [x]).at j).at g = pickV (Nat.beq j i) (pickV (Nat.beq g f) (.ofC x) ((a.at i).at g)) ((a.at j).at g) := by
 show (pickV (Nat.beq j i) (.byFst fun g => pickV (Nat.beq g f) (.ofC x) ((a.at j).at g)) (a.at j)).at g = _
 cases h : Nat.beq j i with
 | false => rfl
 | true =>
   have := Nat.eq_of_beq_eq_true h
   subst this
   rfl
theorem SitesAre.set (h : SitesAre ρ0 F ρ) {c k : Nat} (hc : c < 4) : SitesAre ρ0 (updF F c k) (ρ.upds k (fC c) [.bool (bC c)]) where
 fix := fun j f h6 h7 => by
  rw [at_upd, ← h.fix j f h6 h7]
  have hf : Nat.beq f (fC c) = false := by
   cases hb : Nat.beq f (fC c) with
   | false => rfl
   | true =>
     have := Nat.eq_of_beq_eq_true hb
     unfold fC at this
     omega
  rw [hf]
  cases hj : Nat.beq j k with
  | false => rfl
  | true =>
    have := Nat.eq_of_beq_eq_true hj
    subst this
    rfl
 fl := fun j g hg => by
  rw [at_upd]
  unfold updF
  rw [← h.fl j g hg]
  have hf : Nat.beq (6 + g) (fC c) = Nat.beq g (c / 2) := by
   unfold fC
   cases hb : Nat.beq g (c / 2) with
   | true =>
     have := Nat.eq_of_beq_eq_true hb
     rw [this]
     exact Nat.beq_refl _
   | false =>
     cases hb2 : Nat.beq (6 + g) (6 + c / 2) with
    | false => rfl
    | true =>
      have := Nat.eq_of_beq_eq_true hb2
      have : g = c / 2 := by omega
      rw [this, Nat.beq_refl] at hb
      cases hb
  rw [hf]
  cases hj : Nat.beq j k with
  | false => cases Nat.beq g (c / 2) <;> rfl
  | true =>
    have := Nat.eq_of_beq_eq_true hj
    subst this
    cases Nat.beq g (c / 2) <;> rfl
theorem op_eq (n : Nat) (ρ : Val) : ∀ c k, c < 4 → k < 4 → operateS noFo n ρ 2 (stAt (V4 c k) 0).wρ = nd (smallB n ρ) (flagS n ρ k (fC c) (bC c))
 | 0, 0, _, _ => by kernel_rfl
 | 0, 1, _, _ => by kernel_rfl
 | 0, 2, _, _ => by kernel_rfl
 | 0, 3, _, _ => by kernel_rfl
 | 1, 0, _, _ => by kernel_rfl
 | 1, 1, _, _ => by kernel_rfl
 | 1, 2, _, _ => by kernel_rfl
 | 1, 3, _, _ => by kernel_rfl
 | 2, 0, _, _ => by kernel_rfl
 | 2, 1, _, _ => by kernel_rfl
 | 2, 2, _, _ => by kernel_rfl
 | 2, 3, _, _ => by kernel_rfl
 | 3, 0, _, _ => by kernel_rfl
 | 3, 1, _, _ => by kernel_rfl
 | 3, 2, _, _ => by kernel_rfl
 | 3, 3, _, _ => by kernel_rfl
 | c + 4, _, h, _ => by omega
 | 0, k + 4, _, h => by omega
 | 1, k + 4, _, h => by omega
 | 2, k + 4, _, h => by omega
 | 3, k + 4, _, h => by omega
theorem op_ok (h : SitesAre ρ0 F ρ) (hs : smallB n ρ0 = true) (hk0 : Ro.ckE ⟨n, ρ0⟩ = 0) {c k : Nat} (hc : c < 4) (hk : k < n) (hn : n ≤ 4) :
  operateS noFo n ρ 2 (stAt (V4 c k) 0).wρ = some (0, ρ.upds k (fC c) [.bool (bC c)]) := by
 rw [op_eq n ρ c k hc (by omega), h.small, hs]
 unfold nd flagS finS
 have hr : inRange (k : Int) n = true := by
  unfold inRange le lt toInt64
  simp
  omega
 have h2 := h.set (k := k) hc
 rw [hr]
 simp only [cond_true, Int.toNat_natCast]
 rw [h2.small, h2.ck, hs, hk0]
 rfl
theorem eqSL_ok (hn : n ≤ 1000) (hs : smallB n ρ = true) (h : ∀ j, j < n → samS (ρ.at j) (ρ0.at j) = true) : ∀ f (i : Nat), n + 1 ≤ f + i → i ≤ n → eqSL n ρ n ρ0 (toInt64 n) f (i : Int) = some true
 | 0, i, h1, h2 => by omega
 | f + 1, i, h1, h2 => by
   unfold eqSL
   rcases Nat.lt_or_ge i n with hi | hi
   ·have e1 : lt (i : Int) (toInt64 n) = true := by unfold lt toInt64; simp; exact hi
    have e2 : inRange (i : Int) n = true := by unfold inRange le lt toInt64; simp; omega
    have e3 : fewB (((ρ.at i).at 4).L []) = true := by
     unfold smallB at hs
     rw [Bool.and_eq_true] at hs
     exact allB_ok hs.2 i hi
    have e4 : IntKind.wrap .i64 ((i : Int) + 1) = ((i + 1 : Nat) : Int) := by rw [Ro.w64_id (by omega) (by omega)]; omega
    rw [e1, e2, e4]
    simp only [nd, cond_true, Int.toNat_natCast, e3, h i hi, Bool.not_true, cond_false]
    exact eqSL_ok hn hs h f (i + 1) (by omega) (by omega)
   ·have e1 : lt (i : Int) (toInt64 n) = false := by unfold lt toInt64; simp; omega
    rw [e1]
    rfl
theorem same_ok (h : SitesAre ρ0 F ρ) (hn : n ≤ 4) (hs : smallB n ρ0 = true) (hF : ∀ j g, g < 2 → F g j = ((ρ0.at j).at (6 + g)).B []) : eqSS n ρ n ρ0 = some true := by
 unfold eqSS
 have e : (toInt64 n != toInt64 n) = false := by simp
 rw [e]
 have hs' : smallB n ρ = true := by rw [h.small, hs]
 refine eqSL_ok (by omega) hs' (fun j hj => ?_) (n + 1) 0 (by omega) (by omega)
 unfold samS
 have f6 := h.fl j 0 (by omega)
 have f7 := h.fl j 1 (by omega)
 rw [hF j 0 (by omega)] at f6
 rw [hF j 1 (by omega)] at f7
 rw [h.fix j 0 (by omega) (by omega), h.fix j 1 (by omega) (by omega), h.fix j 2 (by omega) (by omega), h.fix j 3 (by omega) (by omega), h.fix j 4 (by omega) (by omega), h.fix j 5 (by omega) (by omega), f6, f7]
 simp only [beq_self_eq_true, Ro.eqL_self, Bool.and_self]
def lineC (c k : Nat) : ByteArray := lineW (onC c) (siteW k)
abbrev stV (c k : Nat) : RS := stAt (V4 c k) 0
theorem join_eq : ∀ c k, c < 4 → k < 4 → joinS 3 (Val.cat 1 (row1 wDo) (stV c k).wρ) spc = lineC c k
 | 0, 0, _, _ => by kernel_rfl
 | 0, 1, _, _ => by kernel_rfl
 | 0, 2, _, _ => by kernel_rfl
 | 0, 3, _, _ => by kernel_rfl
 | 1, 0, _, _ => by kernel_rfl
 | 1, 1, _, _ => by kernel_rfl
 | 1, 2, _, _ => by kernel_rfl
 | 1, 3, _, _ => by kernel_rfl
 | 2, 0, _, _ => by kernel_rfl
 | 2, 1, _, _ => by kernel_rfl
 | 2, 2, _, _ => by kernel_rfl
 | 2, 3, _, _ => by kernel_rfl
 | 3, 0, _, _ => by kernel_rfl
 | 3, 1, _, _ => by kernel_rfl
 | 3, 2, _, _ => by kernel_rfl
 | 3, 3, _, _ => by kernel_rfl
 | c + 4, _, h, _ => by omega
 | 0, k + 4, _, h => by omega
 | 1, k + 4, _, h => by omega
 | 2, k + 4, _, h => by omega
 | 3, k + 4, _, h => by omega
theorem joinC_eq : ∀ c k, c < 4 → k < 4 → joinC 3 (Val.cat 1 (row1 wDo) (stV c k).wρ) spc = true
 | 0, 0, _, _ => by kernel_rfl
 | 0, 1, _, _ => by kernel_rfl
 | 0, 2, _, _ => by kernel_rfl
 | 0, 3, _, _ => by kernel_rfl
 | 1, 0, _, _ => by kernel_rfl
 | 1, 1, _, _ => by kernel_rfl
 | 1, 2, _, _ => by kernel_rfl
 | 1, 3, _, _ => by kernel_rfl
 | 2, 0, _, _ => by kernel_rfl
 | 2, 1, _, _ => by kernel_rfl
 | 2, 2, _, _ => by kernel_rfl
 | 2, 3, _, _ => by kernel_rfl
 | 3, 0, _, _ => by kernel_rfl
 | 3, 1, _, _ => by kernel_rfl
 | 3, 2, _, _ => by kernel_rfl
 | 3, 3, _, _ => by kernel_rfl
 | c + 4, _, h, _ => by omega
 | 0, k + 4, _, h => by omega
 | 1, k + 4, _, h => by omega
 | 2, k + 4, _, h => by omega
 | 3, k + 4, _, h => by omega
theorem undo_eq : ∀ c k, c < 4 → k < 4 → strCat wUndoDo (joinS 2 (stV c k).wρ spc) = strCat wUndoS (lineC c k)
 | 0, 0, _, _ => by kernel_rfl
 | 0, 1, _, _ => by kernel_rfl
 | 0, 2, _, _ => by kernel_rfl
 | 0, 3, _, _ => by kernel_rfl
 | 1, 0, _, _ => by kernel_rfl
 | 1, 1, _, _ => by kernel_rfl
 | 1, 2, _, _ => by kernel_rfl
 | 1, 3, _, _ => by kernel_rfl
 | 2, 0, _, _ => by kernel_rfl
 | 2, 1, _, _ => by kernel_rfl
 | 2, 2, _, _ => by kernel_rfl
 | 2, 3, _, _ => by kernel_rfl
 | 3, 0, _, _ => by kernel_rfl
 | 3, 1, _, _ => by kernel_rfl
 | 3, 2, _, _ => by kernel_rfl
 | 3, 3, _, _ => by kernel_rfl
 | c + 4, _, h, _ => by omega
 | 0, k + 4, _, h => by omega
 | 1, k + 4, _, h => by omega
 | 2, k + 4, _, h => by omega
 | 3, k + 4, _, h => by omega
theorem undoC_eq : ∀ c k, c < 4 → k < 4 → joinC 2 (stV c k).wρ spc = true
 | 0, 0, _, _ => by kernel_rfl
 | 0, 1, _, _ => by kernel_rfl
 | 0, 2, _, _ => by kernel_rfl
 | 0, 3, _, _ => by kernel_rfl
 | 1, 0, _, _ => by kernel_rfl
 | 1, 1, _, _ => by kernel_rfl
 | 1, 2, _, _ => by kernel_rfl
 | 1, 3, _, _ => by kernel_rfl
 | 2, 0, _, _ => by kernel_rfl
 | 2, 1, _, _ => by kernel_rfl
 | 2, 2, _, _ => by kernel_rfl
 | 2, 3, _, _ => by kernel_rfl
 | 3, 0, _, _ => by kernel_rfl
 | 3, 1, _, _ => by kernel_rfl
 | 3, 2, _, _ => by kernel_rfl
 | 3, 3, _, _ => by kernel_rfl
 | c + 4, _, h, _ => by omega
 | 0, k + 4, _, h => by omega
 | 1, k + 4, _, h => by omega
 | 2, k + 4, _, h => by omega
 | 3, k + 4, _, h => by omega
theorem undoZ_eq : ∀ c k, c < 4 → k < 4 → Nat.ble (wUndoDo.size + (joinS 2 (stV c k).wρ spc).size) 9223372036854775807 = true
 | 0, 0, _, _ => by kernel_rfl
 | 0, 1, _, _ => by kernel_rfl
 | 0, 2, _, _ => by kernel_rfl
 | 0, 3, _, _ => by kernel_rfl
 | 1, 0, _, _ => by kernel_rfl
 | 1, 1, _, _ => by kernel_rfl
 | 1, 2, _, _ => by kernel_rfl
 | 1, 3, _, _ => by kernel_rfl
 | 2, 0, _, _ => by kernel_rfl
 | 2, 1, _, _ => by kernel_rfl
 | 2, 2, _, _ => by kernel_rfl
 | 2, 3, _, _ => by kernel_rfl
 | 3, 0, _, _ => by kernel_rfl
 | 3, 1, _, _ => by kernel_rfl
 | 3, 2, _, _ => by kernel_rfl
 | 3, 3, _, _ => by kernel_rfl
 | c + 4, _, h, _ => by omega
 | 0, k + 4, _, h => by omega
 | 1, k + 4, _, h => by omega
 | 2, k + 4, _, h => by omega
 | 3, k + 4, _, h => by omega
theorem undoY_eq : ∀ c k, c < 4 → k < 4 → Nat.ble (wUndoS.size + (lineC c k).size) 9223372036854775807 = true
 | 0, 0, _, _ => by kernel_rfl
 | 0, 1, _, _ => by kernel_rfl
 | 0, 2, _, _ => by kernel_rfl
 | 0, 3, _, _ => by kernel_rfl
 | 1, 0, _, _ => by kernel_rfl
 | 1, 1, _, _ => by kernel_rfl
 | 1, 2, _, _ => by kernel_rfl
 | 1, 3, _, _ => by kernel_rfl
 | 2, 0, _, _ => by kernel_rfl
 | 2, 1, _, _ => by kernel_rfl
 | 2, 2, _, _ => by kernel_rfl
 | 2, 3, _, _ => by kernel_rfl
 | 3, 0, _, _ => by kernel_rfl
 | 3, 1, _, _ => by kernel_rfl
 | 3, 2, _, _ => by kernel_rfl
 | 3, 3, _, _ => by kernel_rfl
 | c + 4, _, h, _ => by omega
 | 0, k + 4, _, h => by omega
 | 1, k + 4, _, h => by omega
 | 2, k + 4, _, h => by omega
 | 3, k + 4, _, h => by omega
variable {ρ0 : Val} {F : Nat → Nat → Bool} {n : Nat}
def boxU (c k : Nat) : Val := Val.ofFlat 1 [.sl (rtab 1) 1 (stV c k).bρ]
def fwdX (c k : Nat) (x : RU) : RU := ⟨x.sn, x.sρ.upds k (fC c) [.bool (bC c)], x.cn - 1, x.cρ.from 1, x.pn + 1, Val.cat x.pn x.pρ (row1 (lineC c k)), x.kn + 1, Val.cat x.kn x.kρ (boxU c k), IntKind.wrap .i64 (x.bg + 1), x.at_⟩
theorem ble16 {m : Nat} (h : m ≤ 100) : Nat.ble ((m + 1) * 16) 140737488355328 = true := by rw [Nat.ble_eq]; omega
theorem ble24 {m : Nat} (h : m ≤ 100) : Nat.ble ((m + 1) * 24) 140737488355328 = true := by rw [Nat.ble_eq]; omega
theorem bg_ok {b : Int} (h0 : 0 ≤ b) (h1 : b ≤ 100) : lt 4096 (IntKind.wrap .i64 (b + 1)) = false := by
 rw [Ro.w64_id (by omega) (by omega)]
 unfold lt; simp; omega
theorem stop_go {x : RU} (h1 : 0 < x.cn) (h2 : x.cn ≤ 100) {v : Int} (h3 : ((x.cρ.at 0).at 0).N [] = v) : stopS false x = some (v.tmod 2 != 0, { x with cn := x.cn - 1, cρ := x.cρ.from 1 }) := by
 unfold stopS
 have e1 : (toInt64 x.cn == 0) = false := by unfold toInt64; simp; omega
 have e2 : inRange 0 x.cn = true := by unfold inRange le lt toInt64; simp; omega
 have e3 : (le 0 1 && le 1 (toInt64 x.cn)) = true := by unfold le toInt64; simp; omega
 rw [e2, e3, h3]
 simp only [cond_false, e1]
 rfl
theorem fwd_ok {x : RU} (h : SitesAre ρ0 F x.sρ) (hs : smallB n ρ0 = true) (hk0 : Ro.ckE ⟨n, ρ0⟩ = 0) {c k : Nat} (hc : c < 4) (hk : k < n) (hn : n ≤ 4) (e1 : x.sn = n)
  (b0 : 0 ≤ x.bg) (b1 : x.bg ≤ 100) (c0 : 0 < x.cn) (c1 : x.cn ≤ 100) (cv : ((x.cρ.at 0).at 0).N [] = 0) (hp : x.pn ≤ 100) (hq : x.kn ≤ 100) : statS P0 false (stV c k) x = some ((0, .zero, 0), fwdX c k x) := by
 unfold statS
 have e2 : strEq (stV c k).kind wDo = true := by show strEq wDo wDo = true; rfl
 have e3 : begS false x = { x with bg := IntKind.wrap .i64 (x.bg + 1) } := rfl
 have e4 : (stV c k).wn = 2 := rfl
 rw [e3, e2]
 simp only [bg_ok b0 b1, cond_false, cond_true]
 unfold doS
 rw [stop_go (x := { x with bg := IntKind.wrap .i64 (x.bg + 1) }) c0 c1 cv]
 have e5 := op_ok (n := n) h hs hk0 hc hk hn
 simp only [Option.bind, e1, e4]
 show (bif false then _ else _ : Option (Int × RU)).bind _ = _
 simp only [cond_false, P0, e5]
 unfold noteS
 rw [joinC_eq c k hc (by omega), join_eq c k hc (by omega)]
 have p1 := ble16 hp
 have p2 := ble24 hq
 have p3 : Nat.ble ((1 + 2) * 16) 140737488355328 = true := rfl
 simp only [nd, cond_true, cond_false, nk, putSites, addNote, p1, p2, p3, bne_self_eq_false, beq_self_eq_true, Bool.not_false, addCar]
 have e6 : (stV c k).bn = 1 := rfl
 rw [e6, ← e1]
 rfl
theorem stopped_ok {x : RU} {c k : Nat} (b0 : 0 ≤ x.bg) (b1 : x.bg ≤ 100) (c0 : 0 < x.cn) (c1 : x.cn ≤ 100) (cv : ((x.cρ.at 0).at 0).N [] = 1) :
  statS P0 false (stV c k) x = some ((0, .zero, 29), ⟨x.sn, x.sρ, x.cn - 1, x.cρ.from 1, x.pn, x.pρ, x.kn, x.kρ, IntKind.wrap .i64 (x.bg + 1), x.at_⟩) := by
 unfold statS
 have e2 : strEq (stV c k).kind wDo = true := by show strEq wDo wDo = true; rfl
 have e3 : begS false x = { x with bg := IntKind.wrap .i64 (x.bg + 1) } := rfl
 rw [e3, e2]
 simp only [bg_ok b0 b1, cond_false, cond_true]
 unfold doS
 rw [stop_go (x := { x with bg := IntKind.wrap .i64 (x.bg + 1) }) c0 c1 cv]
 rfl
def flipC : Nat → Nat
 | 0 => 1
 | 1 => 0
 | 2 => 3
 | _ => 2
theorem flip_lt {c : Nat} (hc : c < 4) : flipC c < 4 ∧ flipC c / 2 = c / 2 ∧ bC (flipC c) = !(bC c) ∧ onC (flipC c) = offC c := by
 match c, hc with
 | 0, _ => exact ⟨by decide, rfl, rfl, rfl⟩
 | 1, _ => exact ⟨by decide, rfl, rfl, rfl⟩
 | 2, _ => exact ⟨by decide, rfl, rfl, rfl⟩
 | 3, _ => exact ⟨by decide, rfl, rfl, rfl⟩
def undX (c k : Nat) (x : RU) : RU := ⟨x.sn, x.sρ.upds k (fC (flipC c)) [.bool (bC (flipC c))], x.cn, x.cρ, x.pn + 1, Val.cat x.pn x.pρ (row1 (strCat wUndoS (lineC (flipC c) k))), 0, .zero, IntKind.wrap .i64 (x.bg + 1), x.at_⟩
abbrev stU (c k : Nat) : RS := stAt (undoV (offC c) (siteW k)) 0
theorem stU_w {c k : Nat} (hc : c < 4) : (stU c k).wρ = (stV (flipC c) k).wρ := by
 have := (flip_lt hc).2.2.2
 show Val.ofC (.sl [.str] 2 (two2 (offC c) (siteW k))) = Val.ofC (.sl [.str] 2 (two2 (onC (flipC c)) (siteW k)))
 rw [this]
theorem und_ok {x : RU} (h : SitesAre ρ0 F x.sρ) (hs : smallB n ρ0 = true) (hk0 : Ro.ckE ⟨n, ρ0⟩ = 0) {c k : Nat} (hc : c < 4) (hk : k < n) (hn : n ≤ 4) (e1 : x.sn = n)
  (b0 : 0 ≤ x.bg) (b1 : x.bg ≤ 100) (hp : x.pn ≤ 100) : statS P0 true (stU c k) x = some ((0, .zero, 0), undX c k x) := by
 have hf := (flip_lt hc).1
 unfold statS
 have e2 : strEq (stU c k).kind wDo = true := by show strEq wDo wDo = true; rfl
 have e3 : begS true x = { x with bg := IntKind.wrap .i64 (x.bg + 1), kn := 0, kρ := .zero } := rfl
 have e4 : (stU c k).wn = 2 := rfl
 rw [e3, e2]
 simp only [bg_ok b0 b1, cond_false, cond_true]
 unfold doS stopS
 have e5 := op_ok (n := n) h hs hk0 hf hk hn
 simp only [cond_true, Option.bind, e1, e4, stU_w hc, cond_false, P0, e5]
 unfold noteS
 rw [joinC_eq _ k hf (by omega), join_eq _ k hf (by omega)]
 have p1 := ble16 hp
 have p3 : Nat.ble ((1 + 2) * 16) 140737488355328 = true := rfl
 simp only [nd, cond_true, cond_false, nk, putSites, addNote, p1, p3, undoY_eq _ k hf (by omega), bne_self_eq_false, beq_self_eq_true, Bool.not_true]
 rw [← e1]
 rfl
abbrev B19 : BF := blockF P0 19
theorem inner0 {u : Bool} {B : BF} {x : RU} : innerS u B 0 .zero (toInt64 0) 1 0 x = some (0, nk u x) := rfl
theorem undB_ok {x : RU} {κ : Val} {c k : Nat} (hκ : κ.at 0 = (undoV (offC c) (siteW k)).at 0) (h : SitesAre ρ0 F x.sρ) (hs : smallB n ρ0 = true) (hk0 : Ro.ckE ⟨n, ρ0⟩ = 0) (hc : c < 4) (hk : k < n) (hn : n ≤ 4) (e1 : x.sn = n)
  (b0 : 0 ≤ x.bg) (b1 : x.bg ≤ 100) (hp : x.pn ≤ 100) : block0 true 1 κ x = some (0, undX c k x) := by
 have e : block0 true 1 κ x = outerS P0 true B19 1 κ (toInt64 1) 2 0 x := rfl
 rw [e]
 unfold outerS
 have e2 : stAt κ (0 : Int).toNat = stU c k := stAt_of hκ
 have e3 : lt 0 (toInt64 1) = true := rfl
 have e4 : inRange 0 1 = true := rfl
 have e5 := und_ok (x := nk true x) h hs hk0 hc hk hn e1 b0 b1 hp
 rw [e2, e3, e4]
 simp only [nd, cond_true, e5, Option.bind, bne_self_eq_false, cond_false]
 rfl
structure Book4 (m n : Nat) (κ : Val) (F0 : Nat → Nat → Bool) where
 c : Nat → Nat
 k : Nat → Nat
 Fs : Nat → Nat → Nat → Bool
 hc : ∀ j, j < m → c j < 4
 hk : ∀ j, j < m → k j < n
 at_ : ∀ j, j < m → κ.at j = (V4 (c j) (k j)).at 0
 f0 : Fs 0 = F0
 fs : ∀ j, j < m → Fs (j + 1) = updF (Fs j) (c j) (k j)
 off : ∀ j, j < m → Fs j (c j / 2) (k j) = !bC (c j)
variable {m n q : Nat} {κ ρ0 : Val} {F0 : Nat → Nat → Bool}
theorem Book4.steps (b : Book4 m n κ F0) : Steps m n κ := ⟨fun j hj => ⟨b.c j, b.k j, b.hc j hj, b.hk j hj, b.at_ j hj⟩⟩
structure Fw (b : Book4 m n κ F0) (ρ0 : Val) (q i : Nat) (x : RU) : Prop where
 sn : x.sn = n
 si : SitesAre ρ0 (b.Fs i) x.sρ
 bg : x.bg = (i : Int)
 cn : x.cn + i = q + 1
 cv : ∀ j, j + i ≤ q → ((x.cρ.at j).at 0).N [] = if j + i = q then 1 else 0
 pn : x.pn = i
 pv : ∀ j, j < i → wd x.pρ j = lineC (b.c j) (b.k j)
 kn : x.kn = i
 kv : ∀ j, j < i → blkN x.kρ (j : Int) = 1 ∧ (blkD x.kρ (j : Int)).at 0 = (undoV (offC (b.c j)) (siteW (b.k j))).at 0
 a0 : x.at_ = 0
theorem wd_cat {p : Nat} {a b : Val} {j : Nat} : wd (Val.cat p a b) j = bif Nat.blt j p then wd a j else wd b (j - p) := by
 show ((pickV (Nat.blt j p) (a.at j) (b.at (j - p))).at 0).S [] = _
 cases Nat.blt j p <;> rfl
theorem blt_t {a b : Nat} (h : a < b) : Nat.blt a b = true := by unfold Nat.blt; rw [Nat.ble_eq]; exact h
theorem blt_f {a b : Nat} (h : b ≤ a) : Nat.blt a b = false := by
 cases hb : Nat.blt a b with
 | false => rfl
 | true => unfold Nat.blt at hb; rw [Nat.ble_eq] at hb; omega
theorem wd_old {p : Nat} {a : Val} {w : ByteArray} {j : Nat} (h : j < p) : wd (Val.cat p a (row1 w)) j = wd a j := by rw [wd_cat, blt_t h]; rfl
theorem wd_new {p : Nat} {a : Val} {w : ByteArray} : wd (Val.cat p a (row1 w)) p = w := by rw [wd_cat, blt_f (Nat.le_refl p), Nat.sub_self]; rfl
theorem cat_at_old {p : Nat} {a b : Val} {j : Nat} (h : j < p) : (Val.cat p a b).at j = a.at j := by
 show pickV (Nat.blt j p) (a.at j) (b.at (j - p)) = _
 rw [blt_t h]; rfl
theorem cat_at_new {p : Nat} {a b : Val} : (Val.cat p a b).at p = b.at 0 := by
 show pickV (Nat.blt p p) (a.at p) (b.at (p - p)) = _
 rw [blt_f (Nat.le_refl p), Nat.sub_self]; rfl
theorem Fw.next {b : Book4 m n κ F0} {i : Nat} {x : RU} (h : Fw b ρ0 q i x) (hi : i < m) (hq : i < q) (hm : m ≤ 12) : Fw b ρ0 q (i + 1) (fwdX (b.c i) (b.k i) x) where
 sn := h.sn
 si := by
  rw [b.fs i hi]
  exact h.si.set (b.hc i hi)
 bg := by
  show IntKind.wrap .i64 (x.bg + 1) = _
  rw [h.bg, Ro.w64_id (by omega) (by omega)]
  omega
 cn := by
  have := h.cn
  show x.cn - 1 + (i + 1) = q + 1
  omega
 cv := fun j hj => by
  show ((x.cρ.at (1 + j)).at 0).N [] = _
  rw [h.cv (1 + j) (by omega)]
  have : (1 + j + i = q) = (j + (i + 1) = q) := by rw [show 1 + j + i = j + (i + 1) by omega]
  simp only [this]
 pn := by show x.pn + 1 = i + 1; rw [h.pn]
 pv := fun j hj => by
  show wd (Val.cat x.pn x.pρ _) j = _
  rcases Nat.lt_or_ge j i with h1 | h1
  ·rw [wd_old (by rw [h.pn]; exact h1), h.pv j h1]
  ·have : j = i := by omega
   subst this
   rw [← h.pn, wd_new, h.pn]
 kn := by show x.kn + 1 = i + 1; rw [h.kn]
 kv := fun j hj => by
  show (((Val.cat x.kn x.kρ (boxU (b.c i) (b.k i))).at (j : Int).toNat).at 0).L [] = 1 ∧ (((Val.cat x.kn x.kρ (boxU (b.c i) (b.k i))).at (j : Int).toNat).at 0).at 0 = _
  rw [Int.toNat_natCast]
  rcases Nat.lt_or_ge j i with h1 | h1
  ·rw [cat_at_old (by rw [h.kn]; exact h1)]
   exact h.kv j h1
  ·have : j = i := by omega
   subst this
   rw [← h.kn, cat_at_new, h.kn]
   exact ⟨rfl, rfl⟩
 a0 := h.a0
structure Bw (b : Book4 m n κ F0) (ρ0 : Val) (q : Nat) (x : RU) : Prop where
 sn : x.sn = n
 si : SitesAre ρ0 (b.Fs q) x.sρ
 pn : x.pn = q + 1
 pv : ∀ j, j < q → wd x.pρ j = lineC (b.c j) (b.k j)
 pf : wd x.pρ q = wFailDo4
 kn : x.kn = q
 kv : ∀ j, j < q → blkN x.kρ (j : Int) = 1 ∧ (blkD x.kρ (j : Int)).at 0 = (undoV (offC (b.c j)) (siteW (b.k j))).at 0
theorem fail_join : joinS 2 (failV wDo) spc = wFailDo4 := by kernel_rfl
theorem fail_joinC : joinC 2 (failV wDo) spc = true := by kernel_rfl
theorem noteF {x : RU} (h : x.pn ≤ 100) : noteS false 2 (failV wDo) x = some ((), addNote x wFailDo4) := by
 unfold noteS
 rw [fail_join, fail_joinC]
 simp only [nd, cond_true, cond_false, ble16 h]
theorem fwd_all {b : Book4 m n κ F0} (hm : m ≤ 12) (hn : n ≤ 4) (hs : smallB n ρ0 = true) (hk0 : Ro.ckE ⟨n, ρ0⟩ = 0) (hqm : q ≤ m) : ∀ f i x, Fw b ρ0 q i x → i ≤ q → m + 1 ≤ f + i →
  ∃ y, outerS P0 false B19 m κ (toInt64 m) f (i : Int) x = some (bif Nat.beq q m then 0 else 29, y) ∧ ((q = m → Fw b ρ0 q m y) ∧ (q < m → Bw b ρ0 q y))
 | 0, i, x, h, h1, h2 => by omega
 | f + 1, i, x, h, h1, h2 => by
   unfold outerS
   rcases Nat.lt_or_ge i m with hi | hi
   ·have e1 : lt (i : Int) (toInt64 m) = true := by unfold lt toInt64; simp; exact hi
    have e2 : inRange (i : Int) m = true := by unfold inRange le lt toInt64; simp; omega
    have e3 : stAt κ (i : Int).toNat = stV (b.c i) (b.k i) := stAt_of (by rw [Int.toNat_natCast]; exact b.at_ i hi)
    have hb0 : 0 ≤ x.bg := by rw [h.bg]; omega
    have hb1 : x.bg ≤ 100 := by rw [h.bg]; omega
    have hcn := h.cn
    have hpn := h.pn
    have hkn := h.kn
    rw [e1, e2, e3]
    rcases Nat.lt_or_ge i q with hq | hq
    ·have cv := h.cv 0 (by omega)
     rw [if_neg (by omega)] at cv
     have e4 := fwd_ok (x := nk false x) h.si hs hk0 (b.hc i hi) (b.hk i hi) hn h.sn hb0 hb1 (by show 0 < x.cn; omega) (by show x.cn ≤ 100; omega) cv (by show x.pn ≤ 100; omega) (by show x.kn ≤ 100; omega)
     have e5 : IntKind.wrap .i64 ((i : Int) + 1) = ((i + 1 : Nat) : Int) := by rw [Ro.w64_id (by omega) (by omega)]; omega
     obtain ⟨y, h3, h4⟩ := fwd_all (b := b) hm hn hs hk0 hqm f (i + 1) (fwdX (b.c i) (b.k i) x) (h.next hi hq hm) (by omega) (by omega)
     refine ⟨y, ?_, h4⟩
     rw [← h3, ← e5]
     simp only [nd, cond_true, e4, Option.bind, bne_self_eq_false, cond_false]
     rfl
    ·have hqi : q = i := by omega
     subst hqi
     have cv := h.cv 0 (by omega)
     rw [if_pos (by omega)] at cv
     have e4 := stopped_ok (x := nk false x) (c := b.c q) (k := b.k q) hb0 hb1 (by show 0 < x.cn; omega) (by show x.cn ≤ 100; omega) cv
     have e5 : (stV (b.c q) (b.k q)).kind = wDo := rfl
     have e6 : ((29 : Int) != 0) = true := rfl
     have e7 : Nat.beq q m = false := by
      cases hb : Nat.beq q m with
      | false => rfl
      | true => have := Nat.eq_of_beq_eq_true hb; omega
     simp only [nd, cond_true, e4, Option.bind, e6, e5, e7, cond_false]
     rw [noteF (by show x.pn ≤ 100; omega)]
     refine ⟨_, rfl, fun h => by omega, fun _ => ?_⟩
     refine ⟨h.sn, h.si, ?_, fun j hj => ?_, ?_, h.kn, h.kv⟩
     ·show x.pn + 1 = q + 1
      rw [h.pn]
     ·show wd (Val.cat x.pn x.pρ (row1 wFailDo4)) j = _
      rw [wd_old (by omega)]
      exact h.pv j hj
     ·show wd (Val.cat x.pn x.pρ (row1 wFailDo4)) q = _
      rw [h.pn, wd_new]
   ·have hqm' : q = m := by omega
    have him : i = m := by omega
    subst hqm'
    subst him
    have e1 : lt (i : Int) (toInt64 i) = false := by unfold lt toInt64; simp
    rw [e1, Nat.beq_refl]
    exact ⟨_, rfl, fun _ => h, fun h => by omega⟩
end Go.Proofs.YtiefjlcakpdfeaaGreat
namespace Go.Proofs.YtiefjlcakpdfeaaGreat
open Go Go.Sx Go.RowKit Rb
set_option maxRecDepth 100000
variable {m n q : Nat} {κ ρ0 : Val} {F0 : Nat → Nat → Bool}
def uLine (b : Book4 m n κ F0) (j : Nat) : ByteArray := strCat wUndoS (lineC (flipC (b.c j)) (b.k j))
structure Un (b : Book4 m n κ F0) (ρ0 : Val) (q t : Nat) (x : RU) : Prop where
 sn : x.sn = n
 si : SitesAre ρ0 (b.Fs (q - t)) x.sρ
 bg : x.bg = (t : Int)
 pn : x.pn = q + 1 + t
 pv : ∀ j, j < q → wd x.pρ j = lineC (b.c j) (b.k j)
 pf : wd x.pρ q = wFailDo4
 pu : ∀ s, s < t → wd x.pρ (q + 1 + s) = uLine b (q - 1 - s)
theorem flag_back (b : Book4 m n κ F0) {i : Nat} (hi : i < m) : updF (b.Fs (i + 1)) (flipC (b.c i)) (b.k i) = b.Fs i := by
 have hc := flip_lt (b.hc i hi)
 have ho := b.off i hi
 rw [b.fs i hi]
 funext g j
 unfold updF
 rw [hc.2.1, hc.2.2.1]
 cases hb : Nat.beq g (b.c i / 2) && Nat.beq j (b.k i) with
 | false => rfl
 | true =>
   rw [Bool.and_eq_true] at hb
   rw [Nat.eq_of_beq_eq_true hb.1, Nat.eq_of_beq_eq_true hb.2, ho]
   rfl
theorem Un.next {b : Book4 m n κ F0} {t : Nat} {x : RU} (h : Un b ρ0 q t x) (ht : t < q) (hq : q ≤ m) (hm : m ≤ 12) : Un b ρ0 q (t + 1) (nk true (undX (b.c (q - 1 - t)) (b.k (q - 1 - t)) x)) where
 sn := h.sn
 si := by
  have e1 : q - t = q - 1 - t + 1 := by omega
  have e2 : q - (t + 1) = q - 1 - t := by omega
  rw [e2, ← flag_back b (by omega : q - 1 - t < m), ← e1]
  exact h.si.set (flip_lt (b.hc _ (by omega))).1
 bg := by
  show IntKind.wrap .i64 (x.bg + 1) = _
  rw [h.bg, Ro.w64_id (by omega) (by omega)]
  omega
 pn := by show x.pn + 1 = _; rw [h.pn]; omega
 pv := fun j hj => by
  show wd (Val.cat x.pn x.pρ (row1 _)) j = _
  rw [wd_old (by rw [h.pn]; omega)]
  exact h.pv j hj
 pf := by
  show wd (Val.cat x.pn x.pρ (row1 _)) q = _
  rw [wd_old (by rw [h.pn]; omega)]
  exact h.pf
 pu := fun s hs => by
  show wd (Val.cat x.pn x.pρ (row1 _)) (q + 1 + s) = _
  rcases Nat.lt_or_ge s t with h1 | h1
  ·rw [wd_old (by rw [h.pn]; omega)]
   exact h.pu s h1
  ·have : s = t := by omega
   subst this
   rw [← h.pn, wd_new]
   rfl
theorem undo_all {b : Book4 m n κ F0} (hm : m ≤ 12) (hn : n ≤ 4) (hs : smallB n ρ0 = true) (hk0 : Ro.ckE ⟨n, ρ0⟩ = 0) (hqm : q ≤ m) {kρ : Val}
  (kv : ∀ j, j < q → blkN kρ (j : Int) = 1 ∧ (blkD kρ (j : Int)).at 0 = (undoV (offC (b.c j)) (siteW (b.k j))).at 0) : ∀ r f t x, Un b ρ0 q t x → t + r = q → r + 1 ≤ f →
  ∃ y, undoS block0 q kρ f ((r : Int) - 1) x = some y ∧ Un b ρ0 q q y
 | _, 0, _, _, _, _, h => by omega
 | 0, f + 1, t, x, h, h1, h2 => by
   unfold undoS
   have : t = q := by omega
   subst this
   refine ⟨nk true x, rfl, ?_⟩
   exact ⟨h.sn, h.si, h.bg, h.pn, h.pv, h.pf, h.pu⟩
 | r + 1, f + 1, t, x, h, h1, h2 => by
   unfold undoS
   have e0 : (((r + 1 : Nat) : Int) - 1) = (r : Int) := by omega
   have e1 : le 0 (r : Int) = true := by unfold le; simp
   have e2 : inRange (r : Int) q = true := by unfold inRange le lt toInt64; simp; omega
   have e3 : q - 1 - t = r := by omega
   obtain ⟨k1, k2⟩ := kv r (by omega)
   have e4 := undB_ok (x := nk true x) k2 h.si hs hk0 (b.hc r (by omega)) (b.hk r (by omega)) hn h.sn (by show 0 ≤ x.bg; rw [h.bg]; omega) (by show x.bg ≤ 100; rw [h.bg]; omega) (by show x.pn ≤ 100; rw [h.pn]; omega)
   have hnx := h.next (by omega) hqm hm
   rw [e3] at hnx
   obtain ⟨y, h3, h4⟩ := undo_all hm hn hs hk0 hqm kv r f (t + 1) _ hnx (by omega) (by omega)
   refine ⟨y, ?_, h4⟩
   have e5 : IntKind.wrap .i64 ((r : Int) - 1) = (r : Int) - 1 := Ro.w64_id (by omega) (by omega)
   rw [e0, e1, e2, k1]
   simp only [nd, cond_true, e4, Option.bind, e5]
   exact h3
theorem fw0 (b : Book4 m n κ F0) (hF : ∀ j g, g < 2 → ((ρ0.at j).at (6 + g)).B [] = F0 g j) (q : Nat) : Fw b ρ0 q 0 (iniR n ρ0 (q + 1) (τ4 (q : Int))) where
 sn := rfl
 si := by
  rw [b.f0]
  exact ⟨fun _ _ _ _ => rfl, hF⟩
 bg := rfl
 cn := rfl
 cv := fun j hj => by
  show (((τ4 (q : Int)).at j).at 0).N [] = _
  unfold τ4
  rw [Int.toNat_natCast]
  rcases Nat.lt_or_ge j q with h1 | h1
  ·rw [cat_at_old h1, if_neg (by omega)]
   rfl
  ·have : j = q := by omega
   subst this
   rw [cat_at_new, if_pos (by omega)]
   rfl
 pn := rfl
 pv := fun j hj => by omega
 kn := rfl
 kv := fun j hj => by omega
 a0 := rfl
theorem run_all (b : Book4 m n κ F0) (hF : ∀ j g, g < 2 → ((ρ0.at j).at (6 + g)).B [] = F0 g j) (hm : m ≤ 12) (hn : n ≤ 4) (hs : smallB n ρ0 = true) (hk0 : Ro.ckE ⟨n, ρ0⟩ = 0) :
  ∃ r, run0 wToggles m κ n ρ0 (m + 1) (τ4 (m : Int)) = some r ∧ r.e = 0 ∧ r.sn = n ∧ r.pn = m ∧ ∀ j, j < m → wd r.pρ j = lineC (b.c j) (b.k j) := by
 obtain ⟨y, h1, h2, _⟩ := fwd_all (b := b) hm hn hs hk0 (Nat.le_refl m) (m + 1) 0 _ (fw0 b hF m) (by omega) (by omega)
 have h2 := h2 rfl
 have e1 : block0 false m κ (iniR n ρ0 (m + 1) (τ4 (m : Int))) = some (0, y) := by
  rw [Nat.beq_refl] at h1
  exact h1
 unfold run0 runS
 rw [check_ok hm hn b.steps hs hk0, hs]
 simp only [Option.bind, bne_self_eq_false, cond_false, nd, cond_true, e1, beq_self_eq_true]
 exact ⟨_, rfl, rfl, h2.sn, h2.pn, h2.pv⟩
theorem run_fail (b : Book4 m n κ F0) (hF : ∀ j g, g < 2 → ((ρ0.at j).at (6 + g)).B [] = F0 g j) (hm : m ≤ 12) (hn : n ≤ 4) (hs : smallB n ρ0 = true) (hk0 : Ro.ckE ⟨n, ρ0⟩ = 0) (hq : q < m) :
  ∃ r, run0 wToggles m κ n ρ0 (q + 1) (τ4 (q : Int)) = some r ∧ r.e = 29 ∧ r.sn = n ∧ eqSS n r.sρ n ρ0 = some true ∧ r.pn = q + 1 + q ∧ (∀ j, j < q → wd r.pρ j = lineC (b.c j) (b.k j)) ∧ wd r.pρ q = wFailDo4 ∧
   ∀ s, s < q → wd r.pρ (q + 1 + s) = uLine b (q - 1 - s) := by
 obtain ⟨y, h1, _, h2⟩ := fwd_all (b := b) hm hn hs hk0 (Nat.le_of_lt hq) (m + 1) 0 _ (fw0 b hF q) (by omega) (by omega)
 have h2 := h2 hq
 have e0 : Nat.beq q m = false := by
  cases hb : Nat.beq q m with
  | false => rfl
  | true => have := Nat.eq_of_beq_eq_true hb; omega
 have e1 : block0 false m κ (iniR n ρ0 (q + 1) (τ4 (q : Int))) = some (29, y) := by
  rw [e0] at h1
  exact h1
 have hu : Un b ρ0 q 0 (undoing y) := ⟨h2.sn, h2.si, rfl, h2.pn, h2.pv, h2.pf, fun s hs => by omega⟩
 obtain ⟨z, h3, h4⟩ := undo_all hm hn hs hk0 (Nat.le_of_lt hq) h2.kv q (q + 1) 0 _ hu (by omega) (by omega)
 have e2 : IntKind.wrap .i64 (toInt64 q - 1) = (q : Int) - 1 := by show IntKind.wrap .i64 ((q : Int) - 1) = _; exact Ro.w64_id (by omega) (by omega)
 have e3 : ((29 : Int) == 0) = false := rfl
 unfold run0 runS
 rw [check_ok hm hn b.steps hs hk0, hs]
 simp only [Option.bind, bne_self_eq_false, cond_false, nd, cond_true, e1, e3, h2.kn, e2, h3]
 refine ⟨_, rfl, rfl, h4.sn, ?_, h4.pn, h4.pv, h4.pf, h4.pu⟩
 have hz := h4.si
 rw [Nat.sub_self, b.f0] at hz
 exact same_ok hz hn hs fun j g hg => (hF j g hg).symm
end Go.Proofs.YtiefjlcakpdfeaaGreat
namespace Go.Proofs.YtiefjlcakpdfeaaGreat
open Go Go.Sx Go.RowKit Rb
set_option maxRecDepth 100000
def kN (n : Nat) (σ : Val) (j : Nat) : Nat := (kI n σ (j : Int)).toNat
def qN (σ : Val) (j : Nat) : Nat := bif kd σ (j : Int) then 1 else 0
def cOf (F : Nat → Nat → Bool) (g k : Nat) : Nat := 2 * g + (bif F g k then 1 else 0)
def Fst (n : Nat) (ρ σ : Val) : Nat → Nat → Nat → Bool
 | 0 => fun g j => ((ρ.at j).at (6 + g)).B []
 | j + 1 => updF (Fst n ρ σ j) (cOf (Fst n ρ σ j) (qN σ j) (kN n σ j)) (kN n σ j)
def cT (n : Nat) (ρ σ : Val) (j : Nat) : Nat := cOf (Fst n ρ σ j) (qN σ j) (kN n σ j)
structure Nums (n m : Nat) (σ : Val) : Prop where
 n0 : 0 < n
 n4 : n ≤ 4
 m12 : m ≤ 12
 u : ∀ j, j < m → 0 ≤ ((σ.at j).at 0).N [] ∧ ((σ.at j).at 0).N [] ≤ 255
variable {n m : Nat} {ρ σ : Val}
theorem Nums.k (h : Nums n m σ) {j : Nat} (hj : j < m) : kI n σ (j : Int) = (kN n σ j : Int) ∧ kN n σ j < n := by
 obtain ⟨h1, h2⟩ := h.u j hj
 have hn := h.n0
 have e : kI n σ (j : Int) = (((σ.at j).at 0).N []).tmod (n : Int) := by
  unfold kI
  rw [Int.toNat_natCast, Ro.w64_id (by omega) (by omega)]
  rfl
 have h3 : 0 ≤ (((σ.at j).at 0).N []).tmod (n : Int) := Int.tmod_nonneg _ h1
 have h4 : (((σ.at j).at 0).N []).tmod (n : Int) < (n : Int) := Int.tmod_lt_of_pos _ (by omega)
 unfold kN
 rw [e]
 omega
theorem qN_lt (σ : Val) (j : Nat) : qN σ j < 2 := by unfold qN; cases kd σ (j : Int) <;> decide
theorem cOf_facts (F : Nat → Nat → Bool) {g : Nat} (hg : g < 2) (k : Nat) : cOf F g k < 4 ∧ cOf F g k / 2 = g ∧ F g k = !(bC (cOf F g k)) := by
 unfold cOf
 match g, hg with
 | 0, _ => cases F 0 k <;> exact ⟨by decide, rfl, rfl⟩
 | 1, _ => cases F 1 k <;> exact ⟨by decide, rfl, rfl⟩
def bookT {κ : Val} (h : Nums n m σ) (hκ : ∀ j, j < m → κ.at j = (V4 (cT n ρ σ j) (kN n σ j)).at 0) : Book4 m n κ (Fst n ρ σ 0) where
 c := cT n ρ σ
 k := kN n σ
 Fs := Fst n ρ σ
 hc := fun j _ => (cOf_facts _ (qN_lt σ j) _).1
 hk := fun j hj => (h.k hj).2
 at_ := hκ
 f0 := rfl
 fs := fun _ _ => rfl
 off := fun j _ => by
  have := cOf_facts (Fst n ρ σ j) (qN_lt σ j) (kN n σ j)
  show Fst n ρ σ j (cOf (Fst n ρ σ j) (qN σ j) (kN n σ j) / 2) _ = _
  rw [this.2.1]
  exact this.2.2
structure Tg (ρ : Val) (n m : Nat) (σ : Val) (i : Nat) (x : CT) : Prop where
 nm : x.nm = wToggles
 n_ : x.n = n
 m_ : x.m = m
 s_ : x.σ = σ
 a_ : x.a = n
 c_ : x.c = n
 fa : ∀ j, j < n → ((x.aρ.at j).at 0).B [] = Fst n ρ σ i 0 j
 fc : ∀ j, j < n → ((x.cρ.at j).at 0).B [] = Fst n ρ σ i 1 j
 l_ : x.l = i
 lv : ∀ j, j < i → wd x.lρ j = lineC (cT n ρ σ j) (kN n σ j)
 b_ : x.b = i
 bv : ∀ j, j < i → x.bρ.at j = (V4 (cT n ρ σ j) (kN n σ j)).at 0
 ln : x.ln = (m : Int)
 i_ : x.i = (i : Int)
theorem sizeA_eq : ∀ c k : Nat, c < 4 → k < 4 → Nat.ble (wSs.size + (Sx.encI (IntKind.wrap .i32 (IntKind.wrap .i64 (48 + ((k : Nat) : Int))))).size) 9223372036854775807 = true
 | 0, 0, _, _ => by kernel_rfl
 | 0, 1, _, _ => by kernel_rfl
 | 0, 2, _, _ => by kernel_rfl
 | 0, 3, _, _ => by kernel_rfl
 | 1, 0, _, _ => by kernel_rfl
 | 1, 1, _, _ => by kernel_rfl
 | 1, 2, _, _ => by kernel_rfl
 | 1, 3, _, _ => by kernel_rfl
 | 2, 0, _, _ => by kernel_rfl
 | 2, 1, _, _ => by kernel_rfl
 | 2, 2, _, _ => by kernel_rfl
 | 2, 3, _, _ => by kernel_rfl
 | 3, 0, _, _ => by kernel_rfl
 | 3, 1, _, _ => by kernel_rfl
 | 3, 2, _, _ => by kernel_rfl
 | 3, 3, _, _ => by kernel_rfl
 | c + 4, _, h, _ => by omega
 | 0, k + 4, _, h => by omega
 | 1, k + 4, _, h => by omega
 | 2, k + 4, _, h => by omega
 | 3, k + 4, _, h => by omega
theorem sizeB_eq : ∀ c k : Nat, c < 4 → k < 4 → Nat.ble ((strCat (strCat wDoS (onC c)) spc).size + (siteW k).size) 9223372036854775807 = true
 | 0, 0, _, _ => by kernel_rfl
 | 0, 1, _, _ => by kernel_rfl
 | 0, 2, _, _ => by kernel_rfl
 | 0, 3, _, _ => by kernel_rfl
 | 1, 0, _, _ => by kernel_rfl
 | 1, 1, _, _ => by kernel_rfl
 | 1, 2, _, _ => by kernel_rfl
 | 1, 3, _, _ => by kernel_rfl
 | 2, 0, _, _ => by kernel_rfl
 | 2, 1, _, _ => by kernel_rfl
 | 2, 2, _, _ => by kernel_rfl
 | 2, 3, _, _ => by kernel_rfl
 | 3, 0, _, _ => by kernel_rfl
 | 3, 1, _, _ => by kernel_rfl
 | 3, 2, _, _ => by kernel_rfl
 | 3, 3, _, _ => by kernel_rfl
 | c + 4, _, h, _ => by omega
 | 0, k + 4, _, h => by omega
 | 1, k + 4, _, h => by omega
 | 2, k + 4, _, h => by omega
 | 3, k + 4, _, h => by omega
theorem inR {k n : Nat} (h : k < n) : inRange (k : Int) n = true := by unfold inRange le lt toInt64; simp; omega
theorem stepT_sel {g : CT → Tree (XE × DT)} {x : CT} {q : Bool} {k c : Nat} (hc : c < 4) (hk : k < n) (hn : n ≤ 4) (hl : x.l ≤ 100) (hb : x.b ≤ 100) : (stepT g x q (k : Int) n (onC c) (offC c)).sel = (g (addT (setF q x k) (onC c) (offC c) (siteW k))).sel := by
 unfold stepT
 have e1 : Nat.ble ((x.b + 1) * 144) 140737488355328 = true := by rw [Nat.ble_eq]; omega
 simp only [sel_need, inR hk, cond_true, sizeA_eq c k hc (by omega), sizeB_eq c k hc (by omega), e1, ble16 hl]
theorem setF_l {q : Bool} {x : CT} {k : Int} : (setF q x k).l = x.l ∧ (setF q x k).b = x.b ∧ (setF q x k).lρ = x.lρ ∧ (setF q x k).bρ = x.bρ ∧ (setF q x k).n = x.n ∧ (setF q x k).m = x.m ∧ (setF q x k).σ = x.σ ∧ (setF q x k).a = x.a ∧ (setF q x k).c = x.c ∧ (setF q x k).ln = x.ln ∧ (setF q x k).i = x.i ∧ (setF q x k).nm = x.nm := by
 cases q <;> exact ⟨rfl, rfl, rfl, rfl, rfl, rfl, rfl, rfl, rfl, rfl, rfl, rfl⟩
def nxT4 (ρ : Val) (n : Nat) (σ : Val) (i : Nat) (x : CT) : CT := addT (setF (kd σ (i : Int)) x (kN n σ i)) (onC (cT n ρ σ i)) (offC (cT n ρ σ i)) (siteW (kN n σ i))
theorem at_updB (a : Val) (k j : Nat) (b : Bool) : (((a.upds k 0 [.bool b]).at j).at 0).B [] = bif Nat.beq j k then b else ((a.at j).at 0).B [] := by
 rw [at_upd]
 cases Nat.beq j k <;> rfl
theorem Tg.next {i : Nat} {x : CT} (h : Tg ρ n m σ i x) (hN : Nums n m σ) (hi : i < m) : Tg ρ n m σ (i + 1) (nxT4 ρ n σ i x) := by
 obtain ⟨s1, s2, s3, s4, s5, s6, s7, s8, s9, s10, s11, s12⟩ := setF_l (q := kd σ (i : Int)) (x := x) (k := kN n σ i)
 have hk := (hN.k hi).2
 have hcf := cOf_facts (Fst n ρ σ i) (qN_lt σ i) (kN n σ i)
 have hm := hN.m12
 refine ⟨s12.trans h.nm, s5.trans h.n_, s6.trans h.m_, s7.trans h.s_, s8.trans h.a_, s9.trans h.c_, fun j hj => ?_, fun j hj => ?_, ?_, fun j hj => ?_, ?_, fun j hj => ?_, s10.trans h.ln, ?_⟩
 ·show (((setF (kd σ (i : Int)) x (kN n σ i)).aρ.at j).at 0).B [] = updF (Fst n ρ σ i) (cOf (Fst n ρ σ i) (qN σ i) (kN n σ i)) (kN n σ i) 0 j
  unfold updF
  rw [hcf.2.1]
  have e2 := hcf.2.2
  unfold qN at e2 ⊢
  cases hq : kd σ (i : Int) with
  | true => exact h.fa j hj
  | false =>
    rw [hq] at e2
    simp only [cond_false] at e2 ⊢
    show (((x.aρ.upds ((kN n σ i : Nat) : Int).toNat 0 [.bool (!(((x.aρ.at ((kN n σ i : Nat) : Int).toNat).at 0).B []))]).at j).at 0).B [] = _
    rw [Int.toNat_natCast, at_updB, h.fa _ hk, h.fa j hj, e2, Bool.not_not]
    rfl
 ·show (((setF (kd σ (i : Int)) x (kN n σ i)).cρ.at j).at 0).B [] = updF (Fst n ρ σ i) (cOf (Fst n ρ σ i) (qN σ i) (kN n σ i)) (kN n σ i) 1 j
  unfold updF
  rw [hcf.2.1]
  have e2 := hcf.2.2
  unfold qN at e2 ⊢
  cases hq : kd σ (i : Int) with
  | false => exact h.fc j hj
  | true =>
    rw [hq] at e2
    simp only [cond_true] at e2 ⊢
    show (((x.cρ.upds ((kN n σ i : Nat) : Int).toNat 0 [.bool (!(((x.cρ.at ((kN n σ i : Nat) : Int).toNat).at 0).B []))]).at j).at 0).B [] = _
    rw [Int.toNat_natCast, at_updB, h.fc _ hk, h.fc j hj, e2, Bool.not_not]
    rfl
 ·show (setF (kd σ (i : Int)) x (kN n σ i)).l + 1 = i + 1
  rw [s1, h.l_]
 ·show wd (Val.cat (setF (kd σ (i : Int)) x (kN n σ i)).l (setF (kd σ (i : Int)) x (kN n σ i)).lρ (row1 _)) j = _
  rw [s1, s3]
  rcases Nat.lt_or_ge j i with h1 | h1
  ·rw [wd_old (by rw [h.l_]; exact h1)]
   exact h.lv j h1
  ·have : j = i := by omega
   subst this
   rw [h.l_, wd_new]
   rfl
 ·show (setF (kd σ (i : Int)) x (kN n σ i)).b + 1 = i + 1
  rw [s2, h.b_]
 ·show (Val.cat (setF (kd σ (i : Int)) x (kN n σ i)).b (setF (kd σ (i : Int)) x (kN n σ i)).bρ _).at j = _
  rw [s2, s4]
  rcases Nat.lt_or_ge j i with h1 | h1
  ·rw [cat_at_old (by rw [h.b_]; exact h1)]
   exact h.bv j h1
  ·have : j = i := by omega
   subst this
   rw [h.b_, cat_at_new]
   rfl
 ·show IntKind.wrap .i64 ((setF (kd σ (i : Int)) x (kN n σ i)).i + 1) = _
  rw [s11, h.i_, Ro.w64_id (by omega) (by omega)]
  omega
theorem gTg_all (hN : Nums n m σ) : ∀ f i x, Tg ρ n m σ i x → i ≤ m → m + 1 ≤ f + i → ∃ y, (gTg f x).sel = some (.exit 2, outT y) ∧ Tg ρ n m σ m y
 | 0, i, x, _, _, _ => by omega
 | f + 1, i, x, h, h1, h2 => by
   have e : gTg (f + 1) x = rTg (gTg f) x := rfl
   have hm := hN.m12
   have hn0 := hN.n0
   rw [e]
   unfold rTg
   rcases Nat.lt_or_ge i m with hi | hi
   ·obtain ⟨hk1, hk2⟩ := hN.k hi
    have e1 : lt x.i x.ln = true := by rw [h.i_, h.ln]; unfold lt; simp; exact hi
    have e2 : inRange x.i x.m = true := by rw [h.i_, h.m_]; exact inR hi
    have e3 : (!(toInt64 x.n == 0)) = true := by rw [h.n_]; unfold toInt64; simp; omega
    have e4 : kI x.n x.σ x.i = (kN n σ i : Int) := by rw [h.n_, h.s_, h.i_]; exact hk1
    have e5 : kd x.σ x.i = kd σ (i : Int) := by rw [h.s_, h.i_]
    have e6 : nxT4 ρ n σ i x = addT (setF (kd σ (i : Int)) x (kN n σ i)) (onC (cOf (Fst n ρ σ i) (qN σ i) (kN n σ i))) (offC (cOf (Fst n ρ σ i) (qN σ i) (kN n σ i))) (siteW (kN n σ i)) := rfl
    have hl : x.l ≤ 100 := by rw [h.l_]; omega
    have hb : x.b ≤ 100 := by rw [h.b_]; omega
    obtain ⟨y, h3, h4⟩ := gTg_all hN f (i + 1) _ (h.next hN hi) (by omega) (by omega)
    refine ⟨y, ?_, h4⟩
    rw [← h3, e6]
    simp only [sel_br, sel_need, e1, e2, e3, e4, e5, cond_true, Int.toNat_natCast, h.a_, h.c_, inR hk2]
    have fa := h.fa _ hk2
    have fc := h.fc _ hk2
    rw [fa, fc]
    unfold qN cOf
    cases hq : kd σ (i : Int) with
    | true =>
      simp only [cond_true]
      cases hf : Fst n ρ σ i 1 (kN n σ i) with
     | true => exact stepT_sel (c := 3) (by decide) hk2 hN.n4 hl hb
     | false => exact stepT_sel (c := 2) (by decide) hk2 hN.n4 hl hb
    | false =>
      simp only [cond_false]
      cases hf : Fst n ρ σ i 0 (kN n σ i) with
     | true => exact stepT_sel (c := 1) (by decide) hk2 hN.n4 hl hb
     | false => exact stepT_sel (c := 0) (by decide) hk2 hN.n4 hl hb
   ·have him : i = m := by omega
    subst him
    have e1 : lt x.i x.ln = false := by rw [h.i_, h.ln]; unfold lt; simp
    rw [e1]
    exact ⟨x, rfl, h⟩
theorem flV_at (ρ : Val) (f : Nat) : ∀ i j, j < i → (((flV ρ f i).at j).at 0).B [] = ((ρ.at j).at f).B []
 | 0, j, h => by omega
 | 1, j, h => by
   have : j = 0 := by omega
   subst this
   rfl
 | i + 2, j, h => by
   show (((Val.cat (i + 1) (flV ρ f (i + 1)) _).at j).at 0).B [] = _
   rcases Nat.lt_or_ge j (i + 1) with h1 | h1
   ·rw [cat_at_old h1]
    exact flV_at ρ f (i + 1) j h1
   ·have : j = i + 1 := by omega
    subst this
    rw [cat_at_new]
    rfl
theorem tg0 (ρ : Val) (n m : Nat) (σ : Val) : Tg ρ n m σ 0 (iniT n ρ m σ n) :=
 ⟨rfl, rfl, rfl, rfl, rfl, rfl, fun j hj => flV_at ρ 6 n j hj, fun j hj => flV_at ρ 7 n j hj, rfl, fun j hj => by omega, rfl, fun j hj => by omega, rfl, rfl⟩
theorem flO_all {β : Type} (K : Nat → Option β) (hn : n ≤ 100) : ∀ f i, i ≤ n → n + 1 ≤ f + i → flO n K f i = K n
 | 0, i, _, _ => by omega
 | f + 1, i, h1, h2 => by
   unfold flO
   rcases Nat.lt_or_ge i n with hi | hi
   ·have e1 : lt (i : Int) (toInt64 n) = true := by unfold lt toInt64; simp; exact hi
    have e2 : cap1 i = true := by unfold cap1; rw [Nat.ble_eq]; omega
    rw [e1, inR hi, e2]
    exact flO_all K hn f (i + 1) (by omega) (by omega)
   ·have : i = n := by omega
    subst this
    have e1 : lt (i : Int) (toInt64 i) = false := by unfold lt toInt64; simp
    rw [e1]
    rfl
theorem tog_all (hN : Nums n m σ) (ρ : Val) : ∃ d, tog14 n ρ m σ = some d ∧ d.nm = wToggles ∧ d.b = m ∧ d.l = m ∧ (∀ j, j < m → d.bρ.at j = (V4 (cT n ρ σ j) (kN n σ j)).at 0) ∧ ∀ j, j < m → wd d.lρ j = lineC (cT n ρ σ j) (kN n σ j) := by
 obtain ⟨y, h1, h2⟩ := gTg_all (ρ := ρ) hN (m + 1) 0 _ (tg0 ρ n m σ) (by omega) (by omega)
 have hn4 := hN.n4
 refine ⟨outT y, ?_, h2.nm, h2.b_, h2.l_, h2.bv, h2.lv⟩
 unfold tog14
 rw [flO_all _ (by omega) 5 0 (by omega) (by omega)]
 show (gTg (m + 1) (iniT n ρ m σ n)).sel.map (·.2) = _
 rw [h1]
 rfl
end Go.Proofs.YtiefjlcakpdfeaaGreat
