/-
  The roles of sites: lineages, as the reference reads them; heads.
-/
import Derived.Test.YtjiennnkbompkaaRolC
namespace Go.Proofs.Ytjiennnkbompkaa
open Go Go.Sx Classical

set_option maxRecDepth 100000

/-! ### the reference's Lineage -/

def S58 (c : Ln) (i : Int) : St := mkS 73 [(0, .one (.c (.sl spSh c.n c.ρ))), (2, .one (.c (.bool false))), (3, .one (.c (I i)))] []

def bad1 (f : Int) (x : Sp) : Bool := x.f != f
def bad2 (f : Int) (x : Sp) : Bool := bad1 f x || lt x.t x.f
def bad3 (f : Int) (x : Sp) : Bool := bad2 f x || lt 1073741824 x.t
def bad4 (f e : Int) (x : Sp) : Bool := bad3 f x || lt x.e e
def bad5 (f e : Int) (x : Sp) : Bool := bad4 f e x || lt 1073741824 x.e

def K58 (c : Ln) (i f e : Int) : Tree (XE × Int) :=
  .need (inRange i c.n) (.need (!(((bad1 f (spn c.ρ i.toNat)) == false) && true) || inRange i c.n) (.need (!(((bad1 f (spn c.ρ i.toNat)) == false) && true) || inRange i c.n)
    (.need (!(((bad2 f (spn c.ρ i.toNat)) == false) && true) || inRange i c.n) (.need (!(((bad3 f (spn c.ρ i.toNat)) == false) && true) || inRange i c.n) (.need (!(((bad4 f e (spn c.ρ i.toNat)) == false) && true) || inRange i c.n)
      (.br (bad5 f e (spn c.ρ i.toNat)) (.leaf (.ret, i)) (.leaf (.normal, IntKind.i64.wrap (i + 1)))))))))

def TX58 (c : Ln) (i : Int) : Tree (XE × Int) :=
  .br (lt i (toInt64 c.n))
    (.br (lt 0 i) (.need (inRange (IntKind.i64.wrap (i - 1)) c.n) (.need (inRange (IntKind.i64.wrap (i - 1)) c.n) (K58 c i (IntKind.i64.wrap ((spn c.ρ (IntKind.i64.wrap (i - 1)).toNat).t + 1)) (IntKind.i64.wrap ((spn c.ρ (IntKind.i64.wrap (i - 1)).toNat).e + 1)))))
      (K58 c i 1 1))
    (.leaf (.exit 0, i))

theorem t58 (c : Ln) (i : Int) : ((evCode Try.prog H3 (evFn Try.prog H3 10) 58 0 1 (loopBody Try.prog 58 0) (S58 c i)).bind fun y => gcT [0, 2, 3] 0 y) = (TX58 c i).bind fun y => .leaf (y.1, S58 c y.2) := by kernel_rfl

def badR (l : Ln) (i : Nat) : Bool := bad5 (IntKind.i64.wrap ((prv l.ρ i).t + 1)) (IntKind.i64.wrap ((prv l.ρ i).e + 1)) (spn l.ρ i)

theorem K58_all (c : Ln) (i : Nat) (hi : i < c.n) (hn : fewN c.n) (f e : Int) : (K58 c i f e).All fun y => if bad5 f e (spn c.ρ i) then y = (.ret, (i : Int)) else y = (.normal, ((i + 1 : Nat) : Int)) := by
  unfold fewN at hn
  have hr := inR hi
  have hw : IntKind.i64.wrap ((i : Int) + 1) = ((i + 1 : Nat) : Int) := by rw [w64_id (by omega) (by omega)]; omega
  unfold K58
  simp only [Tree.All, hr, Bool.or_true, true_and, Int.toNat_natCast]
  cases bad5 f e (spn c.ρ i)
  · simp only [Bool.false_eq_true, if_false, false_implies, true_and, hw, implies_true]
  · simp only [if_true, reduceCtorEq, false_implies, and_true, implies_true]

theorem sq58 (c : Ln) (hn : fewN c.n) : Sq (TX58 c) (fun i => (c.n - i).toNat) (fun i => (i : Int)) (fun i => (i : Int)) c.n (badR c) .ret (.exit 0) where
  out := by simp
  hit := by simp
  meas i hi := by
    show ((c.n : Int) - (i : Int)).toNat = c.n - i
    omega
  round i hi := by
    have hn' := hn
    unfold fewN at hn'
    refine ⟨fun _ => ⟨fun h0 => ?_, fun h0 => ?_⟩, fun h => ?_⟩
    · have h0' : (0 : Int) < (i : Int) := (lt_iff _ _).1 h0
      obtain ⟨k, rfl⟩ : ∃ k, i = k + 1 := ⟨i - 1, by omega⟩
      have hk : IntKind.i64.wrap (((k + 1 : Nat) : Int) - 1) = (k : Int) := by rw [w64_id (by omega) (by omega)]; omega
      rw [hk]
      refine ⟨inR (by omega), inR (by omega), ?_⟩
      exact K58_all c (k + 1) hi hn _ _
    · have h0' : ¬ (0 : Int) < (i : Int) := fun h => by rw [(lt_iff _ _).2 h] at h0; cases h0
      obtain rfl : i = 0 := by omega
      exact K58_all c 0 hi hn 1 1
    · rw [ltF hi] at h; cases h
  stop := by
    refine ⟨fun h => ?_, fun _ => rfl⟩
    rw [ltS] at h; cases h

noncomputable def inv58 (c : Ln) (v : Int) : Bool := dec (fewN c.n ∧ ∃ i : Nat, i ≤ c.n ∧ v = (i : Int))
def run58 (c : Ln) (v : Int) : XE × Int := fin (TX58 c) (fun i => (c.n - i).toNat) v
def get58 : List (Nat × AV) → Mem → Option (Ln × Int)
  | [(0, .one (.c (.sl [.int .i64, .int .i64, .int .i64] n ρ))), (2, .one (.c (.bool false))), (3, .one (.c (.int .i64 i)))], [] => some (⟨n, ρ⟩, i)
  | _, _ => none
noncomputable def L58 : Nat → St → Tree (XE × St) := loopH [0, 2, 3] 0 73 get58 inv58 S58 run58 [.ret, .exit 0]

theorem l58 (fn : Func) (c b : Code) (hf : Try.prog.funcs[58]? = some fn) (hc : fn.body = some c) (hb : nthLoop c 0 = some b) : LoopOk Try.prog b L58 :=
  loopOk_of h3 10 58 0 hf hc hb [0, 2, 3] 0 73 S58 TX58 t58 get58 inv58 (fun c i => (c.n - i).toNat) [.ret, .exit 0]
    (fun l m c v h => by unfold get58 at h; split at h <;> simp at h; obtain ⟨rfl, rfl⟩ := h; rfl)
    (rounds_of fun c v hv => by
      have h := (dec_iff.1 hv).1
      exact (sq58 c h).rounds fun x => by unfold inv58; rw [dec_iff]; exact ⟨fun h => h.2, fun k => ⟨h, k⟩⟩)

noncomputable abbrev H58 : Hd := ⟨H3.pc, [], [((58, 0), L58)], H3.mc⟩
theorem h58 : HdOk Try.prog H58 := HdOk.lhCons h3 l58

theorem prv_ok {l : Ln} {i : Nat} (hp : ∀ j, j < i → badC l j = false) : 0 ≤ (prv l.ρ i).e ∧ (prv l.ρ i).e ≤ 1073741824 ∧ (prv l.ρ i).t ≤ 1073741824 ∧ (0 < i → 1 ≤ (prv l.ρ i).t ∧ 1 ≤ (prv l.ρ i).e) := by
  induction i with
  | zero => exact ⟨by simp [prv], by simp [prv], by simp [prv], fun h => by omega⟩
  | succ i ih =>
    obtain ⟨i1, i2, i3, i4⟩ := ih fun j hj => hp j (by omega)
    have h := hp i (by omega)
    unfold badC badS at h
    simp only [Bool.or_eq_false_iff, Bool.not_eq_false', Bool.and_eq_true, le_iff, bne_eq_false_iff_eq] at h
    obtain ⟨⟨⟨⟨h1, h2⟩, h3⟩, h4⟩, h5⟩ := h
    rw [← Bool.not_eq_true, lt_iff] at h2 h3
    have hge : 0 ≤ (prv l.ρ i).t := by
      cases i with
      | zero => simp [prv]
      | succ i => have := (i4 (by omega)).1; omega
    rw [w64_id (by omega) (by omega)] at h1
    show 0 ≤ (spn l.ρ i).e ∧ (spn l.ρ i).e ≤ 1073741824 ∧ (spn l.ρ i).t ≤ 1073741824 ∧ (_ → 1 ≤ (spn l.ρ i).t ∧ 1 ≤ (spn l.ρ i).e)
    exact ⟨by omega, h4.2, by omega, fun _ => ⟨by omega, h4.1⟩⟩

/-- both read lineages alike -/
theorem corr_eq (l : Ln) : anyB (badR l) l.n = anyB (badC l) l.n := by
  symm
  refine anyB_congr fun i _ hp => ?_
  obtain ⟨i1, i2, _, _⟩ := prv_ok hp
  unfold badC badS badR bad5 bad4 bad3 bad2 bad1
  rw [w64_id (x := (prv l.ρ i).e + 1) (by omega) (by omega)]
  generalize ((spn l.ρ i).f != IntKind.i64.wrap ((prv l.ρ i).t + 1) || lt (spn l.ρ i).t (spn l.ρ i).f || lt 1073741824 (spn l.ρ i).t) = q
  cases q
  · simp only [Bool.false_or]
    rw [Bool.eq_iff_iff]
    simp only [Bool.or_eq_true, Bool.not_eq_true', ← Bool.not_eq_true, Bool.and_eq_true, le_iff, lt_iff]
    omega
  · simp

noncomputable def G58 : List A1 → Option (Bool × AV)
  | [.c (.sl [.int .i64, .int .i64, .int .i64] n ρ)] => some (dec (fewN n), .one (.c (.bool (corr ⟨n, ρ⟩))))
  | _ => none

theorem all58 (l : Ln) (hn : fewN l.n) : (Tree.need (inv58 l 0) (.br (eqXE (run58 l 0).1 .ret) (.leaf (AV.one (.c (.bool false)))) (.need (eqXE (run58 l 0).1 (.exit 0)) (.leaf (AV.one (.c (.bool true))))))).All (fun z => z = .one (.c (.bool (corr l)))) := by
  have hi : inv58 l 0 = true := dec_iff.2 ⟨hn, 0, Nat.zero_le _, rfl⟩
  have hf : run58 l 0 = _ := (sq58 l hn).fin0
  refine ⟨hi, ?_⟩
  rw [hf, corr_eq]
  unfold corr
  cases anyB (badC l) l.n
  · exact ⟨fun h => (by cases h), fun _ => ⟨rfl, rfl⟩⟩
  · exact ⟨fun _ => rfl, fun h => (by cases h)⟩

theorem p58 : TcOne Try.prog 58 (nG G58) := tcOne_of_tree h58 10 58 fun args r h => by
  unfold G58 at h; split at h
  · rename_i n ρ
    obtain ⟨hp, rfl⟩ := Prod.mk.inj (Option.some.inj h)
    refine ⟨rfl, _, ?_, all58 ⟨n, ρ⟩ (dec_iff.1 hp)⟩
    kernel_rfl
  · cases h

/-! ### heads -/

/-- the last span -/
def hd (l : Ln) : Sp := prv l.ρ l.n

theorem last_ok {l : Ln} (hn : fewN l.n) (h0 : (toInt64 l.n == 0) = false) : inRange (IntKind.i64.wrap (toInt64 l.n - 1)) l.n = true ∧ spn l.ρ (IntKind.i64.wrap (toInt64 l.n - 1)).toNat = hd l := by
  unfold fewN at hn
  have h0' : ¬ (l.n : Int) = 0 := by simpa [toInt64] using h0
  obtain ⟨k, hk⟩ : ∃ k, l.n = k + 1 := ⟨l.n - 1, by omega⟩
  have e : IntKind.i64.wrap (toInt64 l.n - 1) = (k : Int) := by
    show IntKind.i64.wrap ((l.n : Int) - 1) = _
    rw [w64_id (by omega) (by omega)]; omega
  rw [e]
  refine ⟨inR (by omega), ?_⟩
  unfold hd
  rw [hk]; rfl

theorem hd_zero {l : Ln} (h0 : (toInt64 l.n == 0) = true) : hd l = ⟨0, 0, 0⟩ := by
  have h0' : l.n = 0 := by
    have : (l.n : Int) = 0 := by simpa [toInt64] using h0
    omega
  unfold hd
  rw [h0']; rfl

noncomputable def G29 : List A1 → Option (Bool × AV)
  | [.c (.sl [.int .i64, .int .i64, .int .i64] n ρ)] => some (dec (fewN n), .tup [.c (I (hd ⟨n, ρ⟩).e), .c (I (hd ⟨n, ρ⟩).t)])
  | _ => none
noncomputable def G50 : List A1 → Option (Bool × AV)
  | [.c (.sl [.int .i64, .int .i64, .int .i64] n ρ)] => some (dec (fewN n), .one (.agg [I (hd ⟨n, ρ⟩).e, I (hd ⟨n, ρ⟩).f, I (hd ⟨n, ρ⟩).t]))
  | _ => none

theorem p29 : TcOne Try.prog 29 (nG G29) := tcOne_of_tree h3 10 29 fun args r h => by
  unfold G29 at h; split at h
  · rename_i n ρ
    obtain ⟨hp, rfl⟩ := Prod.mk.inj (Option.some.inj h)
    have hp := dec_iff.1 hp
    refine ⟨rfl, .br (toInt64 n == 0) (.leaf (.tup [.c (I 0), .c (I 0)])) (.need (inRange (IntKind.i64.wrap (toInt64 n - 1)) n) (.need (inRange (IntKind.i64.wrap (toInt64 n - 1)) n)
      (.leaf (.tup [.c (I (spn ρ (IntKind.i64.wrap (toInt64 n - 1)).toNat).e), .c (I (spn ρ (IntKind.i64.wrap (toInt64 n - 1)).toNat).t)])))), by kernel_rfl, fun h0 => ?_, fun h0 => ?_⟩
    · have := hd_zero (l := ⟨n, ρ⟩) h0
      rw [this]; rfl
    · obtain ⟨a, b⟩ := last_ok (l := ⟨n, ρ⟩) hp h0
      simp only at a b
      exact ⟨a, a, by rw [b]; rfl⟩
  · cases h

theorem p50 : TcOne Try.prog 50 (nG G50) := tcOne_of_tree h3 10 50 fun args r h => by
  unfold G50 at h; split at h
  · rename_i n ρ
    obtain ⟨hp, rfl⟩ := Prod.mk.inj (Option.some.inj h)
    have hp := dec_iff.1 hp
    refine ⟨rfl, .br (toInt64 n == 0) (.leaf (.one (.agg [I 0, I 0, I 0]))) (.need (inRange (IntKind.i64.wrap (toInt64 n - 1)) n)
      (.leaf (.one (.agg [I (spn ρ (IntKind.i64.wrap (toInt64 n - 1)).toNat).e, I (spn ρ (IntKind.i64.wrap (toInt64 n - 1)).toNat).f, I (spn ρ (IntKind.i64.wrap (toInt64 n - 1)).toNat).t])))), by kernel_rfl, fun h0 => ?_, fun h0 => ?_⟩
    · have := hd_zero (l := ⟨n, ρ⟩) h0
      rw [this]; rfl
    · obtain ⟨a, b⟩ := last_ok (l := ⟨n, ρ⟩) hp h0
      simp only at a b
      exact ⟨a, by rw [b]; rfl⟩
  · cases h

/-- a lineage and itself -/
theorem anc_self {l : Ln} (h0 : (toInt64 l.n == 0) = false) : (((anc l l).c == (hd l).t && (anc l l).e == (hd l).e) && lt 0 (anc l l).c) = corr l := by
  have h0' : ¬ (l.n : Int) = 0 := by simpa [toInt64] using h0
  obtain ⟨k, hk⟩ : ∃ k, l.n = k + 1 := ⟨l.n - 1, by omega⟩
  have hb : ∀ i, bad65 ⟨l, l⟩ i = false := fun i => by simp [bad65]
  have ha : anyB (bad65 ⟨l, l⟩) (len65 ⟨l, l⟩) = false := anyB_none fun i _ => hb i
  have hl : len65 ⟨l, l⟩ = k + 1 := by unfold len65; simp only; omega
  have him : ∀ x : Int, imin x x = x := fun x => by unfold imin; cases lt x x <;> rfl
  unfold anc
  cases hc : corr l
  · simp [lt]
  · rw [ha, hl]
    simp only [Bool.not_true, Bool.or_self, cond_false]
    have e1 : hd l = spn l.ρ k := by unfold hd; rw [hk]; rfl
    have hp : ∀ j, j < k + 1 → badC l j = false := fun j hj => by
      rw [← Bool.not_eq_true]
      intro hh
      have := anyB_iff.2 ⟨j, show j < l.n by omega, hh⟩
      unfold corr at hc
      rw [this] at hc; cases hc
    have ht := (prv_ok hp).2.2.2 (by omega)
    show (((imin (spn l.ρ k).t (spn l.ρ k).t) == (hd l).t && (spn l.ρ k).e == (hd l).e) && lt 0 (imin (spn l.ρ k).t (spn l.ρ k).t)) = true
    rw [him, e1]
    have : lt 0 (spn l.ρ k).t = true := (lt_iff _ _).2 (by
      have : 1 ≤ (spn l.ρ k).t := ht.1
      omega)
    simp [this]

noncomputable abbrev H4 : Hd := ⟨(58, nG G58) :: (29, nG G29) :: (50, nG G50) :: H3.pc, [], [], H3.mc⟩
theorem h4 : HdOk Try.prog H4 := ((h3.tcCons p50).tcCons p29).tcCons p58

theorem p54 : TcOne Try.prog 54 (nG G66) := tcOne_of_tree h4 10 54 fun args r h => by
  unfold G66 at h; split at h
  · rename_i n ρ
    obtain ⟨hp, rfl⟩ := Prod.mk.inj (Option.some.inj h)
    have hp := dec_iff.1 hp
    refine ⟨rfl, .br (toInt64 n == 0) (.leaf (.one (.c (.bool true)))) (.need (dec (fewN n ∧ fewN n)) (.need (inRange (IntKind.i64.wrap (toInt64 n - 1)) n)
      (.leaf (.one (.c (.bool (((anc ⟨n, ρ⟩ ⟨n, ρ⟩).c == (spn ρ (IntKind.i64.wrap (toInt64 n - 1)).toNat).t && (anc ⟨n, ρ⟩ ⟨n, ρ⟩).e == (spn ρ (IntKind.i64.wrap (toInt64 n - 1)).toNat).e) && lt 0 (anc ⟨n, ρ⟩ ⟨n, ρ⟩).c))))))), by kernel_rfl, fun h0 => ?_, fun h0 => ?_⟩
    · have h0' : n = 0 := by
        have : (n : Int) = 0 := by simpa [toInt64] using h0
        omega
      subst h0'
      rfl
    · obtain ⟨a, b⟩ := last_ok (l := ⟨n, ρ⟩) hp h0
      simp only at a b
      refine ⟨dec_iff.2 ⟨hp, hp⟩, a, ?_⟩
      rw [b]
      have := anc_self (l := ⟨n, ρ⟩) h0
      show AV.one (.c (.bool _)) = _
      rw [this]
  · cases h

end Go.Proofs.Ytjiennnkbompkaa
