/-
  The roles of sites: CheckAll of the program and of the reference: the same answer.
-/
import Derived.Test.YtjiennnkbompkaaRolZb
namespace Go.Proofs.Ytjiennnkbompkaa
open Go Go.Sx Go.RowKit Classical

set_option maxRecDepth 100000

/-- few sites of few spans -/
def fewS (l : Ses) : Prop := fewN l.n ∧ ∀ i, i < l.n → fewN (l.at i).n

theorem fndCD (l : Ses) (x : Sit) (n : Nat) : (x.r == 1 && anyB (fndC l x) n) = anyB (fndD l x) n := by
  cases hr : (x.r == 1)
  · rw [Bool.false_and, eq_comm, ← Bool.not_eq_true]
    intro h
    obtain ⟨i, _, h⟩ := anyB_iff.1 h
    unfold fndD at h
    rw [hr] at h
    simp at h
  · rw [Bool.true_and]
    refine anyB_congr fun i _ _ => ?_
    have hx : x.r = 1 := by simpa using hr
    unfold fndC fndD
    rw [hr, hx, Bool.and_true]

def wrgS (l : Ses) (i : Nat) : Bool := (chkS (l.at i) != 0 || anyB (fndB l (l.at i)) i) || anyB (fndD l (l.at i)) i
def wrgE (l : Ses) (i : Nat) : Int := bif chkS (l.at i) != 0 then chkS (l.at i) else bif anyB (fndB l (l.at i)) i then 8 else 19
def sbS (l : Ses) (i : Nat) : VJ := ⟨i, i, wrgE l i⟩
def μS (n : Nat) (v : VJ) : Nat := (n - v.k).toNat

theorem wrgS_1 {l : Ses} {i : Nat} (h : (chkS (l.at i) != 0) = true) : wrgS l i = true ∧ wrgE l i = chkS (l.at i) := by
  unfold wrgS wrgE; rw [h]; exact ⟨rfl, rfl⟩
theorem wrgS_2 {l : Ses} {i : Nat} (h : (chkS (l.at i) != 0) = false) (h2 : anyB (fndB l (l.at i)) i = true) : wrgS l i = true ∧ wrgE l i = 8 := by
  unfold wrgS wrgE; rw [h, h2]; exact ⟨rfl, rfl⟩
theorem wrgS_3 {l : Ses} {i : Nat} (h : (chkS (l.at i) != 0) = false) (h2 : anyB (fndB l (l.at i)) i = false) (h3 : anyB (fndD l (l.at i)) i = true) : wrgS l i = true ∧ wrgE l i = 19 := by
  unfold wrgS wrgE; rw [h, h2, h3]; exact ⟨rfl, rfl⟩
theorem wrgS_0 {l : Ses} {i : Nat} (h : (chkS (l.at i) != 0) = false) (h2 : anyB (fndB l (l.at i)) i = false) (h3 : anyB (fndD l (l.at i)) i = false) : wrgS l i = false := by
  unfold wrgS; rw [h, h2, h3]; rfl

/-! ### the program's loop -/

structure C34 where
  l : Ses
  j : Ses
  m : Int

def S34 (c : C34) (v : VJ) : St := mkS 43 [(0, .one (.c (.sl siSh c.l.n c.l.ρ))), (2, .one (.c (I v.r))), (3, .one (.c (I v.q))), (10, .one (.c (.sl siSh c.j.n c.j.ρ))), (11, .one (.c (I c.m))), (12, .one (.c (I v.k)))] []
noncomputable def TX34 (c : C34) (v : VJ) : Tree (XE × VJ) :=
  let x := c.j.at v.k.toNat
  let nx : VJ := ⟨IntKind.i64.wrap (v.k + 1), v.r, v.q⟩
  let rest (b : Bool) : Tree (XE × VJ) := .br (x.r == 1 && b) (.leaf (.ret, ⟨v.k, v.k, 19⟩)) (.leaf (.normal, nx))
  .br (lt v.k c.m) (.need (inRange v.k c.j.n) (.need (dec (fewN x.n)) (.br (chkS x != 0) (.leaf (.ret, ⟨v.k, v.k, chkS x⟩)) (.need (le 0 v.k && le v.k (toInt64 c.l.n)) (.need (dec (fewN v.k.toNat)) (.br (anyB (fndB ⟨v.k.toNat, c.l.ρ⟩ x) v.k.toNat) (.leaf (.ret, ⟨v.k, v.k, 8⟩))
    (.br ((x.r == 1) == true) (.need (le 0 v.k && le v.k (toInt64 c.l.n)) (.br ((x.r == 1) == true) (.need (dec (fewN v.k.toNat)) (rest (anyB (fndC ⟨v.k.toNat, c.l.ρ⟩ x) v.k.toNat))) (rest false)))
      (.br ((x.r == 1) == true) .fail (rest false))))))))) (.leaf (.exit 0, v))

theorem t34 (c : C34) (v : VJ) : ((evCode Try.prog H30 (evFn Try.prog H30 10) 34 0 1 (loopBody Try.prog 34 0) (S34 c v)).bind fun y => gcT [0, 2, 3, 10, 11, 12] 0 y) = (TX34 c v).bind fun y => .leaf (y.1, S34 c y.2) := by kernel_rfl

theorem sq34 (l : Ses) {m : Int} (hm : m = toInt64 l.n) (hn : fewS l) : Sq (TX34 ⟨l, l, m⟩) (μS l.n) stJ (sbS l) l.n (wrgS l) .ret (.exit 0) where
  out := by simp
  hit := by simp
  meas k hk := by unfold μS stJ; simp only; omega
  round k hk := by
    have hf := hn.2 k hk
    have hn := hn.1
    have hk' : fewN k := by unfold fewN at hn ⊢; omega
    have hkk : fewN ((k : Int).toNat) := hk'
    unfold fewN at hn
    have hw : IntKind.i64.wrap ((k : Int) + 1) = ((k + 1 : Nat) : Int) := by rw [w64_id (by omega) (by omega)]; omega
    have hs : (le 0 (k : Int) && le (k : Int) (toInt64 l.n)) = true := by
      rw [Bool.and_eq_true, le_iff, le_iff]
      exact ⟨by omega, by show (k : Int) ≤ (l.n : Int); omega⟩
    have nxt : ∀ {r}, anyB (fndD l (l.at k)) k = r → (chkS (l.at k) != 0) = false → anyB (fndB l (l.at k)) k = false → r = false → if wrgS l k then (XE.normal, (⟨IntKind.i64.wrap ((k : Int) + 1), 0, 0⟩ : VJ)) = (.ret, sbS l k) else (XE.normal, (⟨IntKind.i64.wrap ((k : Int) + 1), 0, 0⟩ : VJ)) = (.normal, stJ (k + 1)) := fun h1 h2 h3 h4 => by
      rw [wrgS_0 h2 h3 (h1.trans h4), hw]; rfl
    refine ⟨fun _ => ⟨inR hk, dec_iff.2 hf, fun h1 => ?_, fun h1 => ⟨hs, dec_iff.2 hkk, fun h2 => ?_, fun h2 => ⟨fun g => ⟨hs, fun _ => ⟨dec_iff.2 hkk, fun h3 => ?_, fun h3 => ?_⟩, fun ng => ?_⟩, fun g => ⟨fun g' => ?_, fun _ => ⟨fun h3 => ?_, fun _ => ?_⟩⟩⟩⟩⟩, fun h => ?_⟩
    · obtain ⟨b, e⟩ := wrgS_1 (l := l) (i := k) h1
      show if wrgS l k then _ else _
      rw [b, if_pos rfl]
      show (XE.ret, (⟨k, k, chkS (l.at k)⟩ : VJ)) = (.ret, ⟨k, k, wrgE l k⟩)
      rw [e]
    · obtain ⟨b, e⟩ := wrgS_2 (l := l) (i := k) h1 h2
      show if wrgS l k then _ else _
      rw [b, if_pos rfl]
      show (XE.ret, (⟨k, k, 8⟩ : VJ)) = (.ret, ⟨k, k, wrgE l k⟩)
      rw [e]
    · have h3 : ((l.at k).r == 1 && anyB (fndC l (l.at k)) k) = true := h3
      rw [fndCD] at h3
      obtain ⟨b, e⟩ := wrgS_3 (l := l) (i := k) h1 h2 h3
      show if wrgS l k then _ else _
      rw [b, if_pos rfl]
      show (XE.ret, (⟨k, k, 19⟩ : VJ)) = (.ret, ⟨k, k, wrgE l k⟩)
      rw [e]
    · have h3 : ((l.at k).r == 1 && anyB (fndC l (l.at k)) k) = false := h3
      rw [fndCD] at h3
      exact nxt h3 h1 h2 rfl
    · rw [g] at ng; cases ng
    · rw [g] at g'; cases g'
    · rw [Bool.and_false] at h3; cases h3
    · have h3 : ((l.at k).r == 1 && anyB (fndC l (l.at k)) k) = false := by
        have g : (((l.at k).r == 1) == true) = false := g
        have g : ((l.at k).r == 1) = false := by cases hh : ((l.at k).r == 1) <;> simp_all
        rw [g]; rfl
      rw [fndCD] at h3
      exact nxt h3 h1 h2 rfl
    · have : lt (k : Int) m = false := h
      rw [hm, ltF hk] at this; cases this
  stop := by
    refine ⟨fun h => ?_, fun _ => rfl⟩
    have : lt (l.n : Int) m = true := h
    rw [hm, ltS] at this; cases this

noncomputable def inv34 (c : C34) (v : VJ) : Bool := dec ((c.j = c.l ∧ c.m = toInt64 c.l.n ∧ fewS c.l) ∧ ∃ i, i ≤ c.l.n ∧ v = stJ i)
noncomputable def run34 (c : C34) (v : VJ) : XE × VJ := fin (TX34 c) (μS c.l.n) v
def get34 : List (Nat × AV) → Mem → Option (C34 × VJ)
  | [(0, .one (.c (.sl [.int .i64, .int .i64, .int .i64, .int .i64, .sl [.int .i64, .int .i64, .int .i64], .int .i64, .bool, .bool] n ρ))), (2, .one (.c (.int .i64 r))), (3, .one (.c (.int .i64 q))), (10, .one (.c (.sl [.int .i64, .int .i64, .int .i64, .int .i64, .sl [.int .i64, .int .i64, .int .i64], .int .i64, .bool, .bool] n2 ρ2))), (11, .one (.c (.int .i64 m))), (12, .one (.c (.int .i64 k)))], [] => some (⟨⟨n, ρ⟩, ⟨n2, ρ2⟩, m⟩, ⟨k, r, q⟩)
  | _, _ => none
noncomputable def L34 : Nat → St → Tree (XE × St) := loopH [0, 2, 3, 10, 11, 12] 0 43 get34 inv34 S34 run34 [.ret, .exit 0]

theorem l34 (fn : Func) (c b : Code) (hf : Try.prog.funcs[34]? = some fn) (hc : fn.body = some c) (hb : nthLoop c 0 = some b) : LoopOk Try.prog b L34 :=
  loopOk_of h30 10 34 0 hf hc hb [0, 2, 3, 10, 11, 12] 0 43 S34 TX34 t34 get34 inv34 (fun c => μS c.l.n) [.ret, .exit 0] (Q := fun (c : C34) y => (∃ i, i < c.l.n ∧ wrgS c.l i = true ∧ y = (.ret, sbS c.l i)) ∨ y = (.exit 0, stJ c.l.n))
    (fun l m c v h => by unfold get34 at h; split at h <;> simp at h; obtain ⟨rfl, rfl⟩ := h; rfl)
    (rounds_of fun c v hv => by
      obtain ⟨l, j, m⟩ := c
      have h := (dec_iff.1 hv).1
      have hj : j = l := h.1
      subst hj
      exact (sq34 j h.2.1 h.2.2).rounds (inv := fun v => inv34 ⟨j, j, m⟩ v = true) fun x => by unfold inv34; rw [dec_iff]; exact ⟨fun h => h.2, fun k => ⟨h, k⟩⟩)

/-! ### the reference's outer loop -/

def c35 (l : Ses) (v : VJ) : C35 := ⟨l, v.k, chkS (l.at v.k.toNat)⟩
def w35 (l : Ses) (v : VJ) : VJ := ⟨0, (run35a (c35 l v) ⟨0, v.r, v.q⟩).2.r, (run35a (c35 l v) ⟨0, v.r, v.q⟩).2.q⟩
def S35 (l : Ses) (v : VJ) : St := mkS 76 [(0, .one (.c (.sl siSh l.n l.ρ))), (2, .one (.c (I v.r))), (3, .one (.c (I v.q))), (4, .one (.c (I v.k)))] []
noncomputable def TX35 (l : Ses) (v : VJ) : Tree (XE × VJ) :=
  let x := l.at v.k.toNat
  let c := c35 l v
  let a := run35a c ⟨0, v.r, v.q⟩
  let b := run35b c (w35 l v)
  .br (lt v.k (toInt64 l.n)) (.need (inRange v.k l.n) (.need (dec (fewN x.n)) (.br (chkS x != 0) (.leaf (.ret, ⟨v.k, v.k, chkS x⟩))
    (.need (inv35 c ⟨0, v.r, v.q⟩) (.br (eqXE a.1 .ret) (.leaf (.ret, ⟨v.k, a.2.r, a.2.q⟩)) (.need (eqXE a.1 (.exit 2)) (.need (inv35 c (w35 l v)) (.br (eqXE b.1 .ret) (.leaf (.ret, ⟨v.k, b.2.r, b.2.q⟩)) (.need (eqXE b.1 (.exit 4)) (.leaf (.normal, ⟨IntKind.i64.wrap (v.k + 1), b.2.r, b.2.q⟩))))))))))) (.leaf (.exit 0, v))

theorem t35 (l : Ses) (v : VJ) : ((evCode Try.prog H35 (evFn Try.prog H35 10) 35 0 1 (loopBody Try.prog 35 0) (S35 l v)).bind fun y => gcT [0, 2, 3, 4] 0 y) = (TX35 l v).bind fun y => .leaf (y.1, S35 l y.2) := by kernel_rfl

theorem sq35 (l : Ses) (hn : fewS l) : Sq (TX35 l) (μS l.n) stJ (sbS l) l.n (wrgS l) .ret (.exit 0) where
  out := by simp
  hit := by simp
  meas k hk := by unfold μS stJ; simp only; omega
  round k hk := by
    have hf := hn.2 k hk
    have hn := hn.1
    have hx : ∃ j : Nat, (c35 l (stJ k)).i = j ∧ j < (c35 l (stJ k)).l.n ∧ fewN (c35 l (stJ k)).l.n := ⟨k, rfl, hk, hn⟩
    unfold fewN at hn
    have hw : IntKind.i64.wrap ((k : Int) + 1) = ((k + 1 : Nat) : Int) := by rw [w64_id (by omega) (by omega)]; omega
    have ha : run35a (c35 l (stJ k)) (stJ 0) = bif anyB (fndB l (l.at k)) k then (.ret, sbJ k 8 (firstB (fndB l (l.at k)) k)) else (.exit 2, stJ k) := (sq35a' hx).fin0
    have hb : run35b (c35 l (stJ k)) (stJ 0) = bif anyB (fndD l (l.at k)) k then (.ret, sbJ k 19 (firstB (fndD l (l.at k)) k)) else (.exit 4, stJ k) := (sq35b' hx).fin0
    have hi : inv35 (c35 l (stJ k)) (stJ 0) = true := dec_iff.2 ⟨hx, 0, Nat.zero_le _, rfl⟩
    have ha' : run35a (c35 l (stJ k)) ⟨0, (stJ k).r, (stJ k).q⟩ = bif anyB (fndB l (l.at k)) k then (.ret, sbJ k 8 (firstB (fndB l (l.at k)) k)) else (.exit 2, stJ k) := ha
    refine ⟨fun _ => ⟨inR hk, dec_iff.2 hf, fun h1 => ?_, fun h1 => ⟨hi, fun h2 => ?_, fun h2 => ?_⟩⟩, fun h => ?_⟩
    · obtain ⟨b, e⟩ := wrgS_1 (l := l) (i := k) h1
      show if wrgS l k then _ else _
      rw [b, if_pos rfl]
      show (XE.ret, (⟨k, k, chkS (l.at k)⟩ : VJ)) = (.ret, ⟨k, k, wrgE l k⟩)
      rw [e]
    · cases hB : anyB (fndB l (l.at k)) k
      · rw [ha', hB] at h2; cases h2
      · obtain ⟨b, e⟩ := wrgS_2 (l := l) (i := k) h1 hB
        show if wrgS l k then _ else _
        rw [b, if_pos rfl, ha', hB]
        show (XE.ret, (⟨k, k, 8⟩ : VJ)) = (.ret, ⟨k, k, wrgE l k⟩)
        rw [e]
    · cases hB : anyB (fndB l (l.at k)) k
      · have hw35 : w35 l (stJ k) = stJ 0 := by
          unfold w35
          rw [ha', hB]
          rfl
        show Tree.All _ _
        rw [hw35, ha', hB]
        refine ⟨rfl, hi, fun h3 => ?_, fun h3 => ?_⟩
        · cases hD : anyB (fndD l (l.at k)) k
          · rw [hb, hD] at h3; cases h3
          · obtain ⟨b, e⟩ := wrgS_3 (l := l) (i := k) h1 hB hD
            show if wrgS l k then _ else _
            rw [b, if_pos rfl, hb, hD]
            show (XE.ret, (⟨k, k, 19⟩ : VJ)) = (.ret, ⟨k, k, wrgE l k⟩)
            rw [e]
        · cases hD : anyB (fndD l (l.at k)) k
          · have b := wrgS_0 (l := l) (i := k) h1 hB hD
            refine ⟨by rw [hb, hD]; rfl, ?_⟩
            show if wrgS l k then _ else _
            rw [b, if_neg (by simp), hb, hD]
            show (XE.normal, (⟨IntKind.i64.wrap ((k : Int) + 1), 0, 0⟩ : VJ)) = _
            rw [hw]; rfl
          · rw [hb, hD] at h3; cases h3
      · rw [ha', hB] at h2; cases h2
    · have : lt (k : Int) (toInt64 l.n) = false := h
      rw [ltF hk] at this; cases this
  stop := by
    refine ⟨fun h => ?_, fun _ => rfl⟩
    have : lt (l.n : Int) (toInt64 l.n) = true := h
    rw [ltS] at this; cases this

noncomputable def inv35o (l : Ses) (v : VJ) : Bool := dec (fewS l ∧ ∃ i, i ≤ l.n ∧ v = stJ i)
noncomputable def run35 (l : Ses) (v : VJ) : XE × VJ := fin (TX35 l) (μS l.n) v
def get35 : List (Nat × AV) → Mem → Option (Ses × VJ)
  | [(0, .one (.c (.sl [.int .i64, .int .i64, .int .i64, .int .i64, .sl [.int .i64, .int .i64, .int .i64], .int .i64, .bool, .bool] n ρ))), (2, .one (.c (.int .i64 r))), (3, .one (.c (.int .i64 q))), (4, .one (.c (.int .i64 k)))], [] => some (⟨n, ρ⟩, ⟨k, r, q⟩)
  | _, _ => none
noncomputable def L35 : Nat → St → Tree (XE × St) := loopH [0, 2, 3, 4] 0 76 get35 inv35o S35 run35 [.ret, .exit 0]

theorem l35 (fn : Func) (c b : Code) (hf : Try.prog.funcs[35]? = some fn) (hc : fn.body = some c) (hb : nthLoop c 0 = some b) : LoopOk Try.prog b L35 :=
  loopOk_of h35 10 35 0 hf hc hb [0, 2, 3, 4] 0 76 S35 TX35 t35 get35 inv35o (fun l => μS l.n) [.ret, .exit 0]
    (fun l m c v h => by unfold get35 at h; split at h <;> simp at h; obtain ⟨rfl, rfl⟩ := h; rfl)
    (rounds_of fun l v hv => by
      have h := (dec_iff.1 hv).1
      exact (sq35 l h).rounds (inv := fun v => inv35o l v = true) fun x => by unfold inv35o; rw [dec_iff]; exact ⟨fun h => h.2, fun k => ⟨h, k⟩⟩)

noncomputable abbrev H36 : Hd := ⟨H30.pc, H30.hc, [((34, 0), L34), ((35, 0), L35)], H30.mc⟩
theorem h36 : HdOk Try.prog H36 := (HdOk.lhCons h30 l35).lhCons l34

end Go.Proofs.Ytjiennnkbompkaa
