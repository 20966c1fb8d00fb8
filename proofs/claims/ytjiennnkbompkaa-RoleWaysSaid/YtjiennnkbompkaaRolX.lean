/-
  The roles of sites: whatever happens to a site, it remains correct.
-/
import Derived.Test.YtjiennnkbompkaaRolW
namespace Go.Proofs.Ytjiennnkbompkaa
open Go Go.Sx Go.RowKit Classical

set_option maxRecDepth 100000

abbrev stSh : List Sh := [.int .i64, .int .i64, .int .i64, .int .i64]
/-- a list of steps -/
structure Sts where
  n : Nat
  σ : Val
def Sts.at (l : Sts) (i : Nat) : Stp := ⟨((l.σ.at i).at 0).N [], ((l.σ.at i).at 1).N [], ((l.σ.at i).at 2).N [], ((l.σ.at i).at 3).N []⟩

structure C7 where
  l : Sts
  m : Int
structure V7 where
  x : Sit
  i : Int

def S7 (c : C7) (v : V7) : St := mkS 80 [(4, .one (.c (.bool false))), (5, .one (.c (.ptr 0 0))), (20, .one (.c (.sl stSh c.l.n c.l.σ))), (21, .one (.c (I c.m))), (22, .one (.c (I v.i)))] [some (24, [I v.x.a, I v.x.r, I v.x.e, I v.x.p, .sl spSh v.x.n v.x.ρ, I v.x.s, .bool v.x.l, .bool v.x.c])]

def bad7a (x y : Sit) (t : Stp) : Bool := ((chkS y != 0 || y.a != x.a) || lt y.e x.e) || (lt y.p x.p && t.k != 4)
def bad7b (y : Sit) : Bool := (hd y.ln).t != y.p || lt y.e (hd y.ln).e
noncomputable def TX7 (c : C7) (v : V7) : Tree (XE × V7) :=
  let t := c.l.at v.i.toNat
  let y := nxt v.x t
  .br (lt v.i c.m) (.need (inRange v.i c.l.n) (.need (dec (small v.x.n)) (.need (dec (fewN y.n)) (.br (bad7a v.x y t) (.leaf (.ret, v)) (.need (dec (fewN y.n)) (.br (bad7b y) (.leaf (.ret, v)) (.leaf (.normal, ⟨y, IntKind.i64.wrap (v.i + 1)⟩)))))))) (.leaf (.exit 0, v))

theorem t7 (c : C7) (v : V7) : ((evCode Try.prog H20 (evFn Try.prog H20 10) 7 0 1 (loopBody Try.prog 7 0) (S7 c v)).bind fun y => gcT [4, 5, 20, 21, 22] 0 y) = (TX7 c v).bind fun y => .leaf (y.1, S7 c y.2) := by kernel_rfl

def μ7 (c : C7) (v : V7) : Nat := (c.l.n - v.i).toNat
structure Inv7 (c : C7) (v : V7) : Prop where
  m : c.m = toInt64 c.l.n
  n : c.l.n ≤ 40
  i : ∃ k : Nat, k ≤ c.l.n ∧ v.i = k ∧ v.x.n ≤ k
  ok : SiteOk v.x
noncomputable def inv7 (c : C7) (v : V7) : Bool := dec (Inv7 c v)

theorem rounds7 (c : C7) : Rounds (TX7 c) (fun v => inv7 c v = true) (μ7 c) (fun y => y.1 = .exit 0) := by
  intro v hv
  obtain ⟨hm, hn, ⟨k, hk, hi, hx⟩, ok⟩ := dec_iff.1 hv
  have hsm : small v.x.n := by unfold small; omega
  have hf : fewN v.x.n := dec_iff.1 (small_few hsm)
  rcases Nat.lt_or_eq_of_le hk with hlt | rfl
  · obtain ⟨b1, b2, b3, b4, b5⟩ := nxt_ok (x := v.x) (t := c.l.at v.i.toNat) hf ok
    have hfy : dec (fewN (nxt v.x (c.l.at v.i.toNat)).n) = true := dec_iff.2 (by unfold fewN; omega)
    have hw : IntKind.i64.wrap (v.i + 1) = ((k + 1 : Nat) : Int) := by rw [hi, w64_id (by omega) (by omega)]; omega
    have n1 : bad7a v.x (nxt v.x (c.l.at v.i.toNat)) (c.l.at v.i.toNat) = false := by
      unfold bad7a
      rw [chk_of_ok b1, b2]
      have h1 : lt (nxt v.x (c.l.at v.i.toNat)).e v.x.e = false := by rw [← Bool.not_eq_true, lt_iff]; omega
      rw [h1]
      cases h4 : ((c.l.at v.i.toNat).k != 4)
      · simp [bne]
      · have := b4 (by simpa [bne] using h4)
        have h2 : lt (nxt v.x (c.l.at v.i.toNat)).p v.x.p = false := by rw [← Bool.not_eq_true, lt_iff]; omega
        rw [h2]
        simp [bne]
    have n2 : bad7b (nxt v.x (c.l.at v.i.toNat)) = false := by
      unfold bad7b
      rw [b1.ht]
      have h1 : lt (nxt v.x (c.l.at v.i.toNat)).e (hd (nxt v.x (c.l.at v.i.toNat)).ln).e = false := by rw [← Bool.not_eq_true, lt_iff]; have := b1.he; omega
      rw [h1]
      simp [bne]
    refine ⟨fun _ => ⟨by rw [hi]; exact inR hlt, dec_iff.2 hsm, hfy, fun h => ?_, fun _ => ⟨hfy, fun h => ?_, fun _ => ⟨dec_iff.2 ⟨hm, hn, ⟨k + 1, hlt, hw, ?_⟩, b1⟩, ?_⟩⟩⟩, fun h => ?_⟩
    · rw [n1] at h; cases h
    · rw [n2] at h; cases h
    · show (nxt v.x (c.l.at v.i.toNat)).n ≤ k + 1
      omega
    · show ((c.l.n : Int) - IntKind.i64.wrap (v.i + 1)).toNat < ((c.l.n : Int) - v.i).toNat
      rw [hw, hi]; omega
    · rw [hi, hm, ltF hlt] at h; cases h
  · refine ⟨fun h => ?_, fun _ => rfl⟩
    rw [hi, hm, ltS] at h; cases h

noncomputable def run7 (c : C7) (v : V7) : XE × V7 := fin (TX7 c) (μ7 c) v
def get7 : List (Nat × AV) → Mem → Option (C7 × V7)
  | [(4, .one (.c (.bool false))), (5, .one (.c (.ptr 0 0))), (20, .one (.c (.sl [.int .i64, .int .i64, .int .i64, .int .i64] n σ))), (21, .one (.c (.int .i64 m))), (22, .one (.c (.int .i64 i)))], [some (24, [.int .i64 a, .int .i64 ro, .int .i64 e, .int .i64 p, .sl [.int .i64, .int .i64, .int .i64] k ρ, .int .i64 s, .bool l, .bool c])] => some (⟨⟨n, σ⟩, m⟩, ⟨⟨a, ro, e, p, k, ρ, s, l, c⟩, i⟩)
  | _, _ => none
noncomputable def L7 : Nat → St → Tree (XE × St) := flatMH 0 4 spSh (loopH [4, 5, 20, 21, 22] 0 80 get7 inv7 S7 run7 [.ret, .exit 0])

theorem l7 (fn : Func) (c b : Code) (hf : Try.prog.funcs[7]? = some fn) (hc : fn.body = some c) (hb : nthLoop c 0 = some b) : LoopOk Try.prog b L7 :=
  flatMH_ok _ _ _ (loopOk_of h20 10 7 0 hf hc hb [4, 5, 20, 21, 22] 0 80 S7 TX7 t7 get7 inv7 μ7 [.ret, .exit 0]
    (fun l m c v h => by unfold get7 at h; split at h <;> simp at h; obtain ⟨rfl, rfl⟩ := h; rfl) rounds7)

noncomputable abbrev H7' : Hd := ⟨H20.pc, H20.hc, [((7, 0), L7)], H20.mc⟩
theorem h7' : HdOk Try.prog H7' := HdOk.lhCons h20 l7

/-- the site that steps begin with -/
def x0 (a : Int) : Sit := ⟨a, 0, 0, 0, 0, Val.zero, -1, true, false⟩
theorem x0_ok {a : Int} (h : sit a = true) : SiteOk (x0 a) := ⟨rfl, rfl, by show (0 : Int) ≤ 0; omega, by show (0 : Int) ≤ 0; omega, by show (0 : Int) ≤ _; omega, by show (0 : Int) ≤ 0; omega, by show (0 : Int) ≤ _; omega, h, by show (0 : Int) ≤ 0; omega, by show (0 : Int) ≤ 5; omega, fun _ => rfl, (fun h => by cases h), fun _ => rfl⟩

theorem num_ok {u : Int} (h0 : 0 ≤ u) : sit (IntKind.i64.wrap (u.tmod 4)) = true := by
  have h1 : u.tmod 4 = u % 4 := Int.tmod_eq_emod_of_nonneg h0
  rw [h1, w64_id (by omega) (by omega)]
  unfold sit
  rw [Bool.and_eq_true, le_iff, lt_iff]
  omega

theorem law7 (u : Int) (h0 : 0 ≤ u) (l : Sts) {F : Nat → Prop} {W : World} {vs : List Value} (h : All2 (A1.Rel F W []) [.c (.int .u8 u), .c (.sl stSh l.n l.σ)] vs) :
    Calls Try.prog 7 vs.toArray W (fun e W' => e = .returned (.bool true) ∧ Below W.heap.size W W') := by
  let c : C7 := ⟨l, toInt64 l.n⟩
  let v : V7 := ⟨x0 (IntKind.i64.wrap (u.tmod 4)), 0⟩
  refine law_of_tree h7' 12 7 (u := .need true (.br (lt 40 (toInt64 l.n)) (.leaf tT) (.need (inv7 c v) (.br (eqXE (run7 c v).1 .ret) (.leaf (.one (.c (.bool false)))) (.need (eqXE (run7 c v).1 (.exit 0)) (.leaf tT)))))) (by kernel_rfl) ⟨rfl, fun _ => rfl, fun hn => ?_⟩ h
  have hn : l.n ≤ 40 := by
    rw [← Bool.not_eq_true, lt_iff] at hn
    have : ¬ (40 : Int) < (l.n : Int) := hn
    omega
  have hi : inv7 c v = true := dec_iff.2 ⟨rfl, hn, ⟨0, Nat.zero_le _, rfl, Nat.le_refl _⟩, x0_ok (num_ok h0)⟩
  have hr : (run7 c v).1 = .exit 0 := fin_of (rounds7 c) hi
  refine ⟨hi, fun h => ?_, fun _ => ⟨?_, rfl⟩⟩
  · rw [hr] at h; cases h
  · rw [hr]; rfl

end Go.Proofs.Ytjiennnkbompkaa
