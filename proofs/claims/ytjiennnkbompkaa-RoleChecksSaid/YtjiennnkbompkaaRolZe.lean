/-
  The roles of sites: the checks of the program and of the reference are the same.
-/
import Derived.Test.YtjiennnkbompkaaRolZd
namespace Go.Proofs.Ytjiennnkbompkaa
open Go Go.Sx Go.RowKit Classical

set_option maxRecDepth 100000

structure C9 where
  l : Ses
  j : Ses
  x : Int
  m : Int

def S9 (c : C9) (v : Int) : St := mkS 61 [(0, .one (.c (.sl siSh c.l.n c.l.ρ))), (1, .one (.c (I c.x))), (4, .one (.c (.bool false))), (19, .one (.c (.sl siSh c.j.n c.j.ρ))), (20, .one (.c (I c.m))), (21, .one (.c (I v)))] []
noncomputable def TX9 (c : C9) (v : Int) : Tree (XE × Int) :=
  let y := c.j.at v.toNat
  .br (lt v c.m) (.need (inRange v c.j.n) (.need (dec (fewN y.n)) (.need (dec (fewN y.n)) (.need (!((chkS y != chkS y) == false && true) || dec (fewN y.n)) (.need (!((chkS y != chkS y) == false && true) || dec (fewN y.n))
    (.br (chkS y != chkS y || !(alw y c.x == alw y c.x)) (.leaf (.ret, v)) (.leaf (.normal, IntKind.i64.wrap (v + 1))))))))) (.leaf (.exit 0, v))

theorem t9 (c : C9) (v : Int) : ((evCode Try.prog H37 (evFn Try.prog H37 10) 9 0 1 (loopBody Try.prog 9 0) (S9 c v)).bind fun y => gcT [0, 1, 4, 19, 20, 21] 0 y) = (TX9 c v).bind fun y => .leaf (y.1, S9 c y.2) := by kernel_rfl

theorem sq9 (l : Ses) (x : Int) {m : Int} (hm : m = toInt64 l.n) (hn : fewS l) : Sq (TX9 ⟨l, l, x, m⟩) (fun v => (l.n - v).toNat) (fun i => (i : Int)) (fun i => (i : Int)) l.n (fun _ => false) .ret (.exit 0) where
  out := by simp
  hit := by simp
  meas k hk := by show ((l.n : Int) - (k : Int)).toNat = _; omega
  round k hk := by
    have hf := hn.2 k hk
    have hn := hn.1
    unfold fewN at hn
    have hw : IntKind.i64.wrap ((k : Int) + 1) = ((k + 1 : Nat) : Int) := by rw [w64_id (by omega) (by omega)]; omega
    have hd : dec (fewN (l.at k).n) = true := dec_iff.2 hf
    have n1 : (chkS (l.at k) != chkS (l.at k)) = false := by simp
    refine ⟨fun _ => ⟨inR hk, hd, hd, ?_, ?_, fun h => ?_, fun _ => ?_⟩, fun h => ?_⟩
    · show (_ || dec (fewN (l.at k).n)) = true
      rw [hd, Bool.or_true]
    · show (_ || dec (fewN (l.at k).n)) = true
      rw [hd, Bool.or_true]
    · have h : (chkS (l.at k) != chkS (l.at k) || !(alw (l.at k) x == alw (l.at k) x)) = true := h
      rw [n1] at h
      simp at h
    · show (XE.normal, IntKind.i64.wrap ((k : Int) + 1)) = (.normal, ((k + 1 : Nat) : Int))
      rw [hw]
    · have : lt (k : Int) m = false := h
      rw [hm, ltF hk] at this; cases this
  stop := by
    refine ⟨fun h => ?_, fun _ => rfl⟩
    have : lt (l.n : Int) m = true := h
    rw [hm, ltS] at this; cases this

noncomputable def inv9 (c : C9) (v : Int) : Bool := dec ((c.j = c.l ∧ c.m = toInt64 c.l.n ∧ fewS c.l) ∧ ∃ i : Nat, i ≤ c.l.n ∧ v = i)
noncomputable def run9 (c : C9) (v : Int) : XE × Int := fin (TX9 c) (fun v => (c.l.n - v).toNat) v
def get9 : List (Nat × AV) → Mem → Option (C9 × Int)
  | [(0, .one (.c (.sl [.int .i64, .int .i64, .int .i64, .int .i64, .sl [.int .i64, .int .i64, .int .i64], .int .i64, .bool, .bool] n ρ))), (1, .one (.c (.int .i64 x))), (4, .one (.c (.bool false))), (19, .one (.c (.sl [.int .i64, .int .i64, .int .i64, .int .i64, .sl [.int .i64, .int .i64, .int .i64], .int .i64, .bool, .bool] n2 ρ2))), (20, .one (.c (.int .i64 m))), (21, .one (.c (.int .i64 i)))], [] => some (⟨⟨n, ρ⟩, ⟨n2, ρ2⟩, x, m⟩, i)
  | _, _ => none
noncomputable def L9 : Nat → St → Tree (XE × St) := loopH [0, 1, 4, 19, 20, 21] 0 61 get9 inv9 S9 run9 [.ret, .exit 0]

theorem l9 (fn : Func) (c b : Code) (hf : Try.prog.funcs[9]? = some fn) (hc : fn.body = some c) (hb : nthLoop c 0 = some b) : LoopOk Try.prog b L9 :=
  loopOk_of h37 10 9 0 hf hc hb [0, 1, 4, 19, 20, 21] 0 61 S9 TX9 t9 get9 inv9 (fun c v => (c.l.n - v).toNat) [.ret, .exit 0] (Q := fun (c : C9) y => (∃ i : Nat, i < c.l.n ∧ false = true ∧ y = (.ret, (i : Int))) ∨ y = (.exit 0, (c.l.n : Int)))
    (fun l m c v h => by unfold get9 at h; split at h <;> simp at h; obtain ⟨rfl, rfl⟩ := h; rfl)
    (rounds_of fun c v hv => by
      obtain ⟨l, j, x, m⟩ := c
      have h := (dec_iff.1 hv).1
      have hj : j = l := h.1
      subst hj
      exact (sq9 j x h.2.1 h.2.2).rounds (inv := fun v => inv9 ⟨j, j, x, m⟩ v = true) fun x => by unfold inv9; rw [dec_iff]; exact ⟨fun h => h.2, fun k => ⟨h, k⟩⟩)

noncomputable abbrev H9o : Hd := ⟨H37.pc, H37.hc, [((9, 0), L9)], H37.mc⟩
theorem h9o : HdOk Try.prog H9o := HdOk.lhCons h37 l9

theorem law9 (l : Ses) (x : Int) {F : Nat → Prop} {W : World} {vs : List Value} (h : All2 (A1.Rel F W []) [.c (.sl siSh l.n l.ρ), .c (I x)] vs) :
    Calls Try.prog 9 vs.toArray W (fun e W' => e = .returned (.bool true) ∧ Below W.heap.size W W') := by
  let c : C9 := ⟨l, l, x, toInt64 l.n⟩
  refine law_of_tree h9o 12 9 (u := .need (!(lt 10 (toInt64 l.n) == false && true) || dec (fewN l.n)) (.br (lt 10 (toInt64 l.n) || anyB (fndA l) l.n) (.leaf tT) (.need (inv9 c 0) (.br (eqXE (run9 c 0).1 .ret) (.leaf (.one (.c (.bool false))))
    (.need (eqXE (run9 c 0).1 (.exit 0)) (.need (dec (fewS l)) (.need (dec (fewS l)) (.leaf (.one (.c (.bool ((ckI l == ckI l && ckE l == ckE l) || false)))))))))))) (by kernel_rfl) ⟨?_, fun _ => rfl, fun hn => ?_⟩ h
  · cases h10 : lt 10 (toInt64 l.n)
    · have hn : ¬ lt 10 (toInt64 l.n) = true := by rw [h10]; simp
      rw [lt_iff] at hn
      have hn : ¬ (10 : Int) < (l.n : Int) := hn
      have : dec (fewN l.n) = true := dec_iff.2 (by unfold fewN; omega)
      rw [this]; rfl
    · rfl
  · rw [Bool.or_eq_false_iff] at hn
    obtain ⟨h10, ha⟩ := hn
    have hn : ¬ lt 10 (toInt64 l.n) = true := by rw [h10]; simp
    rw [lt_iff] at hn
    have hn : ¬ (10 : Int) < (l.n : Int) := hn
    have hs : fewS l := ⟨by unfold fewN; omega, fun i hi => by
      have h1 : fndA l i = false := by
        rw [← Bool.not_eq_true]
        intro hh
        rw [anyB_iff.2 ⟨i, hi, hh⟩] at ha; cases ha
      unfold fndA at h1
      have h1 : le (toInt64 (l.at i).n) 20 = true := by simpa using h1
      rw [le_iff] at h1
      have h1 : ((l.at i).n : Int) ≤ 20 := h1
      unfold fewN; omega⟩
    have hi : inv9 c 0 = true := dec_iff.2 ⟨⟨rfl, rfl, hs⟩, 0, Nat.zero_le _, rfl⟩
    have hr : run9 c 0 = (.exit 0, (l.n : Int)) := by
      have : run9 c 0 = bif anyB (fun _ => false) l.n then _ else _ := (sq9 l x rfl hs).fin0
      rw [this]
      cases hb : anyB (fun _ => false) l.n
      · rfl
      · obtain ⟨i, _, h⟩ := anyB_iff.1 hb; cases h
    refine ⟨hi, fun h => ?_, fun _ => ⟨?_, dec_iff.2 hs, dec_iff.2 hs, ?_⟩⟩
    · rw [hr] at h; cases h
    · rw [hr]; rfl
    · show AV.one _ = tT
      simp

end Go.Proofs.Ytjiennnkbompkaa
