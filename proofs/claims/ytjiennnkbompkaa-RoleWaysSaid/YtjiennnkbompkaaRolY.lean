/-
  The roles of sites: the ways from role to role.
-/
import Derived.Test.YtjiennnkbompkaaRolX
namespace Go.Proofs.Ytjiennnkbompkaa
open Go Go.Sx Go.RowKit Classical

set_option maxRecDepth 100000

structure Way (x y : Sit) (t : Stp) : Prop where
  w1 : x.r = 5 → y.r = 5 ∨ y.r = 4
  w2 : x.r = 4 → y.r = 2 → t.k = 4
  w3 : x.r = 4 → y.r = 4 ∨ y.r = 2
  w4 : x.r ≠ 1 → y.r = 1 → t.k = 0 ∧ x.e < y.e ∧ x.l = true
  w5 : x.r = 1 → y.r ≠ 1 → t.k = 1

theorem way_same {x y : Sit} {t : Stp} (h : y.r = x.r) : Way x y t :=
  ⟨fun h1 => .inl (by omega), fun h1 h2 => by omega, fun h1 => .inl (by omega), fun h1 h2 => by omega, fun h1 h2 => by omega⟩

theorem nxt_way {x : Sit} {t : Stp} (hf : fewN x.n) : Way x (nxt x t) t := by
  unfold nxt
  cases he : (stepE x t == 0)
  · exact way_same rfl
  · have he : stepE x t = 0 := by simpa using he
    simp only [cond_true]
    unfold stepE at he
    unfold stepX
    cases h0 : (t.k == 0)
    · rw [h0] at he
      cases h1 : (t.k == 1)
      · rw [h1] at he
        cases h2 : (t.k == 2)
        · rw [h2] at he
          cases h3 : (t.k == 3)
          · rw [h3] at he
            cases h4 : (t.k == 4)
            · rw [h4] at he
              cases h5 : (t.k == 5)
              · exact way_same rfl
              · exact way_same rfl
            · rw [h4] at he
              obtain ⟨a, b, c⟩ := syn_ok hf he
              have hk : t.k = 4 := by simpa using h4
              have hy : (syn x t.n).r = 2 := rfl
              exact ⟨fun h => by omega, fun _ _ => hk, fun _ => .inr hy, fun _ h => by have h : (2 : Int) = 1 := h; omega, fun h => by omega⟩
          · rw [h3] at he
            obtain ⟨a, b, c, d, e, f⟩ := rej_ok he
            exact ⟨fun h => by rcases f with f | f; exact .inr f; omega, fun h h' => by rcases f with f | f <;> (simp only [cond_true, cond_false] at h'; omega), fun h => by rcases f with f | f; exact .inl f; omega, fun _ h => by rcases f with f | f <;> (simp only [cond_true, cond_false] at h; omega), fun h => by omega⟩
        · rw [h2] at he
          obtain ⟨a, b, c⟩ := iso_ok he
          exact ⟨fun h => by omega, fun h => by omega, fun h => by omega, fun _ h => by have h : (3 : Int) = 1 := h; omega, fun h => by omega⟩
      · rw [h1] at he
        obtain ⟨a, b, c, d, e⟩ := demo_ok he
        have hk : t.k = 1 := by simpa using h1
        exact ⟨fun h => by omega, fun h => by omega, fun h => by omega, fun h => by omega, fun _ _ => hk⟩
    · rw [h0] at he
      obtain ⟨a, b, c, d, e⟩ := pro_ok he
      have hk : t.k = 0 := by simpa using h0
      exact ⟨fun h => by omega, fun h => by omega, fun h => by omega, fun _ _ => ⟨hk, d, c⟩, fun h => by omega⟩

def b1 (x y : Sit) : Bool := (x.r == 5 && y.r != 5) && y.r != 4
def b2 (x y : Sit) (t : Stp) : Bool := (x.r == 4 && y.r == 2) && t.k != 4
def b3 (x y : Sit) : Bool := (x.r == 4 && y.r != 4) && y.r != 2
def b4 (x y : Sit) (t : Stp) : Bool := (x.r != 1 && y.r == 1) && ((t.k != 0 || le y.e x.e) || !x.l)
def b5 (x y : Sit) (t : Stp) : Bool := (x.r == 1 && y.r != 1) && t.k != 1

theorem way_bools {x y : Sit} {t : Stp} (w : Way x y t) : b1 x y = false ∧ b2 x y t = false ∧ b3 x y = false ∧ b4 x y t = false ∧ b5 x y t = false := by
  unfold b1 b2 b3 b4 b5
  refine ⟨?_, ?_, ?_, ?_, ?_⟩ <;> rw [← Bool.not_eq_true] <;> simp only [Bool.and_eq_true, Bool.or_eq_true, beq_iff_eq, bne_iff_ne, ne_eq, le_iff, Bool.not_eq_true']
  · rintro ⟨⟨h1, h2⟩, h3⟩; rcases w.w1 h1 with h | h <;> omega
  · rintro ⟨⟨h1, h2⟩, h3⟩; exact h3 (w.w2 h1 h2)
  · rintro ⟨⟨h1, h2⟩, h3⟩; rcases w.w3 h1 with h | h <;> omega
  · rintro ⟨⟨h1, h2⟩, h3⟩
    obtain ⟨a, b, c⟩ := w.w4 h1 h2
    rcases h3 with (h3 | h3) | h3
    · exact h3 a
    · omega
    · rw [c] at h3; cases h3
  · rintro ⟨⟨h1, h2⟩, h3⟩; exact h3 (w.w5 h1 h2)

def S8 (c : C7) (v : V7) : St := mkS 115 [(4, .one (.c (.bool false))), (5, .one (.c (.ptr 0 0))), (18, .one (.c (.sl stSh c.l.n c.l.σ))), (19, .one (.c (I c.m))), (20, .one (.c (I v.i)))] [some (24, [I v.x.a, I v.x.r, I v.x.e, I v.x.p, .sl spSh v.x.n v.x.ρ, I v.x.s, .bool v.x.l, .bool v.x.c])]
noncomputable def TX8 (c : C7) (v : V7) : Tree (XE × V7) :=
  let t := c.l.at v.i.toNat
  let y := nxt v.x t
  .br (lt v.i c.m) (.need (inRange v.i c.l.n) (.need (dec (small v.x.n)) (.br (b1 v.x y) (.leaf (.ret, v)) (.br (b2 v.x y t) (.leaf (.ret, v)) (.br (b3 v.x y) (.leaf (.ret, v)) (.br (b4 v.x y t) (.leaf (.ret, v)) (.br (b5 v.x y t) (.leaf (.ret, v)) (.leaf (.normal, ⟨y, IntKind.i64.wrap (v.i + 1)⟩)))))))))
    (.leaf (.exit 0, v))

theorem t8 (c : C7) (v : V7) : ((evCode Try.prog H20 (evFn Try.prog H20 10) 8 0 1 (loopBody Try.prog 8 0) (S8 c v)).bind fun y => gcT [4, 5, 18, 19, 20] 0 y) = (TX8 c v).bind fun y => .leaf (y.1, S8 c y.2) := by kernel_rfl

theorem rounds8 (c : C7) : Rounds (TX8 c) (fun v => inv7 c v = true) (μ7 c) (fun y => y.1 = .exit 0) := by
  intro v hv
  obtain ⟨hm, hn, ⟨k, hk, hi, hx⟩, ok⟩ := dec_iff.1 hv
  have hsm : small v.x.n := by unfold small; omega
  have hf : fewN v.x.n := dec_iff.1 (small_few hsm)
  rcases Nat.lt_or_eq_of_le hk with hlt | rfl
  · obtain ⟨c1, c2, c3, c4, c5⟩ := nxt_ok (x := v.x) (t := c.l.at v.i.toNat) hf ok
    have hw : IntKind.i64.wrap (v.i + 1) = ((k + 1 : Nat) : Int) := by rw [hi, w64_id (by omega) (by omega)]; omega
    obtain ⟨w1, w2, w3, w4, w5⟩ := way_bools (nxt_way (x := v.x) (t := c.l.at v.i.toNat) hf)
    refine ⟨fun _ => ⟨by rw [hi]; exact inR hlt, dec_iff.2 hsm, fun h => ?_, fun _ => ⟨fun h => ?_, fun _ => ⟨fun h => ?_, fun _ => ⟨fun h => ?_, fun _ => ⟨fun h => ?_, fun _ => ⟨dec_iff.2 ⟨hm, hn, ⟨k + 1, hlt, hw, ?_⟩, c1⟩, ?_⟩⟩⟩⟩⟩⟩, fun h => ?_⟩
    · rw [w1] at h; cases h
    · rw [w2] at h; cases h
    · rw [w3] at h; cases h
    · rw [w4] at h; cases h
    · rw [w5] at h; cases h
    · show (nxt v.x (c.l.at v.i.toNat)).n ≤ k + 1
      omega
    · show ((c.l.n : Int) - IntKind.i64.wrap (v.i + 1)).toNat < ((c.l.n : Int) - v.i).toNat
      rw [hw, hi]; omega
    · rw [hi, hm, ltF hlt] at h; cases h
  · refine ⟨fun h => ?_, fun _ => rfl⟩
    rw [hi, hm, ltS] at h; cases h

noncomputable def run8 (c : C7) (v : V7) : XE × V7 := fin (TX8 c) (μ7 c) v
def get8 : List (Nat × AV) → Mem → Option (C7 × V7)
  | [(4, .one (.c (.bool false))), (5, .one (.c (.ptr 0 0))), (18, .one (.c (.sl [.int .i64, .int .i64, .int .i64, .int .i64] n σ))), (19, .one (.c (.int .i64 m))), (20, .one (.c (.int .i64 i)))], [some (24, [.int .i64 a, .int .i64 ro, .int .i64 e, .int .i64 p, .sl [.int .i64, .int .i64, .int .i64] k ρ, .int .i64 s, .bool l, .bool c])] => some (⟨⟨n, σ⟩, m⟩, ⟨⟨a, ro, e, p, k, ρ, s, l, c⟩, i⟩)
  | _, _ => none
noncomputable def L8 : Nat → St → Tree (XE × St) := flatMH 0 4 spSh (loopH [4, 5, 18, 19, 20] 0 115 get8 inv7 S8 run8 [.ret, .exit 0])

theorem l8 (fn : Func) (c b : Code) (hf : Try.prog.funcs[8]? = some fn) (hc : fn.body = some c) (hb : nthLoop c 0 = some b) : LoopOk Try.prog b L8 :=
  flatMH_ok _ _ _ (loopOk_of h20 10 8 0 hf hc hb [4, 5, 18, 19, 20] 0 115 S8 TX8 t8 get8 inv7 μ7 [.ret, .exit 0]
    (fun l m c v h => by unfold get8 at h; split at h <;> simp at h; obtain ⟨rfl, rfl⟩ := h; rfl) rounds8)

noncomputable abbrev H8' : Hd := ⟨H20.pc, H20.hc, [((8, 0), L8)], H20.mc⟩
theorem h8' : HdOk Try.prog H8' := HdOk.lhCons h20 l8

theorem law8 (u : Int) (h0 : 0 ≤ u) (l : Sts) {F : Nat → Prop} {W : World} {vs : List Value} (h : All2 (A1.Rel F W []) [.c (.int .u8 u), .c (.sl stSh l.n l.σ)] vs) :
    Calls Try.prog 8 vs.toArray W (fun e W' => e = .returned (.bool true) ∧ Below W.heap.size W W') := by
  let c : C7 := ⟨l, toInt64 l.n⟩
  let v : V7 := ⟨x0 (IntKind.i64.wrap (u.tmod 4)), 0⟩
  refine law_of_tree h8' 12 8 (u := .need true (.br (lt 40 (toInt64 l.n)) (.leaf tT) (.need (inv7 c v) (.br (eqXE (run8 c v).1 .ret) (.leaf (.one (.c (.bool false)))) (.need (eqXE (run8 c v).1 (.exit 0)) (.leaf tT)))))) (by kernel_rfl) ⟨rfl, fun _ => rfl, fun hn => ?_⟩ h
  have hn : l.n ≤ 40 := by
    rw [← Bool.not_eq_true, lt_iff] at hn
    have : ¬ (40 : Int) < (l.n : Int) := hn
    omega
  have hi : inv7 c v = true := dec_iff.2 ⟨rfl, hn, ⟨0, Nat.zero_le _, rfl, Nat.le_refl _⟩, x0_ok (num_ok h0)⟩
  have hr : (run8 c v).1 = .exit 0 := fin_of (rounds8 c) hi
  refine ⟨hi, fun h => ?_, fun _ => ⟨?_, rfl⟩⟩
  · rw [hr] at h; cases h
  · rw [hr]; rfl

end Go.Proofs.Ytjiennnkbompkaa
