/-
  The session: the reference's comparison of lists of messages.
-/
import Derived.Test.YtgkgepgkeljclaaSesD
namespace Go.Proofs.Ytgkgepgkeljclaa
open Go Go.Sx Classical

set_option maxRecDepth 100000

noncomputable abbrev H8 : Hd := ⟨(38, nG G38) :: H6.pc, H6.hc, []⟩
theorem h8 : HdOk Try.prog H8 := h6.tcCons p38

/-- an element -/
def elt (ρ : Val) (i : Nat) : Ms := ⟨((ρ.at i).at 0).N [], ((ρ.at i).at 1).N [], ((ρ.at i).at 2).N [], ((ρ.at i).at 3).N [], ((ρ.at i).at 4).N [], ((ρ.at i).at 5).N [], ((ρ.at i).at 6).L [], (ρ.at i).at 6, ((ρ.at i).at 7).L [], (ρ.at i).at 7⟩

/-- a list of messages -/
structure Ml where
  n : Nat
  ρ : Val

def S13 (k : Ml × Ml) (i : Int) : St := mkS 27 [(0, .one (.c (.sl msgSh k.1.n k.1.ρ))), (1, .one (.c (.sl msgSh k.2.n k.2.ρ))), (4, .one (.c (.bool false))), (5, .one (.c (I i)))] []
noncomputable def TX13 (k : Ml × Ml) (i : Int) : Tree (XE × Int) :=
  .br (lt i (toInt64 k.1.n)) (.need (inRange i k.1.n) (.need (inRange i k.2.n) (.need (dec ((elt k.1.ρ i.toNat).n ≤ 4611686018427387904))
    (.br (!(same (elt k.1.ρ i.toNat) (elt k.2.ρ i.toNat))) (.leaf (.ret, i)) (.leaf (.normal, IntKind.i64.wrap (i + 1))))))) (.leaf (.exit 0, i))
def get13 : List (Nat × AV) → Mem → Option ((Ml × Ml) × Int)
  | [(0, .one (.c (.sl [.int .i64, .int .i64, .int .i64, .int .i64, .int .i64, .int .i64, .sl [.int .i64], .sl [.int .u8]] n ρ))), (1, .one (.c (.sl [.int .i64, .int .i64, .int .i64, .int .i64, .int .i64, .int .i64, .sl [.int .i64], .sl [.int .u8]] m σ))), (4, .one (.c (.bool false))), (5, .one (.c (.int .i64 i)))], [] => some ((⟨n, ρ⟩, ⟨m, σ⟩), i)
  | _, _ => none

def bad13 (k : Ml × Ml) (i : Nat) : Bool := !(same (elt k.1.ρ i) (elt k.2.ρ i))

/-- what a comparison needs -/
def Pre13 (x : Ml) : Prop := x.n ≤ 4611686018427387904 ∧ ∀ i, i < x.n → (elt x.ρ i).n ≤ 4611686018427387904

theorem scan13 (k : Ml × Ml) (h1 : k.1.n = k.2.n) (h2 : Pre13 k.1) : Scan (TX13 k) k.1.n (bad13 k) .ret (.exit 0) where
  small := h2.1
  out := by simp
  hit := by simp
  round i hi := by
    refine ⟨fun _ => ⟨inR hi, inR (h1 ▸ hi), dec_iff.2 (h2.2 i hi), fun hb => ?_, fun hb => ?_⟩, fun hl => ?_⟩
    · have : bad13 k i = true := hb
      simp only [Tree.All, this, if_true, and_self]
    · have : bad13 k i = false := hb
      simp only [Tree.All, this, Bool.false_eq_true, if_false]
      exact ⟨trivial, w64_next (by have := h2.1; omega)⟩
    · rw [ltF hi] at hl; cases hl
  stop := by
    refine ⟨fun hl => ?_, fun _ => rfl⟩
    rw [ltS] at hl; cases hl

noncomputable def inv13 (k : Ml × Ml) (i : Int) : Bool := dec (k.1.n = k.2.n ∧ Pre13 k.1 ∧ scanInv k.1.n i)
noncomputable def run13 (k : Ml × Ml) (i : Int) : XE × Int := fin (TX13 k) (scanμ k.1.n) i
noncomputable def L13 : Nat → St → Tree (XE × St) := loopH [0, 1, 4, 5] 0 27 get13 inv13 S13 run13 [.ret, .exit 0]

theorem l13 (fn : Func) (c b : Code) (hf : Try.prog.funcs[13]? = some fn) (hc : fn.body = some c) (hb : nthLoop c 0 = some b) : LoopOk Try.prog b L13 :=
  loopOk_of h8 10 13 0 hf hc hb [0, 1, 4, 5] 0 27 S13 TX13 (fun k i => by kernel_rfl) get13 inv13 (fun k => scanμ k.1.n) [.ret, .exit 0]
    (fun l m c v h => by unfold get13 at h; split at h <;> simp at h; obtain ⟨rfl, rfl⟩ := h; rfl)
    (Q := fun _ _ => True) fun k x hx => by
      have hx' := dec_iff.1 hx
      exact All.imp (fun y hy => by
        obtain ⟨e, z⟩ := y
        cases e with
        | normal => exact hy
        | exit k => trivial
        | ret => trivial) ((scan13 k hx'.1 hx'.2.1).rounds (inv := fun i => inv13 k i = true) (fun i => by unfold inv13; rw [dec_iff]; exact ⟨fun h => h.2.2, fun h => ⟨hx'.1, hx'.2.1, h⟩⟩) x hx)

noncomputable abbrev H9 : Hd := ⟨H8.pc, H8.hc, [((13, 0), L13)]⟩
theorem h9 : HdOk Try.prog H9 := HdOk.lhCons h8 l13

/-- are two lists of messages the same? -/
noncomputable def sameL (x y : Ml) : Bool := !(toInt64 x.n != toInt64 y.n) && !(anyB (bad13 (x, y)) x.n)

noncomputable def G13 : List A1 → Option (Bool × AV)
  | [.c (.sl [.int .i64, .int .i64, .int .i64, .int .i64, .int .i64, .int .i64, .sl [.int .i64], .sl [.int .u8]] n ρ), .c (.sl [.int .i64, .int .i64, .int .i64, .int .i64, .int .i64, .int .i64, .sl [.int .i64], .sl [.int .u8]] m σ)] =>
    some (dec (Pre13 ⟨n, ρ⟩), .one (.c (.bool (sameL ⟨n, ρ⟩ ⟨m, σ⟩))))
  | _ => none

theorem all13 (x y : Ml) (hp : Pre13 x) : (Tree.br (toInt64 x.n != toInt64 y.n) (.leaf (AV.one (.c (.bool false))))
        (.need (inv13 (x, y) 0)
          (.br (eqXE (run13 (x, y) 0).1 .ret) (.leaf (AV.one (.c (.bool false))))
            (.need (eqXE (run13 (x, y) 0).1 (.exit 0)) (.leaf (AV.one (.c (.bool true)))))))).All (fun r => r = .one (.c (.bool (sameL x y)))) := by
  refine ⟨fun hd => ?_, fun hd => ?_⟩
  · simp [Tree.All, sameL, hd]
  · have hnn : x.n = y.n := by
      simp [toInt64] at hd
      omega
    have hinv : inv13 (x, y) 0 = true := dec_iff.2 ⟨hnn, hp, by unfold scanInv; simp only; omega⟩
    have hs := scan13 (x, y) hnn hp
    have hf : (run13 (x, y) 0).1 = bif anyB (bad13 (x, y)) x.n then .ret else .exit 0 := hs.fin0
    refine ⟨hinv, ?_⟩
    rw [hf]
    cases ha : anyB (bad13 (x, y)) x.n
    · exact ⟨fun h => (by cases h), fun _ => ⟨rfl, by simp [Tree.All, sameL, hd, ha]⟩⟩
    · exact ⟨fun _ => by simp [Tree.All, sameL, ha], fun h => (by cases h)⟩

theorem p13 : TcOne Try.prog 13 (nG G13) := tcOne_of_tree h9 10 13 fun args r h => by
  unfold G13 at h; split at h
  · rename_i n ρ m σ
    obtain ⟨hp, rfl⟩ := Prod.mk.inj (Option.some.inj h)
    refine ⟨rfl, _, ?_, all13 ⟨n, ρ⟩ ⟨m, σ⟩ (dec_iff.1 hp)⟩
    kernel_rfl
  · cases h

noncomputable abbrev H10 : Hd := ⟨(13, nG G13) :: H8.pc, H8.hc, []⟩
theorem h10 : HdOk Try.prog H10 := h8.tcCons p13

theorem same_refl (x : Ms) : same x x = true := by
  have h : anyB (bad38 (x, x)) x.n = false := anyB_none fun i _ => by simp [bad38]
  simp [same, dif, h]

theorem sameL_refl (x : Ml) : sameL x x = true := by
  have h : anyB (bad13 (x, x)) x.n = false := anyB_none fun i _ => by simp [bad13, same_refl]
  simp [sameL, h]

/-- lists without elements are the same -/
theorem sameL_nil {x y : Ml} (hx : x.n = 0) (hy : y.n = 0) : sameL x y = true := by
  simp [sameL, hx, hy, anyB]

end Go.Proofs.Ytgkgepgkeljclaa
