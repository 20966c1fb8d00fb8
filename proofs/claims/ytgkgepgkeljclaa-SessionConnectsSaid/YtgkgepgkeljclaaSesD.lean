/-
  The session: the reference's comparison of messages.
-/
import Derived.Test.YtgkgepgkeljclaaSesC
import Derived.Test.YtgkgepgkeljclaaEngW
namespace Go.Proofs.Ytgkgepgkeljclaa
open Go Go.Sx Classical

set_option maxRecDepth 100000

/-- a message's other fields -/
structure Ms where
  k : Int
  a : Int
  b : Int
  d : Int
  v : Int
  c : Int
  n : Nat
  l : Val
  m : Nat
  y : Val

def Ms.cells (x : Ms) : List CV := [I x.k, I x.a, I x.b, I x.d, I x.v, I x.c, .sl [.int .i64] x.n x.l, .sl [.int .u8] x.m x.y]

def dif (x y : Ms) : Bool := x.k != y.k || x.a != y.a || x.b != y.b || x.d != y.d || x.v != y.v || x.c != y.c || toInt64 x.n != toInt64 y.n || !((bytesV x.m x.y).toList == (bytesV y.m y.y).toList)

def S38 (k : Ms × Ms) (i : Int) : St := mkS 82 [(2, .one (.c (.ptr 0 0))), (3, .one (.c (.ptr 1 0))), (4, .one (.c (.bool false))), (5, .one (.c (I i)))] [some (27, k.1.cells), some (27, k.2.cells)]
def TX38 (k : Ms × Ms) (i : Int) : Tree (XE × Int) :=
  .br (lt i (toInt64 k.1.n)) (.need (inRange i k.1.n) (.need (inRange i k.2.n) (.br (((k.1.l.at i.toNat).at 0).N [] != ((k.2.l.at i.toNat).at 0).N []) (.leaf (.ret, i)) (.leaf (.normal, IntKind.i64.wrap (i + 1)))))) (.leaf (.exit 0, i))
def get38 : List (Nat × AV) → Mem → Option ((Ms × Ms) × Int)
  | [(2, .one (.c (.ptr 0 0))), (3, .one (.c (.ptr 1 0))), (4, .one (.c (.bool false))), (5, .one (.c (.int .i64 i)))], [some (27, [.int .i64 a, .int .i64 b, .int .i64 c, .int .i64 d, .int .i64 e, .int .i64 f, .sl [.int .i64] n ρ, .sl [.int .u8] m σ]), some (27, [.int .i64 a', .int .i64 b', .int .i64 c', .int .i64 d', .int .i64 e', .int .i64 f', .sl [.int .i64] n' ρ', .sl [.int .u8] m' σ'])] => some ((⟨a, b, c, d, e, f, n, ρ, m, σ⟩, ⟨a', b', c', d', e', f', n', ρ', m', σ'⟩), i)
  | _, _ => none

def bad38 (k : Ms × Ms) (i : Nat) : Bool := ((k.1.l.at i).at 0).N [] != ((k.2.l.at i).at 0).N []

theorem w64_next {i : Nat} (h : i < 4611686018427387904) : IntKind.i64.wrap ((i : Int) + 1) = (i : Int) + 1 := w64_id (by omega) (by omega)

theorem inR {i n : Nat} (h : i < n) : inRange (i : Int) n = true := inRange_iff.2 ⟨by omega, by omega⟩
theorem ltT {i n : Nat} (h : lt (i : Int) (toInt64 n) = true) : i < n := by have : (i : Int) < (n : Int) := (lt_iff _ _).1 h; omega
theorem ltF {i n : Nat} (h : i < n) : lt (i : Int) (toInt64 n) = true := (lt_iff _ _).2 (show (i : Int) < (n : Int) by omega)
theorem ltS {n : Nat} : lt (n : Int) (toInt64 n) = false := by rw [Bool.eq_false_iff]; intro h; exact absurd (ltT h) (by omega)

theorem scan38 (k : Ms × Ms) (h1 : k.1.n = k.2.n) (h2 : k.1.n ≤ 4611686018427387904) : Scan (TX38 k) k.1.n (bad38 k) .ret (.exit 0) where
  small := h2
  out := by simp
  hit := by simp
  round i hi := by
    refine ⟨fun _ => ⟨inR hi, inR (h1 ▸ hi), fun hb => ?_, fun hb => ?_⟩, fun hl => ?_⟩
    · have : bad38 k i = true := hb
      simp only [Tree.All, this, if_true, and_self]
    · have : bad38 k i = false := hb
      simp only [Tree.All, this, Bool.false_eq_true, if_false]
      exact ⟨trivial, w64_next (by omega)⟩
    · rw [ltF hi] at hl; cases hl
  stop := by
    refine ⟨fun hl => ?_, fun _ => rfl⟩
    rw [ltS] at hl; cases hl

noncomputable def inv38 (k : Ms × Ms) (i : Int) : Bool := dec (k.1.n = k.2.n ∧ k.1.n ≤ 4611686018427387904 ∧ scanInv k.1.n i)
def run38 (k : Ms × Ms) (i : Int) : XE × Int := fin (TX38 k) (scanμ k.1.n) i
noncomputable def L38 : Nat → St → Tree (XE × St) := loopH [2, 3, 4, 5] 2 82 get38 inv38 S38 run38 [.ret, .exit 0]

theorem l38 (fn : Func) (c b : Code) (hf : Try.prog.funcs[38]? = some fn) (hc : fn.body = some c) (hb : nthLoop c 0 = some b) : LoopOk Try.prog b L38 :=
  loopOk_of h6 10 38 0 hf hc hb [2, 3, 4, 5] 2 82 S38 TX38 (fun k i => by kernel_rfl) get38 inv38 (fun k => scanμ k.1.n) [.ret, .exit 0]
    (fun l m c v h => by unfold get38 at h; split at h <;> simp at h; obtain ⟨rfl, rfl⟩ := h; rfl)
    (Q := fun _ _ => True) fun k x hx => by
      have hx' := dec_iff.1 hx
      exact All.imp (fun y hy => by
        obtain ⟨e, z⟩ := y
        cases e with
        | normal => exact hy
        | exit k => trivial
        | ret => trivial) ((scan38 k hx'.1 hx'.2.1).rounds (inv := fun i => inv38 k i = true) (fun i => by unfold inv38; rw [dec_iff]; exact ⟨fun h => h.2.2, fun h => ⟨hx'.1, hx'.2.1, h⟩⟩) x hx)

noncomputable abbrev H7 : Hd := ⟨H6.pc, H6.hc, [((38, 0), L38)]⟩
theorem h7 : HdOk Try.prog H7 := HdOk.lhCons h6 l38

/-- are two messages the same? -/
def same (x y : Ms) : Bool := !(dif x y) && !(anyB (bad38 (x, y)) x.n)

noncomputable def G38 : List A1 → Option (Bool × AV)
  | [.agg [.int .i64 a, .int .i64 b, .int .i64 c, .int .i64 d, .int .i64 e, .int .i64 f, .sl [.int .i64] n ρ, .sl [.int .u8] m σ], .agg [.int .i64 a', .int .i64 b', .int .i64 c', .int .i64 d', .int .i64 e', .int .i64 f', .sl [.int .i64] n' ρ', .sl [.int .u8] m' σ']] =>
    some (dec (n ≤ 4611686018427387904), .one (.c (.bool (same ⟨a, b, c, d, e, f, n, ρ, m, σ⟩ ⟨a', b', c', d', e', f', n', ρ', m', σ'⟩))))
  | _ => none

theorem all38 (x y : Ms) (hp : x.n ≤ 4611686018427387904) : (Tree.br (dif x y) (.leaf (AV.one (.c (.bool false))))
        (.need (inv38 (x, y) 0)
          (.br (eqXE (run38 (x, y) 0).1 .ret) (.leaf (AV.one (.c (.bool false))))
            (.need (eqXE (run38 (x, y) 0).1 (.exit 0)) (.leaf (AV.one (.c (.bool true)))))))).All (fun r => r = .one (.c (.bool (same x y)))) := by
  refine ⟨fun hd => ?_, fun hd => ?_⟩
  · simp [Tree.All, same, hd]
  · have hnn : x.n = y.n := by
      unfold dif at hd
      simp only [Bool.or_eq_false_iff] at hd
      have := hd.1.2
      simp [toInt64] at this
      omega
    have hinv : inv38 (x, y) 0 = true := dec_iff.2 ⟨hnn, hp, by unfold scanInv; simp only; omega⟩
    have hs := scan38 (x, y) hnn hp
    have hf : (run38 (x, y) 0).1 = bif anyB (bad38 (x, y)) x.n then .ret else .exit 0 := hs.fin0
    refine ⟨hinv, ?_⟩
    rw [hf]
    cases ha : anyB (bad38 (x, y)) x.n
    · exact ⟨fun h => (by cases h), fun _ => ⟨rfl, by simp [Tree.All, same, hd, ha]⟩⟩
    · exact ⟨fun _ => by simp [Tree.All, same, ha], fun h => (by cases h)⟩

theorem p38 : TcOne Try.prog 38 (nG G38) := tcOne_of_tree h7 10 38 fun args r h => by
  unfold G38 at h; split at h
  · rename_i a b c d e f n ρ m σ a' b' c' d' e' f' n' ρ' m' σ'
    obtain ⟨hp, rfl⟩ := Prod.mk.inj (Option.some.inj h)
    refine ⟨rfl, _, ?_, all38 ⟨a, b, c, d, e, f, n, ρ, m, σ⟩ ⟨a', b', c', d', e', f', n', ρ', m', σ'⟩ (dec_iff.1 hp)⟩
    kernel_rfl
  · cases h

end Go.Proofs.Ytgkgepgkeljclaa
