/-
  The roles of sites: lineages that are the same.
-/
import Derived.Test.YtjiennnkbompkaaRolF
namespace Go.Proofs.Ytjiennnkbompkaa
open Go Go.Sx Classical

set_option maxRecDepth 100000

structure LL where
  l : Ln
  m : Ln

/-- do two spans differ? -/
def dif (ρ σ : Val) (i : Nat) : Bool :=
  !(((ρ.at i).at 0).N [] == ((σ.at i).at 0).N [] && (((ρ.at i).at 1).N [] == ((σ.at i).at 1).N [] && (((ρ.at i).at 2).N [] == ((σ.at i).at 2).N [] && true)))
def difL (c : LL) (i : Nat) : Bool := dif c.l.ρ c.m.ρ i
/-- are two lineages the same? -/
def eqL (c : LL) : Bool := bif c.l.n == c.m.n then !(anyB (difL c) c.l.n) else false

theorem eqL_self (l : Ln) : eqL ⟨l, l⟩ = true := by
  unfold eqL
  have : anyB (difL ⟨l, l⟩) l.n = false := by
    rw [← Bool.not_eq_true, anyB_iff]
    rintro ⟨j, _, h⟩
    simp [difL, dif] at h
  simp [this]

def TXe (c : LL) (i : Int) : Tree (XE × Int) :=
  .br (lt i (toInt64 c.l.n)) (.need (inRange i c.l.n) (.need (inRange i c.m.n) (.br (dif c.l.ρ c.m.ρ i.toNat) (.leaf (.ret, i)) (.leaf (.normal, IntKind.i64.wrap (i + 1)))))) (.leaf (.exit 0, i))

theorem sqE (c : LL) (he : c.l.n = c.m.n) (hn : fewN c.l.n) : Sq (TXe c) (fun i => (c.l.n - i).toNat) (fun i => (i : Int)) (fun i => (i : Int)) c.l.n (difL c) .ret (.exit 0) where
  out := by simp
  hit := by simp
  meas i hi := by
    show ((c.l.n : Int) - (i : Int)).toNat = c.l.n - i
    omega
  round i hi := by
    unfold fewN at hn
    have hl : lt (i : Int) (toInt64 c.l.n) = true := ltF hi
    have hw : IntKind.i64.wrap ((i : Int) + 1) = ((i + 1 : Nat) : Int) := by rw [w64_id (by omega) (by omega)]; omega
    refine ⟨fun _ => ⟨inR hi, inR (he ▸ hi), fun hb => ?_, fun hb => ?_⟩, fun h => ?_⟩
    · have : difL c i = true := hb
      simp only [Tree.All, this, if_true]
    · have : difL c i = false := hb
      simp only [Tree.All, this, Bool.false_eq_true, if_false]
      rw [hw]
    · rw [hl] at h; cases h
  stop := by
    refine ⟨fun h => ?_, fun _ => rfl⟩
    rw [ltS] at h; cases h

noncomputable def invE (c : LL) (v : Int) : Bool := dec ((c.l.n = c.m.n ∧ fewN c.l.n) ∧ ∃ i : Nat, i ≤ c.l.n ∧ v = (i : Int))
def runE (c : LL) (v : Int) : XE × Int := fin (TXe c) (fun i => (c.l.n - i).toNat) v

noncomputable def GE : List A1 → Option (Bool × AV)
  | [.c (.sl [.int .i64, .int .i64, .int .i64] n ρ), .c (.sl [.int .i64, .int .i64, .int .i64] k σ)] => some (dec (fewN n), .one (.c (.bool (eqL ⟨⟨n, ρ⟩, ⟨k, σ⟩⟩))))
  | _ => none

theorem allE (c : LL) (hn : fewN c.l.n) : (Tree.br (toInt64 c.l.n != toInt64 c.m.n) (.leaf (AV.one (.c (.bool false)))) (.need (invE c 0) (.br (eqXE (runE c 0).1 .ret) (.leaf (AV.one (.c (.bool false))))
    (.need (eqXE (runE c 0).1 (.exit 0)) (.leaf (AV.one (.c (.bool true)))))))).All (fun z => z = .one (.c (.bool (eqL c)))) := by
  refine ⟨fun h => ?_, fun h => ?_⟩
  · have hne : c.l.n ≠ c.m.n := fun e => by rw [e] at h; simp at h
    show _ = _
    simp [eqL, hne]
  · have he : c.l.n = c.m.n := by
      have h' : (c.l.n : Int) = (c.m.n : Int) := by simp at h; exact h
      omega
    have hs := sqE c he hn
    have hi : invE c 0 = true := dec_iff.2 ⟨⟨he, hn⟩, 0, Nat.zero_le _, rfl⟩
    have hf : runE c 0 = _ := hs.fin0
    refine ⟨hi, ?_⟩
    rw [hf]
    have hb : (c.l.n == c.m.n) = true := by simp [he]
    unfold eqL
    rw [hb]
    cases anyB (difL c) c.l.n
    · exact ⟨fun h => (by cases h), fun _ => ⟨rfl, rfl⟩⟩
    · exact ⟨fun _ => rfl, fun h => (by cases h)⟩

def S46 (c : LL) (i : Int) : St := mkS 26 [(0, .one (.c (.sl spSh c.l.n c.l.ρ))), (1, .one (.c (.sl spSh c.m.n c.m.ρ))), (4, .one (.c (.bool false))), (5, .one (.c (I i)))] []
theorem t46 (c : LL) (i : Int) : ((evCode Try.prog H8 (evFn Try.prog H8 10) 46 0 1 (loopBody Try.prog 46 0) (S46 c i)).bind fun y => gcT [0, 1, 4, 5] 0 y) = (TXe c i).bind fun y => .leaf (y.1, S46 c y.2) := by kernel_rfl
def get46 : List (Nat × AV) → Mem → Option (LL × Int)
  | [(0, .one (.c (.sl [.int .i64, .int .i64, .int .i64] n ρ))), (1, .one (.c (.sl [.int .i64, .int .i64, .int .i64] k σ))), (4, .one (.c (.bool false))), (5, .one (.c (.int .i64 i)))], [] => some (⟨⟨n, ρ⟩, ⟨k, σ⟩⟩, i)
  | _, _ => none
noncomputable def L46 : Nat → St → Tree (XE × St) := loopH [0, 1, 4, 5] 0 26 get46 invE S46 runE [.ret, .exit 0]
theorem l46 (fn : Func) (c b : Code) (hf : Try.prog.funcs[46]? = some fn) (hc : fn.body = some c) (hb : nthLoop c 0 = some b) : LoopOk Try.prog b L46 :=
  loopOk_of h8 10 46 0 hf hc hb [0, 1, 4, 5] 0 26 S46 TXe t46 get46 invE (fun c i => (c.l.n - i).toNat) [.ret, .exit 0]
    (fun l m c v h => by unfold get46 at h; split at h <;> simp at h; obtain ⟨rfl, rfl⟩ := h; rfl)
    (rounds_of fun c v hv => by
      have h := (dec_iff.1 hv).1
      exact (sqE c h.1 h.2).rounds fun x => by unfold invE; rw [dec_iff]; exact ⟨fun h => h.2, fun k => ⟨h, k⟩⟩)
noncomputable abbrev H46 : Hd := ⟨H8.pc, [], [((46, 0), L46)], H8.mc⟩
theorem h46 : HdOk Try.prog H46 := HdOk.lhCons h8 l46
theorem p46 : TcOne Try.prog 46 (nG GE) := tcOne_of_tree h46 10 46 fun args r h => by
  unfold GE at h; split at h
  · rename_i n ρ k σ
    obtain ⟨hp, rfl⟩ := Prod.mk.inj (Option.some.inj h)
    refine ⟨rfl, _, ?_, allE ⟨⟨n, ρ⟩, ⟨k, σ⟩⟩ (dec_iff.1 hp)⟩
    kernel_rfl
  · cases h

/-- are two sites the same? -/
noncomputable def G17 : List A1 → Option (Bool × AV)
  | [.agg [.int .i64 a, .int .i64 r, .int .i64 e, .int .i64 p, .sl [.int .i64, .int .i64, .int .i64] n ρ, .int .i64 s, .bool l, .bool c], .agg [.int .i64 a', .int .i64 r', .int .i64 e', .int .i64 p', .sl [.int .i64, .int .i64, .int .i64] k σ, .int .i64 s', .bool l', .bool c']] => some (dec (fewN n), .one (.c (.bool (((((((a == a' && r == r') && e == e') && p == p') && eqL ⟨⟨n, ρ⟩, ⟨k, σ⟩⟩) && s == s') && l == l') && c == c'))))
  | _ => none

noncomputable abbrev H9 : Hd := ⟨(46, nG GE) :: H8.pc, [], [], H8.mc⟩
theorem h9 : HdOk Try.prog H9 := h8.tcCons p46

theorem p17 : TcOne Try.prog 17 (nG G17) := tcOne_of_tree h9 10 17 fun args r h => by
  unfold G17 at h; split at h
  · rename_i a r e p n ρ s l c a' r' e' p' k σ s' l' c'
    obtain ⟨hp, rfl⟩ := Prod.mk.inj (Option.some.inj h)
    refine ⟨rfl, .need (!((((((a == a' && r == r') && e == e') && p == p') == true) && true)) || dec (fewN n)) (.leaf (.one (.c (.bool (((((((a == a' && r == r') && e == e') && p == p') && eqL ⟨⟨n, ρ⟩, ⟨k, σ⟩⟩) && s == s') && l == l') && c == c'))))), ?_, by rw [hp, Bool.or_true]; exact ⟨rfl, rfl⟩⟩
    kernel_rfl
  · cases h

noncomputable abbrev H10 : Hd := ⟨(17, nG G17) :: H9.pc, [], [], H9.mc⟩
theorem h10 : HdOk Try.prog H10 := h9.tcCons p17

end Go.Proofs.Ytjiennnkbompkaa
