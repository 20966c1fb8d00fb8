/-
  The roles of sites: ContainsFunc over sites.
-/
import Derived.Test.YtjiennnkbompkaaRolZ
namespace Go.Proofs.Ytjiennnkbompkaa
open Go Go.Sx Go.RowKit Classical

set_option maxRecDepth 100000

def T30 {α : Type} (iv : Bool) (x : XE × VI) (f : Bool → α) : Tree α := .need iv (.br (eqXE x.1 .ret) (.leaf (f (le 0 x.2.r))) (.need (eqXE x.1 (.exit 0)) (.leaf (f false))))

theorem T30_all {α : Type} {iv : Bool} {x : XE × VI} {f : Bool → α} {n : Nat} {bad : Nat → Bool} (h : iv = true) (hx : x = bif anyB bad n then (.ret, sbI (firstB bad n)) else (.exit 0, stI n)) : (T30 iv x f).All (fun z => z = f (anyB bad n)) := by
  subst h
  refine ⟨rfl, fun h => ?_, fun h => ?_⟩
  · cases hb : anyB bad n
    · rw [hb] at hx; subst hx; cases h
    · rw [hb] at hx; subst hx
      have : le 0 ((firstB bad n : Nat) : Int) = true := by rw [le_iff]; omega
      show f (le 0 ((firstB bad n : Nat) : Int)) = _
      rw [this]
  · cases hb : anyB bad n
    · rw [hb] at hx; subst hx
      exact ⟨rfl, rfl⟩
    · rw [hb] at hx; subst hx; cases h

theorem iv56 {c : C56} (hm : c.m = toInt64 c.l.n) (hn : fewN c.l.n) : inv56 c (stI 0) = true := dec_iff.2 ⟨⟨hm, hn⟩, 0, Nat.zero_le _, rfl⟩

noncomputable def G30A : List A1 → Option (Bool × AV)
  | [.c (.sl [.int .i64, .int .i64, .int .i64, .int .i64, .sl [.int .i64, .int .i64, .int .i64], .int .i64, .bool, .bool] n ρ), .c (.fn (.func 31) [] [])] => some (dec (fewN n), .one (.c (.bool (anyB (fndA ⟨n, ρ⟩) n))))
  | _ => none

theorem p30A : TcOne Try.prog 30 (nG G30A) := tcOne_of_tree haA 12 30 fun args r h => by
  unfold G30A at h; split at h
  · rename_i n ρ
    obtain ⟨hp, rfl⟩ := Prod.mk.inj (Option.some.inj h)
    have hf := dec_iff.1 hp
    exact ⟨rfl, T30 (inv56 ⟨⟨n, ρ⟩, toInt64 n, y0⟩ (stI 0)) (run56A ⟨⟨n, ρ⟩, toInt64 n, y0⟩ (stI 0)) (fun b => .one (.c (.bool b))), by kernel_rfl, T30_all (f := fun b => AV.one (.c (.bool b))) (iv56 (c := ⟨⟨n, ρ⟩, toInt64 n, y0⟩) rfl hf) (show run56A ⟨⟨n, ρ⟩, toInt64 n, y0⟩ (stI 0) = _ from (sqI (fndA ⟨n, ρ⟩) rfl hf).fin0)⟩
  · cases h

noncomputable def G30 : List A1 → Mem → Tree (AV × Mem)
  | [.c (.sl [.int .i64, .int .i64, .int .i64, .int .i64, .sl [.int .i64, .int .i64, .int .i64], .int .i64, .bool, .bool] n ρ), .c (.fn (.func 60) [] [.ptr 0 0])], [some (24, [.int .i64 a, .int .i64 ro, .int .i64 e, .int .i64 p, .sl [.int .i64, .int .i64, .int .i64] k σ, .int .i64 s, .bool l, .bool c])] =>
    .need (dec (fewN n)) (.leaf (.one (.c (.bool (anyB (fndB ⟨n, ρ⟩ ⟨a, ro, e, p, k, σ, s, l, c⟩) n))), [some (24, [.int .i64 a, .int .i64 ro, .int .i64 e, .int .i64 p, .sl spSh k σ, .int .i64 s, .bool l, .bool c])]))
  | [.c (.sl [.int .i64, .int .i64, .int .i64, .int .i64, .sl [.int .i64, .int .i64, .int .i64], .int .i64, .bool, .bool] n ρ), .c (.fn (.func 61) [] [.ptr 0 0])], [some (24, [.int .i64 a, .int .i64 ro, .int .i64 e, .int .i64 p, .sl [.int .i64, .int .i64, .int .i64] k σ, .int .i64 s, .bool l, .bool c])] =>
    .need (dec (fewN n)) (.leaf (.one (.c (.bool (anyB (fndC ⟨n, ρ⟩ ⟨a, ro, e, p, k, σ, s, l, c⟩) n))), [some (24, [.int .i64 a, .int .i64 ro, .int .i64 e, .int .i64 p, .sl spSh k σ, .int .i64 s, .bool l, .bool c])]))
  | _, _ => .fail

noncomputable def G30B : List A1 → Mem → Tree (AV × Mem)
  | [.c (.sl [.int .i64, .int .i64, .int .i64, .int .i64, .sl [.int .i64, .int .i64, .int .i64], .int .i64, .bool, .bool] n ρ), .c (.fn (.func 60) [] [.ptr 0 0])], [some (24, [.int .i64 a, .int .i64 ro, .int .i64 e, .int .i64 p, .sl [.int .i64, .int .i64, .int .i64] k σ, .int .i64 s, .bool l, .bool c])] =>
    .need (dec (fewN n)) (.leaf (.one (.c (.bool (anyB (fndB ⟨n, ρ⟩ ⟨a, ro, e, p, k, σ, s, l, c⟩) n))), [some (24, [.int .i64 a, .int .i64 ro, .int .i64 e, .int .i64 p, .sl spSh k σ, .int .i64 s, .bool l, .bool c])]))
  | _, _ => .fail
noncomputable def G30C : List A1 → Mem → Tree (AV × Mem)
  | [.c (.sl [.int .i64, .int .i64, .int .i64, .int .i64, .sl [.int .i64, .int .i64, .int .i64], .int .i64, .bool, .bool] n ρ), .c (.fn (.func 61) [] [.ptr 0 0])], [some (24, [.int .i64 a, .int .i64 ro, .int .i64 e, .int .i64 p, .sl [.int .i64, .int .i64, .int .i64] k σ, .int .i64 s, .bool l, .bool c])] =>
    .need (dec (fewN n)) (.leaf (.one (.c (.bool (anyB (fndC ⟨n, ρ⟩ ⟨a, ro, e, p, k, σ, s, l, c⟩) n))), [some (24, [.int .i64 a, .int .i64 ro, .int .i64 e, .int .i64 p, .sl spSh k σ, .int .i64 s, .bool l, .bool c])]))
  | _, _ => .fail

theorem q30B : McOne Try.prog 30 G30B := mcOne_of_tree haB 10 30 fun args mem r mem' h => by
  unfold G30B at h
  split at h
  · rename_i n ρ a ro e p k σ s l c
    cases hp : dec (fewN n)
    · rw [hp] at h; simp [Tree.sel] at h
    · rw [hp] at h
      simp only [Tree.sel, cond_true, Option.some.injEq, Prod.mk.injEq] at h
      obtain ⟨rfl, rfl⟩ := h
      have hf := dec_iff.1 hp
      exact ⟨T30 (inv56 ⟨⟨n, ρ⟩, toInt64 n, ⟨a, ro, e, p, k, σ, s, l, c⟩⟩ (stI 0)) (run56B ⟨⟨n, ρ⟩, toInt64 n, ⟨a, ro, e, p, k, σ, s, l, c⟩⟩ (stI 0)) (fun b => (.one (.c (.bool b)), mem56 ⟨a, ro, e, p, k, σ, s, l, c⟩)), by kernel_rfl, T30_all (f := fun b => (AV.one (.c (.bool b)), mem56 ⟨a, ro, e, p, k, σ, s, l, c⟩)) (iv56 (c := ⟨⟨n, ρ⟩, toInt64 n, ⟨a, ro, e, p, k, σ, s, l, c⟩⟩) rfl hf) (show run56B ⟨⟨n, ρ⟩, toInt64 n, ⟨a, ro, e, p, k, σ, s, l, c⟩⟩ (stI 0) = _ from (sqI (fndB ⟨n, ρ⟩ ⟨a, ro, e, p, k, σ, s, l, c⟩) rfl hf).fin0)⟩
  · simp [Tree.sel] at h

theorem q30C : McOne Try.prog 30 G30C := mcOne_of_tree haC 10 30 fun args mem r mem' h => by
  unfold G30C at h
  split at h
  · rename_i n ρ a ro e p k σ s l c
    cases hp : dec (fewN n)
    · rw [hp] at h; simp [Tree.sel] at h
    · rw [hp] at h
      simp only [Tree.sel, cond_true, Option.some.injEq, Prod.mk.injEq] at h
      obtain ⟨rfl, rfl⟩ := h
      have hf := dec_iff.1 hp
      exact ⟨T30 (inv56 ⟨⟨n, ρ⟩, toInt64 n, ⟨a, ro, e, p, k, σ, s, l, c⟩⟩ (stI 0)) (run56C ⟨⟨n, ρ⟩, toInt64 n, ⟨a, ro, e, p, k, σ, s, l, c⟩⟩ (stI 0)) (fun b => (.one (.c (.bool b)), mem56 ⟨a, ro, e, p, k, σ, s, l, c⟩)), by kernel_rfl, T30_all (f := fun b => (AV.one (.c (.bool b)), mem56 ⟨a, ro, e, p, k, σ, s, l, c⟩)) (iv56 (c := ⟨⟨n, ρ⟩, toInt64 n, ⟨a, ro, e, p, k, σ, s, l, c⟩⟩) rfl hf) (show run56C ⟨⟨n, ρ⟩, toInt64 n, ⟨a, ro, e, p, k, σ, s, l, c⟩⟩ (stI 0) = _ from (sqI (fndC ⟨n, ρ⟩ ⟨a, ro, e, p, k, σ, s, l, c⟩) rfl hf).fin0)⟩
  · simp [Tree.sel] at h

theorem q30 : McOne Try.prog 30 G30 := fun args mem r mem' h => by
  unfold G30 at h
  split at h
  · exact q30B _ _ _ _ h
  · exact q30C _ _ _ _ h
  · simp [Tree.sel] at h

noncomputable abbrev H30 : Hd := ⟨H15.pc, H15.hc, [], (30, G30) :: H15.mc⟩
theorem h30 : HdOk Try.prog H30 := h15.mcCons q30

end Go.Proofs.Ytjiennnkbompkaa
