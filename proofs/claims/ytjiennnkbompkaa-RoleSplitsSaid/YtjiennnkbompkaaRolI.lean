/-
  The roles of sites: Check where the spans are known.
-/
import Derived.Test.YtjiennnkbompkaaRolH
namespace Go.Proofs.Ytjiennnkbompkaa
open Go Go.Sx Classical

set_option maxRecDepth 100000

theorem few_of {n : Nat} (h : Nat.ble n 1000 = true) : dec (fewN n) = true := by
  have := Nat.le_of_ble_eq_true h
  exact dec_iff.2 (by unfold fewN; omega)

def Gk : List A1 → Tree AV
  | [.agg [.int .i64 a, .int .i64 r, .int .i64 e, .int .i64 p, .sl [.int .i64, .int .i64, .int .i64] n ρ, .int .i64 s, .bool _, .bool _]] => .need (Nat.ble n 1000) (.leaf (.one (.c (I (chk a r e p ⟨n, ρ⟩ s)))))
  | _ => .fail
def Gk' (args : List A1) : Tree AV := Gk (args.map un1)

theorem weakK {f : Nat} (h : TcOne Try.prog f (nG Gchk)) : TcOne Try.prog f Gk' := tcOne_weak h fun args r hr => by
  unfold Gk' at hr
  generalize args.map un1 = zs at hr
  unfold Gk at hr; split at hr
  · rename_i a r' e p n ρ s l c
    cases hb : Nat.ble n 1000
    · rw [hb] at hr; simp [Tree.sel] at hr
    · rw [hb] at hr
      refine ⟨?_, rfl⟩
      have hd := few_of hb
      rw [← hr]
      unfold nG Gchk
      simp only [hd, Tree.sel]
  · simp [Tree.sel] at hr

theorem k23 : TcOne Try.prog 23 Gk' := weakK p23
theorem k32 : TcOne Try.prog 32 Gk' := weakK p32

theorem ncOne_weak {P : Program} {f : Nat} {G : List A1 → Tree (AV × Mem)} (h : NcOne P f G) : NcOne P f (fun args => G (args.map un1)) := fun args r m hr hc F w vs ha =>
  h (args.map un1) r m hr (by
    rw [List.all_map]
    rw [List.all_eq_true] at hc ⊢
    intro x hx
    have := hc x hx
    cases x with
    | c x => cases x <;> first | exact this | rfl
    | agg l =>
      simp only [Function.comp, un1, closedA, List.all_map, List.all_eq_true] at this ⊢
      intro y hy
      have := this y hy
      cases y <;> first | exact this | rfl) F w vs (ha.map_left fun _ _ h => un1_ok h)

noncomputable abbrev HK : Hd := ⟨(23, Gk') :: (32, Gk') :: H0.pc, [], [], [(63, ncG (fun args => cloneG 61 spSh 3 24 (args.map un1)))]⟩
theorem hK0 : HdOk Try.prog ⟨[concK], [], [], [(63, ncG (fun args => cloneG 61 spSh 3 24 (args.map un1)))]⟩ := (HdOk.nil.mcCons (ncOne_weak n63).mc).tcCons concK_ok
theorem hK : HdOk Try.prog HK := (hK0.tcCons k32).tcCons k23

end Go.Proofs.Ytjiennnkbompkaa
