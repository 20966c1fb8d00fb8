/-
  The evaluator in use (part X): a loop of few rounds, once for all states of a family.
-/
import Derived.Test.YtjiennnkbompkaaEngW
namespace Go.Sx
open Go Go.RowKit

/-- the summary of such a loop -/
def unrollG {X : Type} (keep : List Nat) (k0 n : Nat) (get : List (Nat × AV) → Mem → Option X) (T : X → Tree (XE × St)) (K : Nat) (s : St) : Tree (XE × St) :=
  if s.tmps.length == n && Nat.ble K k0 then
    match s.gc keep k0 with
    | some s' => match getKept s' keep with
      | some l => match get l s'.mem with
        | some x => T x
        | none => .fail
      | none => .fail
    | none => .fail
  else .fail

theorem unrollG_ok {P : Program} {H : Hd} (hH : HdOk P H) (d f i m : Nat) {fn : Func} {c b : Code} (hf : P.funcs[f]? = some fn) (hc : fn.body = some c) (hb : nthLoop c i = some b) {X : Type} (keep : List Nat) (k0 n : Nat) (S : X → St) (T : X → Tree (XE × St))
    (hT : ∀ x z, (T x).sel = some z → ((unrollH P H d f i m k0 (S x)).bind fun y => gcT keep k0 y).sel = some z)
    (get : List (Nat × AV) → Mem → Option X) (hget : ∀ l m x, get l m = some x → mkS n l m = S x) : LoopOk P b (unrollG keep k0 n get T) := by
  intro K s y hy F w bs a _ hs Q' hQ
  unfold unrollG at hy
  split at hy
  · rename_i hlen
    rw [Bool.and_eq_true] at hlen
    have hKk := Nat.ble_eq.mp hlen.2
    have hlen : s.tmps.length = n := by simpa using hlen.1
    split at hy
    · rename_i s' hg
      split at hy
      · rename_i l hl
        split at hy
        · rename_i x hx
          have e := gc_eq hg hl
          rw [hlen, hget l _ x hx] at e
          obtain ⟨bs1, he1, hl1, hs2⟩ := hs.gc hg
          rw [e] at hs2
          obtain ⟨⟨e1, s1⟩, h1, h2⟩ := sel_bind (hT x y hy)
          unfold gcT at h2
          simp only at h2
          split at h2
          · rename_i s2 hg2
            simp only [Tree.sel, Option.some.injEq] at h2
            subst h2
            refine unroll_ok hH d f i hf hc hb m k0 (S x) (e1, s1) h1 F w bs1 a hl1 hs2 Q' fun F' w' bs' a' he hs' => ?_
            obtain ⟨bs3, e3, hl3, hs3⟩ := hs'.gc hg2
            exact hQ F' w' bs3 a' (((he1.trans he (Nat.le_refl _)).trans e3 (Nat.le_refl _)).weak hKk) hs3
          · simp [Tree.sel] at h2
        · simp [Tree.sel] at hy
      · simp [Tree.sel] at hy
    · simp [Tree.sel] at hy
  · simp [Tree.sel] at hy

end Go.Sx
