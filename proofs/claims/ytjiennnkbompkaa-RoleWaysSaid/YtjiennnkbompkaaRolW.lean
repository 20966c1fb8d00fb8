/-
  The roles of sites: a step, carried out; the law that sites stay correct.
-/
import Derived.Test.YtjiennnkbompkaaRolV
namespace Go.Proofs.Ytjiennnkbompkaa
open Go Go.Sx Go.RowKit Classical

set_option maxRecDepth 100000

def okC (k : Int) (x : Sit) : A1 := .agg [I (bif k == 0 then x.a else 0), I (bif k == 0 then x.r else 0), I (bif k == 0 then x.e else 0), I (bif k == 0 then x.p else 0), .sl spSh (bif k == 0 then x.n else 0) x.ρ, I (bif k == 0 then x.s else 0), .bool (k == 0 && x.l), .bool (k == 0 && x.c)]
noncomputable def one28 (k : Int) (x y : Sit) : Tree AV := .need (dec (small x.n)) (.br (k != 0) (.leaf (.tup [x.cv, .c (.bool false)])) (.leaf (.tup [okC k y, .c (.bool true)])))
noncomputable def tree28 (x : Sit) (t : Stp) : Tree AV :=
  .br (t.k == 0) (one28 (proE x t.e) x (pro x t.e)) (.br (t.k == 1) (one28 (demoE x t.e t.s) x (demo x t.e t.s)) (.br (t.k == 2) (one28 (isoE x) x (iso x)) (.br (t.k == 3) (one28 (rejE x t.e t.s) x (rej x t.e t.s))
    (.br (t.k == 4) (one28 (synE x t.n) x (syn x t.n)) (.br (t.k == 5) (one28 (appE x t.e t.n) x (app x t.e t.n)) (.need true (.need true (.leaf (.tup [(flags x t).cv, .c (.bool true)])))))))))

theorem t28 (x : Sit) (t : Stp) : hcTree Try.prog H19 12 28 [x.cv, .agg [I t.k, I t.e, I t.s, I t.n]] = tree28 x t := by kernel_rfl

theorem okC_0 (x : Sit) : okC 0 x = x.cv := rfl

theorem one28_all {k : Int} {x y : Sit} {r : AV} (hs : small x.n) (h1 : (k == 0) = false → r = .tup [x.cv, .c (.bool false)]) (h2 : k = 0 → r = .tup [y.cv, .c (.bool true)]) : (one28 k x y).All (fun z => leA z r) := by
  refine ⟨dec_iff.2 hs, fun h => ?_, fun h => ?_⟩
  · rw [h1 (by simpa [bne] using h)]
    exact leA.refl
  · have h : k = 0 := by simpa [bne] using h
    subst h
    rw [h2 rfl, okC_0]
    exact leA.refl

noncomputable def Grun : List A1 → Option (Bool × AV)
  | [.agg [.int .i64 a, .int .i64 r, .int .i64 e, .int .i64 p, .sl [.int .i64, .int .i64, .int .i64] n ρ, .int .i64 s, .bool l, .bool c], .agg [.int .i64 k, .int .i64 ep, .int .i64 src, .int .i64 nu]] =>
    some (dec (small n), .tup [(nxt ⟨a, r, e, p, n, ρ, s, l, c⟩ ⟨k, ep, src, nu⟩).cv, .c (.bool (stepE ⟨a, r, e, p, n, ρ, s, l, c⟩ ⟨k, ep, src, nu⟩ == 0))])
  | _ => none

theorem nxt_f {x : Sit} {t : Stp} (h : (stepE x t == 0) = false) : nxt x t = x := by unfold nxt; rw [h]; rfl
theorem nxt_t {x : Sit} {t : Stp} (h : stepE x t = 0) : nxt x t = stepX x t := by unfold nxt; rw [h]; rfl

theorem tree28_all (x : Sit) (t : Stp) (hs : small x.n) : (tree28 x t).All (fun z => leA z (.tup [(nxt x t).cv, .c (.bool (stepE x t == 0))])) := by
  have key : ∀ {k : Int} {y : Sit}, stepE x t = k → stepX x t = y → (one28 k x y).All (fun z => leA z (.tup [(nxt x t).cv, .c (.bool (stepE x t == 0))])) := fun {k y} hk hy => one28_all hs
    (fun h => by rw [nxt_f (by rw [hk]; exact h), hk, h]) (fun h => by rw [nxt_t (by rw [hk]; exact h), hk, h, hy]; rfl)
  refine ⟨fun h0 => key (by unfold stepE; rw [h0]; rfl) (by unfold stepX; rw [h0]; rfl), fun h0 => ⟨fun h1 => key (by unfold stepE; rw [h0, h1]; rfl) (by unfold stepX; rw [h0, h1]; rfl), fun h1 => ⟨fun h2 => key (by unfold stepE; rw [h0, h1, h2]; rfl) (by unfold stepX; rw [h0, h1, h2]; rfl), fun h2 =>
    ⟨fun h3 => key (by unfold stepE; rw [h0, h1, h2, h3]; rfl) (by unfold stepX; rw [h0, h1, h2, h3]; rfl), fun h3 => ⟨fun h4 => key (by unfold stepE; rw [h0, h1, h2, h3, h4]; rfl) (by unfold stepX; rw [h0, h1, h2, h3, h4]; rfl), fun h4 =>
      ⟨fun h5 => key (by unfold stepE; rw [h0, h1, h2, h3, h4, h5]; rfl) (by unfold stepX; rw [h0, h1, h2, h3, h4, h5]; rfl), fun h5 => ⟨rfl, rfl, ?_⟩⟩⟩⟩⟩⟩⟩
  have he : stepE x t = 0 := by unfold stepE; rw [h0, h1, h2, h3, h4, h5]; rfl
  have hx : stepX x t = flags x t := by unfold stepX; rw [h0, h1, h2, h3, h4, h5]; rfl
  rw [nxt_t he, he, hx]
  exact leA.refl

theorem u28 : UcOne Try.prog 28 (nG Grun) := ucOne_of_tree h19 12 28 fun args r h => by
  unfold Grun at h; split at h
  · rename_i a ro e p n ρ s l c k ep src nu
    obtain ⟨hp, rfl⟩ := Prod.mk.inj (Option.some.inj h)
    exact ⟨_, t28 ⟨a, ro, e, p, n, ρ, s, l, c⟩ ⟨k, ep, src, nu⟩, tree28_all _ _ (dec_iff.1 hp)⟩
  · cases h

noncomputable abbrev H20 : Hd := ⟨H19.pc, (28, nG Grun) :: H19.hc, [], H19.mc⟩
theorem h20 : HdOk Try.prog H20 := h19.ucCons u28

end Go.Proofs.Ytjiennnkbompkaa
