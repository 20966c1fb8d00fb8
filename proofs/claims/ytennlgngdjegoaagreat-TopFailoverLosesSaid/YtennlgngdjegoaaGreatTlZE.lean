/-
  Part TlZE of the proof: CasD.
-/
import Derived.Test.YtennlgngdjegoaaGreatTlZD
namespace Go.Proofs.YtennlgngdjegoaaGreat
open Go Go.Sx Go.RowKit Classical
set_option maxRecDepth 100000
set_option maxHeartbeats 4000000
theorem pair_two (c m : Int) : TwoOk (pairS c m) 1 1 c (-1) 2 1 m 0 := ⟨rfl, (pr1_ok c).same (two_at0 _ _), (pr2_ok m).same (two_at1 _ _)⟩
theorem pair_beg {c m : Int} (hc : 0 ≤ c ∧ c ≤ 1000) (hm : 0 ≤ m ∧ m ≤ c) : begE (pairS c m) 0 1 = 0 ∧ begP (pairS c m) 0 1 = ⟨1, 0, 1, 0, 0, c, false, false⟩ := by
  have hT := pair_two c m
  have hck : ckE (pairS c m) = 0 := hT.ck (hT.A.chk (.inl rfl) (.inl ⟨rfl, rfl⟩) (by omega) (by omega)) (hT.B.chk (.inr rfl) (.inr ⟨rfl, rfl⟩) (by omega) (by omega)) (by omega)
  have hE : begE (pairS c m) 0 1 = 0 := by
    unfold begE
    rw [hck, hT.has0.1, hT.has1.1]
    unfold ok18 ok12
    rw [hT.by0, hT.by1, hT.A.r, hT.B.r, hT.B.s, hT.A.l, hT.B.l, hT.B.c]
    rfl
  refine ⟨hE, ?_⟩
  unfold begP
  rw [hE, hT.by0, hT.A.p]; rfl
theorem pair_good {c m : Int} (hc : 0 ≤ c ∧ c ≤ 5) (hm : 0 ≤ m ∧ m ≤ c) : GoodC (begP (pairS c m) 0 1, pairS c m) 0 := by
  rw [(pair_beg (by omega) hm).2]
  exact ⟨c, ⟨0, Val.zero⟩, ⟨rfl, ⟨hc.1, by show c ≤ _; omega⟩, rfl, rfl, rfl, ⟨by simp, by simp⟩, ⟨hc.1, by simp⟩, .inl ⟨rfl, ⟨by simp, by simp⟩, by simp, ⟨m, hm, pair_two c m⟩, fun _ h => by simp at h⟩⟩⟩
noncomputable abbrev HCs : Hd := ⟨(HCf F0).pc, (124, nG Gbeg) :: (HCf F0).hc, [((81, 0), Cs.L)], []⟩
theorem hCs : HdOk Tryz.prog HCs := HdOk.lhCons (hCf.ucCons uBegin) Cs.ok
def csT (P : Prc) (L : Ses) (k : Bool) : AV := .tup [P.cv, .c (.sl siSh L.n L.ρ), .c (.bool k)]
def csS (l : Ses) (n : Nat) (ε : Val) : Prc × Ses := foldC (begP l 0 1, l) ε n
noncomputable def Gcs : List A1 → Option (Bool × AV)
  | [.c (.sl [.int .i64, .int .i64, .int .i64, .int .i64, .sl [.int .i64, .int .i64, .int .i64], .int .i64, .bool, .bool] n ρ), .c (.sl [.int .i64, .int .i64] k ε)] => some (dec (k ≤ 900 ∧ begE ⟨n, ρ⟩ 0 1 = 0 ∧ GoodC (begP ⟨n, ρ⟩ 0 1, ⟨n, ρ⟩) 0), csT (csS ⟨n, ρ⟩ k ε).1 (csS ⟨n, ρ⟩ k ε).2 true)
  | _ => none
theorem uCs : UcOne Tryz.prog 81 (nG Gcs) := ucOne_of_tree hCs 12 81 fun args r h => by
  unfold Gcs at h; split at h
  · rename_i n ρ k ε
    obtain ⟨hp, rfl⟩ := Prod.mk.inj (Option.some.inj h)
    obtain ⟨hk, h0, hg⟩ := dec_iff.1 hp
    let l : Ses := ⟨n, ρ⟩
    let p := begP l 0 1
    refine ⟨.need (dec (smallS l)) (.br (begE l 0 1 != 0) (.leaf (csT p l false)) (.need (dec (Cs.good ⟨k, ε, toInt64 k, p, l⟩ ∧ (⟨Cs.z0, ⟨0, Val.zero⟩, p, l, ((0 : Nat) : Int)⟩ : Cs.V) = Cs.st ⟨k, ε, toInt64 k, p, l⟩ 0)) (.leaf (csT (csS l k ε).1 (csS l k ε).2 true)))), by kernel_rfl, dec_iff.2 (hg.fin (by omega)).sm, fun hx => ?_, fun _ => ⟨dec_iff.2 ⟨⟨⟨rfl, hk⟩, hg⟩, rfl⟩, leA.refl⟩⟩
    have hx : (begE l 0 1 != 0) = true := hx
    have h0 : begE l 0 1 = 0 := h0
    rw [h0] at hx; cases hx
  · cases h
theorem canG_of {P : Program} {f : Nat} {G : List A1 → Tree AV} (h : UcOne P f G) {canon : List A1} (hcl : canon.all closedA = true) {r0 r : AV} (hG : (G canon).sel = some r0) (hr : Fo.sameA r0 r = true) : UcOne P f (Fo.canG canon r) := by
  intro args r' hr' _ F w vs ha
  unfold Fo.canG at hr'
  simp only [Tree.sel] at hr'
  cases hs : Fo.sames args canon
  · rw [hs] at hr'; simp at hr'
  · rw [hs] at hr'
    simp only [cond_true, Option.some.injEq] at hr'
    subst hr'
    refine (h canon r0 hG hcl F w vs (Fo.sames_le hs ha)).mono fun e w2 ⟨u, he, hb, hu⟩ => ⟨u, he, hb, Fo.sameA_le hr _ _ _ hu⟩
def evC7 : CV := .sl evSh 7 (Val.ofFlat 2 [I 2, I 0, I 1, I 0, I 1, I 0, I 2, I 0, I 2, I 0, I 2, I 0, I 2, I 0])
def siC (a r e p s : Int) : List CV := [I a, I r, I e, I p, .sl spSh 1 (Val.ofFlat 3 [I 1, I 1, I p]), I s, .bool true, .bool true]
def siL7 : CV := .sl siSh 2 (Val.ofFlat 8 (siC 0 2 2 3 1 ++ siC 1 1 2 3 (-1)))
def r7 : AV := .tup [(⟨1, 0, 1, 5, 2, 3, true, false⟩ : Prc).cv, .c siL7, .c (.bool true)]
theorem r7_ok : Fo.sameA (csT (csS (pairS 3 1) 7 (Val.ofFlat 2 [I 2, I 0, I 1, I 0, I 1, I 0, I 2, I 0, I 2, I 0, I 2, I 0, I 2, I 0])).1 (csS (pairS 3 1) 7 (Val.ofFlat 2 [I 2, I 0, I 1, I 0, I 1, I 0, I 2, I 0, I 2, I 0, I 2, I 0, I 2, I 0])).2 true) r7 = true := by kernel_rfl
theorem cs7 : UcOne Tryz.prog 81 (Fo.canG [.c (.sl siSh (pairS 3 1).n (pairS 3 1).ρ), .c evC7] r7) :=
  canG_of uCs rfl (r0 := csT (csS (pairS 3 1) 7 (Val.ofFlat 2 [I 2, I 0, I 1, I 0, I 1, I 0, I 2, I 0, I 2, I 0, I 2, I 0, I 2, I 0])).1 (csS (pairS 3 1) 7 (Val.ofFlat 2 [I 2, I 0, I 1, I 0, I 1, I 0, I 2, I 0, I 2, I 0, I 2, I 0, I 2, I 0])).2 true) (by
    have hd : dec (7 ≤ 900 ∧ begE (pairS 3 1) 0 1 = 0 ∧ GoodC (begP (pairS 3 1) 0 1, pairS 3 1) 0) = true := dec_iff.2 ⟨by omega, (pair_beg (by omega) (by omega)).1, pair_good (by omega) (by omega)⟩
    show (Tree.need (dec (7 ≤ 900 ∧ begE (pairS 3 1) 0 1 = 0 ∧ GoodC (begP (pairS 3 1) 0 1, pairS 3 1) 0)) (.leaf _)).sel = _
    simp only [Tree.sel, hd, cond_true]) r7_ok
def Gtru : List A1 → Option AV
  | [] => some (.one (.c (.bool true)))
  | _ => none
noncomputable abbrev H19 : Hd := ⟨[concK, Fo.litK], [(80, Fo.canG [.c (I 2)] (Fo.cpR 3)), (81, Fo.canG [.c (.sl siSh (pairS 3 1).n (pairS 3 1).ρ), .c evC7] r7)], [], []⟩
theorem h19 : HdOk Tryz.prog H19 := by
  have h := (((HdOk.nil (P := Tryz.prog)).ucCons cs7).ucCons Fo.cp2).tcCons (f := 4294967292) (G := fun _ => .fail) (fun _ _ h => by simp [Tree.sel] at h)
  exact h.tcCons concK_ok
theorem pSwd : PcOne Tryz.prog 33 Gtru := pcOne_of_sel h19 30 33 fun args r h => by
  unfold Gtru at h; split at h
  · obtain rfl := Option.some.inj h
    exact ⟨rfl, by kernel_rfl⟩
  · cases h
end Go.Proofs.YtennlgngdjegoaaGreat
