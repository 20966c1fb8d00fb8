/-
  Part TlZA of the proof: SwiH.
-/
import Derived.Test.YtennlgngdjegoaaGreatTlZ
import Derived.Test.YtennlgngdjegoaaGreatTlN
namespace Go.Proofs.YtennlgngdjegoaaGreat
open Go Go.Sx Go.RowKit Classical
set_option maxRecDepth 100000
def okC (k : Int) (x : Sit) : List CV := [I (bif k == 0 then x.a else 0), I (bif k == 0 then x.r else 0), I (bif k == 0 then x.e else 0), I (bif k == 0 then x.p else 0), .sl spSh (bif k == 0 then x.n else 0) x.ρ, I (bif k == 0 then x.s else 0), .bool (k == 0 && x.l), .bool (k == 0 && x.c)]
def Sit.cs (x : Sit) : List CV := [I x.a, I x.r, I x.e, I x.p, .sl spSh x.n x.ρ, I x.s, .bool x.l, .bool x.c]
def Ses.set (l : Ses) (i : Nat) (x : Sit) : Ses := ⟨l.n, l.ρ.upds i 0 x.cs⟩
def s0E (A : Sit) (v : Int) : Int := bif !(A.r == 1) then 18 else bif !(v == A.p) then 22 else 0
def s1E (p : Prc) (A B : Sit) (v : Int) : Int := bif !(v == B.p && le v p.c) then 22 else bif lt v p.c then 0 else bif !eqL ⟨A.ln, B.ln⟩ then 19 else 0
def s2E (A B : Sit) (v : Int) : Int := bif !(le v 1073741824) then 2 else bif !(lt A.e v && lt B.e v) then 13 else 0
def s3E (p : Prc) (A B : Sit) : Int := bif !(A.p == p.c && B.p == p.c) then 22 else demoE A p.e p.t
def s4E (p : Prc) (B : Sit) : Int := bif !(B.p == p.c) then 22 else proE B p.e
def sucE (p : Prc) (A B : Sit) (v : Int) : Int := bif p.s == 0 then s0E A v else bif p.s == 1 then s1E p A B v else bif p.s == 2 then s2E A B v else bif p.s == 3 then s3E p A B else s4E p B
def sucP (p : Prc) (v : Int) : Prc := bif p.s == 0 then { p with c := v, s := 1 } else bif p.s == 1 then (bif lt v p.c then p else { p with s := 2 }) else bif p.s == 2 then { p with e := v, s := 3 } else bif p.s == 3 then { p with s := 4 } else { p with s := 5, d := true }
def sucL (p : Prc) (l : Ses) : Ses := bif p.s == 3 then l.set (idxN l p.f) (demo (l.by p.f) p.e p.t) else bif p.s == 4 then l.set (idxN l p.t) (pro (l.by p.t) p.e) else l
def preE (p : Prc) (l : Ses) : Int := bif !(chkP p == 0) then chkP p else bif !(ckE l == 0) then ckE l else bif !(hasN l p.f && hasN l p.t) then 7 else bif !(!p.d && !p.x) then 12 else 0
def stpE (p : Prc) (l : Ses) (ok : Bool) (v : Int) : Int := bif !(preE p l == 0) then preE p l else bif ok then sucE p (l.by p.f) (l.by p.t) v else 0
def stpP (p : Prc) (l : Ses) (ok : Bool) (v : Int) : Prc := bif !(stpE p l ok v == 0) then p0 else bif ok then sucP p v else { p with x := le p.s 3 }
def stpL (p : Prc) (l : Ses) (ok : Bool) (v : Int) : Ses := bif !(stpE p l ok v == 0) then ⟨0, l.ρ⟩ else bif ok then sucL p l else l
def thr (p : Prc) (l : Ses) (e : Int) : AV := .tup [p.cv, .c (.sl siSh l.n l.ρ), .c (I e)]
def thr0 (e : Int) : AV := .tup [p0.cv, .c .nils, .c (I e)]
def erS (k : Int) : Tree AV := .br true (.br false .fail (.leaf (thr0 k))) (.leaf (thr0 0))
def erL (l : Ses) (k : Int) : Tree AV := .br true (.br false .fail (.leaf (thr0 k))) (.leaf (thr p0 l 0))
def okS (x : AV) : Tree AV := .br false .fail (.leaf x)
theorem le_thr0 {e : Int} {ρ : Val} : leA (thr0 e) (thr p0 ⟨0, ρ⟩ e) := leA_tup (.cons le1.refl (.cons (.c leC_nils) (.cons le1.refl .nil)))
noncomputable def Gstep : List A1 → Option (Bool × AV)
  | [.agg [.int .i64 k, .int .i64 f, .int .i64 t, .int .i64 s, .int .i64 e, .int .i64 c, .bool d, .bool x], .c (.sl [.int .i64, .int .i64, .int .i64, .int .i64, .sl [.int .i64, .int .i64, .int .i64], .int .i64, .bool, .bool] n ρ), .c (.bool ok), .c (.int .i64 v)] =>
    some (dec (smallS ⟨n, ρ⟩), thr (stpP ⟨k, f, t, s, e, c, d, x⟩ ⟨n, ρ⟩ ok v) (stpL ⟨k, f, t, s, e, c, d, x⟩ ⟨n, ρ⟩ ok v) (stpE ⟨k, f, t, s, e, c, d, x⟩ ⟨n, ρ⟩ ok v))
  | _ => none
noncomputable def sucT (p : Prc) (l : Ses) (v : Int) : Tree AV :=
  let A := l.by p.f
  let B := l.by p.t
  .need (inRange p.s 5)
    (.br (p.s == 0) (.br (!(A.r == 1)) (erL l 18) (.br (!(v == A.p)) (erL l 22) (okS (thr { p with c := v, s := 1 } l 0))))
    (.br (p.s == 0 + 1) (.br (!(v == B.p && le v p.c)) (erL l 22) (.br (lt v p.c) (okS (thr p l 0)) (.need (dec (fewN A.n)) (.br (!eqL ⟨A.ln, B.ln⟩) (erL l 19) (okS (thr { p with s := 2 } l 0))))))
    (.br (p.s == 0 + 1 + 1) (.br (!(le v 1073741824)) (erL l 2) (.br (!(lt A.e v && lt B.e v)) (erL l 13) (okS (thr { p with e := v, s := 3 } l 0))))
    (.br (p.s == 0 + 1 + 1 + 1) (.br (!(A.p == p.c && B.p == p.c)) (erL l 22) (.need (dec (small A.n)) (.br (!(demoE A p.e p.t == 0)) (erL l (demoE A p.e p.t)) (okS (thr { p with s := 4 } ⟨l.n, l.ρ.upds (idxN l p.f) 0 (okC (demoE A p.e p.t) (demo A p.e p.t))⟩ 0)))))
      (.br (!(B.p == p.c)) (erL l 22) (.need (dec (small B.n)) (.br (!(proE B p.e == 0)) (erL l (proE B p.e)) (okS (thr { p with s := 5, d := true } ⟨l.n, l.ρ.upds (idxN l p.t) 0 (okC (proE B p.e) (pro B p.e))⟩ 0)))))))))
noncomputable def stpT (p : Prc) (l : Ses) (ok : Bool) (v : Int) : Tree AV :=
  .br (!(chkP p == 0)) (erS (chkP p)) (.need (dec (smallS l)) (.br (ckE l == 0) (.need (dec (fewN l.n)) (.br (hasN l p.f) (.need (dec (fewN l.n)) (.br (hasN l p.t) (.br (!(!p.d && !p.x)) (erL l 12) (.br ok (sucT p l v) (okS (thr { p with x := le p.s 3 } l 0)))) (erL l 7))) (erL l 7))) (erS (ckE l))))
theorem stepT (n : Nat) (ρ : Val) (k f t s e c v : Int) (d x ok : Bool) : hcTreeP Tryz.prog HS XS 10 126 [.agg [I k, I f, I t, I s, I e, I c, .bool d, .bool x], .c (.sl siSh n ρ), .c (.bool ok), .c (I v)] = stpT ⟨k, f, t, s, e, c, d, x⟩ ⟨n, ρ⟩ ok v := by kernel_rfl
theorem at_upds (ρ : Val) (i : Nat) : ∀ (cs : List CV) (f k g : Nat), ((ρ.upds i f cs).at k).at g = if k = i ∧ f ≤ g ∧ g < f + cs.length then (match nth cs (g - f) with | some x => .ofC x | none => Val.zero) else (ρ.at k).at g
  | [], f, k, g => by
    rw [if_neg (by simp only [List.length_nil]; omega)]; rfl
  | x :: r, f, k, g => by
    show (((ρ.upd i f x).upds i (f + 1) r).at k).at g = _
    rw [at_upds (ρ.upd i f x) i r (f + 1) k g, at_upd]
    by_cases hk : k = i
    · by_cases hg : g = f
      · subst hg
        rw [if_neg (by omega), if_pos ⟨hk, rfl⟩, if_pos ⟨hk, Nat.le_refl _, by simp only [List.length_cons]; omega⟩]
        simp [nth]
      · by_cases hin : f + 1 ≤ g ∧ g < f + 1 + r.length
        · rw [if_pos ⟨hk, hin.1, hin.2⟩, if_pos ⟨hk, by omega, by simp only [List.length_cons]; omega⟩]
          obtain ⟨m, rfl⟩ : ∃ m, g = f + 1 + m := ⟨g - (f + 1), by omega⟩
          rw [show f + 1 + m - (f + 1) = m by omega, show f + 1 + m - f = m + 1 by omega]
          simp [nth]
        · rw [if_neg (fun h => hin ⟨h.2.1, h.2.2⟩), if_neg (fun h => hg h.2), if_neg (fun h => hin ⟨by omega, by have := h.2.2; simp only [List.length_cons] at this; omega⟩)]
    · rw [if_neg (fun h => hk h.1), if_neg (fun h => hk h.1), if_neg (fun h => hk h.1)]
theorem fmd_done {p : Prc} (h : fmd p = true) (h5 : p.s = 5) : p.d = true := by
  unfold fmd at h
  simp only [Bool.and_eq_true, beq_iff_eq] at h
  have := h.1.2
  rw [h5] at this
  simpa using this
theorem suc_sel {p : Prc} {l : Ses} {v : Int} (hs : p.s = 0 ∨ p.s = 1 ∨ p.s = 2 ∨ p.s = 3 ∨ p.s = 4) (hA : small (l.by p.f).n) (hB : small (l.by p.t).n) :
    (sucT p l v).sel = some (bif sucE p (l.by p.f) (l.by p.t) v == 0 then thr (sucP p v) (sucL p l) 0 else thr0 (sucE p (l.by p.f) (l.by p.t) v)) := by
  obtain ⟨k, f, t, s, e, c, d, x⟩ := p
  simp only at hs hA hB ⊢
  unfold sucT
  rcases hs with rfl | rfl | rfl | rfl | rfl
  · show (Tree.br (!((l.by f).r == 1)) (erL l 18) (.br (!(v == (l.by f).p)) (erL l 22) _)).sel = some (bif s0E (l.by f) v == 0 then _ else thr0 (s0E (l.by f) v))
    unfold s0E
    cases (l.by f).r == 1
    · rfl
    · cases v == (l.by f).p <;> rfl
  · have hd : dec (fewN (l.by f).n) = true := dec_iff.2 (dec_iff.1 (small_few hA))
    show (Tree.br (!(v == (l.by t).p && le v c)) (erL l 22) (.br (lt v c) (okS (thr ⟨k, f, t, 1, e, c, d, x⟩ l 0)) (.need (dec (fewN (l.by f).n)) (.br (!eqL ⟨(l.by f).ln, (l.by t).ln⟩) (erL l 19) (okS (thr ⟨k, f, t, 2, e, c, d, x⟩ l 0)))))).sel = some (bif s1E ⟨k, f, t, 1, e, c, d, x⟩ (l.by f) (l.by t) v == 0 then thr (bif lt v c then ⟨k, f, t, 1, e, c, d, x⟩ else ⟨k, f, t, 2, e, c, d, x⟩) l 0 else thr0 (s1E ⟨k, f, t, 1, e, c, d, x⟩ (l.by f) (l.by t) v))
    unfold s1E
    cases h1 : (v == (l.by t).p && le v c)
    · simp only; rfl
    · simp only [Tree.sel, hd, Bool.not_true, cond_false, cond_true]
      cases h2 : lt v c
      · simp only [cond_false]
        cases eqL ⟨(l.by f).ln, (l.by t).ln⟩ <;> rfl
      · simp only [cond_true]; rfl
  · show (Tree.br (!(le v 1073741824)) (erL l 2) (.br (!(lt (l.by f).e v && lt (l.by t).e v)) (erL l 13) _)).sel = some (bif s2E (l.by f) (l.by t) v == 0 then _ else thr0 (s2E (l.by f) (l.by t) v))
    unfold s2E
    cases le v 1073741824
    · rfl
    · cases (lt (l.by f).e v && lt (l.by t).e v) <;> rfl
  · have hd : dec (small (l.by f).n) = true := dec_iff.2 hA
    show (Tree.br (!((l.by f).p == c && (l.by t).p == c)) (erL l 22) (.need (dec (small (l.by f).n)) (.br (!(demoE (l.by f) e t == 0)) (erL l (demoE (l.by f) e t)) (okS (thr ⟨k, f, t, 4, e, c, d, x⟩ ⟨l.n, l.ρ.upds (idxN l f) 0 (okC (demoE (l.by f) e t) (demo (l.by f) e t))⟩ 0))))).sel = some (bif s3E ⟨k, f, t, 3, e, c, d, x⟩ (l.by f) (l.by t) == 0 then thr ⟨k, f, t, 4, e, c, d, x⟩ (l.set (idxN l f) (demo (l.by f) e t)) 0 else thr0 (s3E ⟨k, f, t, 3, e, c, d, x⟩ (l.by f) (l.by t)))
    unfold s3E
    cases h1 : ((l.by f).p == c && (l.by t).p == c)
    · simp only; rfl
    · simp only [Tree.sel, hd, Bool.not_true, cond_false, cond_true]
      cases h2 : demoE (l.by f) e t == 0
      · rfl
      · have h0 : demoE (l.by f) e t = 0 := by simpa using h2
        rw [h0]; rfl
  · have hd : dec (small (l.by t).n) = true := dec_iff.2 hB
    show (Tree.br (!((l.by t).p == c)) (erL l 22) (.need (dec (small (l.by t).n)) (.br (!(proE (l.by t) e == 0)) (erL l (proE (l.by t) e)) (okS (thr ⟨k, f, t, 5, e, c, true, x⟩ ⟨l.n, l.ρ.upds (idxN l t) 0 (okC (proE (l.by t) e) (pro (l.by t) e))⟩ 0))))).sel = some (bif s4E ⟨k, f, t, 4, e, c, d, x⟩ (l.by t) == 0 then thr ⟨k, f, t, 5, e, c, true, x⟩ (l.set (idxN l t) (pro (l.by t) e)) 0 else thr0 (s4E ⟨k, f, t, 4, e, c, d, x⟩ (l.by t)))
    unfold s4E
    cases h1 : (l.by t).p == c
    · simp only; rfl
    · simp only [Tree.sel, hd, Bool.not_true, cond_false, cond_true]
      cases h2 : proE (l.by t) e == 0
      · rfl
      · have h0 : proE (l.by t) e = 0 := by simpa using h2
        rw [h0]; rfl
theorem by_small {l : Ses} (h : smallS l) {k : Int} (hk : hasN l k = true) : small (l.by k).n := h.2 _ (firstB_ok hk).1
theorem stp_sel {p : Prc} {l : Ses} (hsm : smallS l) (ok : Bool) (v : Int) : (stpT p l ok v).sel = some (bif stpE p l ok v == 0 then thr (bif ok then sucP p v else { p with x := le p.s 3 }) (bif ok then sucL p l else l) 0 else thr0 (stpE p l ok v)) := by
  have hp : dec (smallS l) = true := dec_iff.2 hsm
  have hf : dec (fewN l.n) = true := fewN_dec hsm
  unfold stpT stpE preE
  cases h1 : chkP p == 0
  · simp only [Tree.sel, Bool.not_false, cond_true, h1]; rfl
  · simp only [Tree.sel, hp, hf, Bool.not_true, cond_false, cond_true]
    cases h2 : ckE l == 0
    · simp only [Bool.not_false, cond_true, h2]; rfl
    · simp only [Bool.not_true, cond_false]
      cases h3 : hasN l p.f
      · rfl
      · cases h4 : hasN l p.t
        · rfl
        · simp only [Bool.and_self, Bool.not_true, cond_false, cond_true]
          cases h5 : (!p.d && !p.x)
          · rfl
          · simp only [Bool.not_true, cond_false]
            cases ok
            · rfl
            · simp only [cond_true]
              have hfm : fmd p = true := fmd_of (by simp [bne, h1])
              have hs := fmd_step hfm
              refine suc_sel ?_ (by_small hsm h3) (by_small hsm h4)
              rcases hs with h | h | h | h | h | h
              · exact .inl h
              · exact .inr (.inl h)
              · exact .inr (.inr (.inl h))
              · exact .inr (.inr (.inr (.inl h)))
              · exact .inr (.inr (.inr (.inr h)))
              · rw [fmd_done hfm h] at h5; cases h5
theorem thr_of (p : Prc) (l : Ses) (ok : Bool) (v : Int) : leA (bif stpE p l ok v == 0 then thr (bif ok then sucP p v else { p with x := le p.s 3 }) (bif ok then sucL p l else l) 0 else thr0 (stpE p l ok v)) (thr (stpP p l ok v) (stpL p l ok v) (stpE p l ok v)) := by
  unfold stpP stpL
  cases h : stpE p l ok v == 0
  · exact le_thr0
  · have h0 : stpE p l ok v = 0 := by simpa using h
    rw [h0]
    exact leA.refl
theorem all_sel_to {r R : AV} {t : Tree AV} (h : t.sel = some r) (hr : leA r R) : t.All (fun z => leA z R) := All.imp (fun _ h => h ▸ hr) (all_of_sel h)
theorem uStep : UcOne Tryz.prog 126 (nG Gstep) := ucOneP_of_tree hS xS 10 126 fun args r h => by
  unfold Gstep at h; split at h
  · rename_i k f t s e c d x n ρ ok v
    obtain ⟨hp, rfl⟩ := Prod.mk.inj (Option.some.inj h)
    exact ⟨_, stepT n ρ k f t s e c v d x ok, all_sel_to (stp_sel (dec_iff.1 hp) ok v) (thr_of _ _ _ _)⟩
  · cases h
end Go.Proofs.YtennlgngdjegoaaGreat
