/-
  The planned change of the primary: what the steps stand on.
-/
import Derived.Test.YtennlgngdjegoaaSwA
import Derived.Test.YtennlgngdjegoaaRoB
namespace Go.Proofs.Ytennlgngdjegoaa
open Go Go.Sx Go.RowKit Classical

set_option maxRecDepth 100000

/-! ### an array of functions -/

def fnC (f : Nat) : CV := .fn (.func f) [] []
def fnV (f : Nat) : Value := .func (.func f) #[] #[]
theorem fnC_mk {F w bs} (f : Nat) : CV.Rel F w bs (fnC f) (fnV f) := CV.Rel.fn (vf := []) (vc := []) rfl rfl (fun i x v h => by simp [nth] at h) (fun i x v h => by simp [nth] at h)
theorem fnC_eq {F w bs} {f : Nat} {v : Value} (h : CV.Rel F w bs (fnC f) v) : v = fnV f := by
  unfold fnC at h
  cases h with
  | fn l1 l2 r1 r2 =>
    rename_i vf vc
    have h1 : vf = [] := List.length_eq_zero_iff.1 l1.symm
    have h2 : vc = [] := List.length_eq_zero_iff.1 l2.symm
    subst h1; subst h2; rfl
theorem fnCs_mk {F w bs} : ∀ fs : List Nat, All2 (CV.Rel F w bs) (fs.map fnC) (fs.map fnV)
  | [] => .nil
  | f :: r => .cons (fnC_mk f) (fnCs_mk r)
theorem fnCs_eq {F w bs} : ∀ {fs : List Nat} {vs : List Value}, All2 (CV.Rel F w bs) (fs.map fnC) vs → vs = fs.map fnV
  | [], _, h => by cases h; rfl
  | f :: r, _, h => by
    cases h with
    | cons a b => rw [fnC_eq a, fnCs_eq b]; rfl

/-- a function that returns an array of functions -/
theorem pcOne_fns {P : Program} {H : Hd} (hH : HdOk P H) (n f : Nat) (fs : List Nat) {m : Mem} (h : evFn P H n f [] [] = .leaf (.one (.agg (fs.map fnC)), m)) : PcOne P f (fun args => match args with | [] => some (.one (.agg (fs.map fnC))) | _ => none) := by
  intro args r hG _ F w vs hargs
  simp only at hG
  split at hG
  · simp only [Option.some.injEq] at hG
    subst hG
    cases hargs
    refine ⟨.agg (fs.map fnV).toArray, ⟨_, rfl, fnCs_mk fs⟩, fun w1 _ => ?_⟩
    refine (evFn_ok0 hH n f [] (.one (.agg (fs.map fnC))) m (by rw [h]; rfl) F w1 [] [] MemRel.nil .nil).mono fun e w2 ⟨u, F', bs', he, hext, _, hu⟩ => ?_
    obtain ⟨us, hus, hu⟩ := hu
    rw [fnCs_eq hu] at hus
    subst hus
    exact ⟨he, hext.below⟩
  · cases hG

def Gsteps : List A1 → Option AV := fun args => match args with | [] => some (.one (.agg ([125, 126, 127, 128, 129].map fnC))) | _ => none
theorem pSteps : PcOne Try.prog 95 Gsteps := pcOne_fns hE 10 95 [125, 126, 127, 128, 129] (m := [some (150, [125, 126, 127, 128, 129].map fnC)]) (by kernel_rfl)

/-! ### slices.Equal of spans -/

structure C77 where
  l : Ln
  j : Ln
  m : Int
def S77 (c : C77) (v : Int) : St := mkS 26 [(0, .one (.c (.sl spSh c.l.n c.l.ρ))), (1, .one (.c (.sl spSh c.j.n c.j.ρ))), (4, .one (.c (.bool false))), (12, .one (.c (I c.m))), (13, .one (.c (I v)))] []
def TX77 (c : C77) (v : Int) : Tree (XE × Int) := .br (lt v c.m) (.need (inRange v c.l.n) (.need (inRange v c.j.n) (.br (dif c.l.ρ c.j.ρ v.toNat) (.leaf (.ret, v)) (.leaf (.normal, IntKind.i64.wrap (v + 1)))))) (.leaf (.exit 0, v))
theorem t77 (c : C77) (v : Int) : ((evCode Try.prog HA (evFn Try.prog HA 10) 142 0 1 (loopBody Try.prog 142 0) (S77 c v)).bind fun y => gcT [0, 1, 4, 12, 13] 0 y) = (TX77 c v).bind fun y => .leaf (y.1, S77 c y.2) := by kernel_rfl
def good77 (c : C77) : Prop := c.m = toInt64 c.l.n ∧ c.l.n = c.j.n ∧ fewN c.l.n
theorem sq77 (c : C77) (h : good77 c) : Sq (TX77 c) (fun v => (c.l.n - v).toNat) (fun i => (i : Int)) (fun i => (i : Int)) c.l.n (difL ⟨c.l, c.j⟩) .ret (.exit 0) where
  out := by simp
  hit := by simp
  meas i hi := by show ((c.l.n : Int) - (i : Int)).toNat = _; omega
  round i hi := by
    obtain ⟨hm, hj, hn⟩ := h
    unfold fewN at hn
    have hw : IntKind.i64.wrap ((i : Int) + 1) = ((i + 1 : Nat) : Int) := by rw [w64_id (by omega) (by omega)]; omega
    refine ⟨fun _ => ⟨inR hi, inR (hj ▸ hi), fun hb => ?_, fun hb => ?_⟩, fun hlt => ?_⟩
    · have : difL ⟨c.l, c.j⟩ i = true := hb
      simp only [Tree.All, this, if_true]
    · have : difL ⟨c.l, c.j⟩ i = false := hb
      simp only [Tree.All, this, Bool.false_eq_true, if_false]
      rw [hw]
    · rw [hm, ltF hi] at hlt; cases hlt
  stop := by
    refine ⟨fun hlt => ?_, fun _ => rfl⟩
    rw [h.1, ltS] at hlt; cases hlt
def get77 : List (Nat × AV) → Mem → Option (C77 × Int)
  | [(0, .one (.c (.sl [.int .i64, .int .i64, .int .i64] n ρ))), (1, .one (.c (.sl [.int .i64, .int .i64, .int .i64] k σ))), (4, .one (.c (.bool false))), (12, .one (.c (.int .i64 m))), (13, .one (.c (.int .i64 i)))], [] => some (⟨⟨n, ρ⟩, ⟨k, σ⟩, m⟩, i)
  | _, _ => none
noncomputable def L77 : Nat → St → Tree (XE × St) := lqH [0, 1, 4, 12, 13] 0 26 get77 fun c v => lqT (S77 c) (good77 c ∧ v = ((0 : Nat) : Int)) (anyB (difL ⟨c.l, c.j⟩) c.l.n) .ret (.exit 0) (firstB (difL ⟨c.l, c.j⟩) c.l.n : Nat) (c.l.n : Int)
theorem l77 (fn : Func) (c b : Code) (hf : Try.prog.funcs[142]? = some fn) (hc : fn.body = some c) (hb : nthLoop c 0 = some b) : LoopOk Try.prog b L77 :=
  lq_ok hA 10 142 0 hf hc hb [0, 1, 4, 12, 13] 0 26 S77 TX77 t77 get77
    (fun l m c v h => by unfold get77 at h; split at h <;> simp at h; obtain ⟨rfl, rfl⟩ := h; rfl)
    good77 (fun c v => (c.l.n - v).toNat) (fun _ i => (i : Int)) (fun _ i => (i : Int)) (fun c => c.l.n) (fun c => difL ⟨c.l, c.j⟩) .ret (.exit 0)
    sq77 (fun c => (firstB (difL ⟨c.l, c.j⟩) c.l.n : Nat)) (fun c => (c.l.n : Int)) (fun _ _ _ => StWk.refl) (fun _ _ _ => StWk.refl)
noncomputable abbrev H77 : Hd := ⟨HA.pc, HA.hc, [((142, 0), L77)], HA.mc⟩
theorem h77 : HdOk Try.prog H77 := HdOk.lhCons hA l77

theorem pEqual : TcOne Try.prog 142 (nG GE) := tcOne_of_tree h77 10 142 fun args r h => by
  unfold GE at h; split at h
  · rename_i n ρ k σ
    obtain ⟨hp, rfl⟩ := Prod.mk.inj (Option.some.inj h)
    refine ⟨rfl, .br (toInt64 n != toInt64 k) (.leaf (.one (.c (.bool false)))) (.need (dec (good77 ⟨⟨n, ρ⟩, ⟨k, σ⟩, toInt64 n⟩ ∧ (0 : Int) = ((0 : Nat) : Int))) (.br (anyB (difL ⟨⟨n, ρ⟩, ⟨k, σ⟩⟩) n) (.leaf (.one (.c (.bool false)))) (.leaf (.one (.c (.bool true)))))), by kernel_rfl, all_of_sel ?_⟩
    unfold eqL
    simp only [Tree.sel]
    by_cases hnm : n = k
    · subst hnm
      have h1 : (toInt64 n != toInt64 n) = false := by simp
      have h2 : dec (good77 ⟨⟨n, ρ⟩, ⟨n, σ⟩, toInt64 n⟩ ∧ (0 : Int) = ((0 : Nat) : Int)) = true := dec_iff.2 ⟨⟨rfl, rfl, dec_iff.1 hp⟩, rfl⟩
      have h3 : (n == n) = true := by simp
      rw [h1, h2, h3]
      cases anyB (difL ⟨⟨n, ρ⟩, ⟨n, σ⟩⟩) n <;> rfl
    · have h1 : (toInt64 n != toInt64 k) = true := by
        have : (n : Int) ≠ (k : Int) := by omega
        simpa [toInt64, bne] using this
      have h3 : (n == k) = false := by simpa using hnm
      rw [h1, h3]; rfl
  · cases h

noncomputable abbrev HS : Hd := ⟨pF 125 :: pF 126 :: pF 127 :: pF 128 :: pF 129 :: (95, oG Gsteps) :: (142, nG GE) :: HE.pc, HE.hc, [], HE.mc⟩
theorem hS : HdOk Try.prog HS := ((((((hE.tcCons pEqual).pcCons pSteps).pF 129).pF 128).pF 127).pF 126).pF 125

end Go.Proofs.Ytennlgngdjegoaa
/-
  The planned change of the primary: Step.
-/
namespace Go.Proofs.Ytennlgngdjegoaa
open Go Go.Sx Go.RowKit Classical

set_option maxRecDepth 100000

/-- the cells of a site, where there is no error -/
def okC (k : Int) (x : Sit) : List CV := [I (bif k == 0 then x.a else 0), I (bif k == 0 then x.r else 0), I (bif k == 0 then x.e else 0), I (bif k == 0 then x.p else 0), .sl spSh (bif k == 0 then x.n else 0) x.ρ, I (bif k == 0 then x.s else 0), .bool (k == 0 && x.l), .bool (k == 0 && x.c)]
def Sit.cs (x : Sit) : List CV := [I x.a, I x.r, I x.e, I x.p, .sl spSh x.n x.ρ, I x.s, .bool x.l, .bool x.c]
theorem okC_0 (x : Sit) : okC 0 x = x.cs := rfl
/-- a site is replaced -/
def Ses.set (l : Ses) (i : Nat) (x : Sit) : Ses := ⟨l.n, l.ρ.upds i 0 x.cs⟩

/-! ### what a step does -/

def s0E (A : Sit) (v : Int) : Int := bif !(A.r == 1) then 18 else bif !(v == A.p) then 22 else 0
def s1E (p : Prc) (A B : Sit) (v : Int) : Int := bif !(v == B.p && le v p.c) then 22 else bif lt v p.c then 0 else bif !eqL ⟨A.ln, B.ln⟩ then 19 else 0
def s2E (A B : Sit) (v : Int) : Int := bif !(le v 1073741824) then 2 else bif !(lt A.e v && lt B.e v) then 13 else 0
def s3E (p : Prc) (A B : Sit) : Int := bif !(A.p == p.c && B.p == p.c) then 22 else demoE A p.e p.t
def s4E (p : Prc) (B : Sit) : Int := bif !(B.p == p.c) then 22 else proE B p.e

/-- the error of a step that succeeds -/
def sucE (p : Prc) (A B : Sit) (v : Int) : Int := bif p.s == 0 then s0E A v else bif p.s == 1 then s1E p A B v else bif p.s == 2 then s2E A B v else bif p.s == 3 then s3E p A B else s4E p B
def sucP (p : Prc) (v : Int) : Prc := bif p.s == 0 then { p with c := v, s := 1 } else bif p.s == 1 then (bif lt v p.c then p else { p with s := 2 }) else bif p.s == 2 then { p with e := v, s := 3 } else bif p.s == 3 then { p with s := 4 } else { p with s := 5, d := true }
def sucL (p : Prc) (l : Ses) : Ses := bif p.s == 3 then l.set (idxN l p.f) (demo (l.by p.f) p.e p.t) else bif p.s == 4 then l.set (idxN l p.t) (pro (l.by p.t) p.e) else l

def preE (p : Prc) (l : Ses) : Int := bif !(chkP p == 0) then chkP p else bif !(ckE l == 0) then ckE l else bif !(hasN l p.f && hasN l p.t) then 7 else bif !(!p.d && !p.x) then 12 else 0
def stpE (p : Prc) (l : Ses) (ok : Bool) (v : Int) : Int := bif !(preE p l == 0) then preE p l else bif ok then sucE p (l.by p.f) (l.by p.t) v else 0
def stpP (p : Prc) (l : Ses) (ok : Bool) (v : Int) : Prc := bif !(stpE p l ok v == 0) then p0 else bif ok then sucP p v else { p with x := le p.s 3 }
def stpL (p : Prc) (l : Ses) (ok : Bool) (v : Int) : Ses := bif !(stpE p l ok v == 0) then ⟨0, l.ρ⟩ else bif ok then sucL p l else l

/-- a procedure, sites and an error -/
def thr (p : Prc) (l : Ses) (e : Int) : AV := .tup [p.cv, .c (.sl siSh l.n l.ρ), .c (I e)]
def thr0 (e : Int) : AV := .tup [p0.cv, .c .nils, .c (I e)]
def erS (k : Int) : Tree AV := .br true (.br false .fail (.leaf (thr0 k))) (.leaf (thr0 0))
def erL (l : Ses) (k : Int) : Tree AV := .br true (.br false .fail (.leaf (thr0 k))) (.leaf (thr p0 l 0))
def okS (x : AV) : Tree AV := .br false .fail (.leaf x)

theorem le_thr0 {e : Int} {ρ : Val} : leA (thr0 e) (thr p0 ⟨0, ρ⟩ e) := leA_tup (.cons le1.refl (.cons (.c leC_nils) (.cons le1.refl .nil)))

noncomputable def Gstep : List A1 → Option (Bool × AV)
  | [.agg [.int .i64 k, .int .i64 f, .int .i64 t, .int .i64 s, .int .i64 e, .int .i64 c, .bool d, .bool x], .c (.sl [.int .i64, .int .i64, .int .i64, .int .i64, .sl [.int .i64, .int .i64, .int .i64], .int .i64, .bool, .bool] n ρ), .c (.bool ok), .c (.int .i64 v)] =>
    some (dec (smallS ⟨n, ρ⟩), thr (stpP ⟨k, f, t, s, e, c, d, x⟩ ⟨n, ρ⟩ ok v) (stpL ⟨k, f, t, s, e, c, d, x⟩ ⟨n, ρ⟩ ok v) (stpE ⟨k, f, t, s, e, c, d, x⟩ ⟨n, ρ⟩ ok v))
  | _ => none

/-- the tree of the steps -/
noncomputable def sucT (p : Prc) (l : Ses) (v : Int) : Tree AV :=
  let A := l.by p.f
  let B := l.by p.t
  .need (inRange p.s 5)
    (.br (p.s == 0) (.br (!(A.r == 1)) (erL l 18) (.br (!(v == A.p)) (erL l 22) (okS (thr { p with c := v, s := 1 } l 0))))
    (.br (p.s == 0 + 1) (.br (!(v == B.p && le v p.c)) (erL l 22) (.br (lt v p.c) (okS (thr p l 0)) (.need (dec (fewN A.n)) (.br (!eqL ⟨A.ln, B.ln⟩) (erL l 19) (okS (thr { p with s := 2 } l 0))))))
    (.br (p.s == 0 + 1 + 1) (.br (!(le v 1073741824)) (erL l 2) (.br (!(lt A.e v && lt B.e v)) (erL l 13) (okS (thr { p with e := v, s := 3 } l 0))))
    (.br (p.s == 0 + 1 + 1 + 1) (.br (!(A.p == p.c && B.p == p.c)) (erL l 22) (.need (dec (small A.n)) (.br (!(demoE A p.e p.t == 0)) (erL l (demoE A p.e p.t)) (okS (thr { p with s := 4 } ⟨l.n, l.ρ.upds (idxN l p.f) 0 (okC (demoE A p.e p.t) (demo A p.e p.t))⟩ 0)))))
      (.br (!(B.p == p.c)) (erL l 22) (.need (dec (small B.n)) (.br (!(proE B p.e == 0)) (erL l (proE B p.e)) (okS (thr { p with s := 5, d := true } ⟨l.n, l.ρ.upds (idxN l p.t) 0 (okC (proE B p.e) (pro B p.e))⟩ 0)))))))))

noncomputable def stpT (p : Prc) (l : Ses) (ok : Bool) (v : Int) : Tree AV :=
  .br (!(chkP p == 0)) (erS (chkP p)) (.need (dec (smallS l)) (.br (ckE l == 0) (.need (dec (fewN l.n)) (.br (hasN l p.f) (.need (dec (fewN l.n)) (.br (hasN l p.t) (.br (!(!p.d && !p.x)) (erL l 12) (.br ok (sucT p l v) (okS (thr { p with x := le p.s 3 } l 0)))) (erL l 7))) (erL l 7))) (erS (ckE l))))

theorem stepT (n : Nat) (ρ : Val) (k f t s e c v : Int) (d x ok : Bool) : hcTreeP Try.prog HS XS 10 55 [.agg [I k, I f, I t, I s, I e, I c, .bool d, .bool x], .c (.sl siSh n ρ), .c (.bool ok), .c (I v)] = stpT ⟨k, f, t, s, e, c, d, x⟩ ⟨n, ρ⟩ ok v := by kernel_rfl

theorem at_upds (ρ : Val) (i : Nat) : ∀ (cs : List CV) (f k g : Nat), ((ρ.upds i f cs).at k).at g = if k = i ∧ f ≤ g ∧ g < f + cs.length then (match nth cs (g - f) with | some x => .ofC x | none => Val.zero) else (ρ.at k).at g
  | [], f, k, g => by
    rw [if_neg (by simp only [List.length_nil]; omega)]; rfl
  | x :: r, f, k, g => by
    show (((ρ.upd i f x).upds i (f + 1) r).at k).at g = _
    rw [at_upds (ρ.upd i f x) i r (f + 1) k g, at_upd]
    by_cases hk : k = i
    · by_cases hg : g = f
      · subst hg
        rw [if_neg (by omega), if_pos ⟨hk, rfl⟩, if_pos ⟨hk, Nat.le_refl _, by simp only [List.length_cons]; omega⟩]
        simp [nth]
      · by_cases hin : f + 1 ≤ g ∧ g < f + 1 + r.length
        · rw [if_pos ⟨hk, hin.1, hin.2⟩, if_pos ⟨hk, by omega, by simp only [List.length_cons]; omega⟩]
          obtain ⟨m, rfl⟩ : ∃ m, g = f + 1 + m := ⟨g - (f + 1), by omega⟩
          rw [show f + 1 + m - (f + 1) = m by omega, show f + 1 + m - f = m + 1 by omega]
          simp [nth]
        · rw [if_neg (fun h => hin ⟨h.2.1, h.2.2⟩), if_neg (fun h => hg h.2), if_neg (fun h => hin ⟨by omega, by have := h.2.2; simp only [List.length_cons] at this; omega⟩)]
    · rw [if_neg (fun h => hk h.1), if_neg (fun h => hk h.1), if_neg (fun h => hk h.1)]

theorem fmd_done {p : Prc} (h : fmd p = true) (h5 : p.s = 5) : p.d = true := by
  unfold fmd at h
  simp only [Bool.and_eq_true, beq_iff_eq] at h
  have := h.1.2
  rw [h5] at this
  simpa using this

theorem suc_sel {p : Prc} {l : Ses} {v : Int} (hs : p.s = 0 ∨ p.s = 1 ∨ p.s = 2 ∨ p.s = 3 ∨ p.s = 4) (hA : small (l.by p.f).n) (hB : small (l.by p.t).n) :
    (sucT p l v).sel = some (bif sucE p (l.by p.f) (l.by p.t) v == 0 then thr (sucP p v) (sucL p l) 0 else thr0 (sucE p (l.by p.f) (l.by p.t) v)) := by
  obtain ⟨k, f, t, s, e, c, d, x⟩ := p
  simp only at hs hA hB ⊢
  unfold sucT
  rcases hs with rfl | rfl | rfl | rfl | rfl
  · show (Tree.br (!((l.by f).r == 1)) (erL l 18) (.br (!(v == (l.by f).p)) (erL l 22) _)).sel = some (bif s0E (l.by f) v == 0 then _ else thr0 (s0E (l.by f) v))
    unfold s0E
    cases (l.by f).r == 1
    · rfl
    · cases v == (l.by f).p <;> rfl
  · have hd : dec (fewN (l.by f).n) = true := dec_iff.2 (dec_iff.1 (small_few hA))
    show (Tree.br (!(v == (l.by t).p && le v c)) (erL l 22) (.br (lt v c) (okS (thr ⟨k, f, t, 1, e, c, d, x⟩ l 0)) (.need (dec (fewN (l.by f).n)) (.br (!eqL ⟨(l.by f).ln, (l.by t).ln⟩) (erL l 19) (okS (thr ⟨k, f, t, 2, e, c, d, x⟩ l 0)))))).sel = some (bif s1E ⟨k, f, t, 1, e, c, d, x⟩ (l.by f) (l.by t) v == 0 then thr (bif lt v c then ⟨k, f, t, 1, e, c, d, x⟩ else ⟨k, f, t, 2, e, c, d, x⟩) l 0 else thr0 (s1E ⟨k, f, t, 1, e, c, d, x⟩ (l.by f) (l.by t) v))
    unfold s1E
    cases h1 : (v == (l.by t).p && le v c)
    · simp only; rfl
    · simp only [Tree.sel, hd, Bool.not_true, cond_false, cond_true]
      cases h2 : lt v c
      · simp only [cond_false]
        cases eqL ⟨(l.by f).ln, (l.by t).ln⟩ <;> rfl
      · simp only [cond_true]; rfl
  · show (Tree.br (!(le v 1073741824)) (erL l 2) (.br (!(lt (l.by f).e v && lt (l.by t).e v)) (erL l 13) _)).sel = some (bif s2E (l.by f) (l.by t) v == 0 then _ else thr0 (s2E (l.by f) (l.by t) v))
    unfold s2E
    cases le v 1073741824
    · rfl
    · cases (lt (l.by f).e v && lt (l.by t).e v) <;> rfl
  · have hd : dec (small (l.by f).n) = true := dec_iff.2 hA
    show (Tree.br (!((l.by f).p == c && (l.by t).p == c)) (erL l 22) (.need (dec (small (l.by f).n)) (.br (!(demoE (l.by f) e t == 0)) (erL l (demoE (l.by f) e t)) (okS (thr ⟨k, f, t, 4, e, c, d, x⟩ ⟨l.n, l.ρ.upds (idxN l f) 0 (okC (demoE (l.by f) e t) (demo (l.by f) e t))⟩ 0))))).sel = some (bif s3E ⟨k, f, t, 3, e, c, d, x⟩ (l.by f) (l.by t) == 0 then thr ⟨k, f, t, 4, e, c, d, x⟩ (l.set (idxN l f) (demo (l.by f) e t)) 0 else thr0 (s3E ⟨k, f, t, 3, e, c, d, x⟩ (l.by f) (l.by t)))
    unfold s3E
    cases h1 : ((l.by f).p == c && (l.by t).p == c)
    · simp only; rfl
    · simp only [Tree.sel, hd, Bool.not_true, cond_false, cond_true]
      cases h2 : demoE (l.by f) e t == 0
      · rfl
      · have h0 : demoE (l.by f) e t = 0 := by simpa using h2
        rw [h0]; rfl
  · have hd : dec (small (l.by t).n) = true := dec_iff.2 hB
    show (Tree.br (!((l.by t).p == c)) (erL l 22) (.need (dec (small (l.by t).n)) (.br (!(proE (l.by t) e == 0)) (erL l (proE (l.by t) e)) (okS (thr ⟨k, f, t, 5, e, c, true, x⟩ ⟨l.n, l.ρ.upds (idxN l t) 0 (okC (proE (l.by t) e) (pro (l.by t) e))⟩ 0))))).sel = some (bif s4E ⟨k, f, t, 4, e, c, d, x⟩ (l.by t) == 0 then thr ⟨k, f, t, 5, e, c, true, x⟩ (l.set (idxN l t) (pro (l.by t) e)) 0 else thr0 (s4E ⟨k, f, t, 4, e, c, d, x⟩ (l.by t)))
    unfold s4E
    cases h1 : (l.by t).p == c
    · simp only; rfl
    · simp only [Tree.sel, hd, Bool.not_true, cond_false, cond_true]
      cases h2 : proE (l.by t) e == 0
      · rfl
      · have h0 : proE (l.by t) e = 0 := by simpa using h2
        rw [h0]; rfl

theorem by_small {l : Ses} (h : smallS l) {k : Int} (hk : hasN l k = true) : small (l.by k).n := h.2 _ (firstB_ok hk).1

theorem stp_sel {p : Prc} {l : Ses} (hsm : smallS l) (ok : Bool) (v : Int) : (stpT p l ok v).sel = some (bif stpE p l ok v == 0 then thr (bif ok then sucP p v else { p with x := le p.s 3 }) (bif ok then sucL p l else l) 0 else thr0 (stpE p l ok v)) := by
  have hp : dec (smallS l) = true := dec_iff.2 hsm
  have hf : dec (fewN l.n) = true := fewN_dec hsm
  unfold stpT stpE preE
  cases h1 : chkP p == 0
  · simp only [Tree.sel, Bool.not_false, cond_true, h1]; rfl
  · simp only [Tree.sel, hp, hf, Bool.not_true, cond_false, cond_true]
    cases h2 : ckE l == 0
    · simp only [Bool.not_false, cond_true, h2]; rfl
    · simp only [Bool.not_true, cond_false]
      cases h3 : hasN l p.f
      · rfl
      · cases h4 : hasN l p.t
        · rfl
        · simp only [Bool.and_self, Bool.not_true, cond_false, cond_true]
          cases h5 : (!p.d && !p.x)
          · rfl
          · simp only [Bool.not_true, cond_false]
            cases ok
            · rfl
            · simp only [cond_true]
              have hfm : fmd p = true := fmd_of (by simp [bne, h1])
              have hs := fmd_step hfm
              refine suc_sel ?_ (by_small hsm h3) (by_small hsm h4)
              rcases hs with h | h | h | h | h | h
              · exact .inl h
              · exact .inr (.inl h)
              · exact .inr (.inr (.inl h))
              · exact .inr (.inr (.inr (.inl h)))
              · exact .inr (.inr (.inr (.inr h)))
              · rw [fmd_done hfm h] at h5; cases h5

theorem thr_of (p : Prc) (l : Ses) (ok : Bool) (v : Int) : leA (bif stpE p l ok v == 0 then thr (bif ok then sucP p v else { p with x := le p.s 3 }) (bif ok then sucL p l else l) 0 else thr0 (stpE p l ok v)) (thr (stpP p l ok v) (stpL p l ok v) (stpE p l ok v)) := by
  unfold stpP stpL
  cases h : stpE p l ok v == 0
  · exact le_thr0
  · have h0 : stpE p l ok v = 0 := by simpa using h
    rw [h0]
    exact leA.refl

theorem all_sel_to {r R : AV} {t : Tree AV} (h : t.sel = some r) (hr : leA r R) : t.All (fun z => leA z R) := All.imp (fun _ h => h ▸ hr) (all_of_sel h)

theorem uStep : UcOne Try.prog 55 (nG Gstep) := ucOneP_of_tree hS xS 10 55 fun args r h => by
  unfold Gstep at h; split at h
  · rename_i k f t s e c d x n ρ ok v
    obtain ⟨hp, rfl⟩ := Prod.mk.inj (Option.some.inj h)
    exact ⟨_, stepT n ρ k f t s e c v d x ok, all_sel_to (stp_sel (dec_iff.1 hp) ok v) (thr_of _ _ _ _)⟩
  · cases h

end Go.Proofs.Ytennlgngdjegoaa
/-
  A pair of sites: the switchover under way, and what holds of it.
-/
namespace Go.Proofs.Ytennlgngdjegoaa
open Go Go.Sx Go.RowKit Classical

set_option maxRecDepth 100000
def spN (c : Int) : Nat := bif lt 0 c then 1 else 0
def spV (c : Int) : Val := bif lt 0 c then Val.ofFlat 3 [I 1, I 1, I c] else Val.zero
def pr1 (c : Int) : Sit := ⟨0, 1, 1, c, spN c, spV c, -1, true, true⟩
def pr2 (b : Int) : Sit := ⟨1, 2, 1, b, spN b, spV b, 0, true, true⟩
/-- two sites -/
def two2S (x y : Sit) : Ses := ⟨2, Val.ofFlat 8 (x.cs ++ y.cs)⟩
def pairS (c b : Int) : Ses := two2S (pr1 c) (pr2 b)
/-- a switchover under way -/
structure Stt where
  P : Prc
  L : Ses
  cy : Int
  O : Ses
  cl : Bool
  ri : Bool

def Stt.cv (s : Stt) : A1 := .agg [I s.P.k, I s.P.f, I s.P.t, I s.P.s, I s.P.e, I s.P.c, .bool s.P.d, .bool s.P.x, .sl siSh s.L.n s.L.ρ, I s.cy, .sl siSh s.O.n s.O.ρ, .bool s.cl, .bool s.ri]
def Stt.A (s : Stt) : Sit := s.L.at 0
def Stt.B (s : Stt) : Sit := s.L.at 1

def two2C (a b : List CV) : Ses := ⟨2, Val.ofFlat 8 (a ++ b)⟩
/-- the primary closes a cycle -/
def evA (s : Stt) : Stt := { s with L := two2C (okC (appE s.A 1 (IntKind.i64.wrap (s.cy + 1))) (app s.A 1 (IntKind.i64.wrap (s.cy + 1)))) s.B.cs, cy := IntKind.i64.wrap (s.cy + 1), ri := s.ri && appE s.A 1 (IntKind.i64.wrap (s.cy + 1)) == 0 }
/-- the secondary applies one -/
def evB (s : Stt) : Stt := { s with L := two2C s.A.cs (okC (appE s.B 1 (IntKind.i64.wrap (s.B.p + 1))) (app s.B 1 (IntKind.i64.wrap (s.B.p + 1)))), ri := s.ri && appE s.B 1 (IntKind.i64.wrap (s.B.p + 1)) == 0 }
/-- a step is reported -/
def evD (s : Stt) (ok : Bool) (w : Int) : Stt :=
  bif stpE s.P s.L ok w == 0 then { s with P := stpP s.P s.L ok w, L := stpL s.P s.L ok w, O := bif s.P.s == 3 then s.L else s.O } else { s with O := bif s.P.s == 3 then s.L else s.O }
def Stt.val (s : Stt) : Int := bif s.P.s == 0 then s.A.p else bif s.P.s == 1 then s.B.p else 7


/-- the cycles 1 to c of epoch 1 -/
structure LinOk (n : Nat) (ρ : Val) (c : Int) : Prop where
  n : n = spN c
  sp : 0 < c → spn ρ 0 = ⟨1, 1, c⟩

/-- one of the two sites -/
structure SitOk (x : Sit) (a r e c s : Int) : Prop where
  a : x.a = a
  r : x.r = r
  e : x.e = e
  p : x.p = c
  lin : LinOk x.n x.ρ c
  s : x.s = s
  l : x.l = true
  c : x.c = true

theorem spN_pos {c : Int} (h : 0 < c) : spN c = 1 := by unfold spN; rw [(lt_iff _ _).2 h]; rfl
theorem spN_zero {c : Int} (h : ¬ 0 < c) : spN c = 0 := by
  have : lt 0 c = false := by rw [← Bool.not_eq_true, lt_iff]; exact h
  unfold spN; rw [this]; rfl

theorem lin_pair (c : Int) : LinOk (spN c) (spV c) c := ⟨rfl, fun h => by
  unfold spV
  rw [(lt_iff _ _).2 h]
  rfl⟩

/-- a value that is kept in a cell reads the same -/
theorem spn_ofC (es : List Sh) (n : Nat) (ρ : Val) (i : Nat) : spn (.ofC (.sl es n ρ)) i = spn ρ i := rfl

theorem LinOk.sml {n : Nat} {ρ : Val} {c : Int} (h : LinOk n ρ c) : small n := by
  rw [h.n]
  unfold small
  by_cases hc : 0 < c
  · rw [spN_pos hc]; omega
  · rw [spN_zero hc]; omega

theorem LinOk.corr {n : Nat} {ρ : Val} {c : Int} (h : LinOk n ρ c) (hc : c ≤ 1073741824) : corr ⟨n, ρ⟩ = true := by
  refine corr_of fun i hi => ?_
  have hi : i < n := hi
  by_cases hp : 0 < c
  · rw [h.n, spN_pos hp] at hi
    obtain rfl : i = 0 := by omega
    have e := h.sp hp
    show SpOk (prv ρ 0) (spn ρ 0)
    rw [e]
    exact ⟨rfl, by simp only; omega, hc, by simp only; omega, by simp only; omega, by simp only [prv]; omega, by simp [prv]⟩
  · rw [h.n, spN_zero hp] at hi; omega

theorem LinOk.hd {n : Nat} {ρ : Val} {c : Int} (h : LinOk n ρ c) (hc0 : 0 ≤ c) : (hd ⟨n, ρ⟩).t = c ∧ (hd ⟨n, ρ⟩).e ≤ 1 := by
  unfold Go.Proofs.Ytennlgngdjegoaa.hd
  by_cases hp : 0 < c
  · rw [h.n, spN_pos hp]
    show (spn ρ 0).t = c ∧ (spn ρ 0).e ≤ 1
    rw [h.sp hp]
    exact ⟨rfl, by simp⟩
  · rw [h.n, spN_zero hp]
    exact ⟨by simp only [prv]; omega, by simp [prv]⟩

/-- such a site is in order -/
theorem SitOk.chk {x : Sit} {a r e c s : Int} (h : SitOk x a r e c s) (ha : a = 0 ∨ a = 1) (hr : r = 1 ∧ s = -1 ∨ r = 2 ∧ s = 1 - a) (he : 1 ≤ e ∧ e ≤ 1073741824) (hc : 0 ≤ c ∧ c ≤ 1073741824) : chkS x = 0 := by
  obtain ⟨h1, h2, h3, h4, h5, h6, h7, h8⟩ := h
  have hco := h5.corr hc.2
  obtain ⟨ht, hhe⟩ := h5.hd hc.1
  unfold chkS Go.Proofs.Ytennlgngdjegoaa.chk
  rw [h1, h2, h3, h4, h6, hco, ht]
  have e1 : sit a = true := by unfold sit; rw [Bool.and_eq_true, le_iff, lt_iff]; omega
  have e2 : (le 0 r && le r 5) = true := by rw [Bool.and_eq_true, le_iff, le_iff]; omega
  have e3 : tim e = true := by unfold tim; rw [Bool.and_eq_true, le_iff, le_iff]; omega
  have e4 : tim c = true := by unfold tim; rw [Bool.and_eq_true, le_iff, le_iff]; omega
  have e5 : (e == 0) = false := by rw [beq_eq_false_iff_ne]; omega
  have e6 : lt e (Go.Proofs.Ytennlgngdjegoaa.hd ⟨x.n, x.ρ⟩).e = false := by rw [← Bool.not_eq_true, lt_iff]; omega
  have e7 : (c != c) = false := by simp
  have e8 : ((rcv r && !oth s a) || (!rcv r && s != -1)) = false := by
    rcases hr with ⟨rfl, rfl⟩ | ⟨rfl, rfl⟩
    · rfl
    · rcases ha with rfl | rfl <;> rfl
  rw [e1, e2, e3, e4, e5, e6, e7, e8]
  rfl

/-- two such sites, with different numbers -/
structure TwoOk (l : Ses) (rA eA cA sA rB eB cB sB : Int) : Prop where
  n : l.n = 2
  A : SitOk (l.at 0) 0 rA eA cA sA
  B : SitOk (l.at 1) 1 rB eB cB sB

theorem TwoOk.sml {l : Ses} {rA eA cA sA rB eB cB sB : Int} (h : TwoOk l rA eA cA sA rB eB cB sB) : smallS l := by
  refine ⟨by rw [h.n]; unfold fewN; omega, fun i hi => ?_⟩
  rw [h.n] at hi
  match i, hi with
  | 0, _ => exact h.A.lin.sml
  | 1, _ => exact h.B.lin.sml

theorem anyB_two (f : Nat → Bool) : anyB f 2 = (f 0 || f 1) := by simp [anyB]

theorem TwoOk.ck {l : Ses} {rA eA cA sA rB eB cB sB : Int} (h : TwoOk l rA eA cA sA rB eB cB sB) (hA : chkS (l.at 0) = 0) (hB : chkS (l.at 1) = 0) (hr : ¬ (rA = 1 ∧ rB = 1)) : ckE l = 0 := by
  unfold ckE
  rw [h.n]
  have e0 : wrgS l 0 = false := by unfold wrgS; rw [hA]; rfl
  have e1 : wrgS l 1 = false := by
    have f1 : fndB l (l.at 1) 0 = false := by
      unfold fndB
      rw [h.A.a, h.B.a]; rfl
    have f2 : fndD l (l.at 1) 0 = false := by
      unfold fndD
      rw [h.A.r, h.B.r]
      have : (rA == 1 && rB == 1) = false := by
        rw [← Bool.not_eq_true, Bool.and_eq_true, beq_iff_eq, beq_iff_eq]; exact hr
      rw [this]; rfl
    unfold wrgS
    rw [hB]
    simp [anyB, f1, f2]
  rw [anyB_two, e0, e1]
  rfl

theorem TwoOk.has0 {l : Ses} {rA eA cA sA rB eB cB sB : Int} (h : TwoOk l rA eA cA sA rB eB cB sB) : hasN l 0 = true ∧ idxN l 0 = 0 := by
  have f0 : fndN l 0 0 = true := by unfold fndN; rw [h.A.a]; rfl
  unfold hasN idxN
  rw [h.n]
  exact firstB_eq (by omega) f0 fun j hj => absurd hj (Nat.not_lt_zero j)
theorem TwoOk.has1 {l : Ses} {rA eA cA sA rB eB cB sB : Int} (h : TwoOk l rA eA cA sA rB eB cB sB) : hasN l 1 = true ∧ idxN l 1 = 1 := by
  have f0 : fndN l 1 0 = false := by unfold fndN; rw [h.A.a]; rfl
  have f1 : fndN l 1 1 = true := by unfold fndN; rw [h.B.a]; rfl
  unfold hasN idxN
  rw [h.n]
  exact firstB_eq (by omega) f1 fun j hj => by
    obtain rfl : j = 0 := by omega
    exact f0

theorem TwoOk.by0 {l : Ses} {rA eA cA sA rB eB cB sB : Int} (h : TwoOk l rA eA cA sA rB eB cB sB) : l.by 0 = l.at 0 := by unfold Ses.by; rw [h.has0.2]
theorem TwoOk.by1 {l : Ses} {rA eA cA sA rB eB cB sB : Int} (h : TwoOk l rA eA cA sA rB eB cB sB) : l.by 1 = l.at 1 := by unfold Ses.by; rw [h.has1.2]

/-! ### sites that are put together -/

/-- what a site is, told by its cells -/
structure SameSit (x y : Sit) : Prop where
  a : x.a = y.a
  r : x.r = y.r
  e : x.e = y.e
  p : x.p = y.p
  n : x.n = y.n
  ρ : ∀ i, spn x.ρ i = spn y.ρ i
  s : x.s = y.s
  l : x.l = y.l
  c : x.c = y.c

theorem SitOk.same {x y : Sit} {a r e c s : Int} (h : SitOk y a r e c s) (k : SameSit x y) : SitOk x a r e c s :=
  ⟨k.a.trans h.a, k.r.trans h.r, k.e.trans h.e, k.p.trans h.p, ⟨k.n.trans h.lin.n, fun hc => (k.ρ 0).trans (h.lin.sp hc)⟩, k.s.trans h.s, k.l.trans h.l, k.c.trans h.c⟩

theorem two_at0 (x y : Sit) : SameSit ((two2C x.cs y.cs).at 0) x := ⟨rfl, rfl, rfl, rfl, rfl, fun _ => rfl, rfl, rfl, rfl⟩
theorem two_at1 (x y : Sit) : SameSit ((two2C x.cs y.cs).at 1) y := ⟨rfl, rfl, rfl, rfl, rfl, fun _ => rfl, rfl, rfl, rfl⟩

theorem set_same (l : Ses) (i : Nat) (x : Sit) : SameSit ((l.set i x).at i) x := by
  have e : ∀ f, f < 8 → (((l.set i x).ρ.at i).at f) = match nth x.cs f with | some y => .ofC y | none => Val.zero := fun f hf => by
    show ((l.ρ.upds i 0 x.cs).at i).at f = _
    rw [at_upds, if_pos ⟨rfl, by omega, by simpa [Sit.cs] using hf⟩]
    rfl
  have e0 := e 0 (by omega); have e1 := e 1 (by omega); have e2 := e 2 (by omega); have e3 := e 3 (by omega); have e4 := e 4 (by omega); have e5 := e 5 (by omega); have e6 := e 6 (by omega); have e7 := e 7 (by omega)
  unfold Ses.at siAt
  constructor
  · show (((l.set i x).ρ.at i).at 0).N [] = _
    rw [e0]; rfl
  · show (((l.set i x).ρ.at i).at 1).N [] = _
    rw [e1]; rfl
  · show (((l.set i x).ρ.at i).at 2).N [] = _
    rw [e2]; rfl
  · show (((l.set i x).ρ.at i).at 3).N [] = _
    rw [e3]; rfl
  · show (((l.set i x).ρ.at i).at 4).L [] = _
    rw [e4]; rfl
  · intro j
    show spn (((l.set i x).ρ.at i).at 4) j = _
    rw [e4]; rfl
  · show (((l.set i x).ρ.at i).at 5).N [] = _
    rw [e5]; rfl
  · show (((l.set i x).ρ.at i).at 6).B [] = _
    rw [e6]; rfl
  · show (((l.set i x).ρ.at i).at 7).B [] = _
    rw [e7]; rfl

theorem set_other (l : Ses) (i j : Nat) (x : Sit) (h : j ≠ i) : (l.set i x).at j = l.at j := by
  unfold Ses.at siAt
  have e : ∀ f, ((l.set i x).ρ.at j).at f = (l.ρ.at j).at f := fun f => by
    show ((l.ρ.upds i 0 x.cs).at j).at f = _
    rw [at_upds, if_neg fun hh => h hh.1]
  rw [e 0, e 1, e 2, e 3, e 4, e 5, e 6, e 7]

/-! ### Apply -/

theorem chain_all : ∀ {l : List (Bool × Int)}, (∀ q ∈ l, q.1 = true) → chain 0 l = 0
  | [], _ => rfl
  | (ok, k) :: r, h => by
    have : ok = true := h (ok, k) (by simp)
    subst this
    exact chain_all (l := r) fun q hq => h q (by simp [hq])

theorem SitOk.app {x : Sit} {a r c s : Int} (h : SitOk x a r 1 c s) (hk : chkS x = 0) (hr : r = 1 ∨ r = 2) (hc : 0 ≤ c ∧ c + 1 ≤ 1073741824) : appE x 1 (c + 1) = 0 ∧ SitOk (app x 1 (c + 1)) a r 1 (c + 1) s := by
  have hx := h
  obtain ⟨h1, h2, h3, h4, h5, h6, h7, h8⟩ := h
  constructor
  · unfold appE
    rw [hk, h2, h3, h4]
    refine chain_all fun q hq => ?_
    simp only [List.mem_cons, List.not_mem_nil, or_false] at hq
    rcases hq with rfl | rfl | rfl | rfl
    · rcases hr with rfl | rfl <;> rfl
    · simp [le]
    · rw [imax_le, Bool.and_eq_true, le_iff, le_iff]; omega
    · rw [lt_iff]; omega
  · have hlin : LinOk (extL x.ln 1 x.p (c + 1)).n (extL x.ln 1 x.p (c + 1)).ρ (c + 1) := by
      unfold extL Sit.ln
      simp only
      by_cases hp : 0 < c
      · have hn : x.n = 1 := by rw [h5.n, spN_pos hp]
        have hs := h5.sp hp
        have e1 : lt 0 (toInt64 x.n) = true := pos_iff.2 (by omega)
        have e2 : lastI x.n = 0 := by rw [hn]; rfl
        rw [e1, e2, hs]
        show LinOk x.n (x.ρ.upds 0 2 [I (c + 1)]) (c + 1)
        refine ⟨by rw [hn, spN_pos (by omega)], fun _ => ?_⟩
        rw [spn_upds, if_pos rfl, hs]
      · have hn : x.n = 0 := by rw [h5.n, spN_zero hp]
        have hc0 : c = 0 := by omega
        have e1 : lt 0 (toInt64 x.n) = false := by rw [hn]; rfl
        rw [e1, h4, hc0, hn]
        refine ⟨by rw [spN_pos (by omega)]; rfl, fun _ => ?_⟩
        show spn (Val.cat 0 x.ρ (Val.ofFlat 3 [I 1, I (IntKind.i64.wrap (0 + 1)), I (0 + 1)])) 0 = _
        rw [spn_cat, if_neg (by omega)]
        rfl
    exact ⟨h1, h2, rfl, rfl, hlin, h6, h7, h8⟩

/-- lineages of two such sites are the same if they have the same cycles -/
theorem lin_eq {n m : Nat} {ρ σ : Val} {c : Int} (h1 : LinOk n ρ c) (h2 : LinOk m σ c) : eqL ⟨⟨n, ρ⟩, ⟨m, σ⟩⟩ = true := by
  unfold eqL
  have e : n = m := h1.n.trans h2.n.symm
  have : anyB (difL ⟨⟨n, ρ⟩, ⟨m, σ⟩⟩) n = false := anyB_none fun i hi => by
    by_cases hp : 0 < c
    · rw [h1.n, spN_pos hp] at hi
      obtain rfl : i = 0 := by omega
      have a1 := h1.sp hp
      have a2 := h2.sp hp
      unfold spn at a1 a2
      simp only [Sp.mk.injEq] at a1 a2
      unfold difL dif
      rw [a1.1, a1.2.1, a1.2.2, a2.1, a2.2.1, a2.2.2]
      simp
    · rw [h1.n, spN_zero hp] at hi; omega
  simp [e ▸ this, e]

theorem SitOk.sameS {x y : Sit} {a r e c s : Int} (h1 : SitOk x a r e c s) (h2 : SitOk y a r e c s) : sameS x y = true := by
  unfold Go.Proofs.Ytennlgngdjegoaa.sameS
  rw [lin_eq h1.lin h2.lin, h1.a, h2.a, h1.r, h2.r, h1.e, h2.e, h1.p, h2.p, h1.s, h2.s, h1.l, h2.l, h1.c, h2.c]
  simp

theorem pr1_ok (c : Int) : SitOk (pr1 c) 0 1 1 c (-1) := ⟨rfl, rfl, rfl, rfl, lin_pair c, rfl, rfl, rfl⟩
theorem pr2_ok (c : Int) : SitOk (pr2 c) 1 2 1 c 0 := ⟨rfl, rfl, rfl, rfl, lin_pair c, rfl, rfl, rfl⟩


/-- before the old primary is demoted -/
structure PhA (s : Stt) : Prop where
  d : s.P.d = false
  s0 : 0 ≤ s.P.s ∧ s.P.s ≤ 3
  e : s.P.s = 3 → 2 ≤ s.P.e
  L : ∃ b, (0 ≤ b ∧ b ≤ s.cy) ∧ TwoOk s.L 1 1 s.cy (-1) 2 1 b 0
  c : s.cl = false → 1 ≤ s.P.s → s.P.c = s.cy

structure OldOk (s : Stt) : Prop where
  n : s.O.n = 2
  A : SitOk (s.O.at 0) 0 1 1 s.cy (-1)

/-- before the new one is promoted -/
structure PhB (s : Stt) : Prop where
  d : s.P.d = false
  x : s.P.x = false
  s0 : s.P.s = 4
  e : 2 ≤ s.P.e
  c : s.P.c = s.cy
  L : TwoOk s.L 2 s.P.e s.cy 1 2 1 s.cy 0
  O : OldOk s

/-- it is done -/
structure PhC (s : Stt) : Prop where
  d : s.P.d = true
  x : s.P.x = false
  s0 : s.P.s = 5
  e : 2 ≤ s.P.e
  c : s.P.c = s.cy
  L : TwoOk s.L 2 s.P.e s.cy 1 1 s.P.e s.cy (-1)
  O : OldOk s

/-- what holds behind some events -/
structure Good (s : Stt) (k : Nat) : Prop where
  ri : s.ri = true
  cy : 0 ≤ s.cy ∧ s.cy ≤ 5 + k
  pk : s.P.k = 1
  pf : s.P.f = 0
  pt : s.P.t = 1
  pe : 0 ≤ s.P.e ∧ s.P.e ≤ 1073741824
  pc : 0 ≤ s.P.c ∧ s.P.c ≤ s.cy
  ph : PhA s ∨ PhB s ∨ PhC s

theorem Good.fmd {s : Stt} {k : Nat} (h : Good s k) (hk : k ≤ 1000) : fmd s.P = true := by
  obtain ⟨_, hcy, h1, h2, h3, h4, h5, h6⟩ := h
  unfold Go.Proofs.Ytennlgngdjegoaa.fmd
  have a1 : tim s.P.e = true := by unfold tim; rw [Bool.and_eq_true, le_iff, le_iff]; omega
  have a2 : tim s.P.c = true := by unfold tim; rw [Bool.and_eq_true, le_iff, le_iff]; omega
  rw [h1, h2, h3, a1, a2]
  rcases h6 with h | h | h
  · have b1 : (le 0 s.P.s) = true := (le_iff _ _).2 h.s0.1
    have b2 : (le s.P.s 5) = true := (le_iff _ _).2 (by have := h.s0.2; omega)
    have b3 : (s.P.s == 5) = false := by rw [beq_eq_false_iff_ne]; have := h.s0.2; omega
    have b4 : lt 3 s.P.s = false := by rw [← Bool.not_eq_true, lt_iff]; have := h.s0.2; omega
    rw [b1, b2, b3, b4, h.d]; simp [le, lt]
  · rw [h.s0, h.d, h.x]; rfl
  · rw [h.s0, h.d, h.x]; rfl

theorem Good.chkP {s : Stt} {k : Nat} (h : Good s k) (hk : k ≤ 1000) : chkP s.P = 0 := by
  unfold Go.Proofs.Ytennlgngdjegoaa.chkP
  rw [h.fmd hk]; rfl

/-- the sites: which two they are -/
theorem Good.two {s : Stt} {k : Nat} (h : Good s k) (hk : k ≤ 1000) : ∃ rA eA cA sA rB eB cB sB, TwoOk s.L rA eA cA sA rB eB cB sB ∧ chkS (s.L.at 0) = 0 ∧ chkS (s.L.at 1) = 0 ∧ ¬ (rA = 1 ∧ rB = 1) := by
  have hcy := h.cy
  have hpe := h.pe
  rcases h.ph with g | g | g
  · obtain ⟨b, hb, hL⟩ := g.L
    exact ⟨_, _, _, _, _, _, _, _, hL, hL.A.chk (.inl rfl) (.inl ⟨rfl, rfl⟩) (by omega) (by omega), hL.B.chk (.inr rfl) (.inr ⟨rfl, rfl⟩) (by omega) (by omega), by omega⟩
  · have := g.e
    exact ⟨_, _, _, _, _, _, _, _, g.L, g.L.A.chk (.inl rfl) (.inr ⟨rfl, rfl⟩) (by omega) (by omega), g.L.B.chk (.inr rfl) (.inr ⟨rfl, rfl⟩) (by omega) (by omega), by omega⟩
  · have := g.e
    exact ⟨_, _, _, _, _, _, _, _, g.L, g.L.A.chk (.inl rfl) (.inr ⟨rfl, rfl⟩) (by omega) (by omega), g.L.B.chk (.inr rfl) (.inl ⟨rfl, rfl⟩) (by omega) (by omega), by omega⟩

theorem Good.ck {s : Stt} {k : Nat} (h : Good s k) (hk : k ≤ 1000) : ckE s.L = 0 := by
  obtain ⟨_, _, _, _, _, _, _, _, h1, h2, h3, h4⟩ := h.two hk
  exact h1.ck h2 h3 h4
theorem Good.sml {s : Stt} {k : Nat} (h : Good s k) (hk : k ≤ 1000) : smallS s.L := by
  obtain ⟨_, _, _, _, _, _, _, _, h1, _⟩ := h.two hk
  exact h1.sml
theorem Good.n2 {s : Stt} {k : Nat} (h : Good s k) (hk : k ≤ 1000) : s.L.n = 2 := by
  obtain ⟨_, _, _, _, _, _, _, _, h1, _⟩ := h.two hk
  exact h1.n

theorem Good.pre {s : Stt} {k : Nat} (h : Good s k) (hk : k ≤ 1000) : preE s.P s.L = bif !(!s.P.d && !s.P.x) then 12 else 0 := by
  obtain ⟨_, _, _, _, _, _, _, _, h1, _⟩ := h.two hk
  unfold preE
  rw [h.chkP hk, h.ck hk, h.pf, h.pt, h1.has0.1, h1.has1.1]
  rfl

theorem Good.mono {s : Stt} {k : Nat} (h : Good s k) : Good s (k + 1) := ⟨h.ri, ⟨h.cy.1, by have := h.cy.2; omega⟩, h.pk, h.pf, h.pt, h.pe, h.pc, h.ph⟩

theorem wrap_cy {c : Int} (h : 0 ≤ c ∧ c ≤ 2000) : IntKind.i64.wrap (c + 1) = c + 1 := w64_id (by omega) (by omega)

/-- a further cycle of the primary -/
theorem Good.evA {s : Stt} {k : Nat} (h : Good s k) (hk : k ≤ 1000) (g : PhA s) (hcl : s.cl = true) : Good (evA s) (k + 1) := by
  obtain ⟨b, hb, hL⟩ := g.L
  have hcy := h.cy
  have hw : IntKind.i64.wrap (s.cy + 1) = s.cy + 1 := wrap_cy (by omega)
  have hchk := hL.A.chk (.inl rfl) (.inl ⟨rfl, rfl⟩) (by omega) (by omega)
  obtain ⟨hE, hA⟩ := hL.A.app hchk (.inl rfl) (by omega)
  have hE : appE s.A 1 (s.cy + 1) = 0 := hE
  have hA : SitOk (app s.A 1 (s.cy + 1)) 0 1 1 (s.cy + 1) (-1) := hA
  have e : Go.Proofs.Ytennlgngdjegoaa.evA s = { s with L := two2C (app s.A 1 (s.cy + 1)).cs s.B.cs, cy := s.cy + 1 } := by
    unfold Go.Proofs.Ytennlgngdjegoaa.evA
    rw [hw, hE, h.ri]
    have hri := h.ri
    obtain ⟨P, L, cy, O, cl, ri⟩ := s
    simp only at hri
    subst hri
    rfl
  rw [e]
  have hpc := h.pc
  refine ⟨h.ri, ⟨by simp only; omega, by simp only; omega⟩, h.pk, h.pf, h.pt, h.pe, ⟨hpc.1, by simp only; omega⟩, .inl ⟨g.d, g.s0, g.e, ⟨b, ⟨hb.1, by simp only; omega⟩, rfl, hA.same (two_at0 _ _), ?_⟩, fun hf => ?_⟩⟩
  · exact (show SitOk s.B 1 2 1 b 0 from hL.B).same (two_at1 _ _)
  · simp only at hf; rw [hcl] at hf; cases hf

/-- a cycle that the secondary applies -/
theorem Good.evB {s : Stt} {k : Nat} (h : Good s k) (hk : k ≤ 1000) (g : PhA s) (hlt : lt s.B.p s.cy = true) : Good (evB s) (k + 1) ∧ (evB s).cy = s.cy ∧ (evB s).P = s.P ∧ (evB s).cl = s.cl ∧ (∀ b, TwoOk s.L 1 1 s.cy (-1) 2 1 b 0 → TwoOk (evB s).L 1 1 s.cy (-1) 2 1 (b + 1) 0) := by
  obtain ⟨b, hb, hL⟩ := g.L
  have hcy := h.cy
  have hbp : s.B.p = b := hL.B.p
  rw [hbp, lt_iff] at hlt
  have hw : IntKind.i64.wrap (s.B.p + 1) = b + 1 := by rw [hbp]; exact wrap_cy (by omega)
  have hchk := hL.B.chk (.inr rfl) (.inr ⟨rfl, rfl⟩) (by omega) (by omega)
  obtain ⟨hE, hB⟩ := hL.B.app hchk (.inr rfl) (by omega)
  have hE : appE s.B 1 (b + 1) = 0 := hE
  have hB : SitOk (app s.B 1 (b + 1)) 1 2 1 (b + 1) 0 := hB
  have e : Go.Proofs.Ytennlgngdjegoaa.evB s = { s with L := two2C s.A.cs (app s.B 1 (b + 1)).cs } := by
    unfold Go.Proofs.Ytennlgngdjegoaa.evB
    rw [hw, hE, h.ri]
    have hri := h.ri
    obtain ⟨P, L, cy, O, cl, ri⟩ := s
    simp only at hri
    subst hri
    rfl
  have hT : TwoOk (two2C s.A.cs (app s.B 1 (b + 1)).cs) 1 1 s.cy (-1) 2 1 (b + 1) 0 := ⟨rfl, (show SitOk s.A 0 1 1 s.cy (-1) from hL.A).same (two_at0 _ _), hB.same (two_at1 _ _)⟩
  rw [e]
  refine ⟨⟨h.ri, ⟨by simp only; omega, by simp only; omega⟩, h.pk, h.pf, h.pt, h.pe, h.pc, .inl ⟨g.d, g.s0, g.e, ⟨b + 1, ⟨by omega, by simp only; omega⟩, hT⟩, g.c⟩⟩, rfl, rfl, rfl, fun b' hb' => ?_⟩
  have : b' = b := hb'.B.p.symm.trans hL.B.p
  subst this
  exact hT


/-- the step before which the sites are kept -/
def setO (s : Stt) : Stt := { s with O := bif s.P.s == 3 then s.L else s.O }

theorem Good.setO {s : Stt} {k : Nat} (h : Good s k) : Good (setO s) (k + 1) := by
  obtain ⟨h1, h2, h3, h4, h5, h6, h7, h8⟩ := h
  refine ⟨h1, ⟨h2.1, by have := h2.2; show s.cy ≤ _; omega⟩, h3, h4, h5, h6, h7, ?_⟩
  rcases h8 with g | g | g
  · exact .inl ⟨g.d, g.s0, g.e, g.L, g.c⟩
  · have e : Go.Proofs.Ytennlgngdjegoaa.setO s = s := by
      unfold Go.Proofs.Ytennlgngdjegoaa.setO
      rw [g.s0]; rfl
    rw [e]; exact .inr (.inl g)
  · have e : Go.Proofs.Ytennlgngdjegoaa.setO s = s := by
      unfold Go.Proofs.Ytennlgngdjegoaa.setO
      rw [g.s0]; rfl
    rw [e]; exact .inr (.inr g)

theorem bif_zero {b : Bool} {x y : Int} (h : (bif !b then x else y) = 0) (hx : x ≠ 0) : b = true ∧ y = 0 := by
  cases b
  · exact (hx h).elim
  · exact ⟨rfl, h⟩

/-- behind a step that is done -/
structure Done (s t : Stt) (w : Int) : Prop where
  pre : s.P.d = false ∧ s.P.x = false
  step : (s.P.s = 0 ∧ w = s.cy ∧ t = { s with P := { s.P with c := w, s := 1 } }) ∨
    (s.P.s = 1 ∧ w = s.B.p ∧ w < s.P.c ∧ t = s) ∨
    (s.P.s = 1 ∧ w = s.B.p ∧ w = s.P.c ∧ t = { s with P := { s.P with s := 2 } }) ∨
    (s.P.s = 2 ∧ w ≤ 1073741824 ∧ 2 ≤ w ∧ t = { s with P := { s.P with e := w, s := 3 } }) ∨
    (s.P.s = 3 ∧ s.cy = s.P.c ∧ s.B.p = s.P.c ∧ t = { s with P := { s.P with s := 4 }, L := s.L.set 0 (demo s.A s.P.e 1), O := s.L }) ∨
    (s.P.s = 4 ∧ t = { s with P := { s.P with s := 5, d := true }, L := s.L.set 1 (pro s.B s.P.e) })

theorem Good.done {s : Stt} {k : Nat} (h : Good s k) (hk : k ≤ 1000) {w : Int} (h0 : stpE s.P s.L true w = 0) :
    Done s { s with P := stpP s.P s.L true w, L := stpL s.P s.L true w, O := bif s.P.s == 3 then s.L else s.O } w := by
  have hpre := h.pre hk
  have hp : stpP s.P s.L true w = sucP s.P w := by unfold stpP; rw [h0]; rfl
  have hl : stpL s.P s.L true w = sucL s.P s.L := by unfold stpL; rw [h0]; rfl
  unfold stpE at h0
  rw [hpre] at h0
  have hpf := h.pf
  have hpt := h.pt
  cases hdx : (!s.P.d && !s.P.x)
  · rw [hdx] at h0; cases h0
  · rw [hdx] at h0
    have h0 : sucE s.P (s.L.by s.P.f) (s.L.by s.P.t) w = 0 := h0
    rw [Bool.and_eq_true, Bool.not_eq_true', Bool.not_eq_true'] at hdx
    refine ⟨hdx, ?_⟩
    rw [hp, hl]
    obtain ⟨_, _, _, _, _, _, _, _, hT, _⟩ := h.two hk
    rw [hpf, hpt, hT.by0, hT.by1] at h0
    have h0 : sucE s.P s.A s.B w = 0 := h0
    have hb0 : s.L.by 0 = s.A := hT.by0
    have hb1 : s.L.by 1 = s.B := hT.by1
    obtain ⟨⟨pk, pf, pt, ps, pe, pc, pd, px⟩, L, cy, O, cl, ri⟩ := s
    simp only at hpf hpt hdx
    subst hpf; subst hpt
    have hsz : ps = 0 ∨ ps = 1 ∨ ps = 2 ∨ ps = 3 ∨ ps = 4 ∨ ps = 5 := by
      have := fmd_step (h.fmd hk)
      exact this
    rcases hsz with rfl | rfl | rfl | rfl | rfl | rfl
    · rcases h.ph with g | g | g
      · obtain ⟨b, hb, hL⟩ := g.L
        have h0 : s0E (L.at 0) w = 0 := h0
        unfold s0E at h0
        obtain ⟨_, h0⟩ := bif_zero h0 (by omega)
        obtain ⟨h1, _⟩ := bif_zero h0 (by omega)
        have h1 : w = (L.at 0).p := by simpa using h1
        rw [hL.A.p] at h1
        exact .inl ⟨rfl, h1, rfl⟩
      · have := g.s0; simp at this
      · have := g.s0; simp at this
    · have h0 : s1E ⟨pk, 0, 1, 1, pe, pc, pd, px⟩ (L.at 0) (L.at 1) w = 0 := h0
      unfold s1E at h0
      obtain ⟨h1, h0⟩ := bif_zero h0 (by omega)
      rw [Bool.and_eq_true, le_iff, beq_iff_eq] at h1
      cases hlt : lt w pc
      · have h2 : ¬ w < pc := by rw [← lt_iff, hlt]; simp
        refine .inr (.inr (.inl ⟨rfl, h1.1, by have := h1.2; simp only at this; show w = pc; omega, ?_⟩))
        show (⟨bif lt w pc then _ else _, L, cy, O, cl, ri⟩ : Stt) = _
        rw [hlt]; rfl
      · refine .inr (.inl ⟨rfl, h1.1, (lt_iff _ _).1 hlt, ?_⟩)
        show (⟨bif lt w pc then _ else _, L, cy, O, cl, ri⟩ : Stt) = _
        rw [hlt]; rfl
    · rcases h.ph with g | g | g
      · obtain ⟨b, hb, hL⟩ := g.L
        have h0 : s2E (L.at 0) (L.at 1) w = 0 := h0
        unfold s2E at h0
        obtain ⟨h1, h0⟩ := bif_zero h0 (by omega)
        obtain ⟨h2, _⟩ := bif_zero h0 (by omega)
        rw [le_iff] at h1
        rw [Bool.and_eq_true, lt_iff, hL.A.e] at h2
        exact .inr (.inr (.inr (.inl ⟨rfl, h1, by omega, rfl⟩)))
      · have := g.s0; simp at this
      · have := g.s0; simp at this
    · rcases h.ph with g | g | g
      · obtain ⟨b, hb, hL⟩ := g.L
        have h0 : s3E ⟨pk, 0, 1, 3, pe, pc, pd, px⟩ (L.at 0) (L.at 1) = 0 := h0
        unfold s3E at h0
        obtain ⟨h1, _⟩ := bif_zero h0 (by omega)
        rw [Bool.and_eq_true, beq_iff_eq, beq_iff_eq, hL.A.p] at h1
        refine .inr (.inr (.inr (.inr (.inl ⟨rfl, h1.1, h1.2, ?_⟩))))
        show (⟨_, L.set (idxN L 0) (demo (L.by 0) pe 1), cy, L, cl, ri⟩ : Stt) = _
        rw [hT.has0.2, hb0]; rfl
      · have := g.s0; simp at this
      · have := g.s0; simp at this
    · refine .inr (.inr (.inr (.inr (.inr ⟨rfl, ?_⟩))))
      show (⟨_, L.set (idxN L 1) (pro (L.by 1) pe), cy, O, cl, ri⟩ : Stt) = _
      rw [hT.has1.2, hb1]; rfl
    · have := fmd_done (h.fmd hk) rfl
      simp only at this
      rw [this] at hdx
      cases hdx.1

theorem Good.of_done {s t : Stt} {k : Nat} (h : Good s k) {w : Int} (hd : Done s t w) : Good t (k + 1) := by
  have hcy := h.cy
  have hpc := h.pc
  have hpe := h.pe
  rcases hd.step with ⟨h1, h2, rfl⟩ | ⟨h1, h2, h3, rfl⟩ | ⟨h1, h2, h3, rfl⟩ | ⟨h1, h2, h3, rfl⟩ | ⟨h1, h2, h3, rfl⟩ | ⟨h1, rfl⟩
  · rcases h.ph with g | g | g
    · exact ⟨h.ri, ⟨hcy.1, by show s.cy ≤ _; omega⟩, h.pk, h.pf, h.pt, h.pe, ⟨by show 0 ≤ w; omega, by show w ≤ s.cy; omega⟩, .inl ⟨g.d, ⟨by simp, by simp⟩, by simp, g.L, fun _ _ => h2⟩⟩
    · have := g.s0; omega
    · have := g.s0; omega
  · exact h.mono
  · rcases h.ph with g | g | g
    · exact ⟨h.ri, ⟨hcy.1, by show s.cy ≤ _; omega⟩, h.pk, h.pf, h.pt, h.pe, h.pc, .inl ⟨g.d, ⟨by simp, by simp⟩, by simp, g.L, fun hf _ => g.c hf (by omega)⟩⟩
    · have := g.s0; omega
    · have := g.s0; omega
  · rcases h.ph with g | g | g
    · exact ⟨h.ri, ⟨hcy.1, by show s.cy ≤ _; omega⟩, h.pk, h.pf, h.pt, ⟨by show 0 ≤ w; omega, h2⟩, h.pc, .inl ⟨g.d, ⟨by simp, by simp⟩, fun _ => h3, g.L, fun hf _ => g.c hf (by omega)⟩⟩
    · have := g.s0; omega
    · have := g.s0; omega
  · rcases h.ph with g | g | g
    · obtain ⟨b, hb, hL⟩ := g.L
      have hbc : b = s.cy := by
        have : s.B.p = b := hL.B.p
        omega
      subst hbc
      have hA : SitOk (demo s.A s.P.e 1) 0 2 s.P.e s.cy 1 := ⟨hL.A.a, rfl, rfl, hL.A.p, hL.A.lin, rfl, hL.A.l, hL.A.c⟩
      refine ⟨h.ri, ⟨hcy.1, by show s.cy ≤ _; omega⟩, h.pk, h.pf, h.pt, h.pe, h.pc, .inr (.inl ⟨g.d, hd.pre.2, rfl, g.e h1, h2.symm, ⟨hL.n, hA.same (set_same _ _ _), ?_⟩, ⟨hL.n, hL.A⟩⟩)⟩
      show SitOk ((s.L.set 0 _).at 1) 1 2 1 s.cy 0
      rw [set_other _ 0 1 _ (by omega)]
      exact hL.B
    · have := g.s0; omega
    · have := g.s0; omega
  · rcases h.ph with g | g | g
    · have := g.s0; omega
    · have hL := g.L
      have hB : SitOk (pro s.B s.P.e) 1 1 s.P.e s.cy (-1) := ⟨hL.B.a, rfl, rfl, hL.B.p, hL.B.lin, rfl, hL.B.l, hL.B.c⟩
      refine ⟨h.ri, ⟨hcy.1, by show s.cy ≤ _; omega⟩, h.pk, h.pf, h.pt, h.pe, h.pc, .inr (.inr ⟨rfl, g.x, rfl, g.e, g.c, ⟨hL.n, ?_, hB.same (set_same _ _ _)⟩, ⟨g.O.n, g.O.A⟩⟩)⟩
      show SitOk ((s.L.set 1 _).at 0) 0 2 s.P.e s.cy 1
      rw [set_other _ 1 0 _ (by omega)]
      exact hL.A
    · have := g.s0; omega

theorem Good.evD {s : Stt} {k : Nat} (h : Good s k) (hk : k ≤ 1000) (ok : Bool) (w : Int) : Good (evD s ok w) (k + 1) := by
  unfold Go.Proofs.Ytennlgngdjegoaa.evD
  cases he : stpE s.P s.L ok w == 0
  · exact h.setO
  · have h0 : stpE s.P s.L ok w = 0 := by simpa using he
    simp only [cond_true]
    cases ok
    · have hpre := h.pre hk
      have e1 : stpP s.P s.L false w = { s.P with x := le s.P.s 3 } := by unfold stpP; rw [h0]; rfl
      have e2 : stpL s.P s.L false w = s.L := by unfold stpL; rw [h0]; rfl
      rw [e1, e2]
      have hs := h.setO
      rcases h.ph with g | g | g
      · refine ⟨hs.ri, hs.cy, hs.pk, hs.pf, hs.pt, hs.pe, hs.pc, .inl ⟨g.d, g.s0, g.e, g.L, g.c⟩⟩
      · have e3 : ({ s with P := { s.P with x := le s.P.s 3 }, L := s.L, O := bif s.P.s == 3 then s.L else s.O } : Stt) = Go.Proofs.Ytennlgngdjegoaa.setO s := by
          have hx : le s.P.s 3 = s.P.x := by rw [g.s0, g.x]; rfl
          rw [hx]; rfl
        rw [e3]; exact hs
      · unfold stpE at h0
        rw [hpre, g.d] at h0; cases h0
    · exact h.of_done (h.done hk h0)


end Go.Proofs.Ytennlgngdjegoaa
