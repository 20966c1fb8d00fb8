/-
  The planned change of the primary: procedures.
-/
import Derived.Test.YtbliboojdlkpfaaRoB
import Derived.Test.YtbliboojdlkpfaaEnE
namespace Go.Proofs.Ytbliboojdlkpfaa
open Go Go.Sx Go.RowKit Classical

set_option maxRecDepth 100000

/-- a procedure -/
structure Prc where
  k : Int
  f : Int
  t : Int
  s : Int
  e : Int
  c : Int
  d : Bool
  x : Bool

def Prc.cv (p : Prc) : A1 := .agg [I p.k, I p.f, I p.t, I p.s, I p.e, I p.c, .bool p.d, .bool p.x]

def G37 : List A1 → Option AV
  | [.c (.int .i64 a)] => some (.one (.c (.bool (le 0 a && lt a 4))))
  | _ => none
def G38 : List A1 → Option AV
  | [.c (.int .i64 a)] => some (.one (.c (.bool (tim a))))
  | _ => none

theorem pSite : PcOne Try.prog 37 G37 := pcOne_of_ev h37 10 37 fun args r h => by
  unfold G37 at h; split at h
  · obtain rfl := Option.some.inj h
    exact ⟨rfl, by kernel_rfl, by kernel_rfl⟩
  · cases h
theorem pTime : PcOne Try.prog 38 G38 := pcOne_of_ev h37 10 38 fun args r h => by
  unfold G38 at h; split at h
  · obtain rfl := Option.some.inj h
    exact ⟨rfl, by kernel_rfl, by kernel_rfl⟩
  · cases h

noncomputable abbrev HA : Hd := ⟨(37, oG G37) :: (38, oG G38) :: H37.pc, H37.hc, [], H37.mc⟩
theorem hA : HdOk Try.prog HA := (h37.pcCons pTime).pcCons pSite

/-- is a procedure well-formed? -/
def fmd (p : Prc) : Bool := p.k == 1 && (le 0 p.f && lt p.f 4) && (le 0 p.t && lt p.t 4) && p.f != p.t && le 0 p.s && le p.s 5 && tim p.e && tim p.c && (p.d == (p.s == 5)) && !(p.x && lt 3 p.s)
def chkP (p : Prc) : Int := bif fmd p then 0 else 3

def GchkP : List A1 → Option AV
  | [.agg [.int .i64 k, .int .i64 f, .int .i64 t, .int .i64 s, .int .i64 e, .int .i64 c, .bool d, .bool x]] => some (.one (.c (I (chkP ⟨k, f, t, s, e, c, d, x⟩))))
  | _ => none

theorem all_chkP {p : Prc} {b : Bool} (h : b = !fmd p) : (Tree.br b (.leaf (AV.one (.c (I 3)))) (.leaf (.one (.c (I 0))))).All (fun z => z = .one (.c (I (chkP p)))) := by
  subst h
  unfold chkP
  exact ⟨fun h => by have h : fmd p = false := by simpa using h
                     rw [h]; rfl, fun h => by have h : fmd p = true := by simpa using h
                                              rw [h]; rfl⟩

theorem pCheck : PcOne Try.prog 17 GchkP := pcOne_of_tree hA 10 17 fun args r h => by
  unfold GchkP at h; split at h
  · rename_i k f t s e c d x
    obtain rfl := Option.some.inj h
    exact ⟨rfl, _, by kernel_rfl, all_chkP (p := ⟨k, f, t, s, e, c, d, x⟩) rfl⟩
  · cases h

theorem fmd_ref (k f t s e c : Int) (d x : Bool) : (!fmd ⟨k, f, t, s, e, c, d, x⟩) = ((k != 1 || lt f 0 || le 4 f || lt t 0 || le 4 t || f == t || lt s 0 || lt 5 s) || (lt e 0 || lt 1073741824 e || lt c 0 || lt 1073741824 c || (!(d == (s == 5))) || x && lt 3 s)) := by
  unfold fmd tim
  simp only [le_not, Bool.not_and, Bool.not_not, bne]
  rw [Bool.eq_iff_iff]
  simp only [Bool.or_eq_true, Bool.and_eq_true, Bool.not_eq_true']
  grind

theorem pCheckR : PcOne Try.prog 18 GchkP := pcOne_of_tree hA 10 18 fun args r h => by
  unfold GchkP at h; split at h
  · rename_i k f t s e c d x
    obtain rfl := Option.some.inj h
    refine ⟨rfl, .br (k != 1 || lt f 0 || le 4 f || lt t 0 || le 4 t || f == t || lt s 0 || lt 5 s) (.leaf (AV.one (.c (I 3)))) (.br (lt e 0 || lt 1073741824 e || lt c 0 || lt 1073741824 c || (!(d == (s == 5))) || x && lt 3 s) (.leaf (AV.one (.c (I 3)))) (.leaf (.one (.c (I 0))))), by kernel_rfl, ?_⟩
    have h := fmd_ref k f t s e c d x
    unfold chkP
    cases h1 : (k != 1 || lt f 0 || le 4 f || lt t 0 || le 4 t || f == t || lt s 0 || lt 5 s)
    · rw [h1] at h
      cases h2 : (lt e 0 || lt 1073741824 e || lt c 0 || lt 1073741824 c || (!(d == (s == 5))) || x && lt 3 s)
      · rw [h2] at h
        have h : fmd ⟨k, f, t, s, e, c, d, x⟩ = true := by simpa using h
        rw [h]
        exact ⟨fun h => (by cases h), fun _ => ⟨fun h => (by cases h), fun _ => rfl⟩⟩
      · rw [h2] at h
        have h : fmd ⟨k, f, t, s, e, c, d, x⟩ = false := by simpa using h
        rw [h]
        exact ⟨fun h => (by cases h), fun _ => ⟨fun _ => rfl, fun h => (by cases h)⟩⟩
    · rw [h1] at h
      have h : fmd ⟨k, f, t, s, e, c, d, x⟩ = false := by simpa using h
      rw [h]
      exact ⟨fun _ => rfl, fun h => (by cases h)⟩
  · cases h

/-! ### Need -/

def word (l : List UInt8) : CV := .str (ByteArray.mk l.toArray)
def wQ : ByteArray := ByteArray.mk #[113, 117, 105, 101, 115, 99, 101]
def wD : ByteArray := ByteArray.mk #[100, 114, 97, 105, 110]
def wG : ByteArray := ByteArray.mk #[103, 114, 97, 110, 116]
def wM : ByteArray := ByteArray.mk #[100, 101, 109, 111, 116, 101]
def wP : ByteArray := ByteArray.mk #[112, 114, 111, 109, 111, 116, 101]
def wE : ByteArray := ByteArray.mk #[100, 111, 110, 101]
def wF : ByteArray := ByteArray.mk #[102, 97, 105, 108, 101, 100]
def wN : ByteArray := ByteArray.mk #[]

def needW (p : Prc) : ByteArray := bif chkP p != 0 then wN else bif p.x then wF else bif p.s == 0 then wQ else bif p.s == 1 then wD else bif p.s == 2 then wG else bif p.s == 3 then wM else bif p.s == 4 then wP else wE
def needN (p : Prc) : Int := bif chkP p != 0 then -1 else bif p.x then -1 else bif p.s == 0 then p.f else bif p.s == 1 then p.t else bif p.s == 2 then p.t else bif p.s == 3 then p.f else bif p.s == 4 then p.t else -1

def Gneed : List A1 → Option AV
  | [.agg [.int .i64 k, .int .i64 f, .int .i64 t, .int .i64 s, .int .i64 e, .int .i64 c, .bool d, .bool x]] => some (.tup [.c (.str (needW ⟨k, f, t, s, e, c, d, x⟩)), .c (I (needN ⟨k, f, t, s, e, c, d, x⟩))])
  | _ => none

noncomputable abbrev HP : Hd := ⟨[(17, oG GchkP), (18, oG GchkP)], [], [], []⟩
theorem hP : HdOk Try.prog HP := (HdOk.nil.pcCons pCheckR).pcCons pCheck

def two2 (w : ByteArray) (n : Int) : AV := .tup [.c (.str w), .c (I n)]

theorem fmd_step {p : Prc} (h : fmd p = true) : p.s = 0 ∨ p.s = 1 ∨ p.s = 2 ∨ p.s = 3 ∨ p.s = 4 ∨ p.s = 5 := by
  unfold fmd at h
  simp only [Bool.and_eq_true, le_iff] at h
  omega

theorem fmd_of {p : Prc} (h : (chkP p != 0) = false) : fmd p = true := by
  unfold chkP at h
  cases hf : fmd p
  · rw [hf] at h; cases h
  · rfl

theorem pNeed : PcOne Try.prog 15 Gneed := pcOne_of_tree hP 10 15 fun args r h => by
  unfold Gneed at h; split at h
  · rename_i k f t s e c d x
    obtain rfl := Option.some.inj h
    refine ⟨rfl, .br (chkP ⟨k, f, t, s, e, c, d, x⟩ != 0) (.leaf (two2 wN (-1))) (.br x (.leaf (two2 wF (-1))) (.need (inRange s 6) ((pickAt s 0 [wQ, wD, wG, wM, wP, wE]).bind fun w => .need (inRange s 6) ((pickAt s 0 [f, t, t, f, t, -1]).bind fun n => .leaf (two2 w n))))), by kernel_rfl, all_of_sel ?_⟩
    unfold needW needN
    cases hc : chkP ⟨k, f, t, s, e, c, d, x⟩ != 0
    · cases x
      · have := fmd_step (fmd_of hc)
        simp only at this
        rcases this with rfl | rfl | rfl | rfl | rfl | rfl <;> rfl
      · rfl
    · rfl
  · cases h

theorem pNeedR : PcOne Try.prog 16 Gneed := pcOne_of_tree hP 10 16 fun args r h => by
  unfold Gneed at h; split at h
  · rename_i k f t s e c d x
    obtain rfl := Option.some.inj h
    refine ⟨rfl, .br (chkP ⟨k, f, t, s, e, c, d, x⟩ != 0) (.leaf (two2 wN (-1))) (.br x (.leaf (two2 wF (-1))) (.br (s == 0) (.leaf (two2 wQ f)) (.br (s == 1) (.leaf (two2 wD t)) (.br (s == 2) (.leaf (two2 wG t)) (.br (s == 3) (.leaf (two2 wM f)) (.br (s == 4) (.leaf (two2 wP t)) (.leaf (two2 wE (-1))))))))), by kernel_rfl, all_of_sel ?_⟩
    unfold needW needN
    cases hc : chkP ⟨k, f, t, s, e, c, d, x⟩ != 0
    · cases x
      · cases h0 : s == 0
        · cases h1 : s == 1
          · cases h2 : s == 2
            · cases h3 : s == 3
              · cases h4 : s == 4 <;> rfl
              · rfl
            · rfl
          · rfl
        · rfl
      · rfl
    · rfl
  · cases h

end Go.Proofs.Ytbliboojdlkpfaa
/-
  The planned change of the primary: a site that is looked for by its number.
-/
namespace Go.Proofs.Ytbliboojdlkpfaa
open Go Go.Sx Go.RowKit Classical

set_option maxRecDepth 100000

/-- a site with a number -/
def fndN (l : Ses) (x : Int) (i : Nat) : Bool := (l.at i).a == x

structure CF where
  T : TypeId
  l : Ses
  m : Int
  x : Int

def SF (c : CF) (v : VI) : St := mkS 19 [(0, .one (.c (.os 0 8))), (1, .one (.c (.fn (.func 53) [] [.ptr 1 0]))), (4, .one (.c (I v.r))), (7, .one (.c (I c.m))), (8, .one (.c (I v.i)))] [some (c.T, [.row true siSh c.l.n c.l.ρ]), some (3, [I c.x])]

theorem tF (c : CF) (v : VI) : ((evCode Try.prog HA (evFn Try.prog HA 10) 52 2 1 (loopBody Try.prog 52 0) (SF c v)).bind fun y => gcT [0, 1, 4, 7, 8] 2 y) = (TXi c.m c.l.n (fndN c.l c.x) v).bind fun y => .leaf (y.1, SF c y.2) := by kernel_rfl

def getF : List (Nat × AV) → Mem → Option (CF × VI)
  | [(0, .one (.c (.os 0 8))), (1, .one (.c (.fn (.func 53) [] [.ptr 1 0]))), (4, .one (.c (.int .i64 r))), (7, .one (.c (.int .i64 m))), (8, .one (.c (.int .i64 i)))],
    [some (T, [.row true [.int .i64, .int .i64, .int .i64, .int .i64, .sl [.int .i64, .int .i64, .int .i64], .int .i64, .bool, .bool] n ρ]), some (3, [.int .i64 x])] => some (⟨T, ⟨n, ρ⟩, m, x⟩, ⟨r, i⟩)
  | _, _ => none

def goodF (c : CF) : Prop := c.m = toInt64 c.l.n ∧ fewN c.l.n
noncomputable def LF : Nat → St → Tree (XE × St) := lqH [0, 1, 4, 7, 8] 2 19 getF fun c v => lqT (SF c) (goodF c ∧ v = stI 0) (anyB (fndN c.l c.x) c.l.n) .ret (.exit 0) (sbI (firstB (fndN c.l c.x) c.l.n)) (stI c.l.n)

theorem lF (fn : Func) (c b : Code) (hf : Try.prog.funcs[52]? = some fn) (hc : fn.body = some c) (hb : nthLoop c 0 = some b) : LoopOk Try.prog b LF :=
  lq_ok hA 10 52 0 hf hc hb [0, 1, 4, 7, 8] 2 19 SF (fun c => TXi c.m c.l.n (fndN c.l c.x)) tF getF
    (fun l m c v h => by unfold getF at h; split at h <;> simp at h; obtain ⟨rfl, rfl⟩ := h; rfl)
    goodF (fun c => μI c.l.n) (fun _ => stI) (fun _ => sbI) (fun c => c.l.n) (fun c => fndN c.l c.x) .ret (.exit 0)
    (fun c hg => sqI (fndN c.l c.x) hg.1 hg.2) (fun c => sbI (firstB (fndN c.l c.x) c.l.n)) (fun c => stI c.l.n) (fun _ _ _ => StWk.refl) (fun _ _ _ => StWk.refl)

noncomputable abbrev HF : Hd := ⟨pF 34 :: HA.pc, HA.hc, [((52, 0), LF)], HA.mc⟩
theorem hF : HdOk Try.prog HF := (HdOk.lhCons hA lF).pF 34

/-- find: a pointer to the site, or a panic -/
def noneC : CV := .iface 92 (I 7)
noncomputable def Gfind : List A1 → List A1 → Tree Out
  | [.c (.os b 8), .c (.int .i64 x)], [.c (.sl [.int .i64, .int .i64, .int .i64, .int .i64, .sl [.int .i64, .int .i64, .int .i64], .int .i64, .bool, .bool] n ρ), _] =>
    .need (dec (fewN n)) (.br (anyB (fndN ⟨n, ρ⟩ x) n) (.leaf (.ret (.one (.c (.rowp b 8 (firstB (fndN ⟨n, ρ⟩ x) n) 0))))) (.leaf (.pan noneC)))
  | _, _ => .fail

theorem findT (T : TypeId) (n : Nat) (ρ : Val) (x : Int) : evFnP Try.prog HF ⟨[], []⟩ 10 33 [.c (.os 0 8), .c (I x)] [some (T, [.row true siSh n ρ])] =
    .need (dec (goodF ⟨T, ⟨n, ρ⟩, toInt64 n, x⟩ ∧ (⟨0, 0⟩ : VI) = stI 0)) (.br (anyB (fndN ⟨n, ρ⟩ x) n)
      (.br (!le 0 ((firstB (fndN ⟨n, ρ⟩ x) n : Nat) : Int)) (.leaf (.pan noneC, [some (T, [.row true siSh n ρ]), some (3, [I x])]))
        (.need (inRange ((firstB (fndN ⟨n, ρ⟩ x) n : Nat) : Int) n) (.leaf (.ret (.one (.c (.rowp 0 8 (firstB (fndN ⟨n, ρ⟩ x) n) 0))), [some (T, [.row true siSh n ρ]), some (3, [I x])]))))
      (.br true (.leaf (.pan noneC, [some (T, [.row true siSh n ρ]), some (3, [I x])])) (.need (inRange (-1) n) (.leaf (.ret (.one (.c (.rowp 0 8 0 0))), [some (T, [.row true siSh n ρ]), some (3, [I x])]))))) := by kernel_rfl

theorem rFind : RxOne Try.prog 33 Gfind := by
  intro args mem r hcl hs F w bs vs hm hargs
  unfold Gfind at hs
  split at hs
  · rename_i b x n ρ y he
    simp only [List.map_cons, List.map_nil, List.cons.injEq, and_true] at he
    obtain ⟨h1, _⟩ := he
    simp only [view1, A1.c.injEq] at h1
    unfold viewC at h1
    split at h1
    · rename_i b' sz' e
      cases e
      split at h1
      · rename_i T fz es m σ hrow
        split at h1
        · rename_i hes
          simp only [CV.sl.injEq] at h1
          obtain ⟨rfl, rfl, rfl⟩ := h1
          have hb : nth mem b = some (some (T, [.row fz siSh m σ])) := Sx.rowAt_some hrow
          cases hargs with
          | cons ha hr =>
            simp only [Tree.sel] at hs
            cases hf : dec (fewN m)
            · rw [hf] at hs; simp at hs
            rw [hf] at hs
            simp only [cond_true] at hs
            have hgd : dec (goodF ⟨T, ⟨m, σ⟩, toInt64 m, x⟩ ∧ (⟨0, 0⟩ : VI) = stI 0) = true := dec_iff.2 ⟨⟨rfl, dec_iff.1 hf⟩, rfl⟩
            have hT := findT T m σ x
            cases hany : anyB (fndN ⟨m, σ⟩ x) m
            · rw [hany] at hs
              simp only [cond_false, Option.some.injEq] at hs
              subst hs
              have hsel : (evFnP Try.prog HF ⟨[], []⟩ 10 33 [.c (.os 0 8), .c (I x)] [some (T, [.row true siSh m σ])]).sel = some (.pan noneC, [some (T, [.row true siSh m σ]), some (3, [I x])]) := by
                rw [hT]; simp only [Tree.sel, hgd, hany, cond_true, cond_false]
              refine (rx_calls hF XOk.nil 10 33 hm hb (rest := [.c (I x)]) rfl ha hr hsel).mono fun e w' ⟨h1, F', bs', y, _, _, _, v, h3, h4⟩ => ⟨h1, v, h3, ?_⟩
              cases h4 with
              | iface h => cases h; exact .iface (.int _ _)
            · rw [hany] at hs
              simp only [cond_true, Option.some.injEq] at hs
              subst hs
              obtain ⟨hlt, _, _⟩ := firstB_ok hany
              have hle : le 0 ((firstB (fndN ⟨m, σ⟩ x) m : Nat) : Int) = true := (le_iff _ _).2 (by omega)
              have hsel : (evFnP Try.prog HF ⟨[], []⟩ 10 33 [.c (.os 0 8), .c (I x)] [some (T, [.row true siSh m σ])]).sel = some (.ret (.one (.c (.rowp 0 8 (firstB (fndN ⟨m, σ⟩ x) m) 0))), [some (T, [.row true siSh m σ]), some (3, [I x])]) := by
                rw [hT]; simp only [Tree.sel, hgd, hany, hle, inR hlt, cond_true, Bool.not_true, cond_false]
              refine (rx_calls hF XOk.nil 10 33 hm hb (rest := [.c (I x)]) rfl ha hr hsel).mono fun e w' ⟨h1, F', bs', y, h2, h2n, h3, v, h4, h5⟩ => ⟨h1, v, h4, ?_⟩
              have h5 : CV.Rel F' w' bs' (.rowp 0 8 (firstB (fndN ⟨m, σ⟩ x) m) 0) v := h5
              cases h5 with
              | rowp h6 hi =>
                rw [h3] at h6
                cases h6
                exact CV.Rel.rowp h2 hi
        · cases h1
      · cases h1
    · rename_i hno
      exact (hno _ _ rfl).elim
  · simp [Tree.sel] at hs

end Go.Proofs.Ytbliboojdlkpfaa
/-
  The planned change of the primary: a copy of sites that are in order.
-/
namespace Go.Proofs.Ytbliboojdlkpfaa
open Go Go.Sx Go.RowKit Classical

set_option maxRecDepth 100000

theorem nSites : NcOne Try.prog 50 (cloneG 57 siSh 8 72) := clone_nc Try.func50 rfl rfl rfl rfl rfl rfl rfl rfl (by kernel_rfl) rfl (fun n ρ => by kernel_rfl)
  (fun n ρ => stC siSh n ρ true) (fun n ρ => mkS 8 [(0, .one (.c (.sl siSh n ρ))), (2, .one (.c (.os 1 8))), (3, .one (.c (.sl siSh n ρ))), (4, .one (.c (.bool false))), (5, .one (.c (.os 0 8))), (6, .one (.c (.sl siSh n ρ))), (7, .one (.c (.os 1 8)))] [none, some (57, [.row false siSh (0 + n) (Val.cat 0 (Val.ofFlat 8 []) ρ)])])
  (fun n ρ => by kernel_rfl) (fun n ρ => by kernel_rfl) (fun n ρ => rfl) (fun n ρ => by kernel_rfl) (fun n ρ => by kernel_rfl) (fun n ρ => rfl)

noncomputable abbrev HC : Hd := ⟨HA.pc, HA.hc, [], (50, ncG (cloneG 57 siSh 8 72)) :: HA.mc⟩
theorem hC : HdOk Try.prog HC := hA.mcCons nSites.mc

/-! ### data that read the same -/

theorem at_upd (ρ : Val) (i f : Nat) (x : CV) (k g : Nat) : ((ρ.upd i f x).at k).at g = if k = i ∧ g = f then .ofC x else (ρ.at k).at g := by
  have e : ((ρ.upd i f x).at k).at g = (pickV (Nat.beq k i) (.byFst fun g => pickV (Nat.beq g f) (.ofC x) ((ρ.at k).at g)) (ρ.at k)).at g := rfl
  rw [e]
  by_cases hk : k = i
  · subst hk
    rw [Nat.beq_refl]
    have e2 : (pickV true (.byFst fun g => pickV (Nat.beq g f) (.ofC x) ((ρ.at k).at g)) (ρ.at k)).at g = pickV (Nat.beq g f) (.ofC x) ((ρ.at k).at g) := rfl
    rw [e2]
    by_cases hg : g = f
    · subst hg
      rw [Nat.beq_refl, if_pos ⟨rfl, rfl⟩]; rfl
    · rw [if_neg (fun h => hg h.2)]
      have : Nat.beq g f = false := by
        cases h : Nat.beq g f
        · rfl
        · exact (hg (Nat.eq_of_beq_eq_true h)).elim
      rw [this]; rfl
  · rw [if_neg (fun h => hk h.1)]
    have : Nat.beq k i = false := by
      cases h : Nat.beq k i
      · rfl
      · exact (hk (Nat.eq_of_beq_eq_true h)).elim
    rw [this]; rfl

/-- two rows read the same -/
def sameV (es : List Sh) (n : Nat) (ρ σ : Val) : Prop := ∀ i f s, i < n → nth es f = some s → cellOf s ((ρ.at i).at f) = cellOf s ((σ.at i).at f)

theorem cellOf_ofSl {es : List Sh} (v : Val) : cellOf (.sl es) (.ofC (.sl es (v.L []) v)) = cellOf (.sl es) v := by
  have e : Val.ofC (.sl es (v.L []) v) = v := by
    obtain ⟨B, N, S, L⟩ := v
    show (⟨B, N, S, _⟩ : Val) = ⟨B, N, S, L⟩
    congr 1
    funext p
    cases p <;> rfl
  rw [e]

theorem sameV_upd {n : Nat} {ρ σ : Val} (h : sameV siSh n ρ σ) (j : Nat) : sameV siSh n (ρ.upds j 4 [.sl spSh (((ρ.at j).at 4).L []) ((ρ.at j).at 4)]) σ := by
  intro i f s hi hf
  rw [← h i f s hi hf]
  show cellOf s (((ρ.upd j 4 _).at i).at f) = _
  rw [at_upd]
  split
  · rename_i hh
    obtain ⟨rfl, rfl⟩ := hh
    simp only [nth, Option.some.injEq] at hf
    subst hf
    exact cellOf_ofSl _
  · rfl

theorem sameV_at {n : Nat} {ρ σ : Val} (h : sameV siSh n ρ σ) {i : Nat} (hi : i < n) : ((ρ.at i).at 4).L [] = ((σ.at i).at 4).L [] := by
  have := h i 4 (.sl spSh) hi rfl
  simp only [cellOf, CV.sl.injEq] at this
  exact this.2.1

/-! ### the loop that copies the lineages -/

structure CK where
  l : Ses
  m : Int
structure VK where
  ρ : Val
  i : Int

def SK (c : CK) (v : VK) : St := mkS 33 [(5, .one (.c (.os 0 8))), (17, .one (.c (I c.m))), (18, .one (.c (I v.i)))] [some (57, [.row false siSh c.l.n v.ρ])]
def up4 (ρ : Val) (i : Nat) : Val := ρ.upds i 4 [.sl spSh (((ρ.at i).at 4).L []) ((ρ.at i).at 4)]
def TXK (c : CK) (v : VK) : Tree (XE × VK) :=
  .br (lt v.i c.m) (.need (inRange v.i c.l.n) (.need (Nat.ble ((0 + ((v.ρ.at v.i.toNat).at 4).L []) * 24) 140737488355328) (.need (inRange v.i c.l.n) (.leaf (.normal, ⟨up4 v.ρ v.i.toNat, IntKind.i64.wrap (v.i + 1)⟩))))) (.leaf (.exit 0, v))
theorem tK (c : CK) (v : VK) : ((evCode Try.prog HC (evFn Try.prog HC 10) 32 0 1 (loopBody Try.prog 32 0) (SK c v)).bind fun y => gcT [5, 17, 18] 0 y) = (TXK c v).bind fun y => .leaf (y.1, SK c y.2) := by kernel_rfl

def ups (ρ : Val) : Nat → Val
  | 0 => ρ
  | i + 1 => up4 (ups ρ i) i
theorem ups_same (ρ : Val) (n : Nat) : ∀ i, sameV siSh n (ups ρ i) ρ
  | 0 => fun _ _ _ _ _ => rfl
  | i + 1 => sameV_upd (ups_same ρ n i) i

def stK (c : CK) (i : Nat) : VK := ⟨ups c.l.ρ i, i⟩
/-- few sites of few spans -/
def smallS (l : Ses) : Prop := fewN l.n ∧ ∀ i, i < l.n → small (l.at i).n
def goodK (c : CK) : Prop := c.m = toInt64 c.l.n ∧ smallS c.l

theorem sqK (c : CK) (h : goodK c) : Sq (TXK c) (fun v => (c.l.n - v.i).toNat) (stK c) (stK c) c.l.n (fun _ => false) .ret (.exit 0) where
  out := by simp
  hit := by simp
  meas i hi := by show ((c.l.n : Int) - (i : Int)).toNat = _; omega
  round i hi := by
    obtain ⟨hm, hn, hs⟩ := h
    have hsi := hs i hi
    unfold fewN at hn
    have hw : IntKind.i64.wrap ((i : Int) + 1) = ((i + 1 : Nat) : Int) := by rw [w64_id (by omega) (by omega)]; omega
    refine ⟨fun _ => ⟨inR hi, ?_, inR hi, ?_⟩, fun hlt => ?_⟩
    · show Nat.ble ((0 + (((ups c.l.ρ i).at i).at 4).L []) * 24) 140737488355328 = true
      rw [sameV_at (ups_same c.l.ρ c.l.n i) hi]
      exact small_ble hsi
    · show (XE.normal, (⟨up4 (ups c.l.ρ i) i, IntKind.i64.wrap ((i : Int) + 1)⟩ : VK)) = (.normal, stK c (i + 1))
      rw [hw]; rfl
    · have : lt (i : Int) c.m = false := hlt
      rw [hm, ltF hi] at this; cases this
  stop := by
    refine ⟨fun hlt => ?_, fun _ => rfl⟩
    have : lt (c.l.n : Int) c.m = true := hlt
    rw [h.1, ltS] at this; cases this

def getK : List (Nat × AV) → Mem → Option (CK × VK)
  | [(5, .one (.c (.os 0 8))), (17, .one (.c (.int .i64 m))), (18, .one (.c (.int .i64 i)))], [some (57, [.row false [.int .i64, .int .i64, .int .i64, .int .i64, .sl [.int .i64, .int .i64, .int .i64], .int .i64, .bool, .bool] n ρ])] => some (⟨⟨n, ρ⟩, m⟩, ⟨ρ, i⟩)
  | _, _ => none

noncomputable def LK : Nat → St → Tree (XE × St) := lqH [5, 17, 18] 0 33 getK fun c v => lq1 (SK c) (goodK c ∧ v = stK c 0) (.exit 0) ⟨c.l.ρ, c.l.n⟩

theorem lK (fn : Func) (c b : Code) (hf : Try.prog.funcs[32]? = some fn) (hc : fn.body = some c) (hb : nthLoop c 0 = some b) : LoopOk Try.prog b LK :=
  lq1_ok hC 10 32 0 hf hc hb [5, 17, 18] 0 33 SK TXK tK getK (fun l m c v h => by unfold getK at h; split at h <;> simp at h; obtain ⟨rfl, rfl⟩ := h; rfl)
    goodK (fun c v => (c.l.n - v.i).toNat) stK (fun c => c.l.n) (.exit 0) sqK (fun c => ⟨c.l.ρ, c.l.n⟩)
    (fun c _ => StWk.row (tmps := mkL [(5, .one (.c (.os 0 8))), (17, .one (.c (I c.m))), (18, .one (.c (I c.l.n)))] 33 0) (b := 0) rfl (ups_same c.l.ρ c.l.n c.l.n))

theorem small_fewS {l : Ses} (h : smallS l) : fewS l := ⟨h.1, fun i hi => dec_iff.1 (small_few (h.2 i hi))⟩

noncomputable abbrev HK2 : Hd := ⟨pF 40 :: pF 34 :: HC.pc, HC.hc, [((32, 0), LK)], HC.mc⟩
theorem hK2 : HdOk Try.prog HK2 := ((HdOk.lhCons hC lK).pF 34).pF 40

/-! ### checked -/

/-- the panic of an error -/
def pnC (e : Int) : CV := .iface 92 (I e)

noncomputable def Gcked : List A1 → Tree (Out × Mem)
  | [.c (.sl [.int .i64, .int .i64, .int .i64, .int .i64, .sl [.int .i64, .int .i64, .int .i64], .int .i64, .bool, .bool] n ρ)] =>
    .need (dec (smallS ⟨n, ρ⟩)) (.br (ckE ⟨n, ρ⟩ == 0) (.leaf (.ret (.one (.c (.os 0 8))), [some (57, [.row false siSh n ρ])])) (.leaf (.pan (pnC (ckE ⟨n, ρ⟩)), [])))
  | _ => .fail

theorem ck_four {l : Ses} (h : (ckE l == 0) = true) : l.n ≤ 4 := by
  unfold ckE at h
  cases h4 : lt 4 (toInt64 l.n)
  · have h4 : ¬ lt 4 (toInt64 l.n) = true := by rw [h4]; simp
    rw [lt_iff] at h4
    have : ¬ (4 : Int) < (l.n : Int) := h4
    omega
  · rw [h4] at h; cases h

theorem ncCked : NcPOne Try.prog 32 Gcked := ncPOne_of_tree hK2 XOk.nil 10 32 fun args r m h => by
  unfold Gcked at h; split at h
  · rename_i n ρ
    simp only [Tree.sel] at h
    cases hs : dec (smallS ⟨n, ρ⟩)
    · rw [hs] at h; simp at h
    rw [hs] at h
    simp only [cond_true] at h
    have hsm := dec_iff.1 hs
    refine ⟨.need (dec (fewS ⟨n, ρ⟩)) (.br (!(ckE ⟨n, ρ⟩ == 0)) (.leaf (.pan (pnC (ckE ⟨n, ρ⟩)), [])) (.need (Nat.ble ((0 + n) * 72) 140737488355328) (.need (dec (goodK ⟨⟨n, ρ⟩, toInt64 n⟩ ∧ (⟨ρ, 0⟩ : VK) = stK ⟨⟨n, ρ⟩, toInt64 n⟩ 0)) (.leaf (.ret (.one (.c (.os 0 8))), [some (57, [.row false siSh n ρ])]))))), by kernel_rfl, dec_iff.2 (small_fewS hsm), fun h1 => ?_, fun h1 => ⟨?_, dec_iff.2 ⟨⟨rfl, hsm⟩, rfl⟩, ?_⟩⟩
    · have h1 : (ckE ⟨n, ρ⟩ == 0) = false := by simpa using h1
      rw [h1] at h
      simp only [cond_false, Option.some.injEq, Prod.mk.injEq] at h
      obtain ⟨rfl, rfl⟩ := h
      exact WkO.refl
    · have h1 : (ckE ⟨n, ρ⟩ == 0) = true := by simpa using h1
      have := ck_four h1
      exact Nat.ble_eq_true_of_le (by simp only at this; omega)
    · have h1 : (ckE ⟨n, ρ⟩ == 0) = true := by simpa using h1
      rw [h1] at h
      simp only [cond_true, Option.some.injEq, Prod.mk.injEq] at h
      obtain ⟨rfl, rfl⟩ := h
      exact WkO.refl
  · simp [Tree.sel] at h

/-- what the program's functions that may panic stand on -/
noncomputable abbrev XS : HdP := ⟨[(32, ncPG Gcked)], [(33, Gfind)]⟩
theorem xS : XOk Try.prog XS := (XOk.nil.rxCons rFind).pxCons ncCked.px

end Go.Proofs.Ytbliboojdlkpfaa
/-
  The planned change of the primary: Begin.
-/
namespace Go.Proofs.Ytbliboojdlkpfaa
open Go Go.Sx Go.RowKit Classical

set_option maxRecDepth 100000

/-- … with the keys of the functions that may panic -/
noncomputable abbrev HB : Hd := ⟨pF 31 :: pF 32 :: pF 34 :: pF 40 :: (17, oG GchkP) :: (18, oG GchkP) :: HA.pc, HA.hc, [], HA.mc⟩
theorem hB : HdOk Try.prog HB := (((((hA.pcCons pCheckR).pcCons pCheck).pF 40).pF 34).pF 32).pF 31

def hasN (l : Ses) (k : Int) : Bool := anyB (fndN l k) l.n
def idxN (l : Ses) (k : Int) : Nat := firstB (fndN l k) l.n
/-- the site with a number -/
def Ses.by (l : Ses) (k : Int) : Sit := l.at (idxN l k)

def p0 : Prc := ⟨0, 0, 0, 0, 0, 0, false, false⟩
def ok18 (l : Ses) (f t : Int) : Bool := ((l.by f).r == 1 && (l.by t).r == 2) && (l.by t).s == f
def ok12 (l : Ses) (f t : Int) : Bool := ((l.by f).l && (l.by t).l) && (l.by t).c
/-- the error of Begin -/
def begE (l : Ses) (f t : Int) : Int := bif !(ckE l == 0) then ckE l else bif !(hasN l f && hasN l t) then 7 else bif f == t then 1 else bif !ok18 l f t then 18 else bif !ok12 l f t then 12 else 0
def begP (l : Ses) (f t : Int) : Prc := bif begE l f t == 0 then ⟨1, f, t, 0, 0, (l.by f).p, false, false⟩ else p0

def prE (p : Prc) (e : Int) : AV := .tup [p.cv, .c (I e)]
/-- a panic that is recovered -/
def erT (k : Int) : Tree AV := .br true (.br false .fail (.leaf (prE p0 k))) (.leaf (prE p0 0))
theorem erT_sel (k : Int) : (erT k).sel = some (prE p0 k) := rfl

noncomputable def Gbeg : List A1 → Option (Bool × AV)
  | [.c (.sl [.int .i64, .int .i64, .int .i64, .int .i64, .sl [.int .i64, .int .i64, .int .i64], .int .i64, .bool, .bool] n ρ), .c (.int .i64 f), .c (.int .i64 t)] => some (dec (smallS ⟨n, ρ⟩), prE (begP ⟨n, ρ⟩ f t) (begE ⟨n, ρ⟩ f t))
  | _ => none

theorem all_sel_le {r : AV} {t : Tree AV} (h : t.sel = some r) : t.All (fun z => leA z r) := All.imp (fun _ h => h ▸ leA.refl) (all_of_sel h)

theorem fewN_dec {l : Ses} (h : smallS l) : dec (fewN l.n) = true := dec_iff.2 h.1

theorem uBegin : UcOne Try.prog 13 (nG Gbeg) := ucOneP_of_tree hB xS 10 13 fun args r h => by
  unfold Gbeg at h; split at h
  · rename_i n ρ f t
    obtain ⟨hp, rfl⟩ := Prod.mk.inj (Option.some.inj h)
    let l : Ses := ⟨n, ρ⟩
    refine ⟨.need (dec (smallS l)) (.br (ckE l == 0) (.need (dec (fewN n)) (.br (hasN l f) (.need (dec (fewN n)) (.br (hasN l t) (.br (!(f != t)) (erT 1) (.br (!ok18 l f t) (erT 18) (.br (!ok12 l f t) (erT 12) (.br false .fail (.leaf (prE ⟨1, f, t, 0, 0, (l.by f).p, false, false⟩ 0))))))
      (erT 7))) (erT 7))) (erT (ckE l))), by kernel_rfl, all_sel_le ?_⟩
    have hp : dec (smallS l) = true := hp
    have hf : dec (fewN n) = true := fewN_dec (dec_iff.1 hp)
    simp only [Tree.sel, hp, hf, erT_sel, cond_true, cond_false]
    show _ = some (prE (begP l f t) (begE l f t))
    unfold begP begE
    cases h1 : ckE l == 0
    · simp only [cond_false, Bool.not_false, cond_true, h1]
    · simp only [cond_true, Bool.not_true, cond_false]
      cases h2 : hasN l f
      · rfl
      · cases h3 : hasN l t
        · rfl
        · simp only [bne, Bool.not_not, Bool.and_self, Bool.not_true, cond_true, cond_false]
          cases h4 : f == t
          · cases h5 : ok18 l f t
            · rfl
            · cases h6 : ok12 l f t <;> rfl
          · rfl
  · cases h

end Go.Proofs.Ytbliboojdlkpfaa
/-
  The planned change of the primary: Find, SameAll and Few of the references.
-/
namespace Go.Proofs.Ytbliboojdlkpfaa
open Go Go.Sx Go.RowKit Classical

set_option maxRecDepth 100000

/-! ### Find -/

structure C36f where
  l : Ses
  k : Int
def S36f (c : C36f) (v : VI) : St := mkS 20 [(0, .one (.c (.sl siSh c.l.n c.l.ρ))), (1, .one (.c (I c.k))), (4, .one (.c (I v.r))), (5, .one (.c (I v.i)))] []
theorem t36f (c : C36f) (v : VI) : ((evCode Try.prog HA (evFn Try.prog HA 10) 36 0 1 (loopBody Try.prog 36 0) (S36f c v)).bind fun y => gcT [0, 1, 4, 5] 0 y) = (TXi (toInt64 c.l.n) c.l.n (fndN c.l c.k) v).bind fun y => .leaf (y.1, S36f c y.2) := by kernel_rfl
def get36f : List (Nat × AV) → Mem → Option (C36f × VI)
  | [(0, .one (.c (.sl [.int .i64, .int .i64, .int .i64, .int .i64, .sl [.int .i64, .int .i64, .int .i64], .int .i64, .bool, .bool] n ρ))), (1, .one (.c (.int .i64 k))), (4, .one (.c (.int .i64 r))), (5, .one (.c (.int .i64 i)))], [] => some (⟨⟨n, ρ⟩, k⟩, ⟨r, i⟩)
  | _, _ => none
noncomputable def L36f : Nat → St → Tree (XE × St) := lqH [0, 1, 4, 5] 0 20 get36f fun c v => lqT (S36f c) (fewN c.l.n ∧ v = stI 0) (anyB (fndN c.l c.k) c.l.n) .ret (.exit 0) (sbI (firstB (fndN c.l c.k) c.l.n)) (stI c.l.n)
theorem l36f (fn : Func) (c b : Code) (hf : Try.prog.funcs[36]? = some fn) (hc : fn.body = some c) (hb : nthLoop c 0 = some b) : LoopOk Try.prog b L36f :=
  lq_ok hA 10 36 0 hf hc hb [0, 1, 4, 5] 0 20 S36f (fun c => TXi (toInt64 c.l.n) c.l.n (fndN c.l c.k)) t36f get36f
    (fun l m c v h => by unfold get36f at h; split at h <;> simp at h; obtain ⟨rfl, rfl⟩ := h; rfl)
    (fun c => fewN c.l.n) (fun c => μI c.l.n) (fun _ => stI) (fun _ => sbI) (fun c => c.l.n) (fun c => fndN c.l c.k) .ret (.exit 0)
    (fun c hg => sqI (fndN c.l c.k) rfl hg) (fun c => sbI (firstB (fndN c.l c.k) c.l.n)) (fun c => stI c.l.n) (fun _ _ _ => StWk.refl) (fun _ _ _ => StWk.refl)

/-- the place of the site with a number, or -1 -/
def findI (l : Ses) (k : Int) : Int := bif hasN l k then (idxN l k : Nat) else -1
noncomputable def Gfnd : List A1 → Option (Bool × AV)
  | [.c (.sl [.int .i64, .int .i64, .int .i64, .int .i64, .sl [.int .i64, .int .i64, .int .i64], .int .i64, .bool, .bool] n ρ), .c (.int .i64 k)] => some (dec (fewN n), .one (.c (I (findI ⟨n, ρ⟩ k))))
  | _ => none

noncomputable abbrev H36f : Hd := ⟨HA.pc, HA.hc, [((36, 0), L36f)], HA.mc⟩
theorem h36f : HdOk Try.prog H36f := HdOk.lhCons hA l36f

theorem pFind : TcOne Try.prog 36 (nG Gfnd) := tcOne_of_tree h36f 10 36 fun args r h => by
  unfold Gfnd at h; split at h
  · rename_i n ρ k
    obtain ⟨hp, rfl⟩ := Prod.mk.inj (Option.some.inj h)
    refine ⟨rfl, .need (dec (fewN n ∧ (⟨0, 0⟩ : VI) = stI 0)) (.br (hasN ⟨n, ρ⟩ k) (.leaf (.one (.c (I (idxN ⟨n, ρ⟩ k : Nat))))) (.leaf (.one (.c (I (-1)))))), by kernel_rfl, all_of_sel ?_⟩
    have : dec (fewN n ∧ (⟨0, 0⟩ : VI) = stI 0) = true := dec_iff.2 ⟨dec_iff.1 hp, rfl⟩
    simp only [Tree.sel, this, cond_true]
    unfold findI
    cases hasN ⟨n, ρ⟩ k <;> rfl
  · cases h

/-! ### SameAll -/

def sameS (x y : Sit) : Bool := ((((((x.a == y.a && x.r == y.r) && x.e == y.e) && x.p == y.p) && eqL ⟨⟨x.n, x.ρ⟩, ⟨y.n, y.ρ⟩⟩) && x.s == y.s) && x.l == y.l) && x.c == y.c
structure C21 where
  l : Ses
  j : Ses
def S21 (c : C21) (v : Int) : St := mkS 27 [(0, .one (.c (.sl siSh c.l.n c.l.ρ))), (1, .one (.c (.sl siSh c.j.n c.j.ρ))), (4, .one (.c (.bool false))), (5, .one (.c (I v)))] []
noncomputable def TX21 (c : C21) (v : Int) : Tree (XE × Int) :=
  .br (lt v (toInt64 c.l.n)) (.need (inRange v c.l.n) (.need (inRange v c.j.n) (.need (dec (fewN (c.l.at v.toNat).n)) (.br (!sameS (c.l.at v.toNat) (c.j.at v.toNat)) (.leaf (.ret, v)) (.leaf (.normal, IntKind.i64.wrap (v + 1))))))) (.leaf (.exit 0, v))
theorem t21 (c : C21) (v : Int) : ((evCode Try.prog HA (evFn Try.prog HA 10) 21 0 1 (loopBody Try.prog 21 0) (S21 c v)).bind fun y => gcT [0, 1, 4, 5] 0 y) = (TX21 c v).bind fun y => .leaf (y.1, S21 c y.2) := by kernel_rfl
def difS (l j : Ses) (i : Nat) : Bool := !sameS (l.at i) (j.at i)
def good21 (c : C21) : Prop := fewS c.l ∧ c.l.n = c.j.n
theorem sq21 (c : C21) (h : good21 c) : Sq (TX21 c) (fun v => (c.l.n - v).toNat) (fun i => (i : Int)) (fun i => (i : Int)) c.l.n (difS c.l c.j) .ret (.exit 0) where
  out := by simp
  hit := by simp
  meas i hi := by show ((c.l.n : Int) - (i : Int)).toNat = _; omega
  round i hi := by
    obtain ⟨⟨hn, hs⟩, hj⟩ := h
    have hsi := hs i hi
    unfold fewN at hn
    have hw : IntKind.i64.wrap ((i : Int) + 1) = ((i + 1 : Nat) : Int) := by rw [w64_id (by omega) (by omega)]; omega
    refine ⟨fun _ => ⟨inR hi, inR (hj ▸ hi), dec_iff.2 hsi, fun hb => ?_, fun hb => ?_⟩, fun hlt => ?_⟩
    · have : difS c.l c.j i = true := hb
      simp only [Tree.All, this, if_true]
    · have : difS c.l c.j i = false := hb
      simp only [Tree.All, this, Bool.false_eq_true, if_false]
      rw [hw]
    · rw [ltF hi] at hlt; cases hlt
  stop := by
    refine ⟨fun hlt => ?_, fun _ => rfl⟩
    rw [ltS] at hlt; cases hlt
def get21 : List (Nat × AV) → Mem → Option (C21 × Int)
  | [(0, .one (.c (.sl [.int .i64, .int .i64, .int .i64, .int .i64, .sl [.int .i64, .int .i64, .int .i64], .int .i64, .bool, .bool] n ρ))), (1, .one (.c (.sl [.int .i64, .int .i64, .int .i64, .int .i64, .sl [.int .i64, .int .i64, .int .i64], .int .i64, .bool, .bool] m σ))), (4, .one (.c (.bool false))), (5, .one (.c (.int .i64 i)))], [] => some (⟨⟨n, ρ⟩, ⟨m, σ⟩⟩, i)
  | _, _ => none
noncomputable def L21 : Nat → St → Tree (XE × St) := lqH [0, 1, 4, 5] 0 27 get21 fun c v => lqT (S21 c) (good21 c ∧ v = ((0 : Nat) : Int)) (anyB (difS c.l c.j) c.l.n) .ret (.exit 0) (firstB (difS c.l c.j) c.l.n : Nat) (c.l.n : Int)
theorem l21 (fn : Func) (c b : Code) (hf : Try.prog.funcs[21]? = some fn) (hc : fn.body = some c) (hb : nthLoop c 0 = some b) : LoopOk Try.prog b L21 :=
  lq_ok hA 10 21 0 hf hc hb [0, 1, 4, 5] 0 27 S21 TX21 t21 get21
    (fun l m c v h => by unfold get21 at h; split at h <;> simp at h; obtain ⟨rfl, rfl⟩ := h; rfl)
    good21 (fun c v => (c.l.n - v).toNat) (fun _ i => (i : Int)) (fun _ i => (i : Int)) (fun c => c.l.n) (fun c => difS c.l c.j) .ret (.exit 0)
    sq21 (fun c => (firstB (difS c.l c.j) c.l.n : Nat)) (fun c => (c.l.n : Int)) (fun _ _ _ => StWk.refl) (fun _ _ _ => StWk.refl)
noncomputable abbrev H21 : Hd := ⟨HA.pc, HA.hc, [((21, 0), L21)], HA.mc⟩
theorem h21 : HdOk Try.prog H21 := HdOk.lhCons hA l21

/-- are two lists of sites the same? -/
def sameAll (l j : Ses) : Bool := bif l.n == j.n then !anyB (difS l j) l.n else false
noncomputable def Gsame : List A1 → Option (Bool × AV)
  | [.c (.sl [.int .i64, .int .i64, .int .i64, .int .i64, .sl [.int .i64, .int .i64, .int .i64], .int .i64, .bool, .bool] n ρ), .c (.sl [.int .i64, .int .i64, .int .i64, .int .i64, .sl [.int .i64, .int .i64, .int .i64], .int .i64, .bool, .bool] m σ)] => some (dec (fewS ⟨n, ρ⟩), .one (.c (.bool (sameAll ⟨n, ρ⟩ ⟨m, σ⟩))))
  | _ => none

theorem pSame : TcOne Try.prog 21 (nG Gsame) := tcOne_of_tree h21 10 21 fun args r h => by
  unfold Gsame at h; split at h
  · rename_i n ρ m σ
    obtain ⟨hp, rfl⟩ := Prod.mk.inj (Option.some.inj h)
    have hf := dec_iff.1 hp
    refine ⟨rfl, .br (toInt64 n != toInt64 m) (.leaf (.one (.c (.bool false)))) (.need (dec (good21 ⟨⟨n, ρ⟩, ⟨m, σ⟩⟩ ∧ (0 : Int) = ((0 : Nat) : Int))) (.br (anyB (difS ⟨n, ρ⟩ ⟨m, σ⟩) n) (.leaf (.one (.c (.bool false)))) (.leaf (.one (.c (.bool true)))))), by kernel_rfl, all_of_sel ?_⟩
    unfold sameAll
    simp only [Tree.sel]
    by_cases hnm : n = m
    · subst hnm
      have h1 : (toInt64 n != toInt64 n) = false := by simp
      have h2 : dec (good21 ⟨⟨n, ρ⟩, ⟨n, σ⟩⟩ ∧ (0 : Int) = ((0 : Nat) : Int)) = true := dec_iff.2 ⟨⟨hf, rfl⟩, rfl⟩
      have h3 : (n == n) = true := by simp
      rw [h1, h2, h3]
      cases anyB (difS ⟨n, ρ⟩ ⟨n, σ⟩) n <;> rfl
    · have h1 : (toInt64 n != toInt64 m) = true := by
        have : (n : Int) ≠ (m : Int) := by omega
        simpa [toInt64, bne] using this
      have h3 : (n == m) = false := by simpa using hnm
      rw [h1, h3]; rfl
  · cases h

theorem eqL_refl (l : Ln) : eqL ⟨l, l⟩ = true := eqL_self l
theorem sameS_refl (x : Sit) : sameS x x = true := by
  unfold sameS
  rw [eqL_refl ⟨x.n, x.ρ⟩]
  simp
theorem sameAll_refl (l : Ses) : sameAll l l = true := by
  unfold sameAll
  have : anyB (difS l l) l.n = false := anyB_none fun i _ => by unfold difS; rw [sameS_refl]; rfl
  rw [this]; simp

/-! ### Few -/

def S11 (c : Ses) (v : Int) : St := mkS 24 [(0, .one (.c (.sl siSh c.n c.ρ))), (2, .one (.c (.bool false))), (3, .one (.c (I v)))] []
def lng (l : Ses) (i : Nat) : Bool := lt 20 (toInt64 (l.at i).n)
def TX11 (c : Ses) (v : Int) : Tree (XE × Int) := .br (lt v (toInt64 c.n) && lt v 10) (.need (inRange v c.n) (.br (lng c v.toNat) (.leaf (.ret, v)) (.leaf (.normal, IntKind.i64.wrap (v + 1))))) (.leaf (.exit 0, v))
theorem t11 (c : Ses) (v : Int) : ((evCode Try.prog HA (evFn Try.prog HA 10) 11 0 1 (loopBody Try.prog 11 0) (S11 c v)).bind fun y => gcT [0, 2, 3] 0 y) = (TX11 c v).bind fun y => .leaf (y.1, S11 c y.2) := by kernel_rfl
def min10 (n : Nat) : Nat := if n ≤ 10 then n else 10
theorem sq11 (c : Ses) (_ : True) : Sq (TX11 c) (fun v => (min10 c.n - v).toNat) (fun i => (i : Int)) (fun i => (i : Int)) (min10 c.n) (lng c) .ret (.exit 0) where
  out := by simp
  hit := by simp
  meas i hi := by show ((min10 c.n : Int) - (i : Int)).toNat = _; omega
  round i hi := by
    have hi1 : i < c.n ∧ i < 10 := by unfold min10 at hi; split at hi <;> omega
    have hw : IntKind.i64.wrap ((i : Int) + 1) = ((i + 1 : Nat) : Int) := by rw [w64_id (by omega) (by omega)]; omega
    refine ⟨fun _ => ⟨inR hi1.1, fun hb => ?_, fun hb => ?_⟩, fun hlt => ?_⟩
    · have : lng c i = true := hb
      simp only [Tree.All, this, if_true]
    · have : lng c i = false := hb
      simp only [Tree.All, this, Bool.false_eq_true, if_false]
      rw [hw]
    · rw [ltF hi1.1, (lt_iff (i : Int) 10).2 (by omega)] at hlt; cases hlt
  stop := by
    refine ⟨fun hlt => ?_, fun _ => rfl⟩
    rw [Bool.and_eq_true, lt_iff, lt_iff] at hlt
    have h1 : (min10 c.n : Int) < (c.n : Int) := hlt.1
    have h2 := hlt.2
    unfold min10 at h1 h2
    split at h1 <;> split at h2 <;> omega
def get11 : List (Nat × AV) → Mem → Option (Ses × Int)
  | [(0, .one (.c (.sl [.int .i64, .int .i64, .int .i64, .int .i64, .sl [.int .i64, .int .i64, .int .i64], .int .i64, .bool, .bool] n ρ))), (2, .one (.c (.bool false))), (3, .one (.c (.int .i64 i)))], [] => some (⟨n, ρ⟩, i)
  | _, _ => none
noncomputable def L11 : Nat → St → Tree (XE × St) := lqH [0, 2, 3] 0 24 get11 fun c v => lqT (S11 c) (True ∧ v = ((0 : Nat) : Int)) (anyB (lng c) (min10 c.n)) .ret (.exit 0) (firstB (lng c) (min10 c.n) : Nat) (min10 c.n : Int)
theorem l11 (fn : Func) (c b : Code) (hf : Try.prog.funcs[11]? = some fn) (hc : fn.body = some c) (hb : nthLoop c 0 = some b) : LoopOk Try.prog b L11 :=
  lq_ok hA 10 11 0 hf hc hb [0, 2, 3] 0 24 S11 TX11 t11 get11
    (fun l m c v h => by unfold get11 at h; split at h <;> simp at h; obtain ⟨rfl, rfl⟩ := h; rfl)
    (fun _ => True) (fun c v => (min10 c.n - v).toNat) (fun _ i => (i : Int)) (fun _ i => (i : Int)) (fun c => min10 c.n) (fun c => lng c) .ret (.exit 0)
    sq11 (fun c => (firstB (lng c) (min10 c.n) : Nat)) (fun c => (min10 c.n : Int)) (fun _ _ _ => StWk.refl) (fun _ _ _ => StWk.refl)
noncomputable abbrev H11f : Hd := ⟨HA.pc, HA.hc, [((11, 0), L11)], HA.mc⟩
theorem h11f : HdOk Try.prog H11f := HdOk.lhCons hA l11

/-- few sites of few spans -/
def fewL (l : Ses) : Bool := bif anyB (lng l) (min10 l.n) then false else le (toInt64 l.n) 10
def Gfew : List A1 → Option AV
  | [.c (.sl [.int .i64, .int .i64, .int .i64, .int .i64, .sl [.int .i64, .int .i64, .int .i64], .int .i64, .bool, .bool] n ρ)] => some (.one (.c (.bool (fewL ⟨n, ρ⟩))))
  | _ => none

theorem pFew : PcOne Try.prog 11 Gfew := pcOne_of_tree h11f 10 11 fun args r h => by
  unfold Gfew at h; split at h
  · rename_i n ρ
    obtain rfl := Option.some.inj h
    refine ⟨rfl, .need (dec (True ∧ (0 : Int) = ((0 : Nat) : Int))) (.br (anyB (lng ⟨n, ρ⟩) (min10 n)) (.leaf (.one (.c (.bool false)))) (.leaf (.one (.c (.bool (le (toInt64 n) 10)))))), by kernel_rfl, all_of_sel ?_⟩
    have : dec (True ∧ (0 : Int) = ((0 : Nat) : Int)) = true := dec_iff.2 ⟨trivial, rfl⟩
    simp only [Tree.sel, this, cond_true]
    unfold fewL
    cases anyB (lng ⟨n, ρ⟩) (min10 n) <;> rfl
  · cases h

theorem fewL_small {l : Ses} (h : fewL l = true) : smallS l := by
  unfold fewL at h
  cases ha : anyB (lng l) (min10 l.n)
  · rw [ha] at h
    have h : le (toInt64 l.n) 10 = true := h
    rw [le_iff] at h
    have h : (l.n : Int) ≤ 10 := h
    refine ⟨by unfold fewN; omega, fun i hi => ?_⟩
    have h1 : lng l i = false := by
      rw [← Bool.not_eq_true]
      intro hh
      rw [anyB_iff.2 ⟨i, by unfold min10; split <;> omega, hh⟩] at ha; cases ha
    unfold lng at h1
    rw [← Bool.not_eq_true, lt_iff] at h1
    have h1 : ¬ (20 : Int) < ((l.at i).n : Int) := h1
    unfold small; omega
  · rw [ha] at h; cases h

/-- what the laws stand on -/
noncomputable abbrev HE : Hd := ⟨(11, oG Gfew) :: (21, nG Gsame) :: (36, nG Gfnd) :: (15, oG Gneed) :: (16, oG Gneed) :: HB.pc, HB.hc, [], HB.mc⟩
theorem hE : HdOk Try.prog HE := ((((hB.pcCons pNeedR).pcCons pNeed).tcCons pFind).tcCons pSame).pcCons pFew

end Go.Proofs.Ytbliboojdlkpfaa
/-
  The planned change of the primary: Begin of the reference.
-/
namespace Go.Proofs.Ytbliboojdlkpfaa
open Go Go.Sx Go.RowKit Classical

set_option maxRecDepth 100000

def Ses.atI (l : Ses) (i : Int) : Sit := l.at i.toNat

theorem findI_yes {l : Ses} {k : Int} (h : hasN l k = true) : findI l k = (idxN l k : Nat) ∧ lt (findI l k) 0 = false ∧ inRange (findI l k) l.n = true ∧ l.atI (findI l k) = l.by k := by
  have e : findI l k = (idxN l k : Nat) := by unfold findI; rw [h]; rfl
  obtain ⟨hlt, _, _⟩ := firstB_ok (bad := fndN l k) (n := l.n) h
  refine ⟨e, ?_, ?_, ?_⟩
  · rw [e, ← Bool.not_eq_true, lt_iff]; omega
  · rw [e]; exact inR hlt
  · unfold Ses.atI Ses.by
    rw [e]; rfl
theorem findI_no {l : Ses} {k : Int} (h : hasN l k = false) : lt (findI l k) 0 = true := by
  unfold findI; rw [h]; rfl

theorem uBeginR : UcOne Try.prog 14 (nG Gbeg) := ucOne_of_tree hE 10 14 fun args r h => by
  unfold Gbeg at h; split at h
  · rename_i n ρ f t
    obtain ⟨hp, rfl⟩ := Prod.mk.inj (Option.some.inj h)
    let l : Ses := ⟨n, ρ⟩
    let i := findI l f
    let k := findI l t
    let A := l.atI i
    let B := l.atI k
    refine ⟨.need (dec (fewS l)) (.br (ckE l != 0) (.leaf (prE p0 (ckE l))) (.need (dec (fewN n)) (.need (dec (fewN n)) (.br (lt i 0 || lt k 0) (.leaf (prE p0 7)) (.br (f == t) (.leaf (prE p0 1))
      (.need (inRange i n) (.need (!((A.r != 1) == false && true) || inRange k n) (.need (!((A.r != 1 || B.r != 2) == false && true) || inRange k n) (.br (A.r != 1 || B.r != 2 || B.s != f) (.leaf (prE p0 18))
        (.need (inRange i n) (.need (!((!A.l) == false && true) || inRange k n) (.need (!((!A.l || !B.l) == false && true) || inRange k n) (.br (!A.l || !B.l || !B.c) (.leaf (prE p0 12)) (.need (inRange i n) (.leaf (prE ⟨1, f, t, 0, 0, A.p, false, false⟩ 0)))))))))))))))), by kernel_rfl, all_sel_le ?_⟩
    have hp := dec_iff.1 hp
    have h0 : dec (fewS l) = true := dec_iff.2 (small_fewS hp)
    have hf : dec (fewN n) = true := fewN_dec hp
    simp only [Tree.sel, h0, hf, cond_true]
    show _ = some (prE (begP l f t) (begE l f t))
    unfold begP begE
    cases h1 : ckE l == 0
    · simp only [bne, h1, Bool.not_false, cond_true, cond_false]
    · simp only [bne, h1, Bool.not_true, cond_false]
      cases h2 : hasN l f
      · rw [show lt i 0 = true from findI_no h2]; rfl
      · obtain ⟨_, e1, e2, e3⟩ := findI_yes h2
        rw [show lt i 0 = false from e1]
        cases h3 : hasN l t
        · rw [show lt k 0 = true from findI_no h3]; rfl
        · obtain ⟨_, e4, e5, e6⟩ := findI_yes h3
          rw [show lt k 0 = false from e4, show inRange i n = true from e2, show inRange k n = true from e5, show A = l.by f from e3, show B = l.by t from e6]
          simp only [Bool.or_true, cond_true, Bool.or_false, cond_false, Bool.and_self, Bool.not_true]
          cases h4 : f == t
          · simp only [cond_false]
            unfold ok18
            cases h5 : (l.by f).r == 1
            · rfl
            · cases h6 : (l.by t).r == 2
              · rfl
              · cases h7 : (l.by t).s == f
                · rfl
                · unfold ok12
                  cases (l.by f).l <;> cases (l.by t).l <;> cases (l.by t).c <;> rfl
          · rfl
  · cases h

end Go.Proofs.Ytbliboojdlkpfaa
/-
  The planned change of the primary: what the steps stand on.
-/
namespace Go.Proofs.Ytbliboojdlkpfaa
open Go Go.Sx Go.RowKit Classical

set_option maxRecDepth 100000

/-! ### an array of functions -/

def fnC (f : Nat) : CV := .fn (.func f) [] []
def fnV (f : Nat) : Value := .func (.func f) #[] #[]
theorem fnC_mk {F w bs} (f : Nat) : CV.Rel F w bs (fnC f) (fnV f) := CV.Rel.fn (vf := []) (vc := []) rfl rfl (fun i x v h => by simp [nth] at h) (fun i x v h => by simp [nth] at h)
theorem fnC_eq {F w bs} {f : Nat} {v : Value} (h : CV.Rel F w bs (fnC f) v) : v = fnV f := by
  unfold fnC at h
  cases h with
  | fn l1 l2 r1 r2 =>
    rename_i vf vc
    have h1 : vf = [] := List.length_eq_zero_iff.1 l1.symm
    have h2 : vc = [] := List.length_eq_zero_iff.1 l2.symm
    subst h1; subst h2; rfl
theorem fnCs_mk {F w bs} : ∀ fs : List Nat, All2 (CV.Rel F w bs) (fs.map fnC) (fs.map fnV)
  | [] => .nil
  | f :: r => .cons (fnC_mk f) (fnCs_mk r)
theorem fnCs_eq {F w bs} : ∀ {fs : List Nat} {vs : List Value}, All2 (CV.Rel F w bs) (fs.map fnC) vs → vs = fs.map fnV
  | [], _, h => by cases h; rfl
  | f :: r, _, h => by
    cases h with
    | cons a b => rw [fnC_eq a, fnCs_eq b]; rfl

/-- a function that returns an array of functions -/
theorem pcOne_fns {P : Program} {H : Hd} (hH : HdOk P H) (n f : Nat) (fs : List Nat) {m : Mem} (h : evFn P H n f [] [] = .leaf (.one (.agg (fs.map fnC)), m)) : PcOne P f (fun args => match args with | [] => some (.one (.agg (fs.map fnC))) | _ => none) := by
  intro args r hG _ F w vs hargs
  simp only at hG
  split at hG
  · simp only [Option.some.injEq] at hG
    subst hG
    cases hargs
    refine ⟨.agg (fs.map fnV).toArray, ⟨_, rfl, fnCs_mk fs⟩, fun w1 _ => ?_⟩
    refine (evFn_ok hH n f [] [] (.one (.agg (fs.map fnC))) m (by rw [h]; rfl) F w1 [] [] MemRel.nil .nil).mono fun e w2 ⟨u, F', bs', he, hext, _, hu⟩ => ?_
    obtain ⟨us, hus, hu⟩ := hu
    rw [fnCs_eq hu] at hus
    subst hus
    exact ⟨he, hext.below⟩
  · cases hG

def Gsteps : List A1 → Option AV := fun args => match args with | [] => some (.one (.agg ([55, 56, 57, 58, 59].map fnC))) | _ => none
theorem pSteps : PcOne Try.prog 41 Gsteps := pcOne_fns hE 10 41 [55, 56, 57, 58, 59] (m := [some (81, [55, 56, 57, 58, 59].map fnC)]) (by kernel_rfl)

/-! ### slices.Equal of spans -/

structure C77 where
  l : Ln
  j : Ln
  m : Int
def S77 (c : C77) (v : Int) : St := mkS 26 [(0, .one (.c (.sl spSh c.l.n c.l.ρ))), (1, .one (.c (.sl spSh c.j.n c.j.ρ))), (4, .one (.c (.bool false))), (12, .one (.c (I c.m))), (13, .one (.c (I v)))] []
def TX77 (c : C77) (v : Int) : Tree (XE × Int) := .br (lt v c.m) (.need (inRange v c.l.n) (.need (inRange v c.j.n) (.br (dif c.l.ρ c.j.ρ v.toNat) (.leaf (.ret, v)) (.leaf (.normal, IntKind.i64.wrap (v + 1)))))) (.leaf (.exit 0, v))
theorem t77 (c : C77) (v : Int) : ((evCode Try.prog HA (evFn Try.prog HA 10) 77 0 1 (loopBody Try.prog 77 0) (S77 c v)).bind fun y => gcT [0, 1, 4, 12, 13] 0 y) = (TX77 c v).bind fun y => .leaf (y.1, S77 c y.2) := by kernel_rfl
def good77 (c : C77) : Prop := c.m = toInt64 c.l.n ∧ c.l.n = c.j.n ∧ fewN c.l.n
theorem sq77 (c : C77) (h : good77 c) : Sq (TX77 c) (fun v => (c.l.n - v).toNat) (fun i => (i : Int)) (fun i => (i : Int)) c.l.n (difL ⟨c.l, c.j⟩) .ret (.exit 0) where
  out := by simp
  hit := by simp
  meas i hi := by show ((c.l.n : Int) - (i : Int)).toNat = _; omega
  round i hi := by
    obtain ⟨hm, hj, hn⟩ := h
    unfold fewN at hn
    have hw : IntKind.i64.wrap ((i : Int) + 1) = ((i + 1 : Nat) : Int) := by rw [w64_id (by omega) (by omega)]; omega
    refine ⟨fun _ => ⟨inR hi, inR (hj ▸ hi), fun hb => ?_, fun hb => ?_⟩, fun hlt => ?_⟩
    · have : difL ⟨c.l, c.j⟩ i = true := hb
      simp only [Tree.All, this, if_true]
    · have : difL ⟨c.l, c.j⟩ i = false := hb
      simp only [Tree.All, this, Bool.false_eq_true, if_false]
      rw [hw]
    · rw [hm, ltF hi] at hlt; cases hlt
  stop := by
    refine ⟨fun hlt => ?_, fun _ => rfl⟩
    rw [h.1, ltS] at hlt; cases hlt
def get77 : List (Nat × AV) → Mem → Option (C77 × Int)
  | [(0, .one (.c (.sl [.int .i64, .int .i64, .int .i64] n ρ))), (1, .one (.c (.sl [.int .i64, .int .i64, .int .i64] k σ))), (4, .one (.c (.bool false))), (12, .one (.c (.int .i64 m))), (13, .one (.c (.int .i64 i)))], [] => some (⟨⟨n, ρ⟩, ⟨k, σ⟩, m⟩, i)
  | _, _ => none
noncomputable def L77 : Nat → St → Tree (XE × St) := lqH [0, 1, 4, 12, 13] 0 26 get77 fun c v => lqT (S77 c) (good77 c ∧ v = ((0 : Nat) : Int)) (anyB (difL ⟨c.l, c.j⟩) c.l.n) .ret (.exit 0) (firstB (difL ⟨c.l, c.j⟩) c.l.n : Nat) (c.l.n : Int)
theorem l77 (fn : Func) (c b : Code) (hf : Try.prog.funcs[77]? = some fn) (hc : fn.body = some c) (hb : nthLoop c 0 = some b) : LoopOk Try.prog b L77 :=
  lq_ok hA 10 77 0 hf hc hb [0, 1, 4, 12, 13] 0 26 S77 TX77 t77 get77
    (fun l m c v h => by unfold get77 at h; split at h <;> simp at h; obtain ⟨rfl, rfl⟩ := h; rfl)
    good77 (fun c v => (c.l.n - v).toNat) (fun _ i => (i : Int)) (fun _ i => (i : Int)) (fun c => c.l.n) (fun c => difL ⟨c.l, c.j⟩) .ret (.exit 0)
    sq77 (fun c => (firstB (difL ⟨c.l, c.j⟩) c.l.n : Nat)) (fun c => (c.l.n : Int)) (fun _ _ _ => StWk.refl) (fun _ _ _ => StWk.refl)
noncomputable abbrev H77 : Hd := ⟨HA.pc, HA.hc, [((77, 0), L77)], HA.mc⟩
theorem h77 : HdOk Try.prog H77 := HdOk.lhCons hA l77

theorem pEqual : TcOne Try.prog 77 (nG GE) := tcOne_of_tree h77 10 77 fun args r h => by
  unfold GE at h; split at h
  · rename_i n ρ k σ
    obtain ⟨hp, rfl⟩ := Prod.mk.inj (Option.some.inj h)
    refine ⟨rfl, .br (toInt64 n != toInt64 k) (.leaf (.one (.c (.bool false)))) (.need (dec (good77 ⟨⟨n, ρ⟩, ⟨k, σ⟩, toInt64 n⟩ ∧ (0 : Int) = ((0 : Nat) : Int))) (.br (anyB (difL ⟨⟨n, ρ⟩, ⟨k, σ⟩⟩) n) (.leaf (.one (.c (.bool false)))) (.leaf (.one (.c (.bool true)))))), by kernel_rfl, all_of_sel ?_⟩
    unfold eqL
    simp only [Tree.sel]
    by_cases hnm : n = k
    · subst hnm
      have h1 : (toInt64 n != toInt64 n) = false := by simp
      have h2 : dec (good77 ⟨⟨n, ρ⟩, ⟨n, σ⟩, toInt64 n⟩ ∧ (0 : Int) = ((0 : Nat) : Int)) = true := dec_iff.2 ⟨⟨rfl, rfl, dec_iff.1 hp⟩, rfl⟩
      have h3 : (n == n) = true := by simp
      rw [h1, h2, h3]
      cases anyB (difL ⟨⟨n, ρ⟩, ⟨n, σ⟩⟩) n <;> rfl
    · have h1 : (toInt64 n != toInt64 k) = true := by
        have : (n : Int) ≠ (k : Int) := by omega
        simpa [toInt64, bne] using this
      have h3 : (n == k) = false := by simpa using hnm
      rw [h1, h3]; rfl
  · cases h

noncomputable abbrev HS : Hd := ⟨pF 55 :: pF 56 :: pF 57 :: pF 58 :: pF 59 :: (41, oG Gsteps) :: (77, nG GE) :: HE.pc, HE.hc, [], HE.mc⟩
theorem hS : HdOk Try.prog HS := ((((((hE.tcCons pEqual).pcCons pSteps).pF 59).pF 58).pF 57).pF 56).pF 55

end Go.Proofs.Ytbliboojdlkpfaa
/-
  The planned change of the primary: Step.
-/
namespace Go.Proofs.Ytbliboojdlkpfaa
open Go Go.Sx Go.RowKit Classical

set_option maxRecDepth 100000

/-- the cells of a site, where there is no error -/
def okC (k : Int) (x : Sit) : List CV := [I (bif k == 0 then x.a else 0), I (bif k == 0 then x.r else 0), I (bif k == 0 then x.e else 0), I (bif k == 0 then x.p else 0), .sl spSh (bif k == 0 then x.n else 0) x.ρ, I (bif k == 0 then x.s else 0), .bool (k == 0 && x.l), .bool (k == 0 && x.c)]
def Sit.cs (x : Sit) : List CV := [I x.a, I x.r, I x.e, I x.p, .sl spSh x.n x.ρ, I x.s, .bool x.l, .bool x.c]
theorem okC_0 (x : Sit) : okC 0 x = x.cs := rfl
/-- a site is replaced -/
def Ses.set (l : Ses) (i : Nat) (x : Sit) : Ses := ⟨l.n, l.ρ.upds i 0 x.cs⟩

/-! ### what a step does -/

def s0E (A : Sit) (v : Int) : Int := bif !(A.r == 1) then 18 else bif !(v == A.p) then 22 else 0
def s1E (p : Prc) (A B : Sit) (v : Int) : Int := bif !(v == B.p && le v p.c) then 22 else bif lt v p.c then 0 else bif !eqL ⟨A.ln, B.ln⟩ then 19 else 0
def s2E (A B : Sit) (v : Int) : Int := bif !(le v 1073741824) then 2 else bif !(lt A.e v && lt B.e v) then 13 else 0
def s3E (p : Prc) (A B : Sit) : Int := bif !(A.p == p.c && B.p == p.c) then 22 else demoE A p.e p.t
def s4E (p : Prc) (B : Sit) : Int := bif !(B.p == p.c) then 22 else proE B p.e

/-- the error of a step that succeeds -/
def sucE (p : Prc) (A B : Sit) (v : Int) : Int := bif p.s == 0 then s0E A v else bif p.s == 1 then s1E p A B v else bif p.s == 2 then s2E A B v else bif p.s == 3 then s3E p A B else s4E p B
def sucP (p : Prc) (v : Int) : Prc := bif p.s == 0 then { p with c := v, s := 1 } else bif p.s == 1 then (bif lt v p.c then p else { p with s := 2 }) else bif p.s == 2 then { p with e := v, s := 3 } else bif p.s == 3 then { p with s := 4 } else { p with s := 5, d := true }
def sucL (p : Prc) (l : Ses) : Ses := bif p.s == 3 then l.set (idxN l p.f) (demo (l.by p.f) p.e p.t) else bif p.s == 4 then l.set (idxN l p.t) (pro (l.by p.t) p.e) else l

def preE (p : Prc) (l : Ses) : Int := bif !(chkP p == 0) then chkP p else bif !(ckE l == 0) then ckE l else bif !(hasN l p.f && hasN l p.t) then 7 else bif !(!p.d && !p.x) then 12 else 0
def stpE (p : Prc) (l : Ses) (ok : Bool) (v : Int) : Int := bif !(preE p l == 0) then preE p l else bif ok then sucE p (l.by p.f) (l.by p.t) v else 0
def stpP (p : Prc) (l : Ses) (ok : Bool) (v : Int) : Prc := bif !(stpE p l ok v == 0) then p0 else bif ok then sucP p v else { p with x := le p.s 3 }
def stpL (p : Prc) (l : Ses) (ok : Bool) (v : Int) : Ses := bif !(stpE p l ok v == 0) then ⟨0, l.ρ⟩ else bif ok then sucL p l else l

/-- a procedure, sites and an error -/
def thr (p : Prc) (l : Ses) (e : Int) : AV := .tup [p.cv, .c (.sl siSh l.n l.ρ), .c (I e)]
def thr0 (e : Int) : AV := .tup [p0.cv, .c .nils, .c (I e)]
def erS (k : Int) : Tree AV := .br true (.br false .fail (.leaf (thr0 k))) (.leaf (thr0 0))
def erL (l : Ses) (k : Int) : Tree AV := .br true (.br false .fail (.leaf (thr0 k))) (.leaf (thr p0 l 0))
def okS (x : AV) : Tree AV := .br false .fail (.leaf x)

theorem le_thr0 {e : Int} {ρ : Val} : leA (thr0 e) (thr p0 ⟨0, ρ⟩ e) := leA_tup (.cons le1.refl (.cons (.c leC_nils) (.cons le1.refl .nil)))

noncomputable def Gstep : List A1 → Option (Bool × AV)
  | [.agg [.int .i64 k, .int .i64 f, .int .i64 t, .int .i64 s, .int .i64 e, .int .i64 c, .bool d, .bool x], .c (.sl [.int .i64, .int .i64, .int .i64, .int .i64, .sl [.int .i64, .int .i64, .int .i64], .int .i64, .bool, .bool] n ρ), .c (.bool ok), .c (.int .i64 v)] =>
    some (dec (smallS ⟨n, ρ⟩), thr (stpP ⟨k, f, t, s, e, c, d, x⟩ ⟨n, ρ⟩ ok v) (stpL ⟨k, f, t, s, e, c, d, x⟩ ⟨n, ρ⟩ ok v) (stpE ⟨k, f, t, s, e, c, d, x⟩ ⟨n, ρ⟩ ok v))
  | _ => none

/-- the tree of the steps -/
noncomputable def sucT (p : Prc) (l : Ses) (v : Int) : Tree AV :=
  let A := l.by p.f
  let B := l.by p.t
  .need (inRange p.s 5)
    (.br (p.s == 0) (.br (!(A.r == 1)) (erL l 18) (.br (!(v == A.p)) (erL l 22) (okS (thr { p with c := v, s := 1 } l 0))))
    (.br (p.s == 0 + 1) (.br (!(v == B.p && le v p.c)) (erL l 22) (.br (lt v p.c) (okS (thr p l 0)) (.need (dec (fewN A.n)) (.br (!eqL ⟨A.ln, B.ln⟩) (erL l 19) (okS (thr { p with s := 2 } l 0))))))
    (.br (p.s == 0 + 1 + 1) (.br (!(le v 1073741824)) (erL l 2) (.br (!(lt A.e v && lt B.e v)) (erL l 13) (okS (thr { p with e := v, s := 3 } l 0))))
    (.br (p.s == 0 + 1 + 1 + 1) (.br (!(A.p == p.c && B.p == p.c)) (erL l 22) (.need (dec (small A.n)) (.br (!(demoE A p.e p.t == 0)) (erL l (demoE A p.e p.t)) (okS (thr { p with s := 4 } ⟨l.n, l.ρ.upds (idxN l p.f) 0 (okC (demoE A p.e p.t) (demo A p.e p.t))⟩ 0)))))
      (.br (!(B.p == p.c)) (erL l 22) (.need (dec (small B.n)) (.br (!(proE B p.e == 0)) (erL l (proE B p.e)) (okS (thr { p with s := 5, d := true } ⟨l.n, l.ρ.upds (idxN l p.t) 0 (okC (proE B p.e) (pro B p.e))⟩ 0)))))))))

noncomputable def stpT (p : Prc) (l : Ses) (ok : Bool) (v : Int) : Tree AV :=
  .br (!(chkP p == 0)) (erS (chkP p)) (.need (dec (smallS l)) (.br (ckE l == 0) (.need (dec (fewN l.n)) (.br (hasN l p.f) (.need (dec (fewN l.n)) (.br (hasN l p.t) (.br (!(!p.d && !p.x)) (erL l 12) (.br ok (sucT p l v) (okS (thr { p with x := le p.s 3 } l 0)))) (erL l 7))) (erL l 7))) (erS (ckE l))))

theorem stepT (n : Nat) (ρ : Val) (k f t s e c v : Int) (d x ok : Bool) : hcTreeP Try.prog HS XS 10 19 [.agg [I k, I f, I t, I s, I e, I c, .bool d, .bool x], .c (.sl siSh n ρ), .c (.bool ok), .c (I v)] = stpT ⟨k, f, t, s, e, c, d, x⟩ ⟨n, ρ⟩ ok v := by kernel_rfl

theorem at_upds (ρ : Val) (i : Nat) : ∀ (cs : List CV) (f k g : Nat), ((ρ.upds i f cs).at k).at g = if k = i ∧ f ≤ g ∧ g < f + cs.length then (match nth cs (g - f) with | some x => .ofC x | none => Val.zero) else (ρ.at k).at g
  | [], f, k, g => by
    rw [if_neg (by simp only [List.length_nil]; omega)]; rfl
  | x :: r, f, k, g => by
    show (((ρ.upd i f x).upds i (f + 1) r).at k).at g = _
    rw [at_upds (ρ.upd i f x) i r (f + 1) k g, at_upd]
    by_cases hk : k = i
    · by_cases hg : g = f
      · subst hg
        rw [if_neg (by omega), if_pos ⟨hk, rfl⟩, if_pos ⟨hk, Nat.le_refl _, by simp only [List.length_cons]; omega⟩]
        simp [nth]
      · by_cases hin : f + 1 ≤ g ∧ g < f + 1 + r.length
        · rw [if_pos ⟨hk, hin.1, hin.2⟩, if_pos ⟨hk, by omega, by simp only [List.length_cons]; omega⟩]
          obtain ⟨m, rfl⟩ : ∃ m, g = f + 1 + m := ⟨g - (f + 1), by omega⟩
          rw [show f + 1 + m - (f + 1) = m by omega, show f + 1 + m - f = m + 1 by omega]
          simp [nth]
        · rw [if_neg (fun h => hin ⟨h.2.1, h.2.2⟩), if_neg (fun h => hg h.2), if_neg (fun h => hin ⟨by omega, by have := h.2.2; simp only [List.length_cons] at this; omega⟩)]
    · rw [if_neg (fun h => hk h.1), if_neg (fun h => hk h.1), if_neg (fun h => hk h.1)]

theorem fmd_done {p : Prc} (h : fmd p = true) (h5 : p.s = 5) : p.d = true := by
  unfold fmd at h
  simp only [Bool.and_eq_true, beq_iff_eq] at h
  have := h.1.2
  rw [h5] at this
  simpa using this

theorem suc_sel {p : Prc} {l : Ses} {v : Int} (hs : p.s = 0 ∨ p.s = 1 ∨ p.s = 2 ∨ p.s = 3 ∨ p.s = 4) (hA : small (l.by p.f).n) (hB : small (l.by p.t).n) :
    (sucT p l v).sel = some (bif sucE p (l.by p.f) (l.by p.t) v == 0 then thr (sucP p v) (sucL p l) 0 else thr0 (sucE p (l.by p.f) (l.by p.t) v)) := by
  obtain ⟨k, f, t, s, e, c, d, x⟩ := p
  simp only at hs hA hB ⊢
  unfold sucT
  rcases hs with rfl | rfl | rfl | rfl | rfl
  · show (Tree.br (!((l.by f).r == 1)) (erL l 18) (.br (!(v == (l.by f).p)) (erL l 22) _)).sel = some (bif s0E (l.by f) v == 0 then _ else thr0 (s0E (l.by f) v))
    unfold s0E
    cases (l.by f).r == 1
    · rfl
    · cases v == (l.by f).p <;> rfl
  · have hd : dec (fewN (l.by f).n) = true := dec_iff.2 (dec_iff.1 (small_few hA))
    show (Tree.br (!(v == (l.by t).p && le v c)) (erL l 22) (.br (lt v c) (okS (thr ⟨k, f, t, 1, e, c, d, x⟩ l 0)) (.need (dec (fewN (l.by f).n)) (.br (!eqL ⟨(l.by f).ln, (l.by t).ln⟩) (erL l 19) (okS (thr ⟨k, f, t, 2, e, c, d, x⟩ l 0)))))).sel = some (bif s1E ⟨k, f, t, 1, e, c, d, x⟩ (l.by f) (l.by t) v == 0 then thr (bif lt v c then ⟨k, f, t, 1, e, c, d, x⟩ else ⟨k, f, t, 2, e, c, d, x⟩) l 0 else thr0 (s1E ⟨k, f, t, 1, e, c, d, x⟩ (l.by f) (l.by t) v))
    unfold s1E
    cases h1 : (v == (l.by t).p && le v c)
    · simp only; rfl
    · simp only [Tree.sel, hd, Bool.not_true, cond_false, cond_true]
      cases h2 : lt v c
      · simp only [cond_false]
        cases eqL ⟨(l.by f).ln, (l.by t).ln⟩ <;> rfl
      · simp only [cond_true]; rfl
  · show (Tree.br (!(le v 1073741824)) (erL l 2) (.br (!(lt (l.by f).e v && lt (l.by t).e v)) (erL l 13) _)).sel = some (bif s2E (l.by f) (l.by t) v == 0 then _ else thr0 (s2E (l.by f) (l.by t) v))
    unfold s2E
    cases le v 1073741824
    · rfl
    · cases (lt (l.by f).e v && lt (l.by t).e v) <;> rfl
  · have hd : dec (small (l.by f).n) = true := dec_iff.2 hA
    show (Tree.br (!((l.by f).p == c && (l.by t).p == c)) (erL l 22) (.need (dec (small (l.by f).n)) (.br (!(demoE (l.by f) e t == 0)) (erL l (demoE (l.by f) e t)) (okS (thr ⟨k, f, t, 4, e, c, d, x⟩ ⟨l.n, l.ρ.upds (idxN l f) 0 (okC (demoE (l.by f) e t) (demo (l.by f) e t))⟩ 0))))).sel = some (bif s3E ⟨k, f, t, 3, e, c, d, x⟩ (l.by f) (l.by t) == 0 then thr ⟨k, f, t, 4, e, c, d, x⟩ (l.set (idxN l f) (demo (l.by f) e t)) 0 else thr0 (s3E ⟨k, f, t, 3, e, c, d, x⟩ (l.by f) (l.by t)))
    unfold s3E
    cases h1 : ((l.by f).p == c && (l.by t).p == c)
    · simp only; rfl
    · simp only [Tree.sel, hd, Bool.not_true, cond_false, cond_true]
      cases h2 : demoE (l.by f) e t == 0
      · rfl
      · have h0 : demoE (l.by f) e t = 0 := by simpa using h2
        rw [h0]; rfl
  · have hd : dec (small (l.by t).n) = true := dec_iff.2 hB
    show (Tree.br (!((l.by t).p == c)) (erL l 22) (.need (dec (small (l.by t).n)) (.br (!(proE (l.by t) e == 0)) (erL l (proE (l.by t) e)) (okS (thr ⟨k, f, t, 5, e, c, true, x⟩ ⟨l.n, l.ρ.upds (idxN l t) 0 (okC (proE (l.by t) e) (pro (l.by t) e))⟩ 0))))).sel = some (bif s4E ⟨k, f, t, 4, e, c, d, x⟩ (l.by t) == 0 then thr ⟨k, f, t, 5, e, c, true, x⟩ (l.set (idxN l t) (pro (l.by t) e)) 0 else thr0 (s4E ⟨k, f, t, 4, e, c, d, x⟩ (l.by t)))
    unfold s4E
    cases h1 : (l.by t).p == c
    · simp only; rfl
    · simp only [Tree.sel, hd, Bool.not_true, cond_false, cond_true]
      cases h2 : proE (l.by t) e == 0
      · rfl
      · have h0 : proE (l.by t) e = 0 := by simpa using h2
        rw [h0]; rfl

theorem by_small {l : Ses} (h : smallS l) {k : Int} (hk : hasN l k = true) : small (l.by k).n := h.2 _ (firstB_ok hk).1

theorem stp_sel {p : Prc} {l : Ses} (hsm : smallS l) (ok : Bool) (v : Int) : (stpT p l ok v).sel = some (bif stpE p l ok v == 0 then thr (bif ok then sucP p v else { p with x := le p.s 3 }) (bif ok then sucL p l else l) 0 else thr0 (stpE p l ok v)) := by
  have hp : dec (smallS l) = true := dec_iff.2 hsm
  have hf : dec (fewN l.n) = true := fewN_dec hsm
  unfold stpT stpE preE
  cases h1 : chkP p == 0
  · simp only [Tree.sel, Bool.not_false, cond_true, h1]; rfl
  · simp only [Tree.sel, hp, hf, Bool.not_true, cond_false, cond_true]
    cases h2 : ckE l == 0
    · simp only [Bool.not_false, cond_true, h2]; rfl
    · simp only [Bool.not_true, cond_false]
      cases h3 : hasN l p.f
      · rfl
      · cases h4 : hasN l p.t
        · rfl
        · simp only [Bool.and_self, Bool.not_true, cond_false, cond_true]
          cases h5 : (!p.d && !p.x)
          · rfl
          · simp only [Bool.not_true, cond_false]
            cases ok
            · rfl
            · simp only [cond_true]
              have hfm : fmd p = true := fmd_of (by simp [bne, h1])
              have hs := fmd_step hfm
              refine suc_sel ?_ (by_small hsm h3) (by_small hsm h4)
              rcases hs with h | h | h | h | h | h
              · exact .inl h
              · exact .inr (.inl h)
              · exact .inr (.inr (.inl h))
              · exact .inr (.inr (.inr (.inl h)))
              · exact .inr (.inr (.inr (.inr h)))
              · rw [fmd_done hfm h] at h5; cases h5

theorem thr_of (p : Prc) (l : Ses) (ok : Bool) (v : Int) : leA (bif stpE p l ok v == 0 then thr (bif ok then sucP p v else { p with x := le p.s 3 }) (bif ok then sucL p l else l) 0 else thr0 (stpE p l ok v)) (thr (stpP p l ok v) (stpL p l ok v) (stpE p l ok v)) := by
  unfold stpP stpL
  cases h : stpE p l ok v == 0
  · exact le_thr0
  · have h0 : stpE p l ok v = 0 := by simpa using h
    rw [h0]
    exact leA.refl

theorem all_sel_to {r R : AV} {t : Tree AV} (h : t.sel = some r) (hr : leA r R) : t.All (fun z => leA z R) := All.imp (fun _ h => h ▸ hr) (all_of_sel h)

theorem uStep : UcOne Try.prog 19 (nG Gstep) := ucOneP_of_tree hS xS 10 19 fun args r h => by
  unfold Gstep at h; split at h
  · rename_i k f t s e c d x n ρ ok v
    obtain ⟨hp, rfl⟩ := Prod.mk.inj (Option.some.inj h)
    exact ⟨_, stepT n ρ k f t s e c v d x ok, all_sel_to (stp_sel (dec_iff.1 hp) ok v) (thr_of _ _ _ _)⟩
  · cases h

end Go.Proofs.Ytbliboojdlkpfaa
/-
  The planned change of the primary: Abort.
-/
namespace Go.Proofs.Ytbliboojdlkpfaa
open Go Go.Sx Go.RowKit Classical

set_option maxRecDepth 100000

def abtE (p : Prc) (l : Ses) : Int := bif !(chkP p == 0) then chkP p else bif !(ckE l == 0) then ckE l else bif !((!p.d && !p.x) && le p.s 3) then 12 else 0
def abtP (p : Prc) (l : Ses) : Prc := bif !(abtE p l == 0) then p0 else { p with x := true }
def abtL (p : Prc) (l : Ses) : Ses := bif !(abtE p l == 0) then ⟨0, l.ρ⟩ else l

noncomputable def Gabt : List A1 → Option (Bool × AV)
  | [.agg [.int .i64 k, .int .i64 f, .int .i64 t, .int .i64 s, .int .i64 e, .int .i64 c, .bool d, .bool x], .c (.sl [.int .i64, .int .i64, .int .i64, .int .i64, .sl [.int .i64, .int .i64, .int .i64], .int .i64, .bool, .bool] n ρ)] =>
    some (dec (smallS ⟨n, ρ⟩), thr (abtP ⟨k, f, t, s, e, c, d, x⟩ ⟨n, ρ⟩) (abtL ⟨k, f, t, s, e, c, d, x⟩ ⟨n, ρ⟩) (abtE ⟨k, f, t, s, e, c, d, x⟩ ⟨n, ρ⟩))
  | _ => none

theorem abt_of (p : Prc) (l : Ses) : leA (bif abtE p l == 0 then thr { p with x := true } l 0 else thr0 (abtE p l)) (thr (abtP p l) (abtL p l) (abtE p l)) := by
  unfold abtP abtL
  cases h : abtE p l == 0
  · exact le_thr0
  · have h0 : abtE p l = 0 := by simpa using h
    rw [h0]
    exact leA.refl

noncomputable def abtT (p : Prc) (l : Ses) : Tree AV :=
  .br (!(chkP p == 0)) (erS (chkP p)) (.need (dec (smallS l)) (.br (ckE l == 0) (.br (!((!p.d && !p.x) && le p.s 3)) (erL l 12) (okS (thr { p with x := true } l 0))) (erS (ckE l))))

theorem uAbort : UcOne Try.prog 22 (nG Gabt) := ucOneP_of_tree hS xS 10 22 fun args r h => by
  unfold Gabt at h; split at h
  · rename_i k f t s e c d x n ρ
    obtain ⟨hp, rfl⟩ := Prod.mk.inj (Option.some.inj h)
    let p : Prc := ⟨k, f, t, s, e, c, d, x⟩
    let l : Ses := ⟨n, ρ⟩
    refine ⟨abtT p l, by kernel_rfl, all_sel_to ?_ (abt_of p l)⟩
    have hp : dec (smallS l) = true := hp
    unfold abtT abtE
    cases h1 : chkP p == 0
    · simp only [Tree.sel, Bool.not_false, cond_true, h1]; rfl
    · simp only [Tree.sel, hp, Bool.not_true, cond_false, cond_true]
      cases h2 : ckE l == 0
      · simp only [Bool.not_false, cond_true, h2]; rfl
      · cases ((!p.d && !p.x) && le p.s 3) <;> rfl
  · cases h

noncomputable def abtR (p : Prc) (l : Ses) : Tree AV :=
  .br (chkP p != 0) (.leaf (thr0 3)) (.need (dec (fewS l)) (.br (ckE l != 0) (.leaf (thr0 (ckE l))) (.br (p.d || p.x || lt 3 p.s) (.leaf (thr0 12)) (.leaf (thr { p with x := true } l 0)))))

theorem uAbortR : UcOne Try.prog 23 (nG Gabt) := ucOne_of_tree hS 10 23 fun args r h => by
  unfold Gabt at h; split at h
  · rename_i k f t s e c d x n ρ
    obtain ⟨hp, rfl⟩ := Prod.mk.inj (Option.some.inj h)
    let p : Prc := ⟨k, f, t, s, e, c, d, x⟩
    let l : Ses := ⟨n, ρ⟩
    refine ⟨abtR p l, by kernel_rfl, all_sel_to ?_ (abt_of p l)⟩
    have hp : dec (fewS l) = true := dec_iff.2 (small_fewS (dec_iff.1 hp))
    unfold abtR abtE
    cases h1 : chkP p == 0
    · have h3 : chkP p = 3 := by
        unfold chkP at h1 ⊢
        cases hf : fmd p
        · rfl
        · rw [hf] at h1; cases h1
      rw [h3]; rfl
    · simp only [Tree.sel, hp, bne, h1, Bool.not_true, cond_false, cond_true]
      cases h2 : ckE l == 0
      · simp only [Bool.not_false, cond_true, h2]; rfl
      · simp only [le_not p.s]
        cases p.d <;> cases p.x <;> cases lt 3 p.s <;> rfl
  · cases h

end Go.Proofs.Ytbliboojdlkpfaa
/-
  The planned change of the primary: the examples of the chapter.
-/
namespace Go.Proofs.Ytbliboojdlkpfaa
open Go Go.Sx Go.RowKit Classical

set_option maxRecDepth 100000

/-- few sites of few spans, to be reckoned -/
def smallB (l : Ses) : Bool := Nat.ble l.n 10 && !anyB (fun i => !Nat.ble (l.at i).n 1000) l.n
theorem smallB_ok {l : Ses} (h : smallB l = true) : smallS l := by
  unfold smallB at h
  rw [Bool.and_eq_true] at h
  have hn := Nat.le_of_ble_eq_true h.1
  refine ⟨by unfold fewN; omega, fun i hi => ?_⟩
  have h2 : anyB (fun i => !Nat.ble (l.at i).n 1000) l.n = false := by simpa using h.2
  have h3 : Nat.ble (l.at i).n 1000 = true := by
    cases hb : Nat.ble (l.at i).n 1000
    · have := (anyB_iff (bad := fun i => !Nat.ble (l.at i).n 1000)).2 ⟨i, hi, (by rw [hb]; rfl : (!Nat.ble (l.at i).n 1000) = true)⟩
      rw [h2] at this; cases this
    · rfl
  have := Nat.le_of_ble_eq_true h3
  unfold small; omega

/-- a summary under a condition that can be reckoned -/
def kG (G : List A1 → Option (Bool × AV)) (args : List A1) : Tree AV :=
  match G args with
  | some (c, r) => .need c (.leaf r)
  | none => .fail

theorem kG_sel {G : List A1 → Option (Bool × AV)} {args : List A1} {r : AV} (h : (kG G args).sel = some r) : G args = some (true, r) := nG_sel h

def KBeg : List A1 → Option (Bool × AV)
  | [.c (.sl [.int .i64, .int .i64, .int .i64, .int .i64, .sl [.int .i64, .int .i64, .int .i64], .int .i64, .bool, .bool] n ρ), .c (.int .i64 f), .c (.int .i64 t)] => some (smallB ⟨n, ρ⟩, prE (begP ⟨n, ρ⟩ f t) (begE ⟨n, ρ⟩ f t))
  | _ => none
def KStep : List A1 → Option (Bool × AV)
  | [.agg [.int .i64 k, .int .i64 f, .int .i64 t, .int .i64 s, .int .i64 e, .int .i64 c, .bool d, .bool x], .c (.sl [.int .i64, .int .i64, .int .i64, .int .i64, .sl [.int .i64, .int .i64, .int .i64], .int .i64, .bool, .bool] n ρ), .c (.bool ok), .c (.int .i64 v)] =>
    some (smallB ⟨n, ρ⟩, thr (stpP ⟨k, f, t, s, e, c, d, x⟩ ⟨n, ρ⟩ ok v) (stpL ⟨k, f, t, s, e, c, d, x⟩ ⟨n, ρ⟩ ok v) (stpE ⟨k, f, t, s, e, c, d, x⟩ ⟨n, ρ⟩ ok v))
  | _ => none
def KSame : List A1 → Option (Bool × AV)
  | [.c (.sl [.int .i64, .int .i64, .int .i64, .int .i64, .sl [.int .i64, .int .i64, .int .i64], .int .i64, .bool, .bool] n ρ), .c (.sl [.int .i64, .int .i64, .int .i64, .int .i64, .sl [.int .i64, .int .i64, .int .i64], .int .i64, .bool, .bool] m σ)] => some (smallB ⟨n, ρ⟩, .one (.c (.bool (sameAll ⟨n, ρ⟩ ⟨m, σ⟩))))
  | _ => none

theorem ucOne_imp {P : Program} {f : Nat} {G G' : List A1 → Tree AV} (h : UcOne P f G) (hw : ∀ args r, (G' args).sel = some r → (G args).sel = some r) : UcOne P f G' := fun args r hr hc F w vs ha => h args r (hw args r hr) hc F w vs ha
theorem tcOne_imp {P : Program} {f : Nat} {G G' : List A1 → Tree AV} (h : TcOne P f G) (hw : ∀ args r, (G' args).sel = some r → (G args).sel = some r) : TcOne P f G' := fun args r hr hc F w vs ha => h args r (hw args r hr) hc F w vs ha

theorem kBegin : UcOne Try.prog 13 (kG KBeg) := ucOne_imp uBegin fun args r hr => by
  have h := kG_sel hr
  unfold KBeg at h; split at h
  · obtain ⟨hp, rfl⟩ := Prod.mk.inj (Option.some.inj h)
    unfold nG Gbeg
    simp only [Tree.sel, dec_iff.2 (smallB_ok hp), cond_true]
  · cases h
theorem kStep : UcOne Try.prog 19 (kG KStep) := ucOne_imp uStep fun args r hr => by
  have h := kG_sel hr
  unfold KStep at h; split at h
  · obtain ⟨hp, rfl⟩ := Prod.mk.inj (Option.some.inj h)
    unfold nG Gstep
    simp only [Tree.sel, dec_iff.2 (smallB_ok hp), cond_true]
  · cases h
theorem kSame : TcOne Try.prog 21 (kG KSame) := tcOne_imp pSame fun args r hr => by
  have h := kG_sel hr
  unfold KSame at h; split at h
  · obtain ⟨hp, rfl⟩ := Prod.mk.inj (Option.some.inj h)
    unfold nG Gsame
    simp only [Tree.sel, dec_iff.2 (small_fewS (smallB_ok hp)), cond_true]
  · cases h

/-! ### the two sites at the beginning -/

theorem ofNils {es : List Sh} : Val.ofC .nils = Val.ofC (.sl es 0 Val.zero) := by
  show (⟨_, _, _, _⟩ : Val) = ⟨_, _, _, _⟩
  congr 1
  funext p
  cases p <;> rfl

theorem ofFlat_at (sz : Nat) (cs : List CV) (i f : Nat) : ((Val.ofFlat sz cs).at i).at f = match nth cs (i * sz + f) with | some x => .ofC x | none => Val.zero := rfl

theorem ofFlat_congr {sz : Nat} {cs ds : List CV} (h : All2 (fun x y => Val.ofC x = Val.ofC y) cs ds) (i f : Nat) : ((Val.ofFlat sz cs).at i).at f = ((Val.ofFlat sz ds).at i).at f := by
  rw [ofFlat_at, ofFlat_at]
  cases hx : nth cs (i * sz + f) with
  | none =>
    have : nth ds (i * sz + f) = none := by
      rw [nth_eq, List.getElem?_eq_none_iff] at hx ⊢
      rw [← h.length]; exact hx
    rw [this]
  | some x =>
    obtain ⟨y, hy, e⟩ := h.nth hx
    rw [nth_eq, hy]
    exact e

theorem le_flat {sz : Nat} {es : List Sh} {n : Nat} {cs ds : List CV} (h : All2 (fun x y => Val.ofC x = Val.ofC y) cs ds) : leA (.one (.c (.sl es n (Val.ofFlat sz cs)))) (.one (.c (.sl es n (Val.ofFlat sz ds)))) :=
  leA_one (.c (leC_ext fun i f s _ _ => by rw [ofFlat_congr h]))

/-- the lineage of the cycles 1 to c of epoch 1 -/
def spN (c : Int) : Nat := bif lt 0 c then 1 else 0
def spV (c : Int) : Val := bif lt 0 c then Val.ofFlat 3 [I 1, I 1, I c] else Val.zero
def pr1 (c : Int) : Sit := ⟨0, 1, 1, c, spN c, spV c, -1, true, true⟩
def pr2 (b : Int) : Sit := ⟨1, 2, 1, b, spN b, spV b, 0, true, true⟩
/-- two sites -/
def two2S (x y : Sit) : Ses := ⟨2, Val.ofFlat 8 (x.cs ++ y.cs)⟩
def pairS (c b : Int) : Ses := two2S (pr1 c) (pr2 b)
def Gpair : List A1 → Option AV
  | [.c (.int .i64 c), .c (.int .i64 b)] => some (.one (.c (.sl siSh (pairS c b).n (pairS c b).ρ)))
  | _ => none

theorem uPair : HcOne Try.prog 28 Gpair := hcOne_of_tree hE 10 28 fun args r h => by
  unfold Gpair at h; split at h
  · rename_i c b
    obtain rfl := Option.some.inj h
    let l1 : CV := .sl spSh 1 (Val.ofFlat 3 [I 1, I 1, I c])
    let l2 : CV := .sl spSh 1 (Val.ofFlat 3 [I 1, I 1, I b])
    let T (x y : CV) : Tree AV := .leaf (.one (.c (.sl siSh 2 (Val.ofFlat 8 [I 0, I 1, I 1, I c, x, I (-1), .bool true, .bool true, I 1, I 2, I 1, I b, y, I 0, .bool true, .bool true]))))
    refine ⟨.br (lt 0 c) (.br (lt 0 b) (T l1 l2) (T l1 .nils)) (.br (lt 0 b) (T .nils l2) (T .nils .nils)), by kernel_rfl, ?_⟩
    have key : ∀ {x y : CV}, Val.ofC x = Val.ofC (.sl spSh (spN c) (spV c)) → Val.ofC y = Val.ofC (.sl spSh (spN b) (spV b)) → (T x y).All (fun z => leA z (.one (.c (.sl siSh (pairS c b).n (pairS c b).ρ)))) := fun hx hy =>
      le_flat (.cons rfl (.cons rfl (.cons rfl (.cons rfl (.cons hx (.cons rfl (.cons rfl (.cons rfl (.cons rfl (.cons rfl (.cons rfl (.cons rfl (.cons hy (.cons rfl (.cons rfl (.cons rfl .nil))))))))))))))))
    have yes : ∀ z : Int, lt 0 z = true → Val.ofC (.sl spSh 1 (Val.ofFlat 3 [I 1, I 1, I z])) = Val.ofC (.sl spSh (spN z) (spV z)) := fun z hz => by unfold spN spV; rw [hz]; rfl
    have no : ∀ z : Int, lt 0 z = false → Val.ofC .nils = Val.ofC (.sl spSh (spN z) (spV z)) := fun z hz => by unfold spN spV; rw [hz]; exact ofNils
    exact ⟨fun h1 => ⟨fun h2 => key (yes c h1) (yes b h2), fun h2 => key (yes c h1) (no b h2)⟩, fun h1 => ⟨fun h2 => key (no c h1) (yes b h2), fun h2 => key (no c h1) (no b h2)⟩⟩
  · cases h

noncomputable abbrev HW0 : Hd := ⟨[(21, kG KSame), (15, oG Gneed), concK], [(13, kG KBeg), (19, kG KStep), (28, oG Gpair)], [], []⟩
theorem hW0 : HdOk Try.prog HW0 := (((((HdOk.nil.tcCons concK_ok).pcCons pNeed).tcCons kSame).hcCons uPair).ucCons kStep).ucCons kBegin
noncomputable def lhW : List ((Nat × Nat) × (Nat → St → Tree (XE × St))) := [((12, 0), unrollH Try.prog HW0 20 12 0 10)]
noncomputable abbrev HW : Hd := ⟨HW0.pc, HW0.hc, lhW, HW0.mc⟩
theorem hW : HdOk Try.prog HW := HdOk.lhCons hW0 fun _ _ _ hf hc hb => unroll_ok hW0 20 12 0 hf hc hb 10

def Gawk : List A1 → Option AV
  | [] => some (.one (.c (.bool true)))
  | _ => none

/-- the examples hold -/
theorem pAwake : PcOne Try.prog 12 Gawk := pcOne_of_sel hW 20 12 fun args r h => by
  unfold Gawk at h; split at h
  · obtain rfl := Option.some.inj h
    exact ⟨rfl, by kernel_rfl⟩
  · cases h

/-- what the laws stand on -/
noncomputable abbrev HL : Hd := ⟨(12, oG Gawk) :: HE.pc, [(13, nG Gbeg), (14, nG Gbeg), (19, nG Gstep), (22, nG Gabt), (23, nG Gabt), (28, oG Gpair)] ++ HE.hc, [], HE.mc⟩
theorem hL : HdOk Try.prog HL := ((((((hE.pcCons pAwake).hcCons uPair).ucCons uAbortR).ucCons uAbort).ucCons uStep).ucCons uBeginR).ucCons uBegin

end Go.Proofs.Ytbliboojdlkpfaa
/-
  The planned change of the primary: Begin, Need and Abort are the reference's.
-/
namespace Go.Proofs.Ytbliboojdlkpfaa
open Go Go.Sx Go.RowKit Classical

set_option maxRecDepth 100000

def bT (b : Bool) : AV := .one (.c (.bool b))
def eqP (p q : Prc) : Bool := p.k == q.k && (p.f == q.f && (p.t == q.t && (p.s == q.s && (p.e == q.e && (p.c == q.c && (p.d == q.d && (p.x == q.x && true)))))))
theorem eqP_self (p : Prc) : eqP p p = true := by unfold eqP; simp

theorem law3 (l : Ses) (f t : Int) {F : Nat → Prop} {W : World} {vs : List Value} (h : All2 (A1.Rel F W []) [.c (.sl siSh l.n l.ρ), .c (I f), .c (I t)] vs) :
    Calls Try.prog 3 vs.toArray W (fun e W' => e = .returned (.bool true) ∧ Below W.heap.size W W') := by
  refine law_of_tree hL 12 3 (u := .br (!fewL l) (.leaf (bT true)) (.need (dec (smallS l)) (.need (dec (smallS l)) (.leaf (bT (eqP (begP l f t) (begP l f t) && begE l f t == begE l f t)))))) (by kernel_rfl) ⟨fun _ => rfl, fun hf => ?_⟩ h
  have hf : fewL l = true := by simpa using hf
  have hs : dec (smallS l) = true := dec_iff.2 (fewL_small hf)
  refine ⟨hs, hs, ?_⟩
  show bT _ = _
  rw [eqP_self]
  simp [bT]

theorem law4 (p : Prc) {F : Nat → Prop} {W : World} {vs : List Value} (h : All2 (A1.Rel F W []) [p.cv] vs) :
    Calls Try.prog 4 vs.toArray W (fun e W' => e = .returned (.bool true) ∧ Below W.heap.size W W') := by
  refine law_of_tree hL 12 4 (u := .leaf (bT (((needW p).toList == (needW p).toList && needN p == needN p) && chkP p == chkP p))) (by kernel_rfl) ?_ h
  show bT _ = _
  simp [bT]

noncomputable def sameT (p : Prc) (l : Ses) (e : Int) : Tree AV :=
  .need (!((eqP p p) == true && true) || dec (fewS l)) (.leaf (bT ((eqP p p && sameAll l l) && e == e)))
theorem sameT_all {p : Prc} {l : Ses} {e : Int} (hl : fewS l) : (sameT p l e).All (fun z => z = .one (.c (.bool true))) := by
  refine ⟨by rw [dec_iff.2 hl, Bool.or_true], ?_⟩
  show bT _ = _
  rw [eqP_self, sameAll_refl]
  simp [bT]

theorem abtL_few {p : Prc} {l : Ses} (h : smallS l) : fewS (abtL p l) := by
  unfold abtL
  cases !(abtE p l == 0)
  · exact small_fewS h
  · exact ⟨by show fewN 0; unfold fewN; omega, fun i hi => by exact absurd hi (Nat.not_lt_zero i)⟩

theorem law6 (p : Prc) (l : Ses) {F : Nat → Prop} {W : World} {vs : List Value} (h : All2 (A1.Rel F W []) [p.cv, .c (.sl siSh l.n l.ρ)] vs) :
    Calls Try.prog 6 vs.toArray W (fun e W' => e = .returned (.bool true) ∧ Below W.heap.size W W') := by
  refine law_of_tree hL 12 6 (u := .br (!fewL l) (.leaf (bT true)) (.need (dec (smallS l)) (.need (dec (smallS l)) (sameT (abtP p l) (abtL p l) (abtE p l))))) (by kernel_rfl) ⟨fun _ => rfl, fun hf => ?_⟩ h
  have hf : fewL l = true := by simpa using hf
  have hs := fewL_small hf
  exact ⟨dec_iff.2 hs, dec_iff.2 hs, sameT_all (abtL_few hs)⟩

/-! ### the laws' arguments -/

theorem argL_eq (ρ : Val) : argOf Try.prog 22 [.sl siSh] ρ = .c (.sl siSh ((ρ.at 0).L []) (ρ.at 0)) := by kernel_rfl
theorem argI_eq (ρ : Val) : argOf Try.prog 3 [.int .i64] ρ = .c (I ((ρ.at 0).N [])) := by kernel_rfl
theorem argP_eq (ρ : Val) : argOf Try.prog 26 [.int .i64, .int .i64, .int .i64, .int .i64, .int .i64, .int .i64, .bool, .bool] ρ = (⟨(ρ.at 0).N [], (ρ.at 1).N [], (ρ.at 2).N [], (ρ.at 3).N [], (ρ.at 4).N [], (ρ.at 5).N [], (ρ.at 6).B [], (ρ.at 7).B []⟩ : Prc).cv := by kernel_rfl

end Go.Proofs.Ytbliboojdlkpfaa
