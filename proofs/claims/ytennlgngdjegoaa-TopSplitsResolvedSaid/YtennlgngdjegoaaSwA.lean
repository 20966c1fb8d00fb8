/-
  The planned change of the primary: procedures.
-/
import Derived.Test.YtennlgngdjegoaaRoB
import Derived.Test.YtennlgngdjegoaaEnE
namespace Go.Proofs.Ytennlgngdjegoaa
open Go Go.Sx Go.RowKit Classical

set_option maxRecDepth 100000

/-- a procedure -/
structure Prc where
  k : Int
  f : Int
  t : Int
  s : Int
  e : Int
  c : Int
  d : Bool
  x : Bool

def Prc.cv (p : Prc) : A1 := .agg [I p.k, I p.f, I p.t, I p.s, I p.e, I p.c, .bool p.d, .bool p.x]

def G37 : List A1 → Option AV
  | [.c (.int .i64 a)] => some (.one (.c (.bool (le 0 a && lt a 4))))
  | _ => none
def G38 : List A1 → Option AV
  | [.c (.int .i64 a)] => some (.one (.c (.bool (tim a))))
  | _ => none

theorem pSite : PcOne Try.prog 123 G37 := pcOne_of_ev h37 10 123 fun args r h => by
  unfold G37 at h; split at h
  · obtain rfl := Option.some.inj h
    exact ⟨rfl, by kernel_rfl, by kernel_rfl⟩
  · cases h
theorem pTime : PcOne Try.prog 124 G38 := pcOne_of_ev h37 10 124 fun args r h => by
  unfold G38 at h; split at h
  · obtain rfl := Option.some.inj h
    exact ⟨rfl, by kernel_rfl, by kernel_rfl⟩
  · cases h

noncomputable abbrev HA : Hd := ⟨(123, oG G37) :: (124, oG G38) :: H37.pc, H37.hc, [], H37.mc⟩
theorem hA : HdOk Try.prog HA := (h37.pcCons pTime).pcCons pSite

/-- is a procedure well-formed? -/
def fmd (p : Prc) : Bool := p.k == 1 && (le 0 p.f && lt p.f 4) && (le 0 p.t && lt p.t 4) && p.f != p.t && le 0 p.s && le p.s 5 && tim p.e && tim p.c && (p.d == (p.s == 5)) && !(p.x && lt 3 p.s)
def chkP (p : Prc) : Int := bif fmd p then 0 else 3

def GchkP : List A1 → Option AV
  | [.agg [.int .i64 k, .int .i64 f, .int .i64 t, .int .i64 s, .int .i64 e, .int .i64 c, .bool d, .bool x]] => some (.one (.c (I (chkP ⟨k, f, t, s, e, c, d, x⟩))))
  | _ => none

theorem all_chkP {p : Prc} {b : Bool} (h : b = !fmd p) : (Tree.br b (.leaf (AV.one (.c (I 3)))) (.leaf (.one (.c (I 0))))).All (fun z => z = .one (.c (I (chkP p)))) := by
  subst h
  unfold chkP
  exact ⟨fun h => by have h : fmd p = false := by simpa using h
                     rw [h]; rfl, fun h => by have h : fmd p = true := by simpa using h
                                              rw [h]; rfl⟩

theorem pCheck : PcOne Try.prog 94 GchkP := pcOne_of_tree hA 10 94 fun args r h => by
  unfold GchkP at h; split at h
  · rename_i k f t s e c d x
    obtain rfl := Option.some.inj h
    exact ⟨rfl, _, by kernel_rfl, all_chkP (p := ⟨k, f, t, s, e, c, d, x⟩) rfl⟩
  · cases h

theorem fmd_ref (k f t s e c : Int) (d x : Bool) : (!fmd ⟨k, f, t, s, e, c, d, x⟩) = ((k != 1 || lt f 0 || le 4 f || lt t 0 || le 4 t || f == t || lt s 0 || lt 5 s) || (lt e 0 || lt 1073741824 e || lt c 0 || lt 1073741824 c || (!(d == (s == 5))) || x && lt 3 s)) := by
  unfold fmd tim
  simp only [le_not, Bool.not_and, Bool.not_not, bne]
  rw [Bool.eq_iff_iff]
  simp only [Bool.or_eq_true, Bool.and_eq_true, Bool.not_eq_true']
  grind

/-! ### Need -/

def word (l : List UInt8) : CV := .str (ByteArray.mk l.toArray)
def wQ : ByteArray := ByteArray.mk #[113, 117, 105, 101, 115, 99, 101]
def wD : ByteArray := ByteArray.mk #[100, 114, 97, 105, 110]
def wG : ByteArray := ByteArray.mk #[103, 114, 97, 110, 116]
def wM : ByteArray := ByteArray.mk #[100, 101, 109, 111, 116, 101]
def wP : ByteArray := ByteArray.mk #[112, 114, 111, 109, 111, 116, 101]
def wE : ByteArray := ByteArray.mk #[100, 111, 110, 101]
def wF : ByteArray := ByteArray.mk #[102, 97, 105, 108, 101, 100]
def wN : ByteArray := ByteArray.mk #[]

def needW (p : Prc) : ByteArray := bif chkP p != 0 then wN else bif p.x then wF else bif p.s == 0 then wQ else bif p.s == 1 then wD else bif p.s == 2 then wG else bif p.s == 3 then wM else bif p.s == 4 then wP else wE
def needN (p : Prc) : Int := bif chkP p != 0 then -1 else bif p.x then -1 else bif p.s == 0 then p.f else bif p.s == 1 then p.t else bif p.s == 2 then p.t else bif p.s == 3 then p.f else bif p.s == 4 then p.t else -1

def Gneed : List A1 → Option AV
  | [.agg [.int .i64 k, .int .i64 f, .int .i64 t, .int .i64 s, .int .i64 e, .int .i64 c, .bool d, .bool x]] => some (.tup [.c (.str (needW ⟨k, f, t, s, e, c, d, x⟩)), .c (I (needN ⟨k, f, t, s, e, c, d, x⟩))])
  | _ => none

noncomputable abbrev HP : Hd := ⟨[(94, oG GchkP)], [], [], []⟩
theorem hP : HdOk Try.prog HP := (HdOk.nil).pcCons pCheck

def two2 (w : ByteArray) (n : Int) : AV := .tup [.c (.str w), .c (I n)]

theorem fmd_step {p : Prc} (h : fmd p = true) : p.s = 0 ∨ p.s = 1 ∨ p.s = 2 ∨ p.s = 3 ∨ p.s = 4 ∨ p.s = 5 := by
  unfold fmd at h
  simp only [Bool.and_eq_true, le_iff] at h
  omega

theorem fmd_of {p : Prc} (h : (chkP p != 0) = false) : fmd p = true := by
  unfold chkP at h
  cases hf : fmd p
  · rw [hf] at h; cases h
  · rfl

end Go.Proofs.Ytennlgngdjegoaa
/-
  The planned change of the primary: a site that is looked for by its number.
-/
namespace Go.Proofs.Ytennlgngdjegoaa
open Go Go.Sx Go.RowKit Classical

set_option maxRecDepth 100000

/-- a site with a number -/
def fndN (l : Ses) (x : Int) (i : Nat) : Bool := (l.at i).a == x

structure CF where
  T : TypeId
  l : Ses
  m : Int
  x : Int

def SF (c : CF) (v : VI) : St := mkS 19 [(0, .one (.c (.os 0 8))), (1, .one (.c (.fn (.func 122) [] [.ptr 1 0]))), (4, .one (.c (I v.r))), (7, .one (.c (I c.m))), (8, .one (.c (I v.i)))] [some (c.T, [.row true siSh c.l.n c.l.ρ]), some (3, [I c.x])]

theorem tF (c : CF) (v : VI) : ((evCode Try.prog HA (evFn Try.prog HA 10) 121 2 1 (loopBody Try.prog 121 0) (SF c v)).bind fun y => gcT [0, 1, 4, 7, 8] 2 y) = (TXi c.m c.l.n (fndN c.l c.x) v).bind fun y => .leaf (y.1, SF c y.2) := by kernel_rfl

def getF : List (Nat × AV) → Mem → Option (CF × VI)
  | [(0, .one (.c (.os 0 8))), (1, .one (.c (.fn (.func 122) [] [.ptr 1 0]))), (4, .one (.c (.int .i64 r))), (7, .one (.c (.int .i64 m))), (8, .one (.c (.int .i64 i)))],
    [some (T, [.row true [.int .i64, .int .i64, .int .i64, .int .i64, .sl [.int .i64, .int .i64, .int .i64], .int .i64, .bool, .bool] n ρ]), some (3, [.int .i64 x])] => some (⟨T, ⟨n, ρ⟩, m, x⟩, ⟨r, i⟩)
  | _, _ => none

def goodF (c : CF) : Prop := c.m = toInt64 c.l.n ∧ fewN c.l.n
noncomputable def LF : Nat → St → Tree (XE × St) := lqH [0, 1, 4, 7, 8] 2 19 getF fun c v => lqT (SF c) (goodF c ∧ v = stI 0) (anyB (fndN c.l c.x) c.l.n) .ret (.exit 0) (sbI (firstB (fndN c.l c.x) c.l.n)) (stI c.l.n)

theorem lF (fn : Func) (c b : Code) (hf : Try.prog.funcs[121]? = some fn) (hc : fn.body = some c) (hb : nthLoop c 0 = some b) : LoopOk Try.prog b LF :=
  lq_ok hA 10 121 0 hf hc hb [0, 1, 4, 7, 8] 2 19 SF (fun c => TXi c.m c.l.n (fndN c.l c.x)) tF getF
    (fun l m c v h => by unfold getF at h; split at h <;> simp at h; obtain ⟨rfl, rfl⟩ := h; rfl)
    goodF (fun c => μI c.l.n) (fun _ => stI) (fun _ => sbI) (fun c => c.l.n) (fun c => fndN c.l c.x) .ret (.exit 0)
    (fun c hg => sqI (fndN c.l c.x) hg.1 hg.2) (fun c => sbI (firstB (fndN c.l c.x) c.l.n)) (fun c => stI c.l.n) (fun _ _ _ => StWk.refl) (fun _ _ _ => StWk.refl)

noncomputable abbrev HF : Hd := ⟨pF 91 :: HA.pc, HA.hc, [((121, 0), LF)], HA.mc⟩
theorem hF : HdOk Try.prog HF := (HdOk.lhCons hA lF).pF 91

/-- find: a pointer to the site, or a panic -/
def noneC : CV := .iface 179 (I 7)
noncomputable def Gfind : List A1 → List A1 → Tree Out
  | [.c (.os b 8), .c (.int .i64 x)], [.c (.sl [.int .i64, .int .i64, .int .i64, .int .i64, .sl [.int .i64, .int .i64, .int .i64], .int .i64, .bool, .bool] n ρ), _] =>
    .need (dec (fewN n)) (.br (anyB (fndN ⟨n, ρ⟩ x) n) (.leaf (.ret (.one (.c (.rowp b 8 (firstB (fndN ⟨n, ρ⟩ x) n) 0))))) (.leaf (.pan noneC)))
  | _, _ => .fail

theorem findT (T : TypeId) (n : Nat) (ρ : Val) (x : Int) : evFnP Try.prog HF ⟨[], [], []⟩ 10 90 [.c (.os 0 8), .c (I x)] [some (T, [.row true siSh n ρ])] =
    .need (dec (goodF ⟨T, ⟨n, ρ⟩, toInt64 n, x⟩ ∧ (⟨0, 0⟩ : VI) = stI 0)) (.br (anyB (fndN ⟨n, ρ⟩ x) n)
      (.br (!le 0 ((firstB (fndN ⟨n, ρ⟩ x) n : Nat) : Int)) (.leaf (.pan noneC, [some (T, [.row true siSh n ρ]), some (3, [I x])]))
        (.need (inRange ((firstB (fndN ⟨n, ρ⟩ x) n : Nat) : Int) n) (.leaf (.ret (.one (.c (.rowp 0 8 (firstB (fndN ⟨n, ρ⟩ x) n) 0))), [some (T, [.row true siSh n ρ]), some (3, [I x])]))))
      (.br true (.leaf (.pan noneC, [some (T, [.row true siSh n ρ]), some (3, [I x])])) (.need (inRange (-1) n) (.leaf (.ret (.one (.c (.rowp 0 8 0 0))), [some (T, [.row true siSh n ρ]), some (3, [I x])]))))) := by kernel_rfl

theorem rFind : RxOne Try.prog 90 Gfind := by
  intro args mem r hcl hs F w bs vs hm hargs
  unfold Gfind at hs
  split at hs
  · rename_i b x n ρ y he
    simp only [List.map_cons, List.map_nil, List.cons.injEq, and_true] at he
    obtain ⟨h1, _⟩ := he
    simp only [view1, A1.c.injEq] at h1
    unfold viewC at h1
    split at h1
    · rename_i b' sz' e
      cases e
      split at h1
      · rename_i T fz es m σ hrow
        split at h1
        · rename_i hes
          simp only [CV.sl.injEq] at h1
          obtain ⟨rfl, rfl, rfl⟩ := h1
          have hb : nth mem b = some (some (T, [.row fz siSh m σ])) := Sx.rowAt_some hrow
          cases hargs with
          | cons ha hr =>
            simp only [Tree.sel] at hs
            cases hf : dec (fewN m)
            · rw [hf] at hs; simp at hs
            rw [hf] at hs
            simp only [cond_true] at hs
            have hgd : dec (goodF ⟨T, ⟨m, σ⟩, toInt64 m, x⟩ ∧ (⟨0, 0⟩ : VI) = stI 0) = true := dec_iff.2 ⟨⟨rfl, dec_iff.1 hf⟩, rfl⟩
            have hT := findT T m σ x
            cases hany : anyB (fndN ⟨m, σ⟩ x) m
            · rw [hany] at hs
              simp only [cond_false, Option.some.injEq] at hs
              subst hs
              have hsel : (evFnP Try.prog HF ⟨[], [], []⟩ 10 90 [.c (.os 0 8), .c (I x)] [some (T, [.row true siSh m σ])]).sel = some (.pan noneC, [some (T, [.row true siSh m σ]), some (3, [I x])]) := by
                rw [hT]; simp only [Tree.sel, hgd, hany, cond_true, cond_false]
              refine (rx_calls hF XOk.nil 10 90 hm hb (rest := [.c (I x)]) rfl ha hr hsel).mono fun e w' ⟨h1, F', bs', y, _, _, _, v, h3, h4⟩ => ⟨h1, v, h3, ?_⟩
              cases h4 with
              | iface h => cases h; exact .iface (.int _ _)
            · rw [hany] at hs
              simp only [cond_true, Option.some.injEq] at hs
              subst hs
              obtain ⟨hlt, _, _⟩ := firstB_ok hany
              have hle : le 0 ((firstB (fndN ⟨m, σ⟩ x) m : Nat) : Int) = true := (le_iff _ _).2 (by omega)
              have hsel : (evFnP Try.prog HF ⟨[], [], []⟩ 10 90 [.c (.os 0 8), .c (I x)] [some (T, [.row true siSh m σ])]).sel = some (.ret (.one (.c (.rowp 0 8 (firstB (fndN ⟨m, σ⟩ x) m) 0))), [some (T, [.row true siSh m σ]), some (3, [I x])]) := by
                rw [hT]; simp only [Tree.sel, hgd, hany, hle, inR hlt, cond_true, Bool.not_true, cond_false]
              refine (rx_calls hF XOk.nil 10 90 hm hb (rest := [.c (I x)]) rfl ha hr hsel).mono fun e w' ⟨h1, F', bs', y, h2, h2n, h3, v, h4, h5⟩ => ⟨h1, v, h4, ?_⟩
              have h5 : CV.Rel F' w' bs' (.rowp 0 8 (firstB (fndN ⟨m, σ⟩ x) m) 0) v := h5
              cases h5 with
              | rowp h6 hi =>
                rw [h3] at h6
                cases h6
                exact CV.Rel.rowp h2 hi
        · cases h1
      · cases h1
    · rename_i hno
      exact (hno _ _ rfl).elim
  · simp [Tree.sel] at hs

end Go.Proofs.Ytennlgngdjegoaa
/-
  The planned change of the primary: a copy of sites that are in order.
-/
namespace Go.Proofs.Ytennlgngdjegoaa
open Go Go.Sx Go.RowKit Classical

set_option maxRecDepth 100000

theorem nSites : NcOne Try.prog 120 (cloneG 32 siSh 8 72) := clone_nc Try.func120 rfl rfl rfl rfl rfl rfl rfl rfl (by kernel_rfl) rfl (fun n ρ => by kernel_rfl)
  (fun n ρ => stC siSh n ρ true) (fun n ρ => mkS 8 [(0, .one (.c (.sl siSh n ρ))), (2, .one (.c (.os 1 8))), (3, .one (.c (.sl siSh n ρ))), (4, .one (.c (.bool false))), (5, .one (.c (.os 0 8))), (6, .one (.c (.sl siSh n ρ))), (7, .one (.c (.os 1 8)))] [none, some (32, [.row false siSh (0 + n) (Val.cat 0 (Val.ofFlat 8 []) ρ)])])
  (fun n ρ => by kernel_rfl) (fun n ρ => by kernel_rfl) (fun n ρ => rfl) (fun n ρ => by kernel_rfl) (fun n ρ => by kernel_rfl) (fun n ρ => rfl)

noncomputable abbrev HC : Hd := ⟨HA.pc, HA.hc, [], (120, ncG (cloneG 32 siSh 8 72)) :: HA.mc⟩
theorem hC : HdOk Try.prog HC := hA.mcCons nSites.mc

/-! ### data that read the same -/

theorem at_upd (ρ : Val) (i f : Nat) (x : CV) (k g : Nat) : ((ρ.upd i f x).at k).at g = if k = i ∧ g = f then .ofC x else (ρ.at k).at g := by
  have e : ((ρ.upd i f x).at k).at g = (pickV (Nat.beq k i) (.byFst fun g => pickV (Nat.beq g f) (.ofC x) ((ρ.at k).at g)) (ρ.at k)).at g := rfl
  rw [e]
  by_cases hk : k = i
  · subst hk
    rw [Nat.beq_refl]
    have e2 : (pickV true (.byFst fun g => pickV (Nat.beq g f) (.ofC x) ((ρ.at k).at g)) (ρ.at k)).at g = pickV (Nat.beq g f) (.ofC x) ((ρ.at k).at g) := rfl
    rw [e2]
    by_cases hg : g = f
    · subst hg
      rw [Nat.beq_refl, if_pos ⟨rfl, rfl⟩]; rfl
    · rw [if_neg (fun h => hg h.2)]
      have : Nat.beq g f = false := by
        cases h : Nat.beq g f
        · rfl
        · exact (hg (Nat.eq_of_beq_eq_true h)).elim
      rw [this]; rfl
  · rw [if_neg (fun h => hk h.1)]
    have : Nat.beq k i = false := by
      cases h : Nat.beq k i
      · rfl
      · exact (hk (Nat.eq_of_beq_eq_true h)).elim
    rw [this]; rfl

/-- two rows read the same -/
def sameV (es : List Sh) (n : Nat) (ρ σ : Val) : Prop := ∀ i f s, i < n → nth es f = some s → cellOf s ((ρ.at i).at f) = cellOf s ((σ.at i).at f)

theorem cellOf_ofSl {es : List Sh} (v : Val) : cellOf (.sl es) (.ofC (.sl es (v.L []) v)) = cellOf (.sl es) v := by
  have e : Val.ofC (.sl es (v.L []) v) = v := by
    obtain ⟨B, N, S, L⟩ := v
    show (⟨B, N, S, _⟩ : Val) = ⟨B, N, S, L⟩
    congr 1
    funext p
    cases p <;> rfl
  rw [e]

theorem sameV_upd {n : Nat} {ρ σ : Val} (h : sameV siSh n ρ σ) (j : Nat) : sameV siSh n (ρ.upds j 4 [.sl spSh (((ρ.at j).at 4).L []) ((ρ.at j).at 4)]) σ := by
  intro i f s hi hf
  rw [← h i f s hi hf]
  show cellOf s (((ρ.upd j 4 _).at i).at f) = _
  rw [at_upd]
  split
  · rename_i hh
    obtain ⟨rfl, rfl⟩ := hh
    simp only [nth, Option.some.injEq] at hf
    subst hf
    exact cellOf_ofSl _
  · rfl

theorem sameV_at {n : Nat} {ρ σ : Val} (h : sameV siSh n ρ σ) {i : Nat} (hi : i < n) : ((ρ.at i).at 4).L [] = ((σ.at i).at 4).L [] := by
  have := h i 4 (.sl spSh) hi rfl
  simp only [cellOf, CV.sl.injEq] at this
  exact this.2.1

/-! ### the loop that copies the lineages -/

structure CK where
  l : Ses
  m : Int
structure VK where
  ρ : Val
  i : Int

def SK (c : CK) (v : VK) : St := mkS 33 [(5, .one (.c (.os 0 8))), (17, .one (.c (I c.m))), (18, .one (.c (I v.i)))] [some (32, [.row false siSh c.l.n v.ρ])]
def up4 (ρ : Val) (i : Nat) : Val := ρ.upds i 4 [.sl spSh (((ρ.at i).at 4).L []) ((ρ.at i).at 4)]
def TXK (c : CK) (v : VK) : Tree (XE × VK) :=
  .br (lt v.i c.m) (.need (inRange v.i c.l.n) (.need (Nat.ble ((0 + ((v.ρ.at v.i.toNat).at 4).L []) * 24) 140737488355328) (.need (inRange v.i c.l.n) (.leaf (.normal, ⟨up4 v.ρ v.i.toNat, IntKind.i64.wrap (v.i + 1)⟩))))) (.leaf (.exit 0, v))
theorem tK (c : CK) (v : VK) : ((evCode Try.prog HC (evFn Try.prog HC 10) 89 0 1 (loopBody Try.prog 89 0) (SK c v)).bind fun y => gcT [5, 17, 18] 0 y) = (TXK c v).bind fun y => .leaf (y.1, SK c y.2) := by kernel_rfl

def ups (ρ : Val) : Nat → Val
  | 0 => ρ
  | i + 1 => up4 (ups ρ i) i
theorem ups_same (ρ : Val) (n : Nat) : ∀ i, sameV siSh n (ups ρ i) ρ
  | 0 => fun _ _ _ _ _ => rfl
  | i + 1 => sameV_upd (ups_same ρ n i) i

def stK (c : CK) (i : Nat) : VK := ⟨ups c.l.ρ i, i⟩
/-- few sites of few spans -/
def smallS (l : Ses) : Prop := fewN l.n ∧ ∀ i, i < l.n → small (l.at i).n
def goodK (c : CK) : Prop := c.m = toInt64 c.l.n ∧ smallS c.l

theorem sqK (c : CK) (h : goodK c) : Sq (TXK c) (fun v => (c.l.n - v.i).toNat) (stK c) (stK c) c.l.n (fun _ => false) .ret (.exit 0) where
  out := by simp
  hit := by simp
  meas i hi := by show ((c.l.n : Int) - (i : Int)).toNat = _; omega
  round i hi := by
    obtain ⟨hm, hn, hs⟩ := h
    have hsi := hs i hi
    unfold fewN at hn
    have hw : IntKind.i64.wrap ((i : Int) + 1) = ((i + 1 : Nat) : Int) := by rw [w64_id (by omega) (by omega)]; omega
    refine ⟨fun _ => ⟨inR hi, ?_, inR hi, ?_⟩, fun hlt => ?_⟩
    · show Nat.ble ((0 + (((ups c.l.ρ i).at i).at 4).L []) * 24) 140737488355328 = true
      rw [sameV_at (ups_same c.l.ρ c.l.n i) hi]
      exact small_ble hsi
    · show (XE.normal, (⟨up4 (ups c.l.ρ i) i, IntKind.i64.wrap ((i : Int) + 1)⟩ : VK)) = (.normal, stK c (i + 1))
      rw [hw]; rfl
    · have : lt (i : Int) c.m = false := hlt
      rw [hm, ltF hi] at this; cases this
  stop := by
    refine ⟨fun hlt => ?_, fun _ => rfl⟩
    have : lt (c.l.n : Int) c.m = true := hlt
    rw [h.1, ltS] at this; cases this

def getK : List (Nat × AV) → Mem → Option (CK × VK)
  | [(5, .one (.c (.os 0 8))), (17, .one (.c (.int .i64 m))), (18, .one (.c (.int .i64 i)))], [some (32, [.row false [.int .i64, .int .i64, .int .i64, .int .i64, .sl [.int .i64, .int .i64, .int .i64], .int .i64, .bool, .bool] n ρ])] => some (⟨⟨n, ρ⟩, m⟩, ⟨ρ, i⟩)
  | _, _ => none

noncomputable def LK : Nat → St → Tree (XE × St) := lqH [5, 17, 18] 0 33 getK fun c v => lq1 (SK c) (goodK c ∧ v = stK c 0) (.exit 0) ⟨c.l.ρ, c.l.n⟩

theorem lK (fn : Func) (c b : Code) (hf : Try.prog.funcs[89]? = some fn) (hc : fn.body = some c) (hb : nthLoop c 0 = some b) : LoopOk Try.prog b LK :=
  lq1_ok hC 10 89 0 hf hc hb [5, 17, 18] 0 33 SK TXK tK getK (fun l m c v h => by unfold getK at h; split at h <;> simp at h; obtain ⟨rfl, rfl⟩ := h; rfl)
    goodK (fun c v => (c.l.n - v.i).toNat) stK (fun c => c.l.n) (.exit 0) sqK (fun c => ⟨c.l.ρ, c.l.n⟩)
    (fun c _ => StWk.row (tmps := mkL [(5, .one (.c (.os 0 8))), (17, .one (.c (I c.m))), (18, .one (.c (I c.l.n)))] 33 0) (b := 0) rfl (ups_same c.l.ρ c.l.n c.l.n))

theorem small_fewS {l : Ses} (h : smallS l) : fewS l := ⟨h.1, fun i hi => dec_iff.1 (small_few (h.2 i hi))⟩

noncomputable abbrev HK2 : Hd := ⟨pF 93 :: pF 91 :: HC.pc, HC.hc, [((89, 0), LK)], HC.mc⟩
theorem hK2 : HdOk Try.prog HK2 := ((HdOk.lhCons hC lK).pF 91).pF 93

/-! ### checked -/

/-- the panic of an error -/
def pnC (e : Int) : CV := .iface 179 (I e)

noncomputable def Gcked : List A1 → Tree (Out × Mem)
  | [.c (.sl [.int .i64, .int .i64, .int .i64, .int .i64, .sl [.int .i64, .int .i64, .int .i64], .int .i64, .bool, .bool] n ρ)] =>
    .need (dec (smallS ⟨n, ρ⟩)) (.br (ckE ⟨n, ρ⟩ == 0) (.leaf (.ret (.one (.c (.os 0 8))), [some (32, [.row false siSh n ρ])])) (.leaf (.pan (pnC (ckE ⟨n, ρ⟩)), [])))
  | _ => .fail

theorem ck_four {l : Ses} (h : (ckE l == 0) = true) : l.n ≤ 4 := by
  unfold ckE at h
  cases h4 : lt 4 (toInt64 l.n)
  · have h4 : ¬ lt 4 (toInt64 l.n) = true := by rw [h4]; simp
    rw [lt_iff] at h4
    have : ¬ (4 : Int) < (l.n : Int) := h4
    omega
  · rw [h4] at h; cases h

theorem ncCked : NcPOne Try.prog 89 Gcked := ncPOne_of_tree hK2 XOk.nil 10 89 fun args r m h => by
  unfold Gcked at h; split at h
  · rename_i n ρ
    simp only [Tree.sel] at h
    cases hs : dec (smallS ⟨n, ρ⟩)
    · rw [hs] at h; simp at h
    rw [hs] at h
    simp only [cond_true] at h
    have hsm := dec_iff.1 hs
    refine ⟨.need (dec (fewS ⟨n, ρ⟩)) (.br (!(ckE ⟨n, ρ⟩ == 0)) (.leaf (.pan (pnC (ckE ⟨n, ρ⟩)), [])) (.need (Nat.ble ((0 + n) * 72) 140737488355328) (.need (dec (goodK ⟨⟨n, ρ⟩, toInt64 n⟩ ∧ (⟨ρ, 0⟩ : VK) = stK ⟨⟨n, ρ⟩, toInt64 n⟩ 0)) (.leaf (.ret (.one (.c (.os 0 8))), [some (32, [.row false siSh n ρ])]))))), by kernel_rfl, dec_iff.2 (small_fewS hsm), fun h1 => ?_, fun h1 => ⟨?_, dec_iff.2 ⟨⟨rfl, hsm⟩, rfl⟩, ?_⟩⟩
    · have h1 : (ckE ⟨n, ρ⟩ == 0) = false := by simpa using h1
      rw [h1] at h
      simp only [cond_false, Option.some.injEq, Prod.mk.injEq] at h
      obtain ⟨rfl, rfl⟩ := h
      exact WkO.refl
    · have h1 : (ckE ⟨n, ρ⟩ == 0) = true := by simpa using h1
      have := ck_four h1
      exact Nat.ble_eq_true_of_le (by simp only at this; omega)
    · have h1 : (ckE ⟨n, ρ⟩ == 0) = true := by simpa using h1
      rw [h1] at h
      simp only [cond_true, Option.some.injEq, Prod.mk.injEq] at h
      obtain ⟨rfl, rfl⟩ := h
      exact WkO.refl
  · simp [Tree.sel] at h

/-- what the program's functions that may panic stand on -/
noncomputable abbrev XS : HdP := ⟨[(89, ncPG Gcked)], [(90, Gfind)], []⟩
theorem xS : XOk Try.prog XS := (XOk.nil.rxCons rFind).pxCons ncCked.px

end Go.Proofs.Ytennlgngdjegoaa
/-
  The planned change of the primary: Begin.
-/
namespace Go.Proofs.Ytennlgngdjegoaa
open Go Go.Sx Go.RowKit Classical

set_option maxRecDepth 100000

/-- … with the keys of the functions that may panic -/
noncomputable abbrev HB : Hd := ⟨pF 88 :: pF 89 :: pF 91 :: pF 93 :: (94, oG GchkP) :: HA.pc, HA.hc, [], HA.mc⟩
theorem hB : HdOk Try.prog HB := (((((hA).pcCons pCheck).pF 93).pF 91).pF 89).pF 88

def hasN (l : Ses) (k : Int) : Bool := anyB (fndN l k) l.n
def idxN (l : Ses) (k : Int) : Nat := firstB (fndN l k) l.n
/-- the site with a number -/
def Ses.by (l : Ses) (k : Int) : Sit := l.at (idxN l k)

def p0 : Prc := ⟨0, 0, 0, 0, 0, 0, false, false⟩
def ok18 (l : Ses) (f t : Int) : Bool := ((l.by f).r == 1 && (l.by t).r == 2) && (l.by t).s == f
def ok12 (l : Ses) (f t : Int) : Bool := ((l.by f).l && (l.by t).l) && (l.by t).c
/-- the error of Begin -/
def begE (l : Ses) (f t : Int) : Int := bif !(ckE l == 0) then ckE l else bif !(hasN l f && hasN l t) then 7 else bif f == t then 1 else bif !ok18 l f t then 18 else bif !ok12 l f t then 12 else 0
def begP (l : Ses) (f t : Int) : Prc := bif begE l f t == 0 then ⟨1, f, t, 0, 0, (l.by f).p, false, false⟩ else p0

def prE (p : Prc) (e : Int) : AV := .tup [p.cv, .c (I e)]
/-- a panic that is recovered -/
def erT (k : Int) : Tree AV := .br true (.br false .fail (.leaf (prE p0 k))) (.leaf (prE p0 0))
theorem erT_sel (k : Int) : (erT k).sel = some (prE p0 k) := rfl

noncomputable def Gbeg : List A1 → Option (Bool × AV)
  | [.c (.sl [.int .i64, .int .i64, .int .i64, .int .i64, .sl [.int .i64, .int .i64, .int .i64], .int .i64, .bool, .bool] n ρ), .c (.int .i64 f), .c (.int .i64 t)] => some (dec (smallS ⟨n, ρ⟩), prE (begP ⟨n, ρ⟩ f t) (begE ⟨n, ρ⟩ f t))
  | _ => none

theorem all_sel_le {r : AV} {t : Tree AV} (h : t.sel = some r) : t.All (fun z => leA z r) := All.imp (fun _ h => h ▸ leA.refl) (all_of_sel h)

theorem fewN_dec {l : Ses} (h : smallS l) : dec (fewN l.n) = true := dec_iff.2 h.1

theorem uBegin : UcOne Try.prog 53 (nG Gbeg) := ucOneP_of_tree hB xS 10 53 fun args r h => by
  unfold Gbeg at h; split at h
  · rename_i n ρ f t
    obtain ⟨hp, rfl⟩ := Prod.mk.inj (Option.some.inj h)
    let l : Ses := ⟨n, ρ⟩
    refine ⟨.need (dec (smallS l)) (.br (ckE l == 0) (.need (dec (fewN n)) (.br (hasN l f) (.need (dec (fewN n)) (.br (hasN l t) (.br (!(f != t)) (erT 1) (.br (!ok18 l f t) (erT 18) (.br (!ok12 l f t) (erT 12) (.br false .fail (.leaf (prE ⟨1, f, t, 0, 0, (l.by f).p, false, false⟩ 0))))))
      (erT 7))) (erT 7))) (erT (ckE l))), by kernel_rfl, all_sel_le ?_⟩
    have hp : dec (smallS l) = true := hp
    have hf : dec (fewN n) = true := fewN_dec (dec_iff.1 hp)
    simp only [Tree.sel, hp, hf, erT_sel, cond_true, cond_false]
    show _ = some (prE (begP l f t) (begE l f t))
    unfold begP begE
    cases h1 : ckE l == 0
    · simp only [cond_false, Bool.not_false, cond_true, h1]
    · simp only [cond_true, Bool.not_true, cond_false]
      cases h2 : hasN l f
      · rfl
      · cases h3 : hasN l t
        · rfl
        · simp only [bne, Bool.not_not, Bool.and_self, Bool.not_true, cond_true, cond_false]
          cases h4 : f == t
          · cases h5 : ok18 l f t
            · rfl
            · cases h6 : ok12 l f t <;> rfl
          · rfl
  · cases h

end Go.Proofs.Ytennlgngdjegoaa
/-
  The planned change of the primary: Find, SameAll and Few of the references.
-/
namespace Go.Proofs.Ytennlgngdjegoaa
open Go Go.Sx Go.RowKit Classical

set_option maxRecDepth 100000

/-! ### Find -/

structure C36f where
  l : Ses
  k : Int
def S36f (c : C36f) (v : VI) : St := mkS 20 [(0, .one (.c (.sl siSh c.l.n c.l.ρ))), (1, .one (.c (I c.k))), (4, .one (.c (I v.r))), (5, .one (.c (I v.i)))] []
def get36f : List (Nat × AV) → Mem → Option (C36f × VI)
  | [(0, .one (.c (.sl [.int .i64, .int .i64, .int .i64, .int .i64, .sl [.int .i64, .int .i64, .int .i64], .int .i64, .bool, .bool] n ρ))), (1, .one (.c (.int .i64 k))), (4, .one (.c (.int .i64 r))), (5, .one (.c (.int .i64 i)))], [] => some (⟨⟨n, ρ⟩, k⟩, ⟨r, i⟩)
  | _, _ => none
noncomputable def L36f : Nat → St → Tree (XE × St) := lqH [0, 1, 4, 5] 0 20 get36f fun c v => lqT (S36f c) (fewN c.l.n ∧ v = stI 0) (anyB (fndN c.l c.k) c.l.n) .ret (.exit 0) (sbI (firstB (fndN c.l c.k) c.l.n)) (stI c.l.n)
/-- the place of the site with a number, or -1 -/
def findI (l : Ses) (k : Int) : Int := bif hasN l k then (idxN l k : Nat) else -1
noncomputable def Gfnd : List A1 → Option (Bool × AV)
  | [.c (.sl [.int .i64, .int .i64, .int .i64, .int .i64, .sl [.int .i64, .int .i64, .int .i64], .int .i64, .bool, .bool] n ρ), .c (.int .i64 k)] => some (dec (fewN n), .one (.c (I (findI ⟨n, ρ⟩ k))))
  | _ => none

noncomputable abbrev H36f : Hd := ⟨HA.pc, HA.hc, [], HA.mc⟩
theorem h36f : HdOk Try.prog H36f := hA

/-! ### SameAll -/

def sameS (x y : Sit) : Bool := ((((((x.a == y.a && x.r == y.r) && x.e == y.e) && x.p == y.p) && eqL ⟨⟨x.n, x.ρ⟩, ⟨y.n, y.ρ⟩⟩) && x.s == y.s) && x.l == y.l) && x.c == y.c
structure C21 where
  l : Ses
  j : Ses
def S21 (c : C21) (v : Int) : St := mkS 27 [(0, .one (.c (.sl siSh c.l.n c.l.ρ))), (1, .one (.c (.sl siSh c.j.n c.j.ρ))), (4, .one (.c (.bool false))), (5, .one (.c (I v)))] []
noncomputable def TX21 (c : C21) (v : Int) : Tree (XE × Int) :=
  .br (lt v (toInt64 c.l.n)) (.need (inRange v c.l.n) (.need (inRange v c.j.n) (.need (dec (fewN (c.l.at v.toNat).n)) (.br (!sameS (c.l.at v.toNat) (c.j.at v.toNat)) (.leaf (.ret, v)) (.leaf (.normal, IntKind.i64.wrap (v + 1))))))) (.leaf (.exit 0, v))
theorem t21 (c : C21) (v : Int) : ((evCode Try.prog HA (evFn Try.prog HA 10) 30 0 1 (loopBody Try.prog 30 0) (S21 c v)).bind fun y => gcT [0, 1, 4, 5] 0 y) = (TX21 c v).bind fun y => .leaf (y.1, S21 c y.2) := by kernel_rfl
def difS (l j : Ses) (i : Nat) : Bool := !sameS (l.at i) (j.at i)
def good21 (c : C21) : Prop := fewS c.l ∧ c.l.n = c.j.n
theorem sq21 (c : C21) (h : good21 c) : Sq (TX21 c) (fun v => (c.l.n - v).toNat) (fun i => (i : Int)) (fun i => (i : Int)) c.l.n (difS c.l c.j) .ret (.exit 0) where
  out := by simp
  hit := by simp
  meas i hi := by show ((c.l.n : Int) - (i : Int)).toNat = _; omega
  round i hi := by
    obtain ⟨⟨hn, hs⟩, hj⟩ := h
    have hsi := hs i hi
    unfold fewN at hn
    have hw : IntKind.i64.wrap ((i : Int) + 1) = ((i + 1 : Nat) : Int) := by rw [w64_id (by omega) (by omega)]; omega
    refine ⟨fun _ => ⟨inR hi, inR (hj ▸ hi), dec_iff.2 hsi, fun hb => ?_, fun hb => ?_⟩, fun hlt => ?_⟩
    · have : difS c.l c.j i = true := hb
      simp only [Tree.All, this, if_true]
    · have : difS c.l c.j i = false := hb
      simp only [Tree.All, this, Bool.false_eq_true, if_false]
      rw [hw]
    · rw [ltF hi] at hlt; cases hlt
  stop := by
    refine ⟨fun hlt => ?_, fun _ => rfl⟩
    rw [ltS] at hlt; cases hlt
def get21 : List (Nat × AV) → Mem → Option (C21 × Int)
  | [(0, .one (.c (.sl [.int .i64, .int .i64, .int .i64, .int .i64, .sl [.int .i64, .int .i64, .int .i64], .int .i64, .bool, .bool] n ρ))), (1, .one (.c (.sl [.int .i64, .int .i64, .int .i64, .int .i64, .sl [.int .i64, .int .i64, .int .i64], .int .i64, .bool, .bool] m σ))), (4, .one (.c (.bool false))), (5, .one (.c (.int .i64 i)))], [] => some (⟨⟨n, ρ⟩, ⟨m, σ⟩⟩, i)
  | _, _ => none
noncomputable def L21 : Nat → St → Tree (XE × St) := lqH [0, 1, 4, 5] 0 27 get21 fun c v => lqT (S21 c) (good21 c ∧ v = ((0 : Nat) : Int)) (anyB (difS c.l c.j) c.l.n) .ret (.exit 0) (firstB (difS c.l c.j) c.l.n : Nat) (c.l.n : Int)
theorem l21 (fn : Func) (c b : Code) (hf : Try.prog.funcs[30]? = some fn) (hc : fn.body = some c) (hb : nthLoop c 0 = some b) : LoopOk Try.prog b L21 :=
  lq_ok hA 10 30 0 hf hc hb [0, 1, 4, 5] 0 27 S21 TX21 t21 get21
    (fun l m c v h => by unfold get21 at h; split at h <;> simp at h; obtain ⟨rfl, rfl⟩ := h; rfl)
    good21 (fun c v => (c.l.n - v).toNat) (fun _ i => (i : Int)) (fun _ i => (i : Int)) (fun c => c.l.n) (fun c => difS c.l c.j) .ret (.exit 0)
    sq21 (fun c => (firstB (difS c.l c.j) c.l.n : Nat)) (fun c => (c.l.n : Int)) (fun _ _ _ => StWk.refl) (fun _ _ _ => StWk.refl)
noncomputable abbrev H21 : Hd := ⟨HA.pc, HA.hc, [((30, 0), L21)], HA.mc⟩
theorem h21 : HdOk Try.prog H21 := HdOk.lhCons hA l21

/-- are two lists of sites the same? -/
def sameAll (l j : Ses) : Bool := bif l.n == j.n then !anyB (difS l j) l.n else false
noncomputable def Gsame : List A1 → Option (Bool × AV)
  | [.c (.sl [.int .i64, .int .i64, .int .i64, .int .i64, .sl [.int .i64, .int .i64, .int .i64], .int .i64, .bool, .bool] n ρ), .c (.sl [.int .i64, .int .i64, .int .i64, .int .i64, .sl [.int .i64, .int .i64, .int .i64], .int .i64, .bool, .bool] m σ)] => some (dec (fewS ⟨n, ρ⟩), .one (.c (.bool (sameAll ⟨n, ρ⟩ ⟨m, σ⟩))))
  | _ => none

theorem pSame : TcOne Try.prog 30 (nG Gsame) := tcOne_of_tree h21 10 30 fun args r h => by
  unfold Gsame at h; split at h
  · rename_i n ρ m σ
    obtain ⟨hp, rfl⟩ := Prod.mk.inj (Option.some.inj h)
    have hf := dec_iff.1 hp
    refine ⟨rfl, .br (toInt64 n != toInt64 m) (.leaf (.one (.c (.bool false)))) (.need (dec (good21 ⟨⟨n, ρ⟩, ⟨m, σ⟩⟩ ∧ (0 : Int) = ((0 : Nat) : Int))) (.br (anyB (difS ⟨n, ρ⟩ ⟨m, σ⟩) n) (.leaf (.one (.c (.bool false)))) (.leaf (.one (.c (.bool true)))))), by kernel_rfl, all_of_sel ?_⟩
    unfold sameAll
    simp only [Tree.sel]
    by_cases hnm : n = m
    · subst hnm
      have h1 : (toInt64 n != toInt64 n) = false := by simp
      have h2 : dec (good21 ⟨⟨n, ρ⟩, ⟨n, σ⟩⟩ ∧ (0 : Int) = ((0 : Nat) : Int)) = true := dec_iff.2 ⟨⟨hf, rfl⟩, rfl⟩
      have h3 : (n == n) = true := by simp
      rw [h1, h2, h3]
      cases anyB (difS ⟨n, ρ⟩ ⟨n, σ⟩) n <;> rfl
    · have h1 : (toInt64 n != toInt64 m) = true := by
        have : (n : Int) ≠ (m : Int) := by omega
        simpa [toInt64, bne] using this
      have h3 : (n == m) = false := by simpa using hnm
      rw [h1, h3]; rfl
  · cases h

theorem eqL_refl (l : Ln) : eqL ⟨l, l⟩ = true := eqL_self l
theorem sameS_refl (x : Sit) : sameS x x = true := by
  unfold sameS
  rw [eqL_refl ⟨x.n, x.ρ⟩]
  simp
theorem sameAll_refl (l : Ses) : sameAll l l = true := by
  unfold sameAll
  have : anyB (difS l l) l.n = false := anyB_none fun i _ => by unfold difS; rw [sameS_refl]; rfl
  rw [this]; simp

/-! ### Few -/

def S11 (c : Ses) (v : Int) : St := mkS 24 [(0, .one (.c (.sl siSh c.n c.ρ))), (2, .one (.c (.bool false))), (3, .one (.c (I v)))] []
def lng (l : Ses) (i : Nat) : Bool := lt 20 (toInt64 (l.at i).n)
def TX11 (c : Ses) (v : Int) : Tree (XE × Int) := .br (lt v (toInt64 c.n) && lt v 10) (.need (inRange v c.n) (.br (lng c v.toNat) (.leaf (.ret, v)) (.leaf (.normal, IntKind.i64.wrap (v + 1))))) (.leaf (.exit 0, v))
def min10 (n : Nat) : Nat := if n ≤ 10 then n else 10
theorem sq11 (c : Ses) (_ : True) : Sq (TX11 c) (fun v => (min10 c.n - v).toNat) (fun i => (i : Int)) (fun i => (i : Int)) (min10 c.n) (lng c) .ret (.exit 0) where
  out := by simp
  hit := by simp
  meas i hi := by show ((min10 c.n : Int) - (i : Int)).toNat = _; omega
  round i hi := by
    have hi1 : i < c.n ∧ i < 10 := by unfold min10 at hi; split at hi <;> omega
    have hw : IntKind.i64.wrap ((i : Int) + 1) = ((i + 1 : Nat) : Int) := by rw [w64_id (by omega) (by omega)]; omega
    refine ⟨fun _ => ⟨inR hi1.1, fun hb => ?_, fun hb => ?_⟩, fun hlt => ?_⟩
    · have : lng c i = true := hb
      simp only [Tree.All, this, if_true]
    · have : lng c i = false := hb
      simp only [Tree.All, this, Bool.false_eq_true, if_false]
      rw [hw]
    · rw [ltF hi1.1, (lt_iff (i : Int) 10).2 (by omega)] at hlt; cases hlt
  stop := by
    refine ⟨fun hlt => ?_, fun _ => rfl⟩
    rw [Bool.and_eq_true, lt_iff, lt_iff] at hlt
    have h1 : (min10 c.n : Int) < (c.n : Int) := hlt.1
    have h2 := hlt.2
    unfold min10 at h1 h2
    split at h1 <;> split at h2 <;> omega
def get11 : List (Nat × AV) → Mem → Option (Ses × Int)
  | [(0, .one (.c (.sl [.int .i64, .int .i64, .int .i64, .int .i64, .sl [.int .i64, .int .i64, .int .i64], .int .i64, .bool, .bool] n ρ))), (2, .one (.c (.bool false))), (3, .one (.c (.int .i64 i)))], [] => some (⟨n, ρ⟩, i)
  | _, _ => none
noncomputable def L11 : Nat → St → Tree (XE × St) := lqH [0, 2, 3] 0 24 get11 fun c v => lqT (S11 c) (True ∧ v = ((0 : Nat) : Int)) (anyB (lng c) (min10 c.n)) .ret (.exit 0) (firstB (lng c) (min10 c.n) : Nat) (min10 c.n : Int)
noncomputable abbrev H11f : Hd := ⟨HA.pc, HA.hc, [], HA.mc⟩
theorem h11f : HdOk Try.prog H11f := hA

/-- few sites of few spans -/
def fewL (l : Ses) : Bool := bif anyB (lng l) (min10 l.n) then false else le (toInt64 l.n) 10
def Gfew : List A1 → Option AV
  | [.c (.sl [.int .i64, .int .i64, .int .i64, .int .i64, .sl [.int .i64, .int .i64, .int .i64], .int .i64, .bool, .bool] n ρ)] => some (.one (.c (.bool (fewL ⟨n, ρ⟩))))
  | _ => none

theorem fewL_small {l : Ses} (h : fewL l = true) : smallS l := by
  unfold fewL at h
  cases ha : anyB (lng l) (min10 l.n)
  · rw [ha] at h
    have h : le (toInt64 l.n) 10 = true := h
    rw [le_iff] at h
    have h : (l.n : Int) ≤ 10 := h
    refine ⟨by unfold fewN; omega, fun i hi => ?_⟩
    have h1 : lng l i = false := by
      rw [← Bool.not_eq_true]
      intro hh
      rw [anyB_iff.2 ⟨i, by unfold min10; split <;> omega, hh⟩] at ha; cases ha
    unfold lng at h1
    rw [← Bool.not_eq_true, lt_iff] at h1
    have h1 : ¬ (20 : Int) < ((l.at i).n : Int) := h1
    unfold small; omega
  · rw [ha] at h; cases h

/-- what the laws stand on -/
noncomputable abbrev HE : Hd := ⟨(30, nG Gsame) :: HB.pc, HB.hc, [], HB.mc⟩
theorem hE : HdOk Try.prog HE := ((((hB))).tcCons pSame)

end Go.Proofs.Ytennlgngdjegoaa
