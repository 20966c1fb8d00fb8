/-
 Part TrZE of the proof: RcL RcM RcN RcO RcP RcQ RcR RcS.
-/
import Derived.Test.YtiefjlcakpdfeaaGreatTrZD
namespace Go.Proofs.YtiefjlcakpdfeaaGreat
open Go Go.Sx Go.RowKit Rb
set_option maxRecDepth 100000
structure DBk where
 e : Int
 a : Int
 kn : Nat
 kρ : Val
 x : RU
abbrev CBk := DBk × Int
def anysN : Nat → List CV
 | 0 => []
 | n + 1 => .any :: anysN n
def lpC (e a : Int) : List CV := [.any, .any, .any, .any, .any, .any, .any, .any, .any, .any, .any, .any, .ptr 2 0, .int .i64 e, .int .i64 a] ++ anysN 61
def memB (d : DBk) : Mem := [some (25, [.any, .any]), some (102, [.sl Ro.siSh d.x.sn d.x.sρ, .sl [.int .i64] d.x.cn d.x.cρ, .os 10 1, .any, .bool true, .int .i64 d.x.bg, .int .i64 d.x.at_]), some (98, [.ptr 1 0]), none, none, none, none,
 some (23, [.row false [.rt 1] d.kn d.kρ]), some (100, [.os 7 1]), some (0, .lp 15 0 .ready :: lpC d.e d.a), some (9, [.row false [.str] d.x.pn d.x.pρ])]
def SB9 (c : CBk) : St := mkS 19 [(0, .one (.c (.yld 9))), (1, .one (.c (.ptr 8 0))), (3, .one (.c (.int .i64 c.2)))] (memB c.1)
def EB9 (d : DBk) : St := mkS 19 [] (memB d)
def lpE : List CV → Option (Int × Int)
 | _ :: _ :: _ :: _ :: _ :: _ :: _ :: _ :: _ :: _ :: _ :: _ :: .ptr 2 0 :: .int .i64 e :: .int .i64 a :: r => if Nat.beq r.length 61 then some (e, a) else none
 | _ => none
def flat2 (cs : List CV) : Bool := cs.all closedC && Nat.beq cs.length 2 && !isRowL cs
def getMB : Mem → Option DBk
 | [some (25, c25), some (102, [c0, c1, .os 10 1, _, .bool true, .int .i64 bg, .int .i64 at_]), some (98, [.ptr 1 0]), none, none, none, none, some (23, [.row false [.rt 1] kn kρ]), some (100, [.os 7 1]), some (0, .lp 15 0 .ready :: cells), some (9, [.row false [.str] pn pρ])] =>
   if flat2 c25 then (match plC Ro.siSh c0, plC [.int .i64] c1, lpE cells with
    | some (sn, sρ), some (cn, cρ), some (e, a) => some ⟨e, a, kn, kρ, ⟨sn, sρ, cn, cρ, pn, pρ, 0, .zero, bg, at_⟩⟩
    | _, _, _ => none) else none
 | _ => none
theorem getMB_some {m : Mem} {d : DBk} (h : getMB m = some d) : ∃ c25 c0 c1 c3 cells, flat2 c25 = true ∧ plC Ro.siSh c0 = some (d.x.sn, d.x.sρ) ∧ plC [.int .i64] c1 = some (d.x.cn, d.x.cρ) ∧ lpE cells = some (d.e, d.a) ∧
  m = [some (25, c25), some (102, [c0, c1, .os 10 1, c3, .bool true, .int .i64 d.x.bg, .int .i64 d.x.at_]), some (98, [.ptr 1 0]), none, none, none, none, some (23, [.row false [.rt 1] d.kn d.kρ]), some (100, [.os 7 1]), some (0, .lp 15 0 .ready :: cells), some (9, [.row false [.str] d.x.pn d.x.pρ])] := by
 unfold getMB at h
 split at h
 ·split at h
  ·rename_i hf
   split at h
   ·rename_i h0 h1 h2
    cases h
    exact ⟨_, _, _, _, _, hf, h0, h1, h2, rfl⟩
   ·cases h
  ·cases h
 ·cases h
theorem anysN_nth : ∀ {n j : Nat} {d : CV}, nth (anysN n) j = some d → isAny d = true
 | 0, _, _, h => by simp [anysN, nth] at h
 | n + 1, 0, d, h => by simp only [anysN, nth, Option.some.injEq] at h; subst h; rfl
 | n + 1, j + 1, d, h => anysN_nth (n := n) (j := j) h
theorem lpC_wk {cells : List CV} {e a : Int} (h : lpE cells = some (e, a)) : (lpC e a).length = cells.length ∧ ∀ j d, nth (lpC e a) j = some d → isAny d = true ∨ nth cells j = some d := by
 unfold lpE at h
 split at h
 ·split at h
  ·rename_i r hr
   have hr := Nat.eq_of_beq_eq_true hr
   cases h
   refine ⟨by simp [lpC, anysN, hr], fun j d hj => ?_⟩
   match j, hj with
   | 0, hj => cases hj; exact .inl rfl
   | 1, hj => cases hj; exact .inl rfl
   | 2, hj => cases hj; exact .inl rfl
   | 3, hj => cases hj; exact .inl rfl
   | 4, hj => cases hj; exact .inl rfl
   | 5, hj => cases hj; exact .inl rfl
   | 6, hj => cases hj; exact .inl rfl
   | 7, hj => cases hj; exact .inl rfl
   | 8, hj => cases hj; exact .inl rfl
   | 9, hj => cases hj; exact .inl rfl
   | 10, hj => cases hj; exact .inl rfl
   | 11, hj => cases hj; exact .inl rfl
   | 12, hj => cases hj; exact .inr rfl
   | 13, hj => cases hj; exact .inr rfl
   | 14, hj => cases hj; exact .inr rfl
   | j + 15, hj => exact .inl (anysN_nth (n := 61) (j := j) hj)
  ·cases h
 ·cases h
theorem flat2_le {cs : List CV} (h : flat2 cs = true) : cs.all closedC = true ∧ isRowL cs = false ∧ LeL cs [.any, .any] := by
 simp only [flat2, Bool.and_eq_true, Bool.not_eq_true'] at h
 obtain ⟨⟨h1, h2⟩, h3⟩ := h
 have h2 := Nat.eq_of_beq_eq_true h2
 refine ⟨h1, h3, ?_⟩
 match cs, h2 with
 | [a, b], _ => exact .cons leC_any (.cons leC_any .nil)
theorem getMB_ok {m : Mem} {d : DBk} (h : getMB m = some d) (P : Program) (F : Nat → Prop) (w : World) (bs : List BI) (hm : MemRel P F w bs m) : MemRel P F w bs (memB d) := by
 obtain ⟨c25, c0, c1, c3, cells, hf, h0, h1, h2, rfl⟩ := getMB_some h
 obtain ⟨a1, a2, a3⟩ := flat2_le hf
 have k1 := hm.cellsTo (b := 1) (T := 102) rfl (plC_row h0 _) (ds := [.sl Ro.siSh d.x.sn d.x.sρ, .sl [.int .i64] d.x.cn d.x.cρ, .os 10 1, .any, .bool true, .int .i64 d.x.bg, .int .i64 d.x.at_]) rfl fun _ _ _ _ h => (cells2 (fun _ hv => plC_ok h0 hv) (fun _ hv => plC_ok h1 hv) h).setAny 3
 have k2 := mem_wk (b := 0) rfl a2 a1 a3 rfl rfl P F w bs k1
 obtain ⟨b1, b2⟩ := lpC_wk h2
 exact k2.lpWk (b := 9) rfl b1 b2
def getB9 (l : List (Nat × AV)) (m : Mem) : Option CBk := match l with
 | [(0, .one (.c (.yld 9))), (1, .one (.c (.ptr 8 0))), (3, .one (.c (.int .i64 i)))] => (match getMB m with
  | some d => some (d, i)
  | none => none)
 | _ => none
def getBE (l : List (Nat × AV)) (m : Mem) : Option DBk := match l with
 | [] => getMB m
 | _ => none
theorem getB9_ok : ∀ l m c, getB9 l m = some c → StWk (mkS 19 l m) (SB9 c) := by
 intro l m c h
 unfold getB9 at h
 split at h
 ·split at h
  ·rename_i hd
   cases h
   exact mkS_wk LeSl.refl (getMB_ok hd)
  ·cases h
 ·cases h
theorem getBE_ok : ∀ l m c, getBE l m = some c → StWk (mkS 19 l m) (EB9 c) := by
 intro l m c h
 unfold getBE at h
 split at h
 ·exact mkS_wk LeSl.refl (getMB_ok h)
 ·cases h
def AB9 : Sx.Frame CBk DBk := ⟨10, 19, [0, 1, 3], getB9, SB9, [], getBE, EB9⟩
theorem aB9 : AB9.Ok := ⟨getB9_ok, getBE_ok⟩
def r109 (B : BF) (g : CBk → Tree (XE × DBk)) (c : CBk) : Tree (XE × DBk) :=
 let o := B true (blkN c.1.kρ c.2) (blkD c.1.kρ c.2) (nk true c.1.x)
 let y := ov1 (0, rU0) o
 let d : DBk := { c.1 with x := nk true y.2 }
 .br (le 0 c.2) (.need (inRange c.2 c.1.kn) (.need (os1 o) (.br (!true) (.leaf (.ret, d)) (g (d, IntKind.wrap .i64 (c.2 - 1)))))) (.leaf (.exit 0, { c.1 with x := nk true c.1.x }))
theorem r109_eq (C : ChF) (B : BF) (g : CBk → Tree (XE × DBk)) (c : CBk) : roundL AB9 Tryz.prog (H15 C B) 10 109 0 g c = r109 B g c := by kernel_rfl
def undoS (B : BF) (kn : Nat) (kρ : Val) : Nat → Int → RU → Option RU
 | 0, _, _ => none
 | k + 1, i, x => bif le 0 i then nd (inRange i kn) ((B true (blkN kρ i) (blkD kρ i) (nk true x)).bind fun y => undoS B kn kρ k (IntKind.wrap .i64 (i - 1)) (nk true y.2)) else some (nk true x)
def gB9 (B : BF) (k : Nat) (c : CBk) : Tree (XE × DBk) :=
 let o := undoS B c.1.kn c.1.kρ k c.2 c.1.x
 .need (os1 o) (.leaf (.exit 0, { c.1 with x := ov1 rU0 o }))
theorem gB9_sel (B : BF) (k : Nat) (c : CBk) : (gB9 B k c).sel = (undoS B c.1.kn c.1.kρ k c.2 c.1.x).bind fun x => some (.exit 0, { c.1 with x := x }) := by
 unfold gB9
 cases undoS B c.1.kn c.1.kρ k c.2 c.1.x <;> rfl
theorem stepB9 (C : ChF) (B : BF) (k : Nat) (c : CBk) (x : XE × DBk) (h : (gB9 B (k + 1) c).sel = some x) : (roundL AB9 Tryz.prog (H15 C B) 10 109 0 (gB9 B k) c).sel = some x := by
 rw [r109_eq]
 rw [gB9_sel] at h
 unfold undoS at h
 unfold r109
 simp only [sel_br, sel_need, sel_leaf, gB9_sel]
 revert h
 cases le 0 c.2 with
 | false => exact fun h => h
 | true =>
 cases inRange c.2 c.1.kn with
 | false => exact fun h => h
 | true =>
 simp only [nd, cond_true]
 cases B true (blkN c.1.kρ c.2) (blkD c.1.kρ c.2) (nk true c.1.x) with
 | none => exact fun h => h
 | some y => exact fun h => h
theorem coreB9 {C : ChF} (hC : UcOne Tryz.prog 29 (nG (G29 C))) {B : BF} (hB : McOne Tryz.prog 52 (clG2 (u52 B))) : ∀ k, LCore Tryz.prog 109 0 10 SB9 EB9 (gB9 B k) :=
 LCore.fuel (A := AB9) aB9 (h15 hC hB) 10 (fun _ => rfl) (stepB9 C B)
def gB91 (B : BF) (c : CBk) : Tree (XE × DBk) := gB9 B (c.1.kn + 1) c
theorem coreB91 {C : ChF} (hC : UcOne Tryz.prog 29 (nG (G29 C))) {B : BF} (hB : McOne Tryz.prog 52 (clG2 (u52 B))) : LCore Tryz.prog 109 0 10 SB9 EB9 (gB91 B) := fun fn c b h1 h2 h3 c0 x hx => coreB9 hC hB _ fn c b h1 h2 h3 c0 x hx
def LB9 (B : BF) : Nat → St → Tree (XE × St) := moveH 1 2 (loopE AB9 (gB91 B))
noncomputable abbrev HR (C : ChF) (B : BF) : Hd := ⟨[], [(29, nG (G29 C)), (51, nG G51u)], [((109, 0), LB9 B)], [(52, clG2 (u52 B))]⟩
theorem hR {C : ChF} (hC : UcOne Tryz.prog 29 (nG (G29 C))) {B : BF} (hB : McOne Tryz.prog 52 (clG2 (u52 B))) : HdOk Tryz.prog (HR C B) :=
 HdOk.lhCons (h15 hC hB) fun fn c b h1 h2 h3 => moveH_ok 1 2 (LCore.ok (A := AB9) aB9 (coreB91 hC hB) fn c b h1 h2 h3)
structure RunR where
 sn : Nat
 sρ : Val
 pn : Nat
 pρ : Val
 a : Int
 e : Int
def rr0 : RunR := ⟨0, .zero, 0, .zero, 0, 0⟩
def encRun (x : RunR) : AV := .tup [.c (.sl Ro.siSh x.sn x.sρ), .c (.sl [.str] x.pn x.pρ), .c (.int .i64 x.a), .c (.int .i64 x.e)]
abbrev RunF := ByteArray → Nat → Val → Nat → Val → Nat → Val → Option RunR
def iniR (n : Nat) (ρ : Val) (q : Nat) (τ : Val) : RU := ⟨n, ρ, q, τ, 0, .zero, 0, .zero, 0, 0⟩
def undoing (x : RU) : RU := ⟨x.sn, x.sρ, x.cn, x.cρ, x.pn, x.pρ, 0, .zero, 0, x.at_⟩
def runS (C : ChF) (B : BF) : RunF := fun name m κ n ρ q τ =>
 (C name m κ n ρ).bind fun c => bif c.2 != 0 then some ⟨0, .zero, 0, .zero, c.1, c.2⟩ else nd (smallB n ρ) ((B false m κ (iniR n ρ q τ)).bind fun y =>
  bif y.1 == 0 then some ⟨y.2.sn, y.2.sρ, y.2.pn, y.2.pρ, 0, 0⟩ else (undoS B y.2.kn y.2.kρ (y.2.kn + 1) (IntKind.wrap .i64 (toInt64 y.2.kn - 1)) (undoing y.2)).bind fun z => some ⟨z.sn, z.sρ, z.pn, z.pρ, y.2.at_, y.1⟩)
def t15 (C : ChF) (B : BF) (name : ByteArray) (m : Nat) (κ : Val) (n : Nat) (ρ : Val) (q : Nat) (τ : Val) : Tree AV :=
 let c := C name m κ n ρ
 let cv := ov1 (0, 0) c
 let b := B false m κ (iniR n ρ q τ)
 let y := ov1 (0, rU0) b
 let z := undoS B y.2.kn y.2.kρ (y.2.kn + 1) (IntKind.wrap .i64 (toInt64 y.2.kn - 1)) (undoing y.2)
 let zv := ov1 rU0 z
 .need (os1 c) (.br (cv.2 != 0) (.leaf (.tup [.c .nils, .c .nils, .c (.int .i64 cv.1), .c (.int .i64 cv.2)])) (.need (smallB n ρ) (.need (os1 b)
  (.br (y.1 == 0) (.leaf (encRun ⟨y.2.sn, y.2.sρ, y.2.pn, y.2.pρ, 0, 0⟩)) (.need (os1 z) (.leaf (encRun ⟨zv.sn, zv.sρ, zv.pn, zv.pρ, y.2.at_, y.1⟩)))))))
theorem t15_eq (C : ChF) (B : BF) (name : ByteArray) (m : Nat) (κ : Val) (n : Nat) (ρ : Val) (q : Nat) (τ : Val) :
  hcTree Tryz.prog (HR C B) 10 15 [.agg [.str name, .sl (rtab 1) m κ], .c (.sl Ro.siSh n ρ), .c (.sl [.int .i64] q τ)] = t15 C B name m κ n ρ q τ := by kernel_rfl
theorem t15_eqn (C : ChF) (B : BF) (name : ByteArray) (m : Nat) (κ : Val) (n : Nat) (ρ : Val) :
  hcTree Tryz.prog (HR C B) 10 15 [.agg [.str name, .sl (rtab 1) m κ], .c (.sl Ro.siSh n ρ), .c .nils] = t15 C B name m κ n ρ 0 .zero := by kernel_rfl
theorem nil2_le {a e : Int} : leA (.tup [.c .nils, .c .nils, .c (.int .i64 a), .c (.int .i64 e)]) (encRun ⟨0, .zero, 0, .zero, a, e⟩) :=
 leA_tup (.cons (.c fun _ _ _ h => by cases h; exact .slnil) (.cons (.c fun _ _ _ h => by cases h; exact .slnil) (.cons (.c leC.refl) (.cons (.c leC.refl) .nil))))
theorem t15_say (C : ChF) (B : BF) (name : ByteArray) (m : Nat) (κ : Val) (n : Nat) (ρ : Val) (q : Nat) (τ : Val) : Sy encRun (t15 C B name m κ n ρ q τ) (runS C B name m κ n ρ q τ) := by
 unfold t15 runS
 cases C name m κ n ρ with
 | none => exact trivial
 | some c =>
 simp only [os1, ov1, Option.bind]
 refine Sy.need rfl (Sy.cond (fun _ => Sy.ret' nil2_le) fun _ => Sy.nd id fun _ => ?_)
 cases B false m κ (iniR n ρ q τ) with
 | none => exact trivial
 | some y =>
 simp only
 refine Sy.need rfl (Sy.cond (fun _ => Sy.ret) fun _ => ?_)
 cases undoS B y.2.kn y.2.kρ (y.2.kn + 1) (IntKind.wrap .i64 (toInt64 y.2.kn - 1)) (undoing y.2) with
 | none => exact trivial
 | some z => exact Sy.need rfl Sy.ret
def G15 (R : RunF) : List A1 → Option (Bool × AV)
 | [.agg [.str name, .sl es' m κ], .c (.sl es n ρ), c] => if shEq.shsEq es' (rtab 1) && shEq.shsEq es Ro.siSh then (match c with
  | .c (.sl [.int .i64] q τ) => some (os1 (R name m κ n ρ q τ), encRun (ov1 rr0 (R name m κ n ρ q τ)))
  | .c .nils => some (os1 (R name m κ n ρ 0 .zero), encRun (ov1 rr0 (R name m κ n ρ 0 .zero)))
  | _ => none) else none
 | _ => none
theorem p15 {C : ChF} (hC : UcOne Tryz.prog 29 (nG (G29 C))) {B : BF} (hB : McOne Tryz.prog 52 (clG2 (u52 B))) : UcOne Tryz.prog 15 (nG (G15 (runS C B))) := by
 refine ucOne_of_tree (H := HR C B) (hR hC hB) 10 15 ?_
 intro args r h
 unfold G15 at h
 split at h
 ·rename_i name es' m κ es n ρ c
  split at h
  ·rename_i hs
   rw [Bool.and_eq_true] at hs
   rw [shsEq_eq hs.1, shsEq_eq hs.2]
   split at h
   ·rename_i q τ
    simp only [Option.some.injEq, Prod.mk.injEq] at h
    refine ⟨_, t15_eq C B name m κ n ρ q τ, ?_⟩
    have := t15_say C B name m κ n ρ q τ
    cases hr : runS C B name m κ n ρ q τ with
    | none => rw [hr] at h; cases h.1
    | some x => rw [hr] at h this; rw [← h.2]; exact this
   ·simp only [Option.some.injEq, Prod.mk.injEq] at h
    refine ⟨_, t15_eqn C B name m κ n ρ, ?_⟩
    have := t15_say C B name m κ n ρ 0 .zero
    cases hr : runS C B name m κ n ρ 0 .zero with
    | none => rw [hr] at h; cases h.1
    | some x => rw [hr] at h this; rw [← h.2]; exact this
   ·cases h
  ·cases h
 ·cases h
def samS (a b : Val) : Bool :=
 ((((((((a.at 0).N [] == (b.at 0).N [] && (a.at 1).N [] == (b.at 1).N []) && (a.at 2).N [] == (b.at 2).N []) && (a.at 3).N [] == (b.at 3).N []) &&
   Ro.eqL ⟨⟨(a.at 4).L [], a.at 4⟩, ⟨(b.at 4).L [], b.at 4⟩⟩) && (a.at 5).N [] == (b.at 5).N []) && (a.at 6).B [] == (b.at 6).B []) && (a.at 7).B [] == (b.at 7).B [])
def fewB (n : Nat) : Bool := Nat.ble n 100000
def samC : A1 → A1 → Option (Bool × Bool)
 | .agg [.int .i64 a, .int .i64 r, .int .i64 e, .int .i64 p, .sl s1 n ρ, .int .i64 s, .bool l, .bool c], .agg [.int .i64 a', .int .i64 r', .int .i64 e', .int .i64 p', .sl s2 k σ, .int .i64 s', .bool l', .bool c'] =>
   if shEq.shsEq s1 Ro.spSh && shEq.shsEq s2 Ro.spSh then some (fewB n, ((((((((a == a' && r == r') && e == e') && p == p') && Ro.eqL ⟨⟨n, ρ⟩, ⟨k, σ⟩⟩) && s == s') && l == l') && c == c'))) else none
 | _, _ => none
def G20 : List A1 → Option (Bool × AV)
 | [x, y] => (match samC x y with
  | some (c, b) => some (c, encBo b)
  | none => none)
 | _ => none
theorem fewB_ok {n : Nat} (h : fewB n = true) : dec (Ro.fewN n) = true := dec_iff.2 (by
 have := Nat.le_of_ble_eq_true h
 show n ≤ 4611686018427387904
 omega)
theorem p20 : TcOne Tryz.prog 20 (nG G20) := TcOne.le Ro.p17 fun args r h => by
 unfold G20 at h
 split at h
 ·rename_i x y
  split at h
  ·rename_i c b hc
   simp only [Option.some.injEq, Prod.mk.injEq] at h
   unfold samC at hc
   split at hc
   ·split at hc
    ·rename_i hs
     rw [Bool.and_eq_true] at hs
     have e1 := shsEq_eq hs.1
     have e2 := shsEq_eq hs.2
     subst e1
     subst e2
     simp only [Option.some.injEq, Prod.mk.injEq] at hc
     have hf : fewB _ = true := hc.1.trans h.1
     have hd := fewB_ok hf
     show some (dec _, _) = some (true, r)
     rw [hd, ← h.2, ← hc.2]
     rfl
    ·cases hc
   ·cases hc
  ·cases h
 ·cases h
def eqSL (n : Nat) (ρ : Val) (m : Nat) (σ : Val) (l : Int) : Nat → Int → Option Bool
 | 0, _ => none
 | k + 1, i => bif lt i l then nd (inRange i n) (nd (inRange i m) (nd (fewB (((ρ.at i.toNat).at 4).L [])) (bif !samS (ρ.at i.toNat) (σ.at i.toNat) then some false else eqSL n ρ m σ l k (IntKind.wrap .i64 (i + 1))))) else some true
def eqSS (n : Nat) (ρ : Val) (m : Nat) (σ : Val) : Option Bool := bif toInt64 n != toInt64 m then some false else eqSL n ρ m σ (toInt64 n) (n + 1) 0
noncomputable abbrev H19 : Hd := ⟨[(20, nG G20)], [], [], []⟩
theorem h19 : HdOk Tryz.prog H19 := HdOk.nil.tcCons p20
def t19 (n : Nat) (ρ : Val) (m : Nat) (σ : Val) : Tree AV :=
 let o := eqSL n ρ m σ (toInt64 n) (n + 1) 0
 .br (toInt64 n != toInt64 m) (.leaf (encBo false)) (.need (os1 o) (.br (ov1 false o) (.leaf (encBo true)) (.leaf (encBo false))))
theorem t19_say (n : Nat) (ρ : Val) (m : Nat) (σ : Val) : Sy encBo (t19 n ρ m σ) (eqSS n ρ m σ) := by
 unfold t19 eqSS
 refine Sy.cond (fun _ => Sy.ret) fun _ => ?_
 cases eqSL n ρ m σ (toInt64 n) (n + 1) 0 with
 | none => exact trivial
 | some b =>
   cases b with
  | true => exact Sy.need rfl (Sy.br1 rfl Sy.ret)
  | false => exact Sy.need rfl (Sy.br0 rfl Sy.ret)
theorem p144n : UcOne Tryz.prog 144 (nG (G144 fun _ _ _ => none)) := by
 intro args r h
 have h := nG_sel h
 unfold G144 at h
 split at h
 ·cases h
 ·cases h
def P0 : Par := ⟨operateS noFo, evalS 20, fun _ _ _ => none⟩
theorem p0Ok : ParOk P0 := ⟨p174, p176 20, p144n⟩
def check0 : ChF := checkS 20 20
def block0 : BF := blockF P0 20
def run0 : RunF := runS check0 block0
theorem p29_0 : UcOne Tryz.prog 29 (nG (G29 check0)) := p29 20 20
theorem p15_0 : UcOne Tryz.prog 15 (nG (G15 run0)) := p15 p29_0 (m52 p0Ok 20)
def G7 : List A1 → Option (Bool × AV)
 | [] => some (true, encBo true)
 | _ => none
theorem G7_some {args : List A1} {r : AV} (h : G7 args = some (true, r)) : args = [] ∧ r = encBo true := by
 unfold G7 at h
 split at h
 ·exact ⟨rfl, (congrArg Prod.snd (Option.some.inj h)).symm⟩
 ·cases h
theorem UcOne.le {P : Program} {f : Nat} {G G' : List A1 → Option (Bool × AV)} (h : UcOne P f (nG G)) (hg : ∀ args r, G' args = some (true, r) → G args = some (true, r)) : UcOne P f (nG G') := by
 intro args r hs
 refine h args r ?_
 have := hg args r (nG_sel hs)
 unfold nG
 rw [this]
 rfl
abbrev Prc := Ro.Fo.Prc
abbrev Ses := Ro.Ses
def G26 : List A1 → Option (Bool × AV)
 | [.c (.sl es n ρ), .c (.sl [.bool] k σ), .c (.int .i64 t)] => if shEq.shsEq es Ro.siSh then some (smallB n ρ, Ro.Fo.prE (Ro.Fo.begP ⟨n, ρ⟩ ⟨k, σ⟩ t) (Ro.Fo.begE ⟨n, ρ⟩ ⟨k, σ⟩ t)) else none
 | _ => none
theorem p26 : TcOne Tryz.prog 26 (nG G26) := TcOne.le Ro.Fo.pBeg fun args r h => by
 unfold G26 at h
 split at h
 ·rename_i es n ρ k σ t
  cases hs : shEq.shsEq es Ro.siSh with
  | false => rw [hs] at h; cases h
  | true =>
    rw [hs, if_pos rfl] at h
    rw [shsEq_eq hs]
    simp only [Option.some.injEq, Prod.mk.injEq] at h
    obtain ⟨h1, rfl⟩ := h
    show some (dec (Ro.fewS ⟨n, ρ⟩), _) = some (true, _)
    rw [smallB_few h1]
 ·cases h
def G27 : List A1 → Option (Bool × AV)
 | [.agg [.int .i64 k, .int .i64 f, .int .i64 t, .int .i64 s, .int .i64 e, .int .i64 c, .bool d, .bool x], .c (.sl es n ρ), .c (.bool ok), .c (.int .i64 v)] =>
   if shEq.shsEq es Ro.siSh then some (smallB n ρ, Ro.Fo.thr (Ro.Fo.stpP ⟨k, f, t, s, e, c, d, x⟩ ⟨n, ρ⟩ ok v) (Ro.Fo.stpL ⟨k, f, t, s, e, c, d, x⟩ ⟨n, ρ⟩ ok v) (Ro.Fo.stpE ⟨k, f, t, s, e, c, d, x⟩ ⟨n, ρ⟩ ok v)) else none
 | _ => none
theorem p27 : UcOne Tryz.prog 27 (nG G27) := UcOne.le Ro.Fo.uStep fun args r h => by
 unfold G27 at h
 split at h
 ·rename_i k f t s e c d x es n ρ ok v
  cases hs : shEq.shsEq es Ro.siSh with
  | false => rw [hs] at h; cases h
  | true =>
    rw [hs, if_pos rfl] at h
    rw [shsEq_eq hs]
    simp only [Option.some.injEq, Prod.mk.injEq] at h
    obtain ⟨h1, rfl⟩ := h
    show some (dec (Ro.Fo.smallS ⟨n, ρ⟩), _) = some (true, _)
    rw [dec_iff.2 (smallB_ok h1)]
 ·cases h
structure CU where
 n : Nat
 ρ : Val
 m : Nat
 σ : Val
 t : Int
def layC : Bool × CU → Mem
 | (false, x) => [some (229, [.os 1 8, .sl [.str] x.m x.σ, .int .i64 x.t]), some (56, [.row false Ro.siSh x.n x.ρ])]
 | (true, x) => [some (229, [.sl Ro.siSh x.n x.ρ, .sl [.str] x.m x.σ, .int .i64 x.t])]
def getC : Mem → Option (Bool × CU)
 | [some (229, [.os 1 8, .sl [.str] m σ, .int .i64 t]), some (56, [.row false es n ρ])] => if shEq.shsEq es Ro.siSh then some (false, ⟨n, ρ, m, σ, t⟩) else none
 | [some (229, [.sl es n ρ, .sl [.str] m σ, .int .i64 t])] => if shEq.shsEq es Ro.siSh then some (true, ⟨n, ρ, m, σ, t⟩) else none
 | _ => none
theorem getC_eq {m : Mem} {x : Bool × CU} (h : getC m = some x) : m = layC x := by
 unfold getC at h
 split at h
 ·split at h
  ·rename_i hs
   cases h
   rw [shsEq_eq hs]; rfl
  ·cases h
 ·split at h
  ·rename_i hs
   cases h
   rw [shsEq_eq hs]; rfl
  ·cases h
 ·cases h
def ClC : Clus (Bool × CU) := ⟨layC, getC, fun _ m => m⟩
theorem clC_ok : ClC.Ok where
 get := fun m x h P F w bs hm => by
  have e := getC_eq (m := m) h
  show MemRel P F w bs (layC x)
  rw [← e]
  exact hm
 liv := fun m x h k y T cs hk hl => ⟨T, cs, by rw [getC_eq (m := m) h]; exact hk, hl⟩
 ok := fun x => by obtain ⟨b, x⟩ := x; cases b <;> rfl
 prep := fun P F w bs b mem hm => ⟨bs, Ext.refl, hm⟩
def lostV (ρ : Val) : Nat → Val
 | 0 => .zero
 | 1 => Val.ofFlat 1 [.bool (!(((ρ.at 0).at 6).B []))]
 | i + 1 => Val.cat i (lostV ρ i) (Val.ofFlat 1 [.bool (!(((ρ.at i).at 6).B []))])
def lostT {α : Type} (n : Nat) (ρ : Val) (K : Nat → Tree α) : Nat → Nat → Tree α
 | 0, _ => .fail
 | f + 1, i => .br (lt (i : Int) (toInt64 n)) (.need (inRange (i : Int) n) (.need (Nat.ble ((i + 1) * 1) 140737488355328) (lostT n ρ K f (i + 1)))) (K i)
def goP (e : Int) (p : Prc) : Bool := bif (bif e == 0 then !p.d else false) then !p.x else false
def cuOut (own : Bool) (l : Ses) (x : CU) : Bool × CU := (!own, ⟨l.n, l.ρ, x.m, x.σ, x.t⟩)
def stepsT (x : CU) : Nat → Prc → Ses → Int → Bool → Tree (AV × (Bool × CU))
 | 0, _, _, _, _ => .fail
 | f + 1, p, l, e, own => .br (goP e p) (.need (smallB l.n l.ρ) (stepsT x f (Ro.Fo.stpP p l true p.e) (Ro.Fo.stpL p l true p.e) (Ro.Fo.stpE p l true p.e) false)) (.leaf (encI e, cuOut own l x))
def t192 (x : CU) : Tree (AV × (Bool × CU)) := lostT x.n x.ρ (fun i => match i with
 | 0 => .fail
 | i + 1 => .need (smallB x.n x.ρ) (stepsT x 5 (Ro.Fo.begP ⟨x.n, x.ρ⟩ ⟨i + 1, lostV x.ρ (i + 1)⟩ x.t) ⟨x.n, x.ρ⟩ (Ro.Fo.begE ⟨x.n, x.ρ⟩ ⟨i + 1, lostV x.ρ (i + 1)⟩ x.t) true)) 5 0
noncomputable abbrev H192 : Hd := ⟨[(26, nG G26)], [(27, nG G27)], [], []⟩
theorem h192 : HdOk Tryz.prog H192 := (HdOk.nil.ucCons p27).tcCons p26
abbrev X5 : HdP := ⟨[], [], [], [], [], 5, []⟩
theorem x5 : XOk Tryz.prog X5 := XOk.nil
theorem t192_eq (x : CU) : clusEv ClC Tryz.prog H192 X5 10 192 [] (false, x) = t192 x := by kernel_rfl
abbrev CR := Int × (Bool × CU)
def cr0 : CR := (0, (false, ⟨0, .zero, 0, .zero, 0⟩))
def stepsS (x : CU) : Nat → Prc → Ses → Int → Bool → Option CR
 | 0, _, _, _, _ => none
 | f + 1, p, l, e, own => bif goP e p then nd (smallB l.n l.ρ) (stepsS x f (Ro.Fo.stpP p l true p.e) (Ro.Fo.stpL p l true p.e) (Ro.Fo.stpE p l true p.e) false) else some (e, cuOut own l x)
def lostS (n : Nat) (ρ : Val) (K : Nat → Option CR) : Nat → Nat → Option CR
 | 0, _ => none
 | f + 1, i => bif lt (i : Int) (toInt64 n) then nd (inRange (i : Int) n) (nd (Nat.ble ((i + 1) * 1) 140737488355328) (lostS n ρ K f (i + 1))) else K i
def begC (x : CU) (i : Nat) : Option CR := match i with
 | 0 => none
 | i + 1 => nd (smallB x.n x.ρ) (stepsS x 5 (Ro.Fo.begP ⟨x.n, x.ρ⟩ ⟨i + 1, lostV x.ρ (i + 1)⟩ x.t) ⟨x.n, x.ρ⟩ (Ro.Fo.begE ⟨x.n, x.ρ⟩ ⟨i + 1, lostV x.ρ (i + 1)⟩ x.t) true)
def failC (x : CU) : Option CR := lostS x.n x.ρ (begC x) 5 0
def TellsX {X β : Type} (enc : β → AV) (T : Tree (AV × X)) (o : Option (β × X)) : Prop := ∀ v x, o = some (v, x) → T.sel = some (enc v, x)
theorem stepsT_ok (x : CU) : ∀ f p l e own, TellsX encI (stepsT x f p l e own) (stepsS x f p l e own)
 | 0, _, _, _, _, _, _, h => by cases h
 | f + 1, p, l, e, own, v, y, h => by
   unfold stepsS at h
   unfold stepsT
   rw [sel_br]
   cases hg : goP e p with
  | false => rw [hg] at h; cases h; rfl
  | true =>
    rw [hg] at h
    simp only [cond_true] at h ⊢
    rw [sel_need]
    cases hs : smallB l.n l.ρ with
   | false => rw [hs] at h; cases h
   | true => rw [hs] at h; exact stepsT_ok x f _ _ _ _ v y h
theorem lostT_ok (n : Nat) (ρ : Val) {K : Nat → Tree (AV × (Bool × CU))} {K' : Nat → Option CR} (hK : ∀ i, TellsX encI (K i) (K' i)) : ∀ f i, TellsX encI (lostT n ρ K f i) (lostS n ρ K' f i)
 | 0, _, _, _, h => by cases h
 | f + 1, i, v, y, h => by
   unfold lostS at h
   unfold lostT
   rw [sel_br]
   cases hg : lt (i : Int) (toInt64 n) with
  | false => rw [hg] at h; exact hK i v y h
  | true =>
    rw [hg] at h
    simp only [cond_true] at h ⊢
    rw [sel_need, sel_need]
    cases hr : inRange (i : Int) n with
   | false => rw [hr] at h; cases h
   | true =>
     rw [hr] at h
     cases hb : Nat.ble ((i + 1) * 1) 140737488355328 with
    | false => rw [hb] at h; cases h
    | true => rw [hb] at h; exact lostT_ok n ρ hK f (i + 1) v y h
theorem t192_ok (x : CU) : TellsX encI (t192 x) (failC x) := lostT_ok x.n x.ρ (K' := begC x) (fun i v y h => by
 cases i with
 | zero => cases h
 | succ i =>
   unfold begC at h
   simp only at h ⊢
   rw [sel_need]
   cases hs : smallB x.n x.ρ with
  | false => rw [hs] at h; cases h
  | true => rw [hs] at h; exact stepsT_ok x _ _ _ _ _ v y h) 5 0
def u192 : List A1 → Bool × CU → Tree (AV × (Bool × CU)) := fun rest x => match rest, x with
 | [], (false, x) => .need (os1 (failC x)) (.br (ov1 cr0 (failC x)).2.1 (.leaf (encI (ov1 cr0 (failC x)).1, (true, (ov1 cr0 (failC x)).2.2))) (.leaf (encI (ov1 cr0 (failC x)).1, (false, (ov1 cr0 (failC x)).2.2))))
 | _, _ => .fail
theorem u192_sel {rest : List A1} {x : Bool × CU} {z : AV × (Bool × CU)} (h : (u192 rest x).sel = some z) : ∃ c v y, rest = [] ∧ x = (false, c) ∧ failC c = some (v, y) ∧ z = (encI v, y) := by
 unfold u192 at h
 split at h
 ·rename_i x
  cases hf : failC x with
  | none => rw [hf] at h; cases h
  | some r =>
    obtain ⟨v, b, y⟩ := r
    rw [hf] at h
    cases b <;> (cases h; exact ⟨x, v, _, rfl, rfl, hf, rfl⟩)
 ·cases h
theorem m192 : McOne Tryz.prog 192 (clG ClC u192) := clG_ok clC_ok h192 x5 10 192 fun rest x z hz => by
 obtain ⟨c, v, y, rfl, rfl, h1, rfl⟩ := u192_sel hz
 exact ⟨(encI v, y), by rw [t192_eq]; exact t192_ok c v y h1, leA.refl, fun _ _ _ h => h⟩
noncomputable abbrev HOf : Hd := ⟨fK 202 :: fK 203 :: HOb.pc, HOb.hc, [], (192, clG ClC u192) :: HOb.mc⟩
theorem hOf : HdOk Tryz.prog HOf := HdOk.fK (HdOk.fK (HdOk.mcCons hOb m192) 203) 202
def cuOf (n : Nat) (ρ : Val) (m : Nat) (σ : Val) : CU := ⟨n, ρ, m, σ, siteV (wd σ 1)⟩
noncomputable def failT (n : Nat) (ρ : Val) (m : Nat) (σ : Val) : Tree AV :=
 let o := failC (cuOf n ρ m σ)
 let y := ov1 cr0 o
 let A : Tree AV := .br (y.1 != 0) (errT y.1) (finT y.2.2.n y.2.2.ρ)
 .need (os1 o) (.br y.2.1 A A)
noncomputable def t174f (n : Nat) (ρ : Val) (m : Nat) (σ : Val) : Tree AV :=
 let t := siteV (wd σ 1)
 let x := Ro.siAt (ρ.at t.toNat)
 let w := wd σ 0
 let y := nmV (numberS (wdAt σ 2))
 let num := inRange 2 m && nmD (numberS (wdAt σ 2))
 let src := srcV ρ σ 3
 let sm := dec (Ro.small x.n)
 .need (inRange 1 m) (.need (dec (Ro.Fo.smallS ⟨n, ρ⟩)) (.need (inRange 0 m)
  (.br (strEq w wPromote) (.need (inRange t n) (.need num (.need sm (setT n ρ t (Ro.proE x y) (Ro.pro x y)))))
  (.br (strEq w wIsolate) (.need (inRange t n) (.need sm (setT n ρ t (Ro.isoE x) (Ro.iso x))))
  (.br (strEq w wDemote) (.need (inRange t n) (.need num (.need (srcC n m σ 3) (.need sm (setT n ρ t (Ro.demoE x y src) (Ro.demo x y src))))))
  (.br (strEq w wRejoin) (.need (inRange t n) (.need num (.need (srcC n m σ 3) (.need sm (setT n ρ t (Ro.rejE x y src) (Ro.rej x y src))))))
  (.br (strEq w wSynced) (.need (inRange t n) (.need num .fail))
  (.br (strEq w wUp) (flagT n ρ m t 6 (strEq w wUp))
  (.br (strEq w wDown) (flagT n ρ m t 6 (strEq w wUp))
  (.br (strEq w wConnect) (flagT n ρ m t 7 (strEq w wConnect))
  (.br (strEq w wDisconnect) (flagT n ρ m t 7 (strEq w wConnect))
  (.br (strEq w wFailover) (failT n ρ m σ) (.br (strEq w wResolve) .fail .fail)))))))))))))
theorem t174f_eq (n : Nat) (ρ : Val) (m : Nat) (σ : Val) : hcTree Tryz.prog HOf 10 174 [.c (.sl Ro.siSh n ρ), .c (.sl [.str] m σ)] = t174f n ρ m σ := by kernel_rfl
def failS (n : Nat) (ρ : Val) (m : Nat) (σ : Val) : OR := match failC (cuOf n ρ m σ) with
 | none => none
 | some y => bif y.1 != 0 then some (y.1, ρ) else nd (Nat.beq y.2.2.n n) (finS n y.2.2.ρ)
def operateF : OpF := fun n ρ m σ => operateS (fun n ρ _ => failS n ρ m σ) n ρ m σ
theorem failT_say {n : Nat} {ρ : Val} {m : Nat} {σ : Val} : SayO n (failT n ρ m σ) (failS n ρ m σ) := by
 unfold failT failS
 cases failC (cuOf n ρ m σ) with
 | none => exact trivial
 | some y =>
   have hA : SayO n (.br (y.1 != 0) (errT y.1) (finT y.2.2.n y.2.2.ρ)) (bif y.1 != 0 then some (y.1, ρ) else nd (Nat.beq y.2.2.n n) (finS n y.2.2.ρ)) := by
    refine SayO.cond (fun h => errT_say ?_) fun _ => ?_
    ·cases hk : (y.1 == 0) with
     | false => rfl
     | true => simp [bne, hk] at h
    ·cases hn : Nat.beq y.2.2.n n with
     | false => exact trivial
     | true =>
       have := Nat.eq_of_beq_eq_true hn
       show SayO n _ (finS n y.2.2.ρ)
       rw [this]
       exact finT_say
   show SayO n (.need true (.br y.2.1 _ _)) _
   refine SayO.need rfl ?_
   cases hb : y.2.1 with
  | true =>
    have := SayO.cond (c := true) (b := bif y.1 != 0 then some (y.1, ρ) else nd (Nat.beq y.2.2.n n) (finS n y.2.2.ρ)) (fun _ => hA) (fun h => by cases h) (E := .br (y.1 != 0) (errT y.1) (finT y.2.2.n y.2.2.ρ))
    exact this
  | false =>
    have := SayO.cond (c := false) (a := bif y.1 != 0 then some (y.1, ρ) else nd (Nat.beq y.2.2.n n) (finS n y.2.2.ρ)) (fun h => by cases h) (fun _ => hA) (T := .br (y.1 != 0) (errT y.1) (finT y.2.2.n y.2.2.ρ))
    exact this
theorem t174f_say {n : Nat} {ρ : Val} {m : Nat} {σ : Val} : SayO n (t174f n ρ m σ) (operateF n ρ m σ) := by
 unfold t174f operateF operateS
 refine SayO.nd id fun _ => SayO.nd (fun h => dec_iff.2 (smallB_ok h)) fun hs => SayO.nd id fun hm => ?_
 refine SayO.cond (fun _ => SayO.nd id fun ht => SayO.nd id fun _ => SayO.need (small_at hs ht) setT_say) fun _ => ?_
 refine SayO.cond (fun _ => SayO.nd id fun ht => SayO.need (small_at hs ht) setT_say) fun _ => ?_
 refine SayO.cond (fun _ => SayO.nd id fun ht => SayO.nd id fun _ => SayO.nd id fun _ => SayO.need (small_at hs ht) setT_say) fun _ => ?_
 refine SayO.cond (fun _ => SayO.nd id fun ht => SayO.nd id fun _ => SayO.nd id fun _ => SayO.need (small_at hs ht) setT_say) fun _ => ?_
 refine SayO.cond (fun _ => SayO.none) fun _ => ?_
 refine SayO.cond (fun _ => flagT_say hm) fun _ => ?_
 refine SayO.cond (fun _ => flagT_say hm) fun _ => ?_
 refine SayO.cond (fun _ => flagT_say hm) fun _ => ?_
 refine SayO.cond (fun _ => flagT_say hm) fun _ => ?_
 exact SayO.cond (fun _ => failT_say) fun _ => SayO.none
theorem u174f {args : List A1} {r : AV} (h : G174 operateF args = some (true, r)) : (hcTree Tryz.prog HOf 10 174 args).All (fun x => leA x r) := by
 obtain ⟨n, ρ, m, σ, x, e1, h1, e2⟩ := G174_some h
 rw [e1, e2, t174f_eq]
 have := t174f_say (n := n) (ρ := ρ) (m := m) (σ := σ)
 rw [h1] at this
 exact this
theorem p174f : UcOne Tryz.prog 174 (nG (G174 operateF)) := by
 refine ucOne_of_all (H := HOf) hOf 10 174 ?_
 intro args r h
 exact u174f h
def P1 : Par := ⟨operateF, evalS 20, fun _ _ _ => none⟩
theorem p1Ok : ParOk P1 := ⟨p174f, p176 20, p144n⟩
def block1 : BF := blockF P1 20
def run1 : RunF := runS check0 block1
theorem p15_1 : UcOne Tryz.prog 15 (nG (G15 run1)) := p15 p29_0 (m52 p1Ok 20)
def lin1 (n : Int) : Val := Val.ofFlat 3 [.int .i64 1, .int .i64 1, .int .i64 n]
def fleetV (a0 a1 a2 c0 c1 c2 : Bool) : Val :=
 Val.cat 2 (Val.cat 1 (Val.ofFlat 8 [.int .i64 0, .int .i64 1, .int .i64 1, .int .i64 6, .sl Ro.spSh 1 (lin1 6), .int .i64 (-1), .bool a0, .bool c0])
  (Val.ofFlat 8 [.int .i64 1, .int .i64 2, .int .i64 1, .int .i64 5, .sl Ro.spSh 1 (lin1 5), .int .i64 0, .bool a1, .bool c1]))
  (Val.ofFlat 8 [.int .i64 2, .int .i64 2, .int .i64 1, .int .i64 4, .sl Ro.spSh 1 (lin1 4), .int .i64 0, .bool a2, .bool c2])
def bitB (b : Int) (i : Int) : Bool := (shrI .u8 b i).tmod 2 == 1
def fleetI (b : Int) : Val := fleetV (bitB b 0) (bitB b 1) (bitB b 2) (bitB b 3) (bitB b 4) (bitB b 5)
def fleetA (b : Int) : AV := .one (.c (.sl Ro.siSh 3 (fleetI b)))
def G23 : List A1 → Option (Bool × AV)
 | [.c (.int .u8 b)] => some (true, fleetA b)
 | _ => none
noncomputable abbrev HU : Hd := ⟨[], [], [], []⟩
noncomputable abbrev H23 : Hd := ⟨[], [], lhsOf Tryz.prog HU 4 [(23, 0)], []⟩
theorem h23 : HdOk Tryz.prog H23 := lhs_ok HdOk.nil (HdOk.nil) 4 [(23, 0)]
theorem G23_some {args : List A1} {r : AV} (h : G23 args = some (true, r)) : ∃ b, args = [.c (.int .u8 b)] ∧ r = fleetA b := by
 unfold G23 at h
 split at h
 ·exact ⟨_, rfl, (congrArg Prod.snd (Option.some.inj h)).symm⟩
 ·cases h
theorem ucOne_of_sel {P : Program} {H : Hd} (hH : HdOk P H) (n f : Nat) {G : List A1 → Option (Bool × AV)} (h : ∀ args r, G args = some (true, r) → ∃ z, (hcTree P H n f args).sel = some z ∧ leA z r) : UcOne P f (nG G) := by
 refine ucOne_of_all (H := H) hH n f ?_
 intro args r hg
 obtain ⟨z, h1, h2⟩ := h args r hg
 exact sel_all h1 h2
theorem t23_sel (b : Int) : (hcTree Tryz.prog H23 10 23 [.c (.int .u8 b)]).sel = some (fleetA b) := by kernel_rfl
theorem p23 : UcOne Tryz.prog 23 (nG G23) := ucOne_of_sel h23 10 23 fun args r h => by
 obtain ⟨b, e1, e2⟩ := G23_some h
 refine ⟨fleetA b, ?_, ?_⟩
 ·rw [e1]; exact t23_sel b
 ·rw [e2]; exact leA.refl
def G24 : List A1 → Option (Bool × AV)
 | [.c (.sl es n ρ), .c (.sl es' m σ)] => if shEq.shsEq es Ro.siSh && shEq.shsEq es' Ro.siSh then some (os1 (eqSS n ρ m σ), encBo (ov1 false (eqSS n ρ m σ))) else none
 | _ => none
structure C24 where
 n : Nat
 ρ : Val
 m : Nat
 σ : Val
 b : Bool
 i : Int
def S24 (c : C24) : St := mkS 27 [(0, .one (.c (.sl Ro.siSh c.n c.ρ))), (1, .one (.c (.sl Ro.siSh c.m c.σ))), (4, .one (.c (.bool c.b))), (5, .one (.c (.int .i64 c.i)))] []
def get24 : List (Nat × AV) → Mem → Option C24
 | [(0, .one (.c (.sl es n ρ))), (1, .one (.c (.sl es' m σ))), (4, .one (.c (.bool b))), (5, .one (.c (.int .i64 i)))], [] => if shEq.shsEq es Ro.siSh && shEq.shsEq es' Ro.siSh then some ⟨n, ρ, m, σ, b, i⟩ else none
 | _, _ => none
theorem get24_ok : ∀ l m c, get24 l m = some c → mkS 27 l m = S24 c := by
 intro l m c h
 unfold get24 at h
 split at h
 ·split at h
  ·rename_i hs
   rw [Bool.and_eq_true] at hs
   rw [shsEq_eq hs.1, shsEq_eq hs.2]
   cases h; rfl
  ·cases h
 ·cases h
def eB24 (b : Bool) : St := mkS 27 [(4, .one (.c (.bool b)))] []
def getB24 : List (Nat × AV) → Mem → Option Bool
 | [(4, .one (.c (.bool b)))], [] => some b
 | _, _ => none
theorem getB24_ok : ∀ l m c, getB24 l m = some c → mkS 27 l m = eB24 c := by
 intro l m c h
 unfold getB24 at h
 split at h
 ·cases h; rfl
 ·cases h
def A24 : Sx.Frame C24 Bool := ⟨0, 27, [0, 1, 4, 5], get24, S24, [4], getB24, eB24⟩
theorem a24 : A24.Ok := .of_eq get24_ok getB24_ok
def r24 (g : C24 → Tree (XP × Bool)) (c : C24) : Tree (XP × Bool) :=
 .br (lt c.i (toInt64 c.n)) (.need (inRange c.i c.n) (.need (inRange c.i c.m) (.need (fewB (((c.ρ.at c.i.toNat).at 4).L [])) (.br (!samS (c.ρ.at c.i.toNat) (c.σ.at c.i.toNat)) (.leaf (.ret, false)) (g { c with i := IntKind.wrap .i64 (c.i + 1) }))))) (.leaf (.exit 0, c.b))
theorem r24_eq (g : C24 → Tree (XP × Bool)) (c : C24) : roundC A24 Tryz.prog H19 Go.Proofs.YtiefjlcakpdfeaaGreat.X0 10 24 0 g c = r24 g c := by kernel_rfl
def g24 (k : Nat) (c : C24) : Tree (XP × Bool) :=
 let o := eqSL c.n c.ρ c.m c.σ (toInt64 c.n) k c.i
 .need (os1 o) (.br (ov1 false o) (.leaf (.exit 0, c.b)) (.leaf (.ret, false)))
theorem g24_sel (k : Nat) (c : C24) : (g24 k c).sel = (eqSL c.n c.ρ c.m c.σ (toInt64 c.n) k c.i).bind fun b => some (bif b then (.exit 0, c.b) else (.ret, false)) := by
 unfold g24
 cases eqSL c.n c.ρ c.m c.σ (toInt64 c.n) k c.i with
 | none => rfl
 | some b => cases b <;> rfl
theorem step24 (k : Nat) (c : C24) (x : XP × Bool) (h : (g24 (k + 1) c).sel = some x) : (roundC A24 Tryz.prog H19 Go.Proofs.YtiefjlcakpdfeaaGreat.X0 10 24 0 (g24 k) c).sel = some x := by
 rw [r24_eq]
 rw [g24_sel] at h
 unfold eqSL at h
 unfold r24
 simp only [sel_br, sel_need, sel_leaf, g24_sel]
 revert h
 cases lt c.i (toInt64 c.n) with
 | false => exact fun h => h
 | true =>
 cases inRange c.i c.n with
 | false => exact fun h => h
 | true =>
 cases inRange c.i c.m with
 | false => exact fun h => h
 | true =>
 cases fewB (((c.ρ.at c.i.toNat).at 4).L []) with
 | false => exact fun h => h
 | true => cases samS (c.ρ.at c.i.toNat) (c.σ.at c.i.toNat) <;> exact fun h => h
theorem core24 : ∀ k, CoreOk Tryz.prog 24 0 0 S24 eB24 (g24 k) := CoreOk.fuel (A := A24) a24 h19 Go.Proofs.YtiefjlcakpdfeaaGreat.x0 10 (fun _ => rfl) step24
def gg24 (c : C24) : Tree (XP × Bool) := g24 (c.n + 1) c
def X24 : HdP := ⟨[], [], [], [((24, 0), loopC A24 gg24)], [], 0, []⟩
theorem x24 : XOk Tryz.prog X24 := XOk.lxCons XOk.nil (CoreOk.lx (g := gg24) a24 fun fn c b h1 h2 h3 c0 x hx => core24 _ fn c b h1 h2 h3 c0 x hx)
theorem t24_eq (n : Nat) (ρ : Val) (m : Nat) (σ : Val) : hcTreeP Tryz.prog H19 X24 10 24 [.c (.sl Ro.siSh n ρ), .c (.sl Ro.siSh m σ)] = t19 n ρ m σ := by kernel_rfl
theorem G24_some {args : List A1} {r : AV} (h : G24 args = some (true, r)) : ∃ n ρ m σ x, args = [.c (.sl Ro.siSh n ρ), .c (.sl Ro.siSh m σ)] ∧ eqSS n ρ m σ = some x ∧ r = encBo x := by
 unfold G24 at h
 split at h
 ·rename_i es n ρ es' m σ
  cases hs : (shEq.shsEq es Ro.siSh && shEq.shsEq es' Ro.siSh) with
  | false => rw [hs] at h; cases h
  | true =>
    rw [hs, if_pos rfl] at h
    rw [Bool.and_eq_true] at hs
    rw [shsEq_eq hs.1, shsEq_eq hs.2]
    cases hp : eqSS n ρ m σ with
   | none => rw [hp] at h; cases h
   | some x => rw [hp] at h; cases h; exact ⟨n, ρ, m, σ, x, rfl, hp, rfl⟩
 ·cases h
theorem u24 {args : List A1} {r : AV} (h : G24 args = some (true, r)) : (hcTreeP Tryz.prog H19 X24 10 24 args).All (fun x => leA x r) := by
 obtain ⟨n, ρ, m, σ, x, e1, h1, e2⟩ := G24_some h
 rw [e1, e2, t24_eq]
 have := t19_say n ρ m σ
 rw [h1] at this
 exact this
theorem p24 : UcOne Tryz.prog 24 (nG G24) := by
 refine ucOneP_of_all (H := H19) (X := X24) h19 x24 10 24 ?_
 intro args r h
 exact u24 h
noncomputable def Gat (args0 : List A1) (r0 : AV) : List A1 → Option (Bool × AV) := fun args => bif dec (args = args0) then some (true, r0) else none
theorem Gat_some {args0 args : List A1} {r0 r : AV} (h : Gat args0 r0 args = some (true, r)) : args = args0 ∧ r = r0 := by
 unfold Gat at h
 cases hd : dec (args = args0) with
 | false => rw [hd] at h; cases h
 | true => rw [hd] at h; exact ⟨dec_iff.1 hd, (congrArg Prod.snd (Option.some.inj h)).symm⟩
theorem Gat_at (args0 : List A1) (r0 : AV) : (nG (Gat args0 r0) args0).sel = some r0 := by
 have : Gat args0 r0 args0 = some (true, r0) := by
  unfold Gat
  rw [dec_iff.2 rfl]
  rfl
 unfold nG
 rw [this]
 rfl
theorem UcOne.at {P : Program} {f : Nat} {args0 : List A1} {r0 : AV} (h : UcOne P f (nG (Gat args0 r0))) (hc : args0.all closedA = true) {G : List A1 → Option (Bool × AV)}
  (hg : ∀ args r, G args = some (true, r) → r = r0 ∧ ∀ F w vs, All2 (A1.Rel F w []) args vs → All2 (A1.Rel F w []) args0 vs) : UcOne P f (nG G) := by
 intro args r hs hcl F w vs hargs
 obtain ⟨rfl, hw⟩ := hg args r (nG_sel hs)
 exact h args0 r (Gat_at args0 r) hc F w vs (hw F w vs hargs)
def T63 : ByteArray := bs [114, 117, 110, 98, 111, 111, 107, 32, 98, 111, 111, 107, 32, 123, 32, 35, 32, 115, 116, 101, 112, 115, 32, 97, 110, 100, 32, 119, 104, 97, 116, 32, 117, 110, 100, 111, 101, 115, 32, 116, 104, 101, 109, 10, 100, 111, 32, 100, 111, 119, 110, 32, 115, 48, 32, 117, 110, 100, 111, 32, 123, 32, 100, 111, 32, 117, 112, 32, 115, 48, 32, 59, 32, 125, 32, 59, 10, 100, 111, 32, 100, 111, 119, 110, 32, 115, 49, 32, 117, 110, 100, 111, 32, 123, 32, 100, 111, 32, 117, 112, 32, 115, 49, 32, 59, 32, 125, 32, 59, 10, 125]
def R63 : AV := .tup [.c (.str T63), .c .any, .c (.int .i64 2)]
def a63 : List A1 := [.agg [.sl [.int .u8] 2 (Val.ofFlat 1 [.int .u8 0, .int .u8 2]), .int .u8 63, .any]]
noncomputable abbrev H63 : Hd := ⟨[], [], lhsOf Tryz.prog HU 6 [(23, 0), (63, 0)], []⟩
theorem h63 : HdOk Tryz.prog H63 := lhs_ok HdOk.nil HdOk.nil 6 [(23, 0), (63, 0)]
def is63 : AV → Bool
 | .tup [.c (.str s), .c (.sl _ _ _), .c (.int .i64 n)] => strEq s T63 && n == 2
 | _ => false
theorem t63_sel : ((hcTree Tryz.prog H63 10 63 a63).sel.map is63) = some true := by kernel_rfl
theorem is63_le {z : AV} (h : is63 z = true) : leA z R63 := by
 unfold is63 at h
 split at h
 ·rename_i s es n ρ k
  rw [Bool.and_eq_true] at h
  have h1 := strEq_eq h.1
  have h2 : k = 2 := by simpa using h.2
  rw [h1, h2]
  exact leA_tup (.cons (.c leC.refl) (.cons (.c leC_any) (.cons (.c leC.refl) .nil)))
 ·cases h
theorem p63a : UcOne Tryz.prog 63 (nG (Gat a63 R63)) := ucOne_of_sel h63 10 63 fun args r h => by
 obtain ⟨e1, e2⟩ := Gat_some h
 have := t63_sel
 cases hz : (hcTree Tryz.prog H63 10 63 a63).sel with
 | none => rw [hz] at this; cases this
 | some z =>
   rw [hz] at this
   refine ⟨z, ?_, ?_⟩
   ·rw [e1]; exact hz
   ·rw [e2]; exact is63_le (Option.some.inj this)
def c63 (n : Nat) (ξ : Val) (b : Int) : Bool := Nat.beq n 2 && b == 63 && ((ξ.at 0).at 0).N [] == 0 && ((ξ.at 1).at 0).N [] == 2
def G63 : List A1 → Option (Bool × AV)
 | [.agg [.sl [.int .u8] n ξ, .int .u8 b, .sl [.int .i64] _ _]] => if c63 n ξ b then some (true, R63) else none
 | _ => none
theorem G63_some {args : List A1} {r : AV} (h : G63 args = some (true, r)) : ∃ ξ q τ, args = [.agg [.sl [.int .u8] 2 ξ, .int .u8 63, .sl [.int .i64] q τ]] ∧ ((ξ.at 0).at 0).N [] = 0 ∧ ((ξ.at 1).at 0).N [] = 2 ∧ r = R63 := by
 unfold G63 at h
 split at h
 ·rename_i n ξ b q τ
  cases hc : c63 n ξ b with
  | false => rw [hc] at h; cases h
  | true =>
    rw [hc] at h
    unfold c63 at hc
    simp only [Bool.and_eq_true, beq_iff_eq] at hc
    obtain ⟨⟨⟨h1, h2⟩, h3⟩, h4⟩ := hc
    have h1 := Nat.eq_of_beq_eq_true h1
    exact ⟨ξ, q, τ, by rw [h1, h2], h3, h4, (congrArg Prod.snd (Option.some.inj h)).symm⟩
 ·cases h
theorem p63 : UcOne Tryz.prog 63 (nG G63) := UcOne.at p63a rfl fun args r h => by
 obtain ⟨ξ, q, τ, e, h1, h2, hr⟩ := G63_some h
 refine ⟨hr, fun F w vs hargs => ?_⟩
 rw [e] at hargs
 cases hargs with
 | cons ha hn =>
   cases hn
   obtain ⟨us, rfl, hu⟩ := ha
   refine .cons ⟨us, rfl, ?_⟩ .nil
   cases hu with
  | cons k1 k2 => cases k2 with
   | cons k2 k3 => cases k3 with
    | cons k3 k4 =>
      cases k4
      refine .cons ?_ (.cons k2 (.cons (.any k3.one) .nil))
      refine leC_ext (fun i f s hi hs => ?_) _ _ _ k1
      cases f with
     | succ f => simp [nth] at hs
     | zero =>
       simp only [nth, Option.some.injEq] at hs
       subst hs
       match i, hi with
      | 0, _ => show CV.int .u8 (((ξ.at 0).at 0).N []) = CV.int .u8 0; rw [h1]
      | 1, _ => show CV.int .u8 (((ξ.at 1).at 0).N []) = CV.int .u8 2; rw [h2]
noncomputable abbrev H25 : Hd := ⟨[], [(8, nG G8F), (15, nG (G15 run0)), (23, nG G23), (24, nG G24), (63, nG G63)], [], []⟩
theorem h25 : HdOk Tryz.prog H25 := ((((HdOk.nil.ucCons p63).ucCons p24).ucCons p23).ucCons p15_0).ucCons (p8F 100 20 20 20 (by decide +kernel))
theorem t25_sel : (hcTree Tryz.prog H25 10 25 []).sel = some (encBo true) := by kernel_rfl
theorem p25 : UcOne Tryz.prog 25 (nG G7) := ucOne_of_sel h25 10 25 fun args r h => by
 obtain ⟨e1, e2⟩ := G7_some h
 refine ⟨encBo true, ?_, ?_⟩
 ·rw [e1]; exact t25_sel
 ·rw [e2]; exact leA.refl
def tA : ByteArray := bs [114, 117, 110, 98, 111, 111, 107, 32, 111, 118, 101, 114, 32, 123, 32, 114, 101, 113, 117, 105, 114, 101, 32, 97, 108, 105, 118, 101, 32, 115]
def tB : ByteArray := bs [32, 111, 114, 32, 101, 112, 111, 99, 104, 32, 115, 48, 32, 62, 32, 49, 32, 59, 32, 100, 111, 32, 102, 97, 105, 108, 111, 118, 101, 114, 32, 115]
def tC : ByteArray := bs [32, 59, 32, 115, 97, 121, 32, 100, 111, 110, 101, 32, 59, 32, 125]
def digS (n : Int) : ByteArray := Sx.encI (IntKind.wrap .i32 (IntKind.wrap .i64 (48 + n)))
def s1T (m : Int) : ByteArray := strCat tA (digS m)
def s2T (m : Int) : ByteArray := strCat (s1T m) tB
def s3T (m k : Int) : ByteArray := strCat (s2T m) (digS k)
def s4T (m k : Int) : ByteArray := strCat (s3T m k) tC
def catC (a b : ByteArray) : Bool := Nat.ble (a.size + b.size) 9223372036854775807
def wFailReq : ByteArray := bs [102, 97, 105, 108, 32, 114, 101, 113, 117, 105, 114, 101]
def wFailDo : ByteArray := bs [102, 97, 105, 108, 32, 100, 111]
def wSayDone : ByteArray := bs [115, 97, 121, 32, 100, 111, 110, 101]
abbrev ParF := ByteArray → Option Book
def par6 : ParF := parseF 100 20 20 20
def G8P (P : ParF) : List A1 → Option (Bool × AV)
 | [.c (.str s)] => some (oB (P s), encK (oV (P s)))
 | _ => none
noncomputable abbrev H6b (P : ParF) (R : RunF) : Hd := ⟨[(26, nG G26)], [(8, nG (G8P P)), (15, nG (G15 R)), (23, nG G23), (24, nG G24), (25, nG G7), (27, nG G27)], [], []⟩
noncomputable abbrev H6 (P : ParF) (R : RunF) : Hd := ⟨[(26, nG G26)], [(8, nG (G8P P)), (15, nG (G15 R)), (23, nG G23), (24, nG G24), (25, nG G7), (27, nG G27)], lhsOf Tryz.prog (H6b P R) 6 [(6, 0), (6, 1)], []⟩
theorem h6b {P : ParF} {R : RunF} (hP : UcOne Tryz.prog 8 (nG (G8P P))) (hR : UcOne Tryz.prog 15 (nG (G15 R))) : HdOk Tryz.prog (H6b P R) :=
 ((((((HdOk.nil.ucCons p27).ucCons p25).ucCons p24).ucCons p23).ucCons hR).ucCons hP).tcCons p26
theorem h6 {P : ParF} {R : RunF} (hP : UcOne Tryz.prog 8 (nG (G8P P))) (hR : UcOne Tryz.prog 15 (nG (G15 R))) : HdOk Tryz.prog (H6 P R) := lhs_ok (h6b hP hR) (h6b hP hR) 6 _
def lB (b : Bool) : Tree AV := .leaf (encBo b)
def chkT (e1 : Bool) (n : Nat) (ρ : Val) (m : Nat) (σ : Val) (pn : Nat) (pρ : Val) (c : Int) (i : Nat) (w : ByteArray) : Tree AV :=
 let q := eqSS n ρ m σ
 let v2 := bif e1 then ov1 false q else false
 let v3 := bif v2 then toInt64 pn == c else false
 let v4 := bif v3 then strEq (wd pρ i) w else false
 .need (!((e1 == true) && true) || os1 q) (.need (!((v3 == true) && true) || inRange (i : Int) pn) (.need (!((v4 == true) && true) || true) (lB (bif v4 then true else false))))
def stepT6 (K : Prc → Ses → Tree AV) (p : Prc) (l : Ses) : Tree AV :=
 .need (smallB l.n l.ρ) (.br (Ro.Fo.stpE p l true p.e != 0) (lB false) (K (Ro.Fo.stpP p l true p.e) (Ro.Fo.stpL p l true p.e)))
def u6 (P : ParF) (R : RunF) (b to needed : Int) : Tree AV :=
 let k := IntKind.wrap .i64 (to.tmod 3)
 let m := IntKind.wrap .i64 (needed.tmod 3)
 let fl := fleetI b
 let p := P (s4T m k)
 let pv := oV p
 let r := R pv.1 pv.2.1.length (blkV pv.2.1) 3 fl 0 .zero
 let rv := ov1 rr0 r
 let bg := Ro.Fo.begE ⟨3, fl⟩ ⟨3, lostV fl 3⟩ k
 let bp := Ro.Fo.begP ⟨3, fl⟩ ⟨3, lostV fl 3⟩ k
 .need (catC tA (digS m)) (.need (catC (s1T m) tB) (.need (catC (s2T m) (digS k)) (.need (catC (s3T m k) tC) (.need (oB p) (.br (pv.2.2.2 != 0) (lB false) (.need (os1 r)
  (.need (inRange m 3) (.br (!(((fl.at m.toNat).at 6).B [])) (chkT (rv.e == 12) rv.sn rv.sρ 3 fl rv.pn rv.pρ 1 0 wFailReq)
   (.need (smallB 3 fl) (.br (bg != 0) (chkT (rv.e == bg) rv.sn rv.sρ 3 fl rv.pn rv.pρ 1 0 wFailDo)
    (stepT6 (stepT6 (stepT6 (stepT6 fun q l => chkT (bif q.d then rv.e == 0 else false) rv.sn rv.sρ l.n l.ρ rv.pn rv.pρ 2 1 wSayDone))) bp ⟨3, fl⟩)))))))))))
theorem t6_eq (P : ParF) (R : RunF) (b to needed : Int) : (evFn Tryz.prog (H6 P R) 10 6 [.c (.int .u8 b), .c (.int .u8 to), .c (.int .u8 needed)] []).vals.sel = (u6 P R b to needed).sel := by kernel_rfl
def u6V (P : ParF) (R : RunF) (fl : Val) (k m : Int) : Tree AV :=
 let p := P (s4T m k)
 let pv := oV p
 let r := R pv.1 pv.2.1.length (blkV pv.2.1) 3 fl 0 .zero
 let rv := ov1 rr0 r
 let bg := Ro.Fo.begE ⟨3, fl⟩ ⟨3, lostV fl 3⟩ k
 let bp := Ro.Fo.begP ⟨3, fl⟩ ⟨3, lostV fl 3⟩ k
 .need (catC tA (digS m)) (.need (catC (s1T m) tB) (.need (catC (s2T m) (digS k)) (.need (catC (s3T m k) tC) (.need (oB p) (.br (pv.2.2.2 != 0) (lB false) (.need (os1 r)
  (.need (inRange m 3) (.br (!(((fl.at m.toNat).at 6).B [])) (chkT (rv.e == 12) rv.sn rv.sρ 3 fl rv.pn rv.pρ 1 0 wFailReq)
   (.need (smallB 3 fl) (.br (bg != 0) (chkT (rv.e == bg) rv.sn rv.sρ 3 fl rv.pn rv.pρ 1 0 wFailDo)
    (stepT6 (stepT6 (stepT6 (stepT6 fun q l => chkT (bif q.d then rv.e == 0 else false) rv.sn rv.sρ l.n l.ρ rv.pn rv.pρ 2 1 wSayDone))) bp ⟨3, fl⟩)))))))))))
theorem u6_eq (P : ParF) (R : RunF) (b to needed : Int) : u6 P R b to needed = u6V P R (fleetI b) (IntKind.wrap .i64 (to.tmod 3)) (IntKind.wrap .i64 (needed.tmod 3)) := rfl
def isT : Option AV → Bool
 | some (.one (.c (.bool b))) => b
 | _ => false
def allFl (f : Val → Bool) : Bool :=
 [false, true].all fun a0 => [false, true].all fun a1 => [false, true].all fun a2 => [false, true].all fun c0 => [false, true].all fun c1 => [false, true].all fun c2 => f (fleetV a0 a1 a2 c0 c1 c2)
noncomputable def chk6 (k m : Int) : Bool := allFl fun fl => isT (u6V par6 run1 fl k m).sel
theorem c00 : chk6 0 0 = true := by kernel_rfl
theorem c01 : chk6 0 1 = true := by kernel_rfl
theorem c02 : chk6 0 2 = true := by kernel_rfl
theorem c10 : chk6 1 0 = true := by kernel_rfl
theorem c11 : chk6 1 1 = true := by kernel_rfl
theorem c12 : chk6 1 2 = true := by kernel_rfl
theorem c20 : chk6 2 0 = true := by kernel_rfl
theorem c21 : chk6 2 1 = true := by kernel_rfl
theorem c22 : chk6 2 2 = true := by kernel_rfl
theorem chk6_all {k m : Int} (hk : k = 0 ∨ k = 1 ∨ k = 2) (hm : m = 0 ∨ m = 1 ∨ m = 2) : chk6 k m = true := by
 rcases hk with rfl | rfl | rfl <;> rcases hm with rfl | rfl | rfl
 ·exact c00
 ·exact c01
 ·exact c02
 ·exact c10
 ·exact c11
 ·exact c12
 ·exact c20
 ·exact c21
 ·exact c22
theorem allFl_ok {f : Val → Bool} (h : allFl f = true) (a0 a1 a2 c0 c1 c2 : Bool) : f (fleetV a0 a1 a2 c0 c1 c2) = true := by
 unfold allFl at h
 have key : ∀ {g : Bool → Bool}, [false, true].all g = true → ∀ b, g b = true := by
  intro g hg b
  simp only [List.all_cons, List.all_nil, Bool.and_true, Bool.and_eq_true] at hg
  cases b
  ·exact hg.1
  ·exact hg.2
 exact key (key (key (key (key (key h a0) a1) a2) c0) c1) c2
theorem isT_some {o : Option AV} (h : isT o = true) : o = some (.one (.c (.bool true))) := by
 unfold isT at h
 split at h
 ·rw [h]
 ·cases h
theorem rem3 (n : Int) (h : 0 ≤ n) : IntKind.wrap .i64 (n.tmod 3) = 0 ∨ IntKind.wrap .i64 (n.tmod 3) = 1 ∨ IntKind.wrap .i64 (n.tmod 3) = 2 := by
 have h1 : n.tmod 3 = n % 3 := Int.tmod_eq_emod_of_nonneg h
 have h2 : n % 3 = 0 ∨ n % 3 = 1 ∨ n % 3 = 2 := by omega
 rw [h1]
 rcases h2 with h2 | h2 | h2 <;> rw [h2]
 ·exact .inl rfl
 ·exact .inr (.inl rfl)
 ·exact .inr (.inr rfl)
theorem p8P : UcOne Tryz.prog 8 (nG (G8P par6)) := p8F 100 20 20 20 (by decide +kernel)
theorem law6 {b to needed : Int} (ht : 0 ≤ to) (hn : 0 ≤ needed) {F : Nat → Prop} {W : World} {vs : List Value}
  (hargs : All2 (A1.Rel F W []) [.c (.int .u8 b), .c (.int .u8 to), .c (.int .u8 needed)] vs) : Calls Tryz.prog 6 vs.toArray W (fun e W' => e = .returned (.bool true) ∧ Below W.heap.size W W') := by
 refine law_of_tree (H := H6 par6 run1) (h6 p8P p15_1) 10 6 (u := (evFn Tryz.prog (H6 par6 run1) 10 6 [.c (.int .u8 b), .c (.int .u8 to), .c (.int .u8 needed)] []).vals) rfl ?_ hargs
 refine sel_all ?_ rfl
 rw [t6_eq, u6_eq]
 exact isT_some (allFl_ok (chk6_all (rem3 to ht) (rem3 needed hn)) _ _ _ _ _ _)
theorem argU_eq (ρ : Val) : argOf Tryz.prog 5 [.int .u8] ρ = .c (.int .u8 ((ρ.at 0).N [])) := by kernel_rfl
theorem u8_of {ρ : Val} (h : wfL [.int .u8] 0 ρ) : 0 ≤ (ρ.at 0).N [] := by
 have h := h.1
 simp only [wfC] at h
 have : 0 ≤ (ρ.at 0).N [] ∧ (ρ.at 0).N [] ≤ 255 := by
  simpa [Lit.wf, IntKind.min, IntKind.max, IntKind.signed, IntKind.bits] using h
 exact this.1
end Go.Proofs.YtiefjlcakpdfeaaGreat
