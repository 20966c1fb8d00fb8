/-
 Part TrZC of the proof: RcF RcG.
-/
import Derived.Test.YtiefjlcakpdfeaaGreatTrZB
namespace Go.Proofs.YtiefjlcakpdfeaaGreat
open Go Go.Sx Go.RowKit Rb
set_option maxRecDepth 100000
def os1 {β : Type} : Option β → Bool | some _ => true | none => false
def ov1 {β : Type} (d : β) : Option β → β | some x => x | none => d
def Sy {β : Type} (enc : β → AV) (T : Tree AV) : Option β → Prop
 | none => True
 | some x => T.All (fun z => leA z (enc x))
section
variable {β γ : Type} {enc : β → AV}
theorem Sy.cond {c : Bool} {T E : Tree AV} {a b : Option β} (h1 : c = true → Sy enc T a) (h2 : c = false → Sy enc E b) : Sy enc (.br c T E) (bif c then a else b) := by
 cases c with
 | true =>
   have := h1 rfl
   show Sy enc _ a
   cases a with
  | none => exact trivial
  | some y => exact ⟨fun _ => this, (fun h => by cases h)⟩
 | false =>
   have := h2 rfl
   show Sy enc _ b
   cases b with
  | none => exact trivial
  | some y => exact ⟨(fun h => by cases h), fun _ => this⟩
theorem Sy.nd {c d : Bool} {T : Tree AV} {a : Option β} (h : c = true → d = true) (h1 : c = true → Sy enc T a) : Sy enc (.need d T) (Go.Proofs.YtiefjlcakpdfeaaGreat.nd c a) := by
 cases c with
 | false => exact trivial
 | true =>
   have := h1 rfl
   show Sy enc _ a
   cases a with
  | none => exact trivial
  | some y => exact ⟨h rfl, this⟩
theorem Sy.need {d : Bool} {T : Tree AV} {a : Option β} (h : d = true) (h1 : Sy enc T a) : Sy enc (.need d T) a := by
 cases a with
 | none => exact trivial
 | some y => exact ⟨h, h1⟩
theorem Sy.ret {v : β} : Sy enc (.leaf (enc v)) (some v) := leA.refl
theorem Sy.ret' {v : β} {r : AV} (h : leA r (enc v)) : Sy enc (.leaf r) (some v) := h
theorem Sy.bind {d : γ} {o : Option γ} {K : γ → Tree AV} {f : γ → Option β} (h : ∀ v, Sy enc (K v) (f v)) : Sy enc (.need (os1 o) (K (ov1 d o))) (o.bind f) := by
 cases o with
 | none => exact trivial
 | some v =>
   have := h v
   show Sy enc _ (f v)
   cases hf : f v with
  | none => exact trivial
  | some y => rw [hf] at this; exact ⟨rfl, this⟩
theorem Sy.br1 {c : Bool} {T E : Tree AV} {a : Option β} (hc : c = true) (h : Sy enc T a) : Sy enc (.br c T E) a := by
 subst hc
 cases a with
 | none => exact trivial
 | some y => exact ⟨fun _ => h, fun h => by cases h⟩
theorem Sy.br0 {c : Bool} {T E : Tree AV} {a : Option β} (hc : c = false) (h : Sy enc E a) : Sy enc (.br c T E) a := by
 subst hc
 cases a with
 | none => exact trivial
 | some y => exact ⟨(fun h => by cases h), fun _ => h⟩
end
def enc2 (x : Int × Int) : AV := .tup [.c (.int .i64 x.1), .c (.int .i64 x.2)]
def encI (x : Int) : AV := .one (.c (.int .i64 x))
def encBo (x : Bool) : AV := .one (.c (.bool x))
def lf2 (a b : Int) : Tree AV := .leaf (enc2 (a, b))
abbrev RN := RX → Option Val
def G196 (R : RN) : List A1 → Option (Bool × AV)
 | [.agg [.str o, .int .i64 v, .sl es n ρ]] => if shEq.shsEq es (rtab 0) then some (os1 (R ⟨o, v, n, ρ⟩), .one (.c (.ifx (ov1 .zero (R ⟨o, v, n, ρ⟩))))) else none
 | _ => none
def encN (d : Val) : AV := .one (.c (.ifx d))
theorem G196_some {R : RN} {args : List A1} {r : AV} (h : G196 R args = some (true, r)) : ∃ o v n ρ x, args = [.agg [.str o, .int .i64 v, .sl (rtab 0) n ρ]] ∧ R ⟨o, v, n, ρ⟩ = some x ∧ r = encN x := by
 unfold G196 at h
 split at h
 ·split at h
  ·rename_i o v es n ρ hs
   simp only [Option.some.injEq, Prod.mk.injEq] at h
   cases hR : R ⟨o, v, n, ρ⟩ with
   | none => rw [hR] at h; cases h.1
   | some x => rw [hR] at h; exact ⟨o, v, n, ρ, x, by rw [shsEq_eq hs], hR, h.2.symm⟩
  ·cases h
 ·cases h
noncomputable abbrev H196 (R : RN) : Hd := ⟨[], [(196, nG (G196 R))], [], []⟩
theorem h196 {R : RN} (hR : UcOne Tryz.prog 196 (nG (G196 R))) : HdOk Tryz.prog (H196 R) := HdOk.nil.ucCons hR
abbrev X3 : HdP := ⟨[], [], [], [], [], 3, []⟩
theorem x3 : XOk Tryz.prog X3 := XOk.nil
def k1V (d : Val) : Val := Val.ofFlat 1 [.ifx d]
def k2V (a b : Val) : Val := Val.cat 1 (k1V a) (k1V b)
def opnC (o : ByteArray) (n : Nat) (ρ : Val) : CV := .ifa 246 [.str o, .sl [.ifc] n ρ]
def lfC (x : CV) : Tree AV := .leaf (.one (.c x))
def t196 (R : RN) (e : RX) : Tree AV :=
 let a := R (kidX e.ρ 0)
 let b := R (kidX e.ρ 1)
 let c := R (kidX e.ρ 2)
 let av := ov1 .zero a
 let bv := ov1 .zero b
 .br (strEq e.op wNum) (lfC (.iface 241 (.int .i64 e.v))) (.br (toInt64 e.n == 0) (lfC (.ifa 243 [.str e.op, .int .i64 e.v]))
  (.br (lt 0 (toInt64 e.n)) (.need (inRange 0 e.n) (.need (os1 a) (.need (Nat.ble (1 * 16) 140737488355328)
   (.br (lt 1 (toInt64 e.n)) (.need (inRange 1 e.n) (.need (os1 b) (.need (Nat.ble (2 * 16) 140737488355328)
    (.br (lt 2 (toInt64 e.n)) (.need (inRange 2 e.n) (.need (os1 c) (.need (Nat.ble (3 * 16) 140737488355328) .fail)))
     (lfC (opnC e.op 2 (k2V av bv)))))))
    (lfC (opnC e.op 1 (k1V av))))))) (lfC (.ifa 246 [.str e.op, .nils]))))
theorem t196_eq (R : RN) (o : ByteArray) (v : Int) (n : Nat) (ρ : Val) : hcTreeP Tryz.prog (H196 R) X3 10 196 [.agg [.str o, .int .i64 v, .sl (rtab 0) n ρ]] = t196 R ⟨o, v, n, ρ⟩ := by kernel_rfl
theorem leC_ifx {x : CV} (h : fits .ifc x = true) : leC x (.ifx (Val.ofC x)) := fun _ _ _ hv => fits_rel (s := .ifc) hv h
theorem leA_ifx {x : CV} (h : fits .ifc x = true) : leA (.one (.c x)) (encN (Val.ofC x)) := leA_one (.c (leC_ifx h))
def nodeG (R : RN) (e : RX) : Option Val :=
 bif strEq e.op wNum then some (Val.ofC (.iface 241 (.int .i64 e.v)))
 else bif toInt64 e.n == 0 then some (Val.ofC (.ifa 243 [.str e.op, .int .i64 e.v]))
 else bif toInt64 e.n == 1 then (R (kidX e.ρ 0)).bind fun a => some (Val.ofC (opnC e.op 1 (k1V a)))
 else bif toInt64 e.n == 2 then (R (kidX e.ρ 0)).bind fun a => (R (kidX e.ρ 1)).bind fun b => some (Val.ofC (opnC e.op 2 (k2V a b)))
 else none
theorem t196_say (R : RN) (e : RX) : Sy encN (t196 R e) (nodeG R e) := by
 unfold t196 nodeG
 refine Sy.cond (fun _ => Sy.ret' (leA_ifx rfl)) fun _ => Sy.cond (fun _ => Sy.ret' (leA_ifx rfl)) fun h0 => ?_
 have h0 : e.n ≠ 0 := fun h => by rw [h] at h0; cases h0
 have g0 : lt 0 (toInt64 e.n) = true := by unfold lt toInt64; simp; omega
 have i0 : inRange 0 e.n = true := by unfold inRange le lt toInt64; simp; omega
 refine Sy.br1 g0 (Sy.need i0 ?_)
 cases h1 : (toInt64 e.n == 1) with
 | true =>
   have h1 : e.n = 1 := by simp [toInt64] at h1; omega
   refine Sy.bind fun a => Sy.need rfl (Sy.br0 ?_ (Sy.ret' (leA_ifx rfl)))
   rw [h1]; rfl
 | false =>
   have h1 : e.n ≠ 1 := fun h => by rw [h] at h1; cases h1
   have g1 : lt 1 (toInt64 e.n) = true := by unfold lt toInt64; simp; omega
   have i1 : inRange 1 e.n = true := by unfold inRange le lt toInt64; simp; omega
   cases h2 : (toInt64 e.n == 2) with
  | true =>
    have h2 : e.n = 2 := by simp [toInt64] at h2; omega
    refine Sy.bind fun a => Sy.need rfl (Sy.br1 g1 (Sy.need i1 (Sy.bind fun b => Sy.need rfl (Sy.br0 ?_ (Sy.ret' (leA_ifx rfl))))))
    rw [h2]; rfl
  | false => exact trivial
theorem p196s {R : RN} (hR : UcOne Tryz.prog 196 (nG (G196 R))) : UcOne Tryz.prog 196 (nG (G196 (nodeG R))) := by
 refine ucOneP_of_all (H := H196 R) (X := X3) (h196 hR) x3 10 196 ?_
 intro args r h
 obtain ⟨o, v, n, ρ, x, e1, h1, e2⟩ := G196_some h
 rw [e1, e2, t196_eq]
 have := t196_say R ⟨o, v, n, ρ⟩
 rw [h1] at this
 exact this
def nodeF : Nat → RN
 | 0 => fun _ => none
 | f + 1 => nodeG (nodeF f)
theorem p196 : ∀ f, UcOne Tryz.prog 196 (nG (G196 (nodeF f)))
 | 0 => by
   intro args r h
   obtain ⟨o, v, n, ρ, x, _, h1, _⟩ := G196_some (nG_sel h)
   cases h1
 | f + 1 => p196s (p196 f)
def flagI (b : Bool) : Int := bif b then 1 else 0
def G234 : List A1 → Option (Bool × AV)
 | [.c (.bool b)] => some (true, encI (flagI b))
 | _ => none
def t234 (b : Bool) : Tree AV := .br b (.leaf (encI 1)) (.leaf (encI 0))
theorem t234_eq (b : Bool) : hcTree Tryz.prog h00 10 234 [.c (.bool b)] = t234 b := by kernel_rfl
theorem p234 : UcOne Tryz.prog 234 (nG G234) := by
 refine ucOne_of_tree (H := h00) HdOk.nil 10 234 ?_
 intro args r h
 unfold G234 at h
 split at h
 ·rename_i b
  simp only [Option.some.injEq, Prod.mk.injEq, true_and] at h
  subst h
  refine ⟨_, t234_eq b, ?_⟩
  cases b <;> exact sel_all rfl leA.refl
 ·cases h
def G231 : List A1 → Option (Bool × AV)
 | [.c (.int .i64 v), .c (.sl _ _ _)] => some (true, enc2 (v, 0))
 | _ => none
theorem p231 : UcOne Tryz.prog 231 (nG G231) := by
 refine ucOne_of_tree (H := h00) HdOk.nil 10 231 ?_
 intro args r h
 unfold G231 at h
 split at h
 ·rename_i v es n ρ
  simp only [Option.some.injEq, Prod.mk.injEq, true_and] at h
  subst h
  exact ⟨lf2 v 0, by kernel_rfl, leA.refl⟩
 ·cases h
noncomputable abbrev H232 : Hd := ⟨[fK 233], [(234, nG G234)], [], []⟩
theorem h232 : HdOk Tryz.prog H232 := HdOk.fK (HdOk.nil.ucCons p234) 233
def prpS (w : ByteArray) (i : Int) (n : Nat) (ρ : Val) : Option (Int × Int) :=
 let s := ρ.at i.toNat
 bif strEq w wPrimary then none else bif strEq w wSites then some (toInt64 n, 0) else bif le (toInt64 n) i then some (0, 7) else nd (inRange i n)
  (bif strEq w wEpoch then some ((s.at 2).N [], 0) else bif strEq w wApplied then some ((s.at 3).N [], 0) else bif strEq w wRole then some ((s.at 1).N [], 0)
   else bif strEq w wAlive then some (flagI ((s.at 6).B []), 0) else some (flagI ((s.at 7).B []), 0))
def G232 : List A1 → Option (Bool × AV)
 | [.agg [.str w, .int .i64 i], .c (.sl es n ρ)] => if shEq.shsEq es Ro.siSh then some (os1 (prpS w i n ρ), enc2 (ov1 (0, 0) (prpS w i n ρ))) else none
 | _ => none
def t232 (w : ByteArray) (i : Int) (n : Nat) (ρ : Val) : Tree AV :=
 let s := ρ.at i.toNat
 .br (strEq w wPrimary) .fail (.br (strEq w wSites) (lf2 (toInt64 n) 0) (.br (le (toInt64 n) i) (lf2 0 7) (.need (inRange i n)
  (.br (strEq w wEpoch) (lf2 ((s.at 2).N []) 0) (.br (strEq w wApplied) (lf2 ((s.at 3).N []) 0) (.br (strEq w wRole) (lf2 ((s.at 1).N []) 0)
   (.br (strEq w wAlive) (.need true (lf2 (flagI ((s.at 6).B [])) 0)) (.need true (lf2 (flagI ((s.at 7).B [])) 0)))))))))
theorem t232_eq (w : ByteArray) (i : Int) (n : Nat) (ρ : Val) : hcTree Tryz.prog H232 10 232 [.agg [.str w, .int .i64 i], .c (.sl Ro.siSh n ρ)] = t232 w i n ρ := by kernel_rfl
theorem t232_say (w : ByteArray) (i : Int) (n : Nat) (ρ : Val) : Sy enc2 (t232 w i n ρ) (prpS w i n ρ) := by
 unfold t232 prpS
 refine Sy.cond (fun _ => trivial) fun _ => Sy.cond (fun _ => Sy.ret) fun _ => Sy.cond (fun _ => Sy.ret) fun _ => Sy.nd id fun _ => Sy.cond (fun _ => Sy.ret) fun _ => Sy.cond (fun _ => Sy.ret) fun _ => Sy.cond (fun _ => Sy.ret) fun _ => Sy.cond (fun _ => Sy.need rfl Sy.ret) fun _ => Sy.need rfl Sy.ret
theorem p232 : UcOne Tryz.prog 232 (nG G232) := by
 refine ucOne_of_tree (H := H232) h232 10 232 ?_
 intro args r h
 unfold G232 at h
 split at h
 ·split at h
  ·rename_i w i es n ρ hs
   rw [shsEq_eq hs]
   simp only [Option.some.injEq, Prod.mk.injEq] at h
   refine ⟨_, t232_eq w i n ρ, ?_⟩
   have := t232_say w i n ρ
   cases hp : prpS w i n ρ with
   | none => rw [hp] at h; cases h.1
   | some x => rw [hp] at h this; rw [← h.2]; exact this
  ·cases h
 ·cases h
def mostS : Int := 1099511627776
def cmbS (w : ByteArray) (a b : Int) : Int × Int :=
 bif (bif strEq w wOr then true else strEq w wAnd) then (flagI (b != 0), 0) else bif strEq w wEq then (flagI (a == b), 0) else bif strEq w wLt then (flagI (lt a b), 0) else bif strEq w wGt then (flagI (lt b a), 0)
  else bif (bif lt (bif strEq w wMinus then IntKind.wrap .i64 (a - b) else IntKind.wrap .i64 (a + b)) (-mostS) then true else lt mostS (bif strEq w wMinus then IntKind.wrap .i64 (a - b) else IntKind.wrap .i64 (a + b))) then (0, 2)
  else (bif strEq w wMinus then IntKind.wrap .i64 (a - b) else IntKind.wrap .i64 (a + b), 0)
def G235 : List A1 → Option (Bool × AV)
 | [.agg [.str w, .sl _ _ _], .c (.int .i64 a), .c (.int .i64 b)] => some (true, enc2 (cmbS w a b))
 | _ => none
noncomputable abbrev H235 : Hd := ⟨[], [(234, nG G234)], [], []⟩
theorem h235 : HdOk Tryz.prog H235 := HdOk.nil.ucCons p234
def t235 (w : ByteArray) (a b : Int) : Tree AV :=
 let F := fun c : Bool => Tree.need true (lf2 (flagI c) 0)
 let Z := fun n : Int => Tree.br (bif lt n (-mostS) then true else lt mostS n) (lf2 0 2) (lf2 n 0)
 let R := .br (strEq w wEq) (F (a == b)) (.br (strEq w wLt) (F (lt a b)) (.br (strEq w wGt) (F (lt b a)) (.br (strEq w wMinus) (Z (IntKind.wrap .i64 (a - b))) (Z (IntKind.wrap .i64 (a + b))))))
 .br (strEq w wOr) (.br (strEq w wOr) (F (b != 0)) R) (.br (strEq w wAnd) (F (b != 0)) R)
theorem t235_eq (w : ByteArray) (es : List Sh) (n : Nat) (ρ : Val) (a b : Int) : hcTree Tryz.prog H235 10 235 [.agg [.str w, .sl es n ρ], .c (.int .i64 a), .c (.int .i64 b)] = t235 w a b := by kernel_rfl
theorem t235_all (w : ByteArray) (a b : Int) : (t235 w a b).All (fun z => leA z (enc2 (cmbS w a b))) := by
 unfold t235 cmbS
 cases strEq w wOr with
 | true => exact sel_all rfl leA.refl
 | false =>
 cases strEq w wAnd with
 | true => exact sel_all rfl leA.refl
 | false =>
 cases strEq w wEq with
 | true => exact sel_all rfl leA.refl
 | false =>
 cases strEq w wLt with
 | true => exact sel_all rfl leA.refl
 | false =>
 cases strEq w wGt with
 | true => exact sel_all rfl leA.refl
 | false =>
 cases strEq w wMinus with
 | true =>
   simp only [cond_false, cond_true]
   cases (bif lt (IntKind.wrap .i64 (a - b)) (-mostS) then true else lt mostS (IntKind.wrap .i64 (a - b))) <;> exact sel_all rfl leA.refl
 | false =>
   simp only [cond_false]
   cases (bif lt (IntKind.wrap .i64 (a + b)) (-mostS) then true else lt mostS (IntKind.wrap .i64 (a + b))) <;> exact sel_all rfl leA.refl
theorem p235 : UcOne Tryz.prog 235 (nG G235) := by
 refine ucOne_of_tree (H := H235) h235 10 235 ?_
 intro args r h
 unfold G235 at h
 split at h
 ·rename_i w es n ρ a b
  simp only [Option.some.injEq, Prod.mk.injEq, true_and] at h
  subst h
  exact ⟨_, t235_eq w es n ρ a b, t235_all w a b⟩
 ·cases h
abbrev BV := ByteArray → Nat → Val → Nat → Val → Option (Int × Int)
def valI (V : BV) (d : Val) (n : Nat) (ρ : Val) : Option (Int × Int) :=
 bif Nat.beq (d.L []) 3 then V ((d.at 0).S []) ((d.at 1).L []) (d.at 1) n ρ
 else bif Nat.beq (d.L []) 2 then prpS ((d.at 0).S []) ((d.at 1).N []) n ρ
 else bif Nat.beq (d.L []) 1 then some ((d.at 0).N [], 0) else none
def inv (V : BV) (d : Val) (n : Nat) (ρ : Val) (K : Int × Int → Tree AV) : Tree AV :=
 let o := V ((d.at 0).S []) ((d.at 1).L []) (d.at 1) n ρ
 let p := prpS ((d.at 0).S []) ((d.at 1).N []) n ρ
 .br (Nat.beq (d.L []) 3) (.need (os1 o) (K (ov1 (0, 0) o))) (.br (Nat.beq (d.L []) 2) (.need (os1 p) (K (ov1 (0, 0) p))) (.br (Nat.beq (d.L []) 1) (.need true (K ((d.at 0).N [], 0))) .fail))
theorem inv_say {β : Type} {enc : β → AV} {V : BV} {d : Val} {n : Nat} {ρ : Val} {K : Int × Int → Tree AV} {f : Int × Int → Option β} (h : ∀ v, Sy enc (K v) (f v)) : Sy enc (inv V d n ρ K) ((valI V d n ρ).bind f) := by
 unfold inv valI
 cases Nat.beq (d.L []) 3 with
 | true => exact Sy.br1 rfl (Sy.bind h)
 | false =>
 refine Sy.br0 rfl ?_
 cases Nat.beq (d.L []) 2 with
 | true => exact Sy.br1 rfl (Sy.bind h)
 | false =>
 refine Sy.br0 rfl ?_
 cases Nat.beq (d.L []) 1 with
 | true => exact Sy.br1 rfl (Sy.need rfl (h _))
 | false => exact trivial
def G236 (V : BV) : List A1 → Option (Bool × AV)
 | [.agg [.str w, .sl es' m κ], .c (.sl es n ρ)] => if shEq.shsEq es' [.ifc] && shEq.shsEq es Ro.siSh then some (os1 (V w m κ n ρ), enc2 (ov1 (0, 0) (V w m κ n ρ))) else none
 | _ => none
theorem G236_some {V : BV} {args : List A1} {r : AV} (h : G236 V args = some (true, r)) : ∃ w m κ n ρ x, args = [.agg [.str w, .sl [.ifc] m κ], .c (.sl Ro.siSh n ρ)] ∧ V w m κ n ρ = some x ∧ r = enc2 x := by
 unfold G236 at h
 split at h
 ·split at h
  ·rename_i w es' m κ es n ρ hs
   rw [Bool.and_eq_true] at hs
   simp only [Option.some.injEq, Prod.mk.injEq] at h
   cases hR : V w m κ n ρ with
   | none => rw [hR] at h; cases h.1
   | some x => rw [hR] at h; exact ⟨w, m, κ, n, ρ, x, by rw [shsEq_eq hs.1, shsEq_eq hs.2], hR, h.2.symm⟩
  ·cases h
 ·cases h
noncomputable abbrev H236 (V : BV) : Hd := ⟨[], [(231, nG G231), (232, nG G232), (234, nG G234), (235, nG G235), (236, nG (G236 V))], [], []⟩
theorem h236 {V : BV} (hV : UcOne Tryz.prog 236 (nG (G236 V))) : HdOk Tryz.prog (H236 V) := ((((HdOk.nil.ucCons hV).ucCons p235).ucCons p234).ucCons p232).ucCons p231
def kidD (κ : Val) (i : Nat) : Val := (κ.at i).at 0
def t236 (V : BV) (w : ByteArray) (m : Nat) (κ : Val) (n : Nat) (ρ : Val) : Tree AV :=
 .need (inRange 0 m) (inv V (kidD κ 0) n ρ fun x => .br (x.2 != 0) (lf2 0 x.2) (.br (strEq w wNot) (.need true (lf2 (flagI (x.1 == 0)) 0))
  (.br (bif strEq w wOr then x.1 != 0 else false) (lf2 1 0) (.br (bif strEq w wAnd then x.1 == 0 else false) (lf2 0 0)
   (.need (inRange 1 m) (inv V (kidD κ 1) n ρ fun y => .br (y.2 != 0) (lf2 0 y.2) (.need true (.leaf (enc2 (cmbS w x.1 y.1))))))))))
theorem t236_eq (V : BV) (w : ByteArray) (m : Nat) (κ : Val) (n : Nat) (ρ : Val) : hcTree Tryz.prog (H236 V) 10 236 [.agg [.str w, .sl [.ifc] m κ], .c (.sl Ro.siSh n ρ)] = t236 V w m κ n ρ := by kernel_rfl
def valG (V : BV) : BV := fun w m κ n ρ =>
 nd (inRange 0 m) ((valI V (kidD κ 0) n ρ).bind fun x => bif x.2 != 0 then some (0, x.2) else bif strEq w wNot then some (flagI (x.1 == 0), 0)
  else bif (bif strEq w wOr then x.1 != 0 else false) then some (1, 0) else bif (bif strEq w wAnd then x.1 == 0 else false) then some (0, 0)
  else nd (inRange 1 m) ((valI V (kidD κ 1) n ρ).bind fun y => bif y.2 != 0 then some (0, y.2) else some (cmbS w x.1 y.1)))
theorem t236_say (V : BV) (w : ByteArray) (m : Nat) (κ : Val) (n : Nat) (ρ : Val) : Sy enc2 (t236 V w m κ n ρ) (valG V w m κ n ρ) := by
 unfold t236 valG
 refine Sy.nd id fun _ => inv_say fun x => Sy.cond (fun _ => Sy.ret) fun _ => Sy.cond (fun _ => Sy.need rfl Sy.ret) fun _ => Sy.cond (fun _ => Sy.ret) fun _ => Sy.cond (fun _ => Sy.ret) fun _ =>
  Sy.nd id fun _ => inv_say fun y => Sy.cond (fun _ => Sy.ret) fun _ => Sy.need rfl Sy.ret
theorem p236s {V : BV} (hV : UcOne Tryz.prog 236 (nG (G236 V))) : UcOne Tryz.prog 236 (nG (G236 (valG V))) := by
 refine ucOne_of_tree (H := H236 V) (h236 hV) 10 236 ?_
 intro args r h
 obtain ⟨w, m, κ, n, ρ, x, e1, h1, e2⟩ := G236_some h
 refine ⟨_, by rw [e1, t236_eq], ?_⟩
 have := t236_say V w m κ n ρ
 rw [h1] at this
 rw [e2]
 exact this
def valF : Nat → BV
 | 0 => fun _ _ _ _ _ => none
 | f + 1 => valG (valF f)
theorem p236 : ∀ f, UcOne Tryz.prog 236 (nG (G236 (valF f)))
 | 0 => by
   intro args r h
   obtain ⟨w, m, κ, n, ρ, x, _, h1, _⟩ := G236_some (nG_sel h)
   cases h1
 | f + 1 => p236s (p236 f)
noncomputable abbrev H176 (f : Nat) : Hd := ⟨[], [(135, nG (G135 (expF f))), (196, nG (G196 (nodeF f))), (231, nG G231), (232, nG G232), (236, nG (G236 (valF f)))], [], []⟩
theorem h176 (f : Nat) : HdOk Tryz.prog (H176 f) := ((((HdOk.nil.ucCons (p236 f)).ucCons p232).ucCons p231).ucCons (p196 f)).ucCons (p135 f)
abbrev EvS := RX → Nat → Val → Option (Int × Int)
def evalS (f : Nat) : EvS := fun e n ρ => (expF f e 1).bind fun x => bif x != 0 then some (0, x) else (nodeF f e).bind fun d => (valI (valF f) d n ρ).bind fun v => some v
def G176 (E : EvS) : List A1 → Option (Bool × AV)
 | [.agg [.str o, .int .i64 v, .sl es' m κ], .c (.sl es n ρ)] => if shEq.shsEq es' (rtab 0) && shEq.shsEq es Ro.siSh then some (os1 (E ⟨o, v, m, κ⟩ n ρ), enc2 (ov1 (0, 0) (E ⟨o, v, m, κ⟩ n ρ))) else none
 | _ => none
theorem G176_some {E : EvS} {args : List A1} {r : AV} (h : G176 E args = some (true, r)) : ∃ o v m κ n ρ x, args = [.agg [.str o, .int .i64 v, .sl (rtab 0) m κ], .c (.sl Ro.siSh n ρ)] ∧ E ⟨o, v, m, κ⟩ n ρ = some x ∧ r = enc2 x := by
 unfold G176 at h
 split at h
 ·split at h
  ·rename_i o v es' m κ es n ρ hs
   rw [Bool.and_eq_true] at hs
   simp only [Option.some.injEq, Prod.mk.injEq] at h
   cases hR : E ⟨o, v, m, κ⟩ n ρ with
   | none => rw [hR] at h; cases h.1
   | some x => rw [hR] at h; exact ⟨o, v, m, κ, n, ρ, x, by rw [shsEq_eq hs.1, shsEq_eq hs.2], hR, h.2.symm⟩
  ·cases h
 ·cases h
def t176 (f : Nat) (e : RX) (n : Nat) (ρ : Val) : Tree AV :=
 let x := expF f e 1
 let d := nodeF f e
 .need (opD x) (.br (opN x != 0) (lf2 0 (opN x)) (.need (os1 d) (inv (valF f) (ov1 .zero d) n ρ fun v => .leaf (enc2 v))))
theorem t176_eq (f : Nat) (o : ByteArray) (v : Int) (m : Nat) (κ : Val) (n : Nat) (ρ : Val) : hcTree Tryz.prog (H176 f) 10 176 [.agg [.str o, .int .i64 v, .sl (rtab 0) m κ], .c (.sl Ro.siSh n ρ)] = t176 f ⟨o, v, m, κ⟩ n ρ := by kernel_rfl
theorem opN_ov {o : Option Int} : opN o = ov1 0 o := by cases o <;> rfl
theorem opD_os {o : Option Int} : opD o = os1 o := by cases o <;> rfl
theorem t176_say (f : Nat) (e : RX) (n : Nat) (ρ : Val) : Sy enc2 (t176 f e n ρ) (evalS f e n ρ) := by
 unfold t176 evalS
 simp only [opN_ov, opD_os]
 refine Sy.bind (d := (0 : Int)) (K := fun x => .br (x != 0) (lf2 0 x) _) fun x => Sy.cond (fun _ => Sy.ret) fun _ => Sy.bind (K := fun d => inv (valF f) d n ρ fun v => .leaf (enc2 v)) fun d => inv_say fun v => Sy.ret
theorem p176 (f : Nat) : UcOne Tryz.prog 176 (nG (G176 (evalS f))) := by
 refine ucOne_of_tree (H := H176 f) (h176 f) 10 176 ?_
 intro args r h
 obtain ⟨o, v, m, κ, n, ρ, x, e1, h1, e2⟩ := G176_some h
 refine ⟨_, by rw [e1, t176_eq], ?_⟩
 have := t176_say f ⟨o, v, m, κ⟩ n ρ
 rw [h1] at this
 rw [e2]
 exact this
structure RU where
 sn : Nat
 sρ : Val
 cn : Nat
 cρ : Val
 pn : Nat
 pρ : Val
 kn : Nat
 kρ : Val
 bg : Int
 at_ : Int
def rU0 : RU := ⟨0, .zero, 0, .zero, 0, .zero, 0, .zero, 0, 0⟩
def layU : Bool → RU → Mem
 | false, x => [some (102, [.sl Ro.siSh x.sn x.sρ, .sl [.int .i64] x.cn x.cρ, .os 1 1, .os 2 1, .bool false, .int .i64 x.bg, .int .i64 x.at_]), some (9, [.row false [.str] x.pn x.pρ]), some (23, [.row false [.rt 1] x.kn x.kρ])]
 | true, x => [some (102, [.sl Ro.siSh x.sn x.sρ, .sl [.int .i64] x.cn x.cρ, .os 1 1, .any, .bool true, .int .i64 x.bg, .int .i64 x.at_]), some (9, [.row false [.str] x.pn x.pρ])]
def plC (es : List Sh) : CV → Option (Nat × Val)
 | .sl es' n ρ => if shEq.shsEq es' es then some (n, ρ) else none
 | .nils => some (0, .zero)
 | _ => none
theorem plC_ok {es : List Sh} {c : CV} {n : Nat} {ρ : Val} (h : plC es c = some (n, ρ)) {F w bs v} (hv : CV.Rel F w bs c v) : CV.Rel F w bs (.sl es n ρ) v := by
 unfold plC at h
 split at h
 ·split at h
  ·rename_i hs
   simp only [Option.some.injEq, Prod.mk.injEq] at h
   rw [← shsEq_eq hs, ← h.1, ← h.2]
   exact hv
  ·cases h
 ·simp only [Option.some.injEq, Prod.mk.injEq] at h
  rw [← h.1, ← h.2]
  cases hv
  exact .slnil
 ·cases h
theorem plC_row {es : List Sh} {c : CV} {y : Nat × Val} (h : plC es c = some y) (r : List CV) : isRowL (c :: r) = false := by
 cases c <;> first | rfl | (simp [plC] at h; done)
def getR0 : Mem → Option RU
 | [some (102, [c0, c1, .os 1 1, .os 2 1, .bool false, .int .i64 bg, .int .i64 a]), some (9, [.row false [.str] pn pρ]), some (23, [.row false [.rt 1] kn kρ])] =>
   (match plC Ro.siSh c0, plC [.int .i64] c1 with
  | some (sn, sρ), some (cn, cρ) => some ⟨sn, sρ, cn, cρ, pn, pρ, kn, kρ, bg, a⟩
  | _, _ => none)
 | _ => none
def getR1 : Mem → Option RU
 | [some (102, [c0, c1, .os 1 1, .any, .bool true, .int .i64 bg, .int .i64 a]), some (9, [.row false [.str] pn pρ])] =>
   (match plC Ro.siSh c0, plC [.int .i64] c1 with
  | some (sn, sρ), some (cn, cρ) => some ⟨sn, sρ, cn, cρ, pn, pρ, 0, .zero, bg, a⟩
  | _, _ => none)
 | _ => none
def ClR : Bool → Clus RU
 | false => ⟨layU false, getR0, fun b m => ownAll b [(2, 9, [.str]), (3, 23, [.rt 1])] m⟩
 | true => ⟨layU true, getR1, fun b m => anyCell b 3 (ownAll b [(2, 9, [.str])] m)⟩
theorem cells2 {F w bs} {c0 c1 d0 d1 : CV} {r : List CV} {vs : List Value} (h0 : ∀ v, CV.Rel F w bs c0 v → CV.Rel F w bs d0 v) (h1 : ∀ v, CV.Rel F w bs c1 v → CV.Rel F w bs d1 v) (h : All2 (CV.Rel F w bs) (c0 :: c1 :: r) vs) : All2 (CV.Rel F w bs) (d0 :: d1 :: r) vs := by
 cases h with
 | cons a h => cases h with
  | cons b h => exact .cons (h0 _ a) (.cons (h1 _ b) h)
theorem getR0_some {m : Mem} {x : RU} (h : getR0 m = some x) : ∃ c0 c1, plC Ro.siSh c0 = some (x.sn, x.sρ) ∧ plC [.int .i64] c1 = some (x.cn, x.cρ) ∧
  m = [some (102, [c0, c1, .os 1 1, .os 2 1, .bool false, .int .i64 x.bg, .int .i64 x.at_]), some (9, [.row false [.str] x.pn x.pρ]), some (23, [.row false [.rt 1] x.kn x.kρ])] := by
 unfold getR0 at h
 split at h
 ·split at h
  ·rename_i h0 h1
   cases h
   exact ⟨_, _, h0, h1, rfl⟩
  ·cases h
 ·cases h
theorem getR1_some {m : Mem} {x : RU} (h : getR1 m = some x) : ∃ c0 c1, plC Ro.siSh c0 = some (x.sn, x.sρ) ∧ plC [.int .i64] c1 = some (x.cn, x.cρ) ∧
  m = [some (102, [c0, c1, .os 1 1, .any, .bool true, .int .i64 x.bg, .int .i64 x.at_]), some (9, [.row false [.str] x.pn x.pρ])] := by
 unfold getR1 at h
 split at h
 ·split at h
  ·rename_i h0 h1
   cases h
   exact ⟨_, _, h0, h1, rfl⟩
  ·cases h
 ·cases h
theorem clR_ok : ∀ u, (ClR u).Ok
 | false => {
   get := fun m x h P F w bs hm => by
    obtain ⟨c0, c1, h0, h1, rfl⟩ := getR0_some h
    exact hm.cellsTo (b := 0) (T := 102) rfl (plC_row h0 _) (ds := [.sl Ro.siSh x.sn x.sρ, .sl [.int .i64] x.cn x.cρ, .os 1 1, .os 2 1, .bool false, .int .i64 x.bg, .int .i64 x.at_]) rfl fun _ _ _ _ h => cells2 (fun _ hv => plC_ok h0 hv) (fun _ hv => plC_ok h1 hv) h
   liv := fun m x h k y T cs hk hl => by
    obtain ⟨c0, c1, h0, h1, rfl⟩ := getR0_some h
    match k, hk with
    | 0, hk => exact ⟨_, _, rfl, liveL_of (plC_row h0 _)⟩
    | 1, hk => cases hk; exact ⟨_, _, rfl, hl⟩
    | 2, hk => cases hk; exact ⟨_, _, rfl, hl⟩
    | k + 3, hk => cases hk
   ok := fun x => rfl
   prep := fun P F w bs b mem hm => ownAll_ok b _ hm }
 | true => {
   get := fun m x h P F w bs hm => by
    obtain ⟨c0, c1, h0, h1, rfl⟩ := getR1_some h
    exact hm.cellsTo (b := 0) (T := 102) rfl (plC_row h0 _) (ds := [.sl Ro.siSh x.sn x.sρ, .sl [.int .i64] x.cn x.cρ, .os 1 1, .any, .bool true, .int .i64 x.bg, .int .i64 x.at_]) rfl fun _ _ _ _ h => cells2 (fun _ hv => plC_ok h0 hv) (fun _ hv => plC_ok h1 hv) h
   liv := fun m x h k y T cs hk hl => by
    obtain ⟨c0, c1, h0, h1, rfl⟩ := getR1_some h
    match k, hk with
    | 0, hk => exact ⟨_, _, rfl, liveL_of (plC_row h0 _)⟩
    | 1, hk => cases hk; exact ⟨_, _, rfl, hl⟩
    | k + 2, hk => cases hk
   ok := fun x => rfl
   prep := fun P F w bs b mem hm => by
    obtain ⟨bs', h1, h2⟩ := ownAll_ok b [(2, 9, [.str])] hm
    exact ⟨bs', h1, anyCell_ok h2 b 3⟩ }
abbrev MSp := Bool → List A1 → RU → Tree (AV × RU)
def clG2 (u : MSp) : List A1 → Mem → Tree (AV × Mem)
 | .c (.ptr b 0) :: rest, mem => match nth mem b with
  | some (some (_, cs)) => (match nth cs 4 with
   | some (.bool true) => clG (ClR true) (u true) (.c (.ptr b 0) :: rest) mem
   | some (.bool false) => clG (ClR false) (u false) (.c (.ptr b 0) :: rest) mem
   | _ => .fail)
  | _ => .fail
 | _, _ => .fail
theorem clG2_ok {P : Program} {f : Nat} {u : MSp} (h : ∀ b, McOne P f (clG (ClR b) (u b))) : McOne P f (clG2 u) := by
 intro args mem r mem' hG
 unfold clG2 at hG
 split at hG
 ·split at hG
  ·split at hG
   ·exact h true _ _ _ _ hG
   ·exact h false _ _ _ _ hG
   ·simp [Tree.sel] at hG
  ·simp [Tree.sel] at hG
 ·simp [Tree.sel] at hG
def uS {β : Type} (enc : β → AV) (d : β) (sp : RU → Option (β × RU)) (x : RU) : Tree (AV × RU) :=
 .need (os1 (sp x)) (.leaf (enc (ov1 (d, rU0) (sp x)).1, (ov1 (d, rU0) (sp x)).2))
theorem uS_sel {β : Type} {enc : β → AV} {d : β} {sp : RU → Option (β × RU)} {x : RU} {z : AV × RU} (h : (uS enc d sp x).sel = some z) : ∃ v x', sp x = some (v, x') ∧ z = (enc v, x') := by
 unfold uS at h
 cases hs : sp x with
 | none => rw [hs] at h; cases h
 | some y => rw [hs] at h; cases h; exact ⟨_, _, rfl, rfl⟩
def SyC {β : Type} (u : Bool) (enc : β → AV) (T : Tree (AV × RU)) : Option (β × RU) → Prop
 | none => True
 | some (v, x') => ∃ y, T.sel = some y ∧ leA y.1 (enc v) ∧ layU u y.2 = layU u x'
section
variable {β γ : Type} {u : Bool} {enc : β → AV}
theorem SyC.cond {c : Bool} {T E : Tree (AV × RU)} {a b : Option (β × RU)} (h1 : c = true → SyC u enc T a) (h2 : c = false → SyC u enc E b) : SyC u enc (.br c T E) (bif c then a else b) := by
 cases c with
 | true =>
   have := h1 rfl
   show SyC u enc _ a
   cases a with
  | none => exact trivial
  | some y => exact this
 | false =>
   have := h2 rfl
   show SyC u enc _ b
   cases b with
  | none => exact trivial
  | some y => exact this
theorem SyC.nd {c d : Bool} {T : Tree (AV × RU)} {a : Option (β × RU)} (h : c = true → d = true) (h1 : c = true → SyC u enc T a) : SyC u enc (.need d T) (Go.Proofs.YtiefjlcakpdfeaaGreat.nd c a) := by
 cases c with
 | false => exact trivial
 | true =>
   have := h1 rfl
   show SyC u enc _ a
   rw [h rfl]
   cases a with
  | none => exact trivial
  | some y => exact this
theorem SyC.need {d : Bool} {T : Tree (AV × RU)} {a : Option (β × RU)} (h : d = true) (h1 : SyC u enc T a) : SyC u enc (.need d T) a := by
 subst h
 cases a with
 | none => exact trivial
 | some y => exact h1
theorem SyC.ret {v : β} {x : RU} : SyC u enc (.leaf (enc v, x)) (some (v, x)) := ⟨_, rfl, leA.refl, rfl⟩
theorem SyC.ret' {r : AV} {v : β} {x x' : RU} (h : leA r (enc v)) (hx : layU u x = layU u x') : SyC u enc (.leaf (r, x)) (some (v, x')) := ⟨_, rfl, h, hx⟩
theorem SyC.br1 {c : Bool} {T E : Tree (AV × RU)} {a : Option (β × RU)} (hc : c = true) (h : SyC u enc T a) : SyC u enc (.br c T E) a := by
 subst hc
 cases a with
 | none => exact trivial
 | some y => exact h
theorem SyC.br0 {c : Bool} {T E : Tree (AV × RU)} {a : Option (β × RU)} (hc : c = false) (h : SyC u enc E a) : SyC u enc (.br c T E) a := by
 subst hc
 cases a with
 | none => exact trivial
 | some y => exact h
end
theorem run_ok {H : Hd} (hH : HdOk Tryz.prog H) {X : HdP} (hX : XOk Tryz.prog X) (n f : Nat) {u : MSp}
  (h : ∀ b rest x z, (u b rest x).sel = some z → ∃ y, (clusEv (ClR b) Tryz.prog H X n f rest x).sel = some y ∧ leA y.1 z.1 ∧ layU b y.2 = layU b z.2) : McOne Tryz.prog f (clG2 u) :=
 clG2_ok fun b => clG_ok (clR_ok b) hH hX n f fun rest x z hz => by
  obtain ⟨y, h1, h2, h3⟩ := h b rest x z hz
  refine ⟨y, h1, h2, fun F w bs hm => ?_⟩
  have e : ∀ x, (ClR b).lay x = layU b x := fun x => by cases b <;> rfl
  rw [e] at hm ⊢
  rw [← h3]
  exact hm
def nk : Bool → RU → RU
 | false, x => x
 | true, x => { x with kn := 0, kρ := .zero }
theorem layU_nk (u : Bool) (x : RU) : layU u (nk u x) = layU u x := by cases u <;> rfl
theorem SyC.rt {β : Type} {u : Bool} {enc : β → AV} {v : β} {x : RU} : SyC u enc (.leaf (enc v, nk u x)) (some (v, x)) := .ret' leA.refl (layU_nk u x)
def stopS (u : Bool) (x : RU) : Option (Bool × RU) :=
 bif (bif u then true else toInt64 x.cn == 0) then some (false, x)
 else nd (inRange 0 x.cn) (nd (le 0 1 && le 1 (toInt64 x.cn)) (some (((x.cρ.at 0).at 0).N [] |>.tmod 2 |> (· != 0), { x with cn := x.cn - 1, cρ := x.cρ.from 1 })))
def u173 : MSp := fun u rest x => match rest with
 | [] => uS encBo false (stopS u) x
 | _ => .fail
noncomputable abbrev HE : Hd := ⟨[], [], [], []⟩
def t173 (u : Bool) (x : RU) : Tree (AV × RU) :=
 .br (bif u then true else toInt64 x.cn == 0) (.leaf (encBo false, nk u x)) (.need (inRange 0 x.cn) (.need (le 0 1 && le 1 (toInt64 x.cn)) (.need true
  (.leaf (encBo (((x.cρ.at 0).at 0).N [] |>.tmod 2 |> (· != 0)), nk u { x with cn := x.cn - 1, cρ := x.cρ.from 1 })))))
theorem t173_eq (u : Bool) (x : RU) : clusEv (ClR u) Tryz.prog HE X3 10 173 [] x = t173 u x := by cases u <;> kernel_rfl
theorem m173 : McOne Tryz.prog 173 (clG2 u173) := run_ok (H := HE) (X := X3) HdOk.nil x3 10 173 fun u rest x z hz => by
 unfold u173 at hz
 split at hz
 rotate_left
 ·cases hz
 obtain ⟨v, x', h1, rfl⟩ := uS_sel hz
 have h : SyC u encBo (t173 u x) (stopS u x) := by
  unfold t173 stopS
  exact SyC.cond (fun _ => SyC.rt) fun _ => SyC.nd id fun _ => SyC.nd id fun _ => SyC.need rfl SyC.rt
 rw [h1] at h
 rw [t173_eq]
 exact h
def spc : ByteArray := bs [32]
def wUndoS : ByteArray := bs [117, 110, 100, 111, 32]
def addNote (x : RU) (l : ByteArray) : RU := { x with pn := x.pn + 1, pρ := Val.cat x.pn x.pρ (row1 l) }
def noteS (u : Bool) (m : Nat) (σ : Val) (x : RU) : Option (Unit × RU) :=
 nd (joinC m σ spc) (bif u then nd (Nat.ble (wUndoS.size + (joinS m σ spc).size) 9223372036854775807) (nd (Nat.ble ((x.pn + 1) * 16) 140737488355328) (some ((), addNote x (strCat wUndoS (joinS m σ spc)))))
  else nd (Nat.ble ((x.pn + 1) * 16) 140737488355328) (some ((), addNote x (joinS m σ spc))))
def u108 : MSp := fun u rest x => match rest with
 | [.c (.sl [.str] m σ)] => uS encU () (noteS u m σ) x
 | _ => .fail
noncomputable abbrev H18 : Hd := ⟨[], [(18, nG G18)], [], []⟩
theorem h18 : HdOk Tryz.prog H18 := HdOk.nil.ucCons p18
def t108 (u : Bool) (m : Nat) (σ : Val) (x : RU) : Tree (AV × RU) :=
 .need (joinC m σ spc) (.br u (.need (Nat.ble (wUndoS.size + (joinS m σ spc).size) 9223372036854775807) (.need (Nat.ble ((x.pn + 1) * 16) 140737488355328) (.leaf (encU (), nk u (addNote x (strCat wUndoS (joinS m σ spc)))))))
  (.need (Nat.ble ((x.pn + 1) * 16) 140737488355328) (.leaf (encU (), nk u (addNote x (joinS m σ spc))))))
theorem t108_eq (u : Bool) (m : Nat) (σ : Val) (x : RU) : clusEv (ClR u) Tryz.prog H18 X3 10 108 [.c (.sl [.str] m σ)] x = t108 u m σ x := by cases u <;> kernel_rfl
theorem m108 : McOne Tryz.prog 108 (clG2 u108) := run_ok (H := H18) (X := X3) h18 x3 10 108 fun u rest x z hz => by
 unfold u108 at hz
 split at hz
 rotate_left
 ·cases hz
 rename_i m σ
 obtain ⟨v, x', h1, rfl⟩ := uS_sel hz
 have h : SyC u encU (t108 u m σ x) (noteS u m σ x) := by
  unfold t108 noteS
  exact SyC.nd id fun _ => SyC.cond (fun _ => SyC.nd id fun _ => SyC.nd id fun _ => SyC.rt) fun _ => SyC.nd id fun _ => SyC.rt
 rw [h1] at h
 rw [t108_eq]
 exact h
abbrev RpF := Nat → Val → Int → Option (Nat × Val)
structure Par where
 O : OpF
 E : EvS
 R : RpF
def G144 (R : RpF) : List A1 → Option (Bool × AV)
 | [.c (.sl [.rt 1] m κ), .c (.int .i64 c)] => some (os1 (R m κ c), .one (.c (.sl [.rt 1] (ov1 (0, .zero) (R m κ c)).1 (ov1 (0, .zero) (R m κ c)).2)))
 | _ => none
structure ParOk (p : Par) : Prop where
 op : UcOne Tryz.prog 174 (nG (G174 p.O))
 ev : UcOne Tryz.prog 176 (nG (G176 p.E))
 rp : UcOne Tryz.prog 144 (nG (G144 p.R))
def addCar (x : RU) (n : Nat) (ρ : Val) : RU := { x with kn := x.kn + 1, kρ := Val.cat x.kn x.kρ (Val.ofFlat 1 [.sl (rtab 1) n ρ]) }
def putSites (x : RU) (r : Int × Val) : RU := { x with sn := bif r.1 == 0 then x.sn else 0, sρ := r.2 }
def doS (p : Par) (u : Bool) (s : RS) (x : RU) : Option (Int × RU) :=
 (stopS u x).bind fun y => bif y.1 then some (29, y.2) else (p.O y.2.sn y.2.sρ s.wn s.wρ).bind fun r => bif r.1 != 0 then some (r.1, y.2) else
  nd (Nat.ble ((1 + s.wn) * 16) 140737488355328) ((noteS u (1 + s.wn) (Val.cat 1 (row1 wDo) s.wρ) (nk u (putSites y.2 r))).bind fun z => bif !u then nd (Nat.ble ((z.2.kn + 1) * 24) 140737488355328) (some (0, addCar z.2 s.bn s.bρ)) else some (0, z.2))
def stmA : A1 → Option RS
 | .agg [.str kd, .sl [.str] wn wρ, .str o, .int .i64 v, .sl e1 cn cρ, .sl e2 bn bρ, .sl e3 en eρ, .int .i64 a] => if shEq.shsEq e1 (rtab 0) && shEq.shsEq e2 (rtab 1) && shEq.shsEq e3 (rtab 1) then some ⟨kd, wn, wρ, ⟨o, v, cn, cρ⟩, bn, bρ, en, eρ, a⟩ else none
 | _ => none
theorem stmA_some {a : A1} {s : RS} (h : stmA a = some s) : a = .agg s.cells := by
 unfold stmA at h
 split at h
 ·split at h
  ·rename_i hs
   simp only [Bool.and_eq_true] at hs
   cases h
   rw [shsEq_eq hs.1.1, shsEq_eq hs.1.2, shsEq_eq hs.2]
   rfl
  ·cases h
 ·cases h
def u143 (p : Par) : MSp := fun u rest x => match rest with
 | [a] => (match stmA a with
  | some s => uS encI 0 (doS p u s) x
  | none => .fail)
 | _ => .fail
noncomputable abbrev H143 (p : Par) : Hd := ⟨[], [(174, nG (G174 p.O))], [], [(108, clG2 u108), (173, clG2 u173)]⟩
theorem h143 {p : Par} (hp : ParOk p) : HdOk Tryz.prog (H143 p) := ((HdOk.nil.mcCons m173).mcCons m108).ucCons hp.op
def carT (s : RS) (x : RU) : Bool → Tree (AV × RU)
 | false => .need (Nat.ble ((x.kn + 1) * 24) 140737488355328) (.leaf (encI 0, addCar x s.bn s.bρ))
 | true => .fail
def t143 (p : Par) (u : Bool) (s : RS) (x : RU) : Tree (AV × RU) :=
 let st := stopS u x
 let y := ov1 (false, rU0) st
 let o := p.O y.2.sn y.2.sρ s.wn s.wρ
 let nt := noteS u (1 + s.wn) (Val.cat 1 (row1 wDo) s.wρ) (nk u (putSites y.2 (orV o)))
 let z := ov1 ((), rU0) nt
 .need (os1 st) (.br y.1 (.leaf (encI 29, nk u y.2)) (.need (orB o) (.br ((orV o).1 != 0) (.leaf (encI (orV o).1, nk u y.2))
  (.need (Nat.ble ((1 + s.wn) * 16) 140737488355328) (.need (os1 nt) (.br (!u) (carT s z.2 u) (.leaf (encI 0, nk u z.2))))))))
theorem t143_eq (p : Par) (u : Bool) (s : RS) (x : RU) : clusEv (ClR u) Tryz.prog (H143 p) X3 10 143 [.agg s.cells] x = t143 p u s x := by cases u <;> kernel_rfl
theorem orB_os {o : OR} : orB o = os1 o := by cases o <;> rfl
theorem orV_ov {o : OR} : orV o = ov1 (0, .zero) o := by cases o <;> rfl
theorem t143_say (p : Par) (u : Bool) (s : RS) (x : RU) : SyC u encI (t143 p u s x) (doS p u s x) := by
 unfold t143 doS
 simp only [orB_os, orV_ov]
 cases stopS u x with
 | none => exact trivial
 | some y =>
 simp only [os1, ov1, Option.bind]
 refine SyC.need rfl (SyC.cond (fun _ => SyC.rt) fun _ => ?_)
 cases p.O y.2.sn y.2.sρ s.wn s.wρ with
 | none => exact trivial
 | some r =>
 simp only
 refine SyC.need rfl (SyC.cond (fun _ => SyC.rt) fun _ => SyC.nd id fun _ => ?_)
 cases noteS u (1 + s.wn) (Val.cat 1 (row1 wDo) s.wρ) (nk u (putSites y.2 r)) with
 | none => exact trivial
 | some z =>
 simp only
 refine SyC.need rfl ?_
 cases u with
 | false => exact SyC.br1 rfl (SyC.nd id fun _ => SyC.ret)
 | true => exact SyC.br0 rfl SyC.rt
theorem m143 {p : Par} (hp : ParOk p) : McOne Tryz.prog 143 (clG2 (u143 p)) := run_ok (H := H143 p) (X := X3) (h143 hp) x3 10 143 fun u rest x z hz => by
 unfold u143 at hz
 split at hz
 rotate_left
 ·cases hz
 split at hz
 rotate_left
 ·cases hz
 rename_i a s hs
 rw [stmA_some hs, t143_eq]
 obtain ⟨v, x', h1, rfl⟩ := uS_sel hz
 have h := t143_say p u s x
 rw [h1] at h
 exact h
abbrev BE := Nat × Val × Int
def encBE (x : BE) : AV := .tup [.c (.sl (rtab 1) x.1 x.2.1), .c (.int .i64 x.2.2)]
def chooseS (p : Par) (_ : Bool) (s : RS) (x : RU) : Option (BE × RU) :=
 (p.E s.cond x.sn x.sρ).bind fun v => bif v.2 != 0 then some ((0, .zero, v.2), x) else bif v.1 != 0 then some ((s.bn, s.bρ, 0), x) else bif strEq s.kind wRequire then some ((0, .zero, 12), x) else some ((s.en, s.eρ, 0), x)
def u145 (p : Par) : MSp := fun u rest x => match rest with
 | [a] => (match stmA a with
  | some s => uS encBE (0, .zero, 0) (chooseS p u s) x
  | none => .fail)
 | _ => .fail
noncomputable abbrev H145 (p : Par) : Hd := ⟨[], [(176, nG (G176 p.E))], [], []⟩
theorem h145 {p : Par} (hp : ParOk p) : HdOk Tryz.prog (H145 p) := HdOk.nil.ucCons hp.ev
def nilE (e : Int) : AV := .tup [.c .nils, .c (.int .i64 e)]
theorem nilE_le {e : Int} : leA (nilE e) (encBE (0, .zero, e)) := leA_tup (.cons (.c fun _ _ _ h => by cases h; exact .slnil) (.cons (.c leC.refl) .nil))
def t145 (p : Par) (u : Bool) (s : RS) (x : RU) : Tree (AV × RU) :=
 let o := p.E s.cond x.sn x.sρ
 let v := ov1 (0, 0) o
 .need (os1 o) (.br (v.2 != 0) (.leaf (nilE v.2, nk u x)) (.br (v.1 != 0) (.leaf (encBE (s.bn, s.bρ, 0), nk u x)) (.br (strEq s.kind wRequire) (.leaf (nilE 12, nk u x)) (.leaf (encBE (s.en, s.eρ, 0), nk u x)))))
theorem t145_eq (p : Par) (u : Bool) (s : RS) (x : RU) : clusEv (ClR u) Tryz.prog (H145 p) X3 10 145 [.agg s.cells] x = t145 p u s x := by cases u <;> kernel_rfl
theorem SyC.rl {β : Type} {u : Bool} {enc : β → AV} {r : AV} {v : β} {x : RU} (h : leA r (enc v)) : SyC u enc (.leaf (r, nk u x)) (some (v, x)) := .ret' h (layU_nk u x)
theorem m145 {p : Par} (hp : ParOk p) : McOne Tryz.prog 145 (clG2 (u145 p)) := run_ok (H := H145 p) (X := X3) (h145 hp) x3 10 145 fun u rest x z hz => by
 unfold u145 at hz
 split at hz
 rotate_left
 ·cases hz
 split at hz
 rotate_left
 ·cases hz
 rename_i a s hs
 rw [stmA_some hs, t145_eq]
 obtain ⟨v, x', h1, rfl⟩ := uS_sel hz
 have h : SyC u encBE (t145 p u s x) (chooseS p u s x) := by
  unfold t145 chooseS
  cases p.E s.cond x.sn x.sρ with
  | none => exact trivial
  | some v =>
  simp only [os1, ov1, Option.bind]
  exact SyC.need rfl (SyC.cond (fun _ => SyC.rl nilE_le) fun _ => SyC.cond (fun _ => SyC.rt) fun _ => SyC.cond (fun _ => SyC.rl nilE_le) fun _ => SyC.rt)
 rw [h1] at h
 exact h
end Go.Proofs.YtiefjlcakpdfeaaGreat
