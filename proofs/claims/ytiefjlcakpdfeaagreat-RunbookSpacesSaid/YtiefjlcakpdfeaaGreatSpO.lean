/-
 Part SpO of the proof: EngU EngMc EngPa EngPb EngPc.
-/
import Derived.Test.YtiefjlcakpdfeaaGreatSpN
namespace Go.Sx
open Go Go.RowKit
def firstB (bad:Nat → Bool):Nat → Nat
 | 0 => 0
 | n + 1 => bif anyB bad n then firstB bad n else n
theorem firstB_ok {bad:Nat → Bool}:∀ {n:Nat},anyB bad n = true → firstB bad n < n ∧ bad (firstB bad n) = true ∧ ∀ j,j < firstB bad n → bad j = false
 | 0,h => by simp [anyB] at h
 | n + 1, h => by
   unfold firstB
   cases hb:anyB bad n
   ·simp only [anyB,hb,Bool.false_or] at h
    refine ⟨by simp,h,fun j hj => ?_⟩
    simp only [cond_false] at hj
    rw [← Bool.not_eq_true]
    intro hh
    have:=anyB_iff.2 ⟨j,hj,hh⟩
    rw [hb] at this; cases this
   ·obtain ⟨h1,h2,h3⟩:=firstB_ok hb
    exact ⟨by simp only [cond_true]; omega,h2,h3⟩
theorem firstB_eq {bad:Nat → Bool} {n i:Nat} (hi:i < n) (hb:bad i = true) (h:∀ j,j < i → bad j = false):anyB bad n = true ∧ firstB bad n = i:=by
 have ha:anyB bad n = true:=anyB_iff.2 ⟨i,hi,hb⟩
 obtain ⟨h1,h2,h3⟩:=firstB_ok ha
 refine ⟨ha,?_⟩
 rcases Nat.lt_trichotomy (firstB bad n) i with hlt | heq | hgt
 ·rw [h _ hlt] at h2; cases h2
 ·exact heq
 ·rw [h3 _ hgt] at hb; cases hb
structure Sq {X:Type} (TX:X → Tree (XE × X)) (μ:X → Nat) (st sb:Nat → X) (n:Nat) (bad:Nat → Bool) (e1 e0:XE):Prop where
 out:e0 ≠ .normal
 hit:e1 ≠ .normal
 meas:∀ i,i ≤ n → μ (st i) = n - i
 round:∀ i,i < n → (TX (st i)).All fun y => if bad i then y = (e1,sb i) else y = (.normal,st (i + 1))
 stop:(TX (st n)).All fun y => y = (e0,st n)
variable {X:Type} {TX:X → Tree (XE × X)} {μ:X → Nat} {st sb:Nat → X} {n:Nat} {bad:Nat → Bool} {e1 e0:XE}
theorem Sq.rounds (h:Sq TX μ st sb n bad e1 e0) {inv:X → Prop} (hinv:∀ x,inv x ↔ ∃ i,i ≤ n ∧ x = st i):Rounds TX inv μ (fun y => (∃ i,i < n ∧ bad i = true ∧ y = (e1,sb i)) ∨ y = (e0,st n)):=by
 intro x hx
 obtain ⟨i,hi,rfl⟩:=(hinv x).1 hx
 rcases Nat.lt_or_eq_of_le hi with hlt | rfl
 ·refine All.imp (fun y hy => ?_) (h.round i hlt)
  obtain ⟨e,z⟩:=y
  cases hb:bad i
  ·rw [hb] at hy
   simp only [Bool.false_eq_true,if_false,Prod.mk.injEq] at hy
   obtain ⟨rfl,rfl⟩:=hy
   simp only
   rw [h.meas i hi,h.meas (i + 1) (by omega)]
   exact ⟨(hinv _).2 ⟨i + 1,by omega,rfl⟩,by omega⟩
  ·rw [hb] at hy
   simp only [if_true,Prod.mk.injEq] at hy
   obtain ⟨rfl,rfl⟩:=hy
   cases hn:e with
   | normal => exact (h.hit hn).elim
   | exit k => subst hn; exact .inl ⟨i,hlt,hb,rfl⟩
   | ret => subst hn; exact .inl ⟨i,hlt,hb,rfl⟩
 ·refine All.imp (fun y hy => ?_) h.stop
  obtain ⟨e,z⟩:=y
  simp only [Prod.mk.injEq] at hy
  obtain ⟨rfl,rfl⟩:=hy
  cases hn:e with
  | normal => exact (h.out hn).elim
  | exit k => subst hn; exact .inr rfl
  | ret => subst hn; exact .inr rfl
theorem Sq.fin_from (h:Sq TX μ st sb n bad e1 e0):∀ (d i:Nat),i + d = n → (∀ j,j < i → bad j = false) → fin TX μ (st i) = bif anyB bad n then (e1,sb (firstB bad n)) else (e0,st n):=by
 have hr:=h.rounds (inv:=fun x => ∃ i,i ≤ n ∧ x = st i) (fun _ => Iff.rfl)
 intro d
 induction d with
 | zero =>
   intro i hi hb
   have hi:i = n:=by omega
   subst hi
   obtain ⟨y,hs,hy⟩:=all_sel (fin_step hr (x:=st i) ⟨i,Nat.le_refl _,rfl⟩)
   obtain ⟨y',hs',hy'⟩:=all_sel h.stop
   rw [hs] at hs'
   simp at hs'; subst hs'
   rw [anyB_none hb]
   rcases hy with ⟨hn,_⟩ | ⟨_,hf⟩
   ·rw [hy'] at hn; exact (h.out hn).elim
   ·rw [hf,hy']; rfl
 | succ d ih =>
   intro i hi hb
   obtain ⟨y,hs,hy⟩:=all_sel (fin_step hr (x:=st i) ⟨i,by omega,rfl⟩)
   obtain ⟨y',hs',hy'⟩:=all_sel (h.round i (by omega))
   rw [hs] at hs'
   simp at hs'; subst hs'
   cases hbi:bad i
   ·rw [hbi] at hy'
    simp only [Bool.false_eq_true,if_false] at hy'
    rcases hy with ⟨_,_,_,hf⟩ | ⟨hn,_⟩
    ·rw [← hf,hy']
     refine ih (i + 1) (by omega) fun j hj => ?_
     rcases Nat.lt_or_eq_of_le (Nat.le_of_lt_succ hj) with h1 | rfl
     ·exact hb j h1
     ·exact hbi
    ·rw [hy'] at hn; exact (hn rfl).elim
   ·rw [hbi] at hy'
    simp only [if_true] at hy'
    obtain ⟨ha,hf1⟩:=firstB_eq (show i < n by omega) hbi hb
    rw [ha,hf1]
    rcases hy with ⟨hn,_⟩ | ⟨_,hf⟩
    ·rw [hy'] at hn; exact (h.hit hn).elim
    ·rw [hf,hy']; rfl
theorem Sq.fin0 (h:Sq TX μ st sb n bad e1 e0):fin TX μ (st 0) = bif anyB bad n then (e1,sb (firstB bad n)) else (e0,st n):=h.fin_from n 0 (by omega) fun j hj => by omega
theorem anyB_congr {b1 b2:Nat → Bool} {n:Nat} (h:∀ i,i < n → (∀ j,j < i → b1 j = false) → b1 i = b2 i):anyB b1 n = anyB b2 n:=by
 induction n with
 | zero => rfl
 | succ n ih =>
   have ih:=ih fun i hi => h i (by omega)
   simp only [anyB]
   cases hb:anyB b1 n
   ·rw [hb] at ih
    rw [← ih]
    simp only [Bool.false_or]
    refine h n (by omega) fun j hj => ?_
    rw [← Bool.not_eq_true]
    intro hh
    have:=anyB_iff.2 ⟨j,hj,hh⟩
    rw [hb] at this; cases this
   ·rw [hb] at ih
    rw [← ih]
    simp
end Go.Sx
namespace Go.Sx
open Go Go.RowKit
variable {P:Program}
variable {D:List Deferred}
theorem mcOne_of_all {P : Program} {H : Hd} (hH : HdOk P H) (n f : Nat) {G : List A1 → Mem → Tree (AV × Mem)}
  (h:∀ args mem r mem',(G args mem).sel = some (r,mem') → (evFn P H n f args mem).All (fun y => WkR P mem.length y (r,mem'))) (hf:f < 1000000000:=by decide):McOne P f G:=by
 intro args mem r mem' hG F w bs vs hm hargs
 obtain ⟨y,hsel,hw⟩:=all_sel (h args mem r mem' hG)
 refine ((evFn_ok hH n).fn f args mem y.1 y.2 hf hsel F w bs vs hm hargs).mono fun e w2 ⟨u,F',bs',he,hext,hm',hu⟩ => ?_
 obtain ⟨F2,bs2,e2,m2,r2⟩:=hw F' w2 bs' u (by have:=hext.le; have:=hm.len; omega) hm' hu
 rw [← hm.len] at e2
 exact ⟨u,F2,bs2,he,hext.trans e2 (Nat.le_refl _),m2,r2⟩
theorem mcOne_of_tree {P : Program} {H : Hd} (hH : HdOk P H) (n f : Nat) {G : List A1 → Mem → Tree (AV × Mem)}
  (h:∀ args mem r mem',(G args mem).sel = some (r,mem') → ∃ u,evFn P H n f args mem = u ∧ u.All (fun y => y = (r,mem'))) (hf:f < 1000000000:=by decide):McOne P f G :=
 mcOne_of_all hH n f (fun args mem r mem' hG => by
  obtain ⟨u,hu,ha⟩:=h args mem r mem' hG
  rw [hu]
  exact All.imp (fun _ h => h ▸ WkR.refl) ha) hf
theorem leC_ext {es:List Sh} {n:Nat} {ρ σ:Val} (h:∀ i f s,i < n → nth es f = some s → cellOf s ((ρ.at i).at f) = cellOf s ((σ.at i).at f)):leC (.sl es n ρ) (.sl es n σ):=fun F w v hv => by
 cases hv with
 | slnil => exact .slnil
 | sl val hn h0 hc hr => exact .sl val hn h0 hc fun i f s hi hf => h i f s hi hf ▸ hr i f s hi hf
end Go.Sx
namespace Go.Sx
open Go Go.RowKit
inductive Out where
 | ret (a:AV)
 | pan (x:CV)
inductive XP where
 | normal
 | exit (id:Nat)
 | ret
 | pan (x:CV)
 | goto (l:Nat)
structure StP where
 s:St
 dl:List CV
abbrev CallP:=Nat → List A1 → Mem → Tree (Out × Mem)
def pF (f:Nat):Nat × (List A1 → Tree AV):=(12884901888 + f,fun _ => .fail)
def panics (H:Hd) (f:Nat):Bool:=(lookPc H.pc (12884901888 + f)).isSome
def evIf (P:Program) (ρ:Operand → Option AV):Op → Option AV
 | .makeInterface t x => match P.underlying t with
  | some (.interface _) => none
  | some _ => match ρ x with
   | some (.one (.c y)) => if closedC y then some (.one (.c (.iface t y))) else none
   | some (.one (.agg l)) => if l.all closedC then some (.one (.c (.ifa t l))) else none
   | _ => none
  | none => none
 | .typeAssert x _ a true => match P.underlying a with
  | some (.interface _) => none
  | some _ => match ρ x with
   | some (.one (.c (.iface t y))) => if t == a then some (.tup [.c y,.c (.bool true)]) else none
   | some (.one (.c (.ifa t l))) => if t == a then some (.tup [.agg l,.c (.bool true)]) else none
   | _ => none
  | none => none
 | .binOp .neq t x (.const .nilIface) _ => match P.underlying t,ρ x with
  | some (.interface _),some (.one (.c .nili)) => some (.one (.c (.bool false)))
  | some (.interface _),some (.one (.c (.iface _ _))) => some (.one (.c (.bool true)))
  | some (.interface _),some (.one (.c (.ifa _ _))) => some (.one (.c (.bool true)))
  | _,_ => none
 | _ => none
def isIface:CV → Bool
 | .iface _ _ => true
 | .ifa _ _ => true
 | _ => false
structure HdP where
 px:List (Nat × (List A1 → Mem → Tree (Out × Mem)))
 rx:List (Nat × (List A1 → List A1 → Tree Out))
 nc:List (Nat × (List A1 → Tree (AV × Mem)))
 lx:List ((Nat × Nat) × (Nat → St → Tree (XP × St)))
 sx:List (Nat × (Nat → St → Tree (XP × St)))
 rounds:Nat
 lo:List Nat:=[]
def lookLx:List ((Nat × Nat) × (Nat → St → Tree (XP × St))) → Nat → Nat → Option (Nat → St → Tree (XP × St))
 | [],_,_ => none
 | (k,F) :: r,f,i => if k.1 == f && k.2 == i then some F else lookLx r f i
def lookSx:List (Nat × (Nat → St → Tree (XP × St))) → Nat → Option (Nat → St → Tree (XP × St))
 | [],_ => none
 | (k,F) :: r,f => if k == f then some F else lookSx r f
def scopesOf:Code → List Code
 | .seq a b => scopesOf a ++ scopesOf b
 | .cond _ a b => scopesOf a ++ scopesOf b
 | .block _ b => scopesOf b
 | .loop b => scopesOf b
 | .scope b => b :: scopesOf b
 | .rangeFunc _ _ a b => scopesOf a ++ scopesOf b
 | _ => []
def roundsU (g:StP → Tree (XP × StP)):Nat → StP → Tree (XP × StP)
 | 0,_ => .fail
 | n + 1,s => (g s).bind fun x => match x.1 with
  | .normal => roundsU g n x.2
  | e => .leaf (e,x.2)
def lookNc:List (Nat × (List A1 → Tree (AV × Mem))) → Nat → Option (List A1 → Tree (AV × Mem))
 | [],_ => none
 | (k,F) :: r,f => if k == f then some F else lookNc r f
def lookPx:List (Nat × (List A1 → Mem → Tree (Out × Mem))) → Nat → Option (List A1 → Mem → Tree (Out × Mem))
 | [],_ => none
 | (k,F) :: r,f => if k == f then some F else lookPx r f
def lookRx:List (Nat × (List A1 → List A1 → Tree Out)) → Nat → Option (List A1 → List A1 → Tree Out)
 | [],_ => none
 | (k,F) :: r,f => if k == f then some F else lookRx r f
def evOpQ (P:Program) (H:Hd) (X:HdP) (call:CallH) (callP:CallP) (mem:Mem) (ρ:List (Nat × Bool) → Operand → Option AV) (op:Op):Tree (Out × Mem) :=
 let plain:=(evOp P H call mem ρ op).bind fun y => .leaf (.ret y.1,y.2)
 match evIf P (ρ []) op with
 | some v => .leaf (.ret v,mem)
 | none => match op with
  | .call c => match c.callee with
   | .value _ => match evTarget (ρ []) c with
    | some (f,args) => if callable P f then (match lookRx X.rx f with
     | some F => if (args.map (view1 mem)).all closedA && args.all (fun a => a.cells.all noOc) then (F args (args.map (view1 mem))).bind fun r => .leaf (r,mem) else .fail
     | none => if panics H f then callP f args mem else plain) else .fail
    | none => .fail
   | _ => plain
  | _ => plain
def ifOpP (P:Program) (H:Hd) (call:CallH) (callP:CallP) (mem:Mem) (ρ:Operand → Option AV) (op:Op):Option (Tree (Out × Mem)) :=
 match op with
 | .call c => match c.callee with
  | .invoke x m => match ρ x,evArgs ρ c.args.toList with
   | some (.one (.c y)),some l => some ((heldT y).bind fun z => match methodF P z.1 m with
    | some f => if callable P f then (if panics H f then callP f (z.2 :: l) mem else (evCallF H call mem f (z.2 :: l)).bind fun y => .leaf (.ret y.1,y.2)) else .fail
    | none => .fail)
   | _,_ => none
  | _ => none
 | .makeInterface t x => match ifOp P H call mem ρ (.makeInterface t x) with
  | some t => some (t.bind fun y => .leaf (.ret y.1,y.2))
  | none => none
 | _ => none
def evOpI (P:Program) (H:Hd) (X:HdP) (call:CallH) (callP:CallP) (mem:Mem) (ρ:List (Nat × Bool) → Operand → Option AV) (op:Op):Tree (Out × Mem) :=
 match ifOpP P H call callP mem (ρ []) op with
 | some t => t
 | none => evOpQ P H X call callP mem ρ op
def evOpP (P:Program) (H:Hd) (X:HdP) (call:CallH) (callP:CallP) (s:StP) (op:Op):Tree (Out × Mem × List CV) :=
 let plain:=(evOpI P H X call callP s.s.mem (fun K => opnd s.s K) op).bind fun y => .leaf (y.1,y.2,s.dl)
 match op with
  | .panic x => match opnd s.s [] x with
   | some (.one (.c y)) => if isIface y && closedC y then .leaf (.pan y,s.s.mem,s.dl) else .fail
   | _ => .fail
  | .defer c => match c.callee,c.args.toList with
   | .value x,[] => match opnd s.s [] x with
    | some (.one (.c (.fn (.func g) [] cap))) => .leaf (.ret .any,s.s.mem,.fn (.func g) [] cap :: s.dl)
    | _ => .fail
   | _,_ => .fail
  | _ => plain
def evOpsP (P:Program) (H:Hd) (X:HdP) (call:CallH) (callP:CallP) (all:List Oper):List Oper → StP → Tree (XP × StP)
 | [],s => .leaf (.normal,s)
 | o :: r,s => match o.guard with
  | none => (evOpP P H X call callP s o.op).bind fun x => match x.1 with
   | .ret v => evOpsP P H X call callP all r ⟨{ s.s with mem:=x.2.1 }.put o.dst [] v,x.2.2⟩
   | .pan y => .leaf (.pan y,⟨{ s.s with mem:=x.2.1 },x.2.2⟩)
  | some (j,b) => match keysOf all s.s j b with
   | some K =>
     if K.any (fun p => some p.1 == o.dst) then .fail else
     if stillOp H (opnd s.s K) o.op then
      ((evOp P H call s.s.mem (fun K' => opnd s.s (K' ++ K)) o.op).toNeed dGu (gterm s.s K)).bind fun x => evOpsP P H X call callP all r ⟨s.s.put o.dst K x.1,s.dl⟩
     else match gdec s.s K with
      | some g => .br g ((evOp P H call s.s.mem (fun K' => opnd s.s (K' ++ K)) o.op).bind fun x => evOpsP P H X call callP all r ⟨{ s.s with mem:=x.2 }.put o.dst [] x.1,s.dl⟩) (evOpsP P H X call callP all r ⟨s.s.put o.dst K dGu.1,s.dl⟩)
      | none => .fail
   | none => .fail
def XE.toP:XE → XP
 | .normal => .normal
 | .exit k => .exit k
 | .ret => .ret
def loTouch:List A1 → Touch
 | .c (.ptr b 0) :: _ => some [(b + 1,true)]
 | _ => none
def touchQ (P:Program) (H:Hd) (X:HdP) (ρ:Operand → Option AV) (len:Nat) (op:Op):Touch :=
 match evIf P ρ op with
 | some _ => some []
 | none => match op with
  | .call c => match c.callee with
   | .value _ => match evTarget ρ c with
    | some (f,args) => if (lookRx X.rx f).isSome then some (osAll args) else if panics H f then (if anyN f X.lo then loTouch args else none) else touchOf H ρ len op
    | none => none
   | _ => touchOf H ρ len op
  | _ => touchOf H ρ len op
def panTouch (K0:Nat):Touch → Touch
 | none => none
 | some t => some (t ++ (upto K0).map fun b => (b + 1,false))
def deadQ (masks:List Nat) (pn:Option (Nat × CV × Mem)) (n:Nat):Bool :=
 match pn with
 | some (j,_,_) => isAnc masks j n
 | none => false
def evDrawP (P:Program) (H:Hd) (X:HdP) (call:CallH) (callP:CallP) (all:List Oper) (masks:List Nat) (K0:Nat):Nat → List Oper → St → Option (Nat × CV × Mem) → Tree (St × List Info × Option (Nat × CV × Mem))
 | _,[],s,pn => .leaf (s,[],pn)
 | n, o :: r, s, pn =>
   if deadQ masks pn n then (evDrawP P H X call callP all masks K0 (n + 1) r (s.put0 o.dst [] .any) pn).bind fun y => .leaf (y.1,(some [],[]) :: y.2.1,y.2.2)
   else match o.guard with
  | none => (evOpQ P H X call callP s.mem (fun K => lim o s K) o.op).bind fun x => match x.1 with
   | .ret v => (evDrawP P H X call callP all masks K0 (n + 1) r ({ s with mem:=x.2 }.put0 o.dst [] v) pn).bind fun y => .leaf (y.1,(touchQ P H X (lim o s []) s.mem.length o.op,[]) :: y.2.1,y.2.2)
   | .pan z => if pn.isSome then .fail else (evDrawP P H X call callP all masks K0 (n + 1) r (s.put0 o.dst [] .any) (some (n,z,x.2))).bind fun y => .leaf (y.1,(panTouch K0 (touchQ P H X (lim o s []) s.mem.length o.op),[]) :: y.2.1,y.2.2)
  | some (j,b) => match keysOf all s j b with
   | some K =>
     if !stillOp H (lim o s K) o.op || K.any (fun p => some p.1 == o.dst) then .fail else
     ((evOp P H call s.mem (fun K' => lim o s (K' ++ K)) o.op).toNeed dGu (gterm s K)).bind fun x => (evDrawP P H X call callP all masks K0 (n + 1) r (s.put0 o.dst K x.1) pn).bind fun y => .leaf (y.1,(touchOf H (lim o s K) s.mem.length o.op,K) :: y.2.1,y.2.2)
   | none => .fail
def St.forget (s:St):List Oper → St
 | [] => s
 | o :: r => (s.put0 o.dst [] .any).forget r
def underA1 (K:Nat):A1 → Bool
 | .c x => underC K x
 | .agg l => l.all (underC K)
def underAV (K:Nat):AV → Bool
 | .any => true
 | .one a => underA1 K a
 | .tup l => l.all (underA1 K)
def layOf (P:Program) (o:Oper):Option (TypeId × List CV) :=
 match o.guard,o.dst,o.op with
 | none,some _,.alloc e => (match zeroCellsOf P e with | some z => some (e,z) | none => none)
 | _,_,_ => none
def namesC (ok:Nat → Bool):CV → Bool
 | .ptr b _ => ok b
 | .os b _ => ok b
 | .rowp b _ _ _ => ok b
 | .row _ _ _ _ => true
 | .yld b => ok b
 | .lp _ _ _ => true
 | x => closedC x
def namesE (ok:Nat → Bool):Option (TypeId × List CV) → Bool
 | none => true
 | some (_,cs) => cs.all (namesC ok)
def namesA1 (ok:Nat → Bool):A1 → Bool
 | .c x => namesC ok x
 | .agg l => l.all (namesC ok)
def namesAV (ok:Nat → Bool):AV → Bool
 | .any => true
 | .one a => namesA1 ok a
 | .tup l => l.all (namesA1 ok)
def okAt (masks:List Nat) (K0 i b:Nat):Bool:=Nat.blt b K0 || isAnc masks (b - K0) i || b == K0 + i
def wrOk (ok:Nat → Bool) (mem:Mem):Touch → Bool
 | none => mem.all (namesE ok)
 | some t => t.all fun p => match p with
  | (b + 1,true) => (match nth mem b with | some e => namesE ok e | none => true)
  | _ => true
def ncOf (P:Program) (X:HdP) (ρ:Operand → Option AV) (o:Oper):Option (Tree (AV × Mem)) :=
 match o.guard,o.dst,o.op with
 | none,some _,.call c => match c.callee with
  | .value _ => match evTarget ρ c with
   | some (f,args) => match lookNc X.nc f with
    | some G => if callable P f && args.all closedA then some (G args) else none
    | none => none
   | none => none
  | _ => none
 | _,_,_ => none
def evDrawL (P:Program) (H:Hd) (X:HdP) (call:CallH) (all:List Oper) (masks:List Nat) (K0:Nat):Nat → List Oper → St → Tree (St × List Info)
 | _,[],s => .leaf (s,[])
 | n,o :: r,s => match layOf P o with
  | some (e,z) => (match nth s.mem (K0 + n) with
   | some none => if z.all closedC then
     (evDrawL P H X call all masks K0 (n + 1) r ({ s with mem:=setN s.mem (K0 + n) (some (e,z)) }.put0 o.dst [] (.one (.c (.ptr (K0 + n) 0))))).bind fun y => .leaf (y.1,(some [(K0 + n + 1,true)],[]) :: y.2) else .fail
   | _ => .fail)
  | none => match ncOf P X (lim o s []) o with
   | some g => (match nth s.mem (K0 + n) with
    | some none => g.bind fun z => match z with
     | (.one (.c (.os 0 sz)), [some (T, [.row false es m ρ])]) =>
       (evDrawL P H X call all masks K0 (n + 1) r ({ s with mem:=setN s.mem (K0 + n) (some (T,[.row false es m ρ])) }.put0 o.dst [] (.one (.c (.os (K0 + n) sz))))).bind fun y => .leaf (y.1,(some [(K0 + n + 1,true)],[]) :: y.2)
     | _ => .fail
    | _ => .fail)
   | none => match o.guard with
    | none =>
      (evOp P H call s.mem (fun K => lim o s K) o.op).bind fun x => if namesAV (okAt masks K0 n) x.1 && wrOk (okAt masks K0 n) x.2 (touchOf H (lim o s []) s.mem.length o.op) then
       (evDrawL P H X call all masks K0 (n + 1) r ({ s with mem:=x.2 }.put0 o.dst [] x.1)).bind fun y => .leaf (y.1,(touchOf H (lim o s []) s.mem.length o.op,[]) :: y.2) else .fail
    | some (j,b) => match keysOf all s j b with
     | some K =>
       if !stillOp H (lim o s K) o.op || K.any (fun p => some p.1 == o.dst) then .fail else
       ((evOp P H call s.mem (fun K' => lim o s (K' ++ K)) o.op).toNeed dGu (gterm s K)).bind fun x => if namesAV (okAt masks K0 n) x.1 then (evDrawL P H X call all masks K0 (n + 1) r (s.put0 o.dst K x.1)).bind fun y => .leaf (y.1,(touchOf H (lim o s K) s.mem.length o.op,K) :: y.2) else .fail
     | none => .fail
def evRegL (P:Program) (H:Hd) (X:HdP) (call:CallH) (ops:List Oper) (s:StP):Tree (XP × StP) :=
 if P.follows .mixedOrders && s.s.mem.all (underE s.s.mem.length) && s.s.tmps.all (fun sl => underAV s.s.mem.length (unkey sl).v) then
  (evDrawL P H X call ops (ancMasks ops []) s.s.mem.length 0 ops { tmps:=s.s.tmps.map unkey,mem:=s.s.mem ++ ops.map fun _ => none }).bind fun y =>
   if drawOk ops y.2 then .leaf (.normal,⟨{ y.1 with tmps:=y.1.tmps.map unkey },s.dl⟩) else .fail
 else .fail
def allocIx (X:HdP):Nat → List Oper → List Nat
 | _,[] => []
 | n,o :: r => match o.op with
  | .alloc _ => n :: allocIx X (n + 1) r
  | .call c => (match c.callee with
   | .value (.func f) => if (lookNc X.nc f).isSome then n :: allocIx X (n + 1) r else allocIx X (n + 1) r
   | _ => allocIx X (n + 1) r)
  | _ => allocIx X (n + 1) r
def openPair (masks:List Nat):List Nat → Bool
 | i :: j :: r => !isAnc masks i j || openPair masks (j :: r)
 | _ => false
def openAllocs (X:HdP) (ops:List Oper):Bool:=match allocIx X 0 ops with
 | i :: j :: r => openPair (ancMasks ops []) (i :: j :: r)
 | _ => false
def evRegP (P:Program) (H:Hd) (X:HdP) (call:CallH) (callP:CallP) (ops:List Oper) (s:StP):Tree (XP × StP) :=
 if P.follows .mixedOrders then
  (evDrawP P H X call callP ops (ancMasks ops []) s.s.mem.length 0 ops { s.s with tmps:=s.s.tmps.map unkey } none).bind fun y =>
   if drawOk ops y.2.1 then (match y.2.2 with
    | none => .leaf (.normal,⟨{ y.1 with tmps:=y.1.tmps.map unkey },s.dl⟩)
    | some (_,z,m) => match takeN m s.s.mem.length with
     | some m0 => if m0.all (underE s.s.mem.length) && closedC z then .leaf (.pan z,⟨({ tmps:=s.s.tmps.map unkey,mem:=m0 }:St).forget ops,s.dl⟩) else .fail
     | none => .fail) else .fail
 else .fail
def evCodeP (P:Program) (H:Hd) (X:HdP) (call:CallH) (callP:CallP) (f K:Nat):Nat → Code → StP → Tree (XP × StP)
 | _,.skip,s => .leaf (.normal,s)
 | _, .region _ ops draw, s => if draw then (if openAllocs X ops.toList then evRegL P H X call ops.toList s else evRegP P H X call callP ops.toList s)
   else (evOpsP P H X call callP ops.toList ops.toList s).bind fun x => .leaf (x.1,⟨{ x.2.s with tmps:=x.2.s.tmps.map unkey },x.2.dl⟩)
 | n,.seq a b,s => (evCodeP P H X call callP f K n a s).bind fun x => match x.1 with
  | .normal => evCodeP P H X call callP f K (n + nloops a) b x.2
  | e => .leaf (e,x.2)
 | n,.cond c a b,s => match opnd s.s [] c with
  | some (.one (.c (.bool t))) => .br t (evCodeP P H X call callP f K n a s) (evCodeP P H X call callP f K (n + nloops a) b s)
  | _ => .fail
 | n,.block id b,s => (evCodeP P H X call callP f K n b s).bind fun x => match x.1 with
  | .exit k => .leaf (if k = id then .normal else .exit k,x.2)
  | e => .leaf (e,x.2)
 | n,.loop b,s => match lookLx X.lx f n with
  | some h => if s.dl.isEmpty then (h K s.s).bind fun x => .leaf (x.1,⟨x.2,[]⟩) else .fail
  | none => match lookLh H.lh f n with
   | some h => if s.dl.isEmpty then (h K s.s).bind fun x => .leaf (x.1.toP,⟨x.2,[]⟩) else .fail
   | none => roundsU (fun s' => evCodeP P H X call callP f K (n + 1) b s') X.rounds s
 | n,.scope b,s => match lookSx X.sx f with
  | some h => if s.dl.isEmpty then (h K s.s).bind fun x => .leaf (x.1,⟨x.2,[]⟩) else .fail
  | none => (evCodeP P H X call callP f K n b s).bind fun x => match x.1 with
   | .goto _ => .fail
   | e => .leaf (e,x.2)
 | _,.label _,s => .leaf (.normal,s)
 | _,.goto l,s => .leaf (.goto l,s)
 | _,.exit id,s => .leaf (.exit id,s)
 | _,.ret,s => .leaf (.ret,s)
 | _,_,_ => .fail
def recHead:Code → Option (Oper × List Oper × Code)
 | .seq (.region _ ops false) x => match ops.toList with
  | o :: r => match o.guard,o.op with
   | none,.call c => match c.callee with
    | .builtin .recover => some (o,r,x)
    | _ => none
   | _,_ => none
  | [] => none
 | _ => none
def recC:Option CV → CV
 | none => .nili
 | some y => y
def evDef (P:Program) (H:Hd) (X:HdP) (call:CallH) (callP:CallP) (g:Nat) (cap:List CV) (pan:Option CV) (mem:Mem):Tree (Option CV × Mem) :=
 match nth P.funcs.toList g with
 | some fn => match fn.body with
  | some c => match recHead c with
   | some (o, r, x) => if Nat.ble cap.length fn.ntmps && callable P g then
     let s0:St:=⟨cap.map (fun a => ⟨[],.one (.c a)⟩) ++ List.replicate (fn.ntmps - cap.length) ⟨[],.any⟩,mem⟩
     (evOpsP P H X call callP (o :: r) r ⟨s0.put o.dst [] (.one (.c (recC pan))),[]⟩).bind fun y => match y.1 with
      | .normal => (evCodeP P H X call callP g mem.length 0 x ⟨{ y.2.s with tmps:=y.2.s.tmps.map unkey },y.2.dl⟩).bind fun z => match z.1,z.2.dl with
       | .normal,[] => if (evResults P z.2.s fn.results.toList).isSome then .leaf (none,z.2.s.mem) else .fail
       | .ret,[] => if (evResults P z.2.s fn.results.toList).isSome then .leaf (none,z.2.s.mem) else .fail
       | _,_ => .fail
      | _ => .fail
     else .fail
   | none => .fail
  | none => .fail
 | none => .fail
def leaveP (P:Program) (H:Hd) (X:HdP) (call:CallH) (callP:CallP) (fn:Func) (s:St):List CV → Option CV → Mem → Tree (Out × Mem)
 | [],none,mem => match evResults P { s with mem:=mem } fn.results.toList with
  | some l => .leaf (.ret (resOf l),mem)
  | none => .fail
 | [],some y,mem => .leaf (.pan y,mem)
 | d :: dl,u,mem => match d with
  | .fn (.func g) [] cap => (evDef P H X call callP g cap u mem).bind fun y => leaveP P H X call callP fn s dl y.1 y.2
  | _ => .fail
def evFnP (P:Program) (H:Hd) (X:HdP):Nat → CallP
 | 0,_,_,_ => .fail
 | n + 1,f,args,mem => match lookPx X.px f with
  | some G => G args mem
  | none => match nth P.funcs.toList f with
   | some fn => match fn.body with
    | some c => if Nat.ble args.length fn.ntmps then
      (evCodeP P H X (evFn P H n) (evFnP P H X n) f mem.length 0 c ⟨⟨args.map (fun a => ⟨[],.one a⟩) ++ List.replicate (fn.ntmps - args.length) ⟨[],.any⟩,mem⟩,[]⟩).bind fun x => match x.1 with
       | .exit _ => .fail
       | .goto _ => .fail
       | .pan y => leaveP P H X (evFn P H n) (evFnP P H X n) fn x.2.s x.2.dl (some y) x.2.s.mem
       | _ => leaveP P H X (evFn P H n) (evFnP P H X n) fn x.2.s x.2.dl none x.2.s.mem
      else .fail
    | none => .fail
   | none => .fail
def Out.Ends (F:Nat → Prop) (w:World) (bs:List BI):Out → Ending → Prop
 | .ret a,e => ∃ v,e = .returned v ∧ a.Rel F w bs v
 | .pan x,e => ∃ v,e = .panicked [{ v,recovered:=false }] ∧ x.Rel F w bs v
def LocFn (G:List A1 → Mem → Tree (Out × Mem)):Prop :=
 ∀ b rest M r M',(G (.c (.ptr b 0) :: rest) M).sel = some (r,M') → ∀ mem,nth mem b = nth M b →
  ∃ e,M' = setN M b e ∧ (G (.c (.ptr b 0) :: rest) mem).sel = some (r,setN mem b e)
structure CallPOk (P:Program) (X:HdP) (callP:CallP):Prop where
 ok:∀ f args mem r mem',(callP f args mem).sel = some (r,mem') → ∀ F w bs vs,MemRel P F w bs mem → All2 (A1.Rel F w bs) args vs →
  Calls P f vs.toArray w (fun e w' => ∃ F' bs',Ext bs.length F w bs F' w' bs' ∧ MemRel P F' w' bs' mem' ∧ r.Ends F' w' bs' e)
 loc:∀ f,anyN f X.lo = true → LocFn (callP f)
def RxOne (P:Program) (f:Nat) (G:List A1 → List A1 → Tree Out):Prop :=
 ∀ args mem r,(args.map (view1 mem)).all closedA = true → (G args (args.map (view1 mem))).sel = some r → ∀ F w bs vs,MemRel P F w bs mem → All2 (A1.Rel F w bs) args vs →
  Calls P f vs.toArray w (fun e w' => Below w.heap.size w w' ∧ r.Ends F w' bs e)
def RxOk (P:Program) (rx:List (Nat × (List A1 → List A1 → Tree Out))):Prop:=∀ f G,lookRx rx f = some G → RxOne P f G
def DRel (F:Nat → Prop) (w:World) (bs:List BI) (c:CV) (d:Deferred):Prop :=
 ∃ g cap vs,c = .fn (.func g) [] cap ∧ d = { target:=.fn (.func g) vs.toArray,args:=#[] } ∧ All2 (CV.Rel F w bs) cap vs
theorem All2.grow {F F' bs bs' w w'} (g:Grow F F' bs bs' w w'):∀ {l:List CV} {vs:List Value},All2 (CV.Rel F w bs) l vs → All2 (CV.Rel F' w' bs') l vs
 | _,_,.nil => .nil
 | _,_,.cons h r => .cons (h.grow g) (All2.grow g r)
theorem DRel.grow {F F' bs bs' w w' c d} (g:Grow F F' bs bs' w w') (h:DRel F w bs c d):DRel F' w' bs' c d :=
 let ⟨f,cap,vs,h1,h2,h3⟩:=h
 ⟨f,cap,vs,h1,h2,h3.grow g⟩
def DsRel (F:Nat → Prop) (w:World) (bs:List BI) (dl:List CV) (D:List Deferred):Prop:=All2 (DRel F w bs) dl D
theorem DsRel.grow {F F' bs bs' w w'} (g:Grow F F' bs bs' w w'):∀ {dl D},DsRel F w bs dl D → DsRel F' w' bs' dl D
 | _,_,.nil => .nil
 | _,_,.cons h r => .cons (h.grow g) (DsRel.grow g r)
variable {P:Program}
theorem run_neq_nili {a : Act} {t : TypeId} {x : Operand} {ms : Array (String × TypeId)} (hz : a.eval x = .nilIface) (hu : P.underlying t = some (.interface ms)) (w : World) :
  (do eqGuard .neq t x (.const .nilIface) (a.eval x) (a.eval (.const .nilIface)); binOp .neq t (a.eval x) (a.eval (.const .nilIface)):Sem Value).run P w = .ok (.bool false) w:=by
 rw [hz]
 have e1:eqGuard .neq t x (.const .nilIface) .nilIface (a.eval (.const .nilIface)) = (pure ():Sem Unit):=by
  show eqGuard .neq t x (.const .nilIface) .nilIface .nilIface = _
  cases x <;> rfl
 have e2:binOp .neq t .nilIface (a.eval (.const .nilIface)) = (do pure (.bool (!(← Op.equal t .nilIface .nilIface))):Sem Value):=rfl
 have e3:(Op.equal t .nilIface .nilIface).run P w = .ok true w:=by
  have h:∀ d,(Op.equalIn (d + 1) t .nilIface .nilIface).run P w = .ok true w:=fun d => by simp [Op.equalIn,run_underlying hu]
  exact h 9999
 rw [e1,e2]
 simp [e3]
theorem run_neq_iface {a : Act} {t t' : TypeId} {v : Value} {x : Operand} {ms : Array (String × TypeId)} (hz : a.eval x = .iface t' v) (hu : P.underlying t = some (.interface ms)) (w : World) :
  (do eqGuard .neq t x (.const .nilIface) (a.eval x) (a.eval (.const .nilIface)); binOp .neq t (a.eval x) (a.eval (.const .nilIface)):Sem Value).run P w = .ok (.bool true) w:=by
 rw [hz]
 have e1:eqGuard .neq t x (.const .nilIface) (.iface t' v) (a.eval (.const .nilIface)) = (pure ():Sem Unit):=by
  show eqGuard .neq t x (.const .nilIface) (.iface t' v) .nilIface = _
  rfl
 have e2:binOp .neq t (.iface t' v) (a.eval (.const .nilIface)) = (do pure (.bool (!(← Op.equal t (.iface t' v) .nilIface))):Sem Value):=rfl
 have e3:(Op.equal t (.iface t' v) .nilIface).run P w = .ok false w:=by
  have h:∀ d,(Op.equalIn (d + 1) t (.iface t' v) .nilIface).run P w = .ok false w:=fun d => by simp [Op.equalIn,run_underlying hu]
  exact h 9999
 rw [e1,e2]
 simp [e3]
theorem evIf_ok {F : Nat → Prop} {w : World} {bs : List BI} {ρ : Operand → Option AV} {a : Act} (hρ : ∀ x av, ρ x = some av → av.Rel F w bs (a.eval x)) {o : Oper} {r : AV} (h : evIf P ρ o.op = some r) :
  ∃ v,r.Rel F w bs v ∧ (execOp a.eval o).run P w = .ok (.value v) w:=by
 unfold evIf at h
 split at h
 ·rename_i t x ho
  split at h
  ·simp at h
  ·rename_i d hd hne
   split at h
   ·rename_i y hy
    split at h
    ·simp at h; subst h
     have hr:=hρ _ _ hy
     refine ⟨.iface t (a.eval x),CV.Rel.iface hr,?_⟩
     unfold execOp
     rw [ho]
     simp only [Instr.makeInterface,Sem.run_bind,run_underlying hne]
     cases d <;> first | rfl | (exact absurd rfl (hd _))
    ·simp at h
   ·rename_i l hy
    split at h
    ·simp at h; subst h
     obtain ⟨vs,hz,hr⟩:=hρ _ _ hy
     refine ⟨.iface t (a.eval x),by rw [hz]; exact CV.Rel.ifa hr.length (fun i x v h1 h2 => by
      obtain ⟨v',hv',hr'⟩:=hr.nth h1
      rw [nth_eq] at h2
      rw [h2] at hv'
      cases hv'
      exact hr'),?_⟩
     unfold execOp
     rw [ho]
     simp only [Instr.makeInterface,Sem.run_bind,run_underlying hne]
     cases d <;> first | rfl | (exact absurd rfl (hd _))
    ·simp at h
   ·simp at h
  ·simp at h
 ·rename_i x t0 a0 ho
  split at h
  ·simp at h
  ·rename_i d hd hne
   split at h
   ·rename_i t y hy
    split at h
    ·rename_i ht
     have ht:=eq_of_beq ht
     subst ht
     simp at h; subst h
     have hr:=hρ _ _ hy
     generalize hz:a.eval x = z at hr
     cases hr with
     | iface hv =>
       rename_i v
       refine ⟨.tuple #[v,.bool true],⟨[v,.bool true],rfl,.cons hv (.cons (CV.Rel.bool _) .nil)⟩,?_⟩
       unfold execOp
       rw [ho]
       simp only [Instr.typeAssert,Sem.run_bind,run_underlying hne,hz]
       cases d <;> first | exact (hd _ rfl).elim | simp
    ·simp at h
   ·rename_i t l hy
    split at h
    ·rename_i ht
     have ht:=eq_of_beq ht
     subst ht
     simp at h; subst h
     have hr:=hρ _ _ hy
     generalize hz:a.eval x = z at hr
     cases hr with
     | ifa hl hv =>
       rename_i vs
       refine ⟨.tuple #[.agg vs.toArray,.bool true],⟨[.agg vs.toArray,.bool true],rfl,.cons ⟨vs,rfl,All2.of_nth hl hv⟩ (.cons (CV.Rel.bool _) .nil)⟩,?_⟩
       unfold execOp
       rw [ho]
       simp only [Instr.typeAssert,Sem.run_bind,run_underlying hne,hz]
       cases d <;> first | exact (hd _ rfl).elim | simp
    ·simp at h
   ·simp at h
  ·simp at h
 ·rename_i t x z ho
  split at h
  ·rename_i ms hu hy
   simp at h; subst h
   have hr:=hρ _ _ hy
   generalize hz:a.eval x = y at hr
   cases hr
   refine ⟨.bool false,CV.Rel.bool _,?_⟩
   unfold execOp
   rw [ho]
   simp only [Sem.run_bind,run_neq_nili hz hu w,Result.andThen_ok,Sem.run_pure]
  ·rename_i ms hu hy
   simp at h; subst h
   have hr:=hρ _ _ hy
   generalize hz:a.eval x = y at hr
   cases hr
   refine ⟨.bool true,CV.Rel.bool _,?_⟩
   unfold execOp
   rw [ho]
   simp only [Sem.run_bind,run_neq_iface hz hu w,Result.andThen_ok,Sem.run_pure]
  ·rename_i ms hu hy
   simp at h; subst h
   have hr:=hρ _ _ hy
   generalize hz:a.eval x = y at hr
   cases hr
   refine ⟨.bool true,CV.Rel.bool _,?_⟩
   unfold execOp
   rw [ho]
   simp only [Sem.run_bind,run_neq_iface hz hu w,Result.andThen_ok,Sem.run_pure]
  ·simp at h
 ·simp at h
theorem evOpQ_at {H : Hd} (hpc : SumOk P H) {X : HdP} (hrx : RxOk P X.rx) {call : CallH} (hcall : CallOk P call) {callP : CallP} (hcallP : CallPOk P X callP) {mem : Mem} {F : Nat → Prop} {w : World} {bs : List BI} {a : Act} (hm : MemRel P F w bs mem) {ρ : List (Nat × Bool) → Operand → Option AV}
  (hρ:∀ K x av,KH a K → ρ K x = some av → av.Rel F w bs (a.eval x)) {o:Oper} {r:Out} {mem':Mem}
  (h:(evOpQ P H X call callP mem ρ o.op).sel = some (r,mem')) {K:Act → World → Prop} {Q:Exit → Act → World → Prop}
  (hK:∀ F' w' bs' v av,r = .ret av → Ext bs.length F w bs F' w' bs' → MemRel P F' w' bs' mem' → av.Rel F' w' bs' v → K (a.put o.dst v) w')
  (hP:∀ F' w' bs' v x,r = .pan x → Ext bs.length F w bs F' w' bs' → MemRel P F' w' bs' mem' → x.Rel F' w' bs' v → Q (.panic [{ v,recovered:=false }]) a w'):o.wp P a w K Q:=by
 have h0:∀ x av,ρ [] x = some av → av.Rel F w bs (a.eval x):=fun x av hh => hρ [] x av KH_nil hh
 have plain:((evOp P H call mem ρ o.op).bind fun y => (.leaf (.ret y.1,y.2):Tree (Out × Mem))).sel = some (r,mem') → o.wp P a w K Q:=fun h => by
  obtain ⟨⟨rv,m⟩,h1,h2⟩:=sel_bind h
  simp only [Tree.sel,Option.some.injEq,Prod.mk.injEq] at h2
  obtain ⟨rfl,rfl⟩:=h2
  exact evOp_at hpc hcall hm hρ h1 fun F' w' bs' v hext hm hr => hK F' w' bs' v rv rfl hext hm hr
 unfold evOpQ at h
 split at h
 ·rename_i v0 hv0
  simp only [Tree.sel,Option.some.injEq,Prod.mk.injEq] at h
  obtain ⟨rfl,rfl⟩:=h
  obtain ⟨v,hr,hrun⟩:=evIf_ok h0 hv0
  unfold Oper.wp
  rw [hrun]
  exact hK F w bs v v0 rfl Ext.refl hm hr
 ·split at h
  ·rename_i c ho
   split at h
   ·split at h
    ·rename_i f args ht
     split at h
     ·rename_i hc
      obtain ⟨vs,hvs,hrun⟩:=evTarget_ok h0 ho ht hc
      split at h
      ·rename_i G hG
       split at h
       ·rename_i hcl
        obtain ⟨r0,h1,h2⟩:=sel_bind h
        simp only [Tree.sel,Option.some.injEq,Prod.mk.injEq] at h2
        obtain ⟨rfl,rfl⟩:=h2
        unfold Oper.wp
        rw [hrun]
        refine (hrx f G hG args mem r0 (by rw [Bool.and_eq_true] at hcl; exact hcl.1) h1 F w bs vs hm hvs).mono fun e w' ⟨hb,hr⟩ => ?_
        cases r0 with
        | ret av =>
          obtain ⟨v,rfl,hv⟩:=hr
          exact hK F w' bs v av rfl (Ext.of_below hb) (hm.below hb) hv
        | pan x =>
          obtain ⟨v,rfl,hv⟩:=hr
          exact hP F w' bs v x rfl (Ext.of_below hb) (hm.below hb) hv
       ·simp [Tree.sel] at h
      ·split at h
       ·unfold Oper.wp
        rw [hrun]
        refine (hcallP.ok f args _ _ _ h F w bs vs hm hvs).mono fun e w' ⟨F',bs',hext,hm',hr⟩ => ?_
        cases r with
        | ret av =>
          obtain ⟨v,rfl,hv⟩:=hr
          exact hK F' w' bs' v av rfl hext hm' hv
        | pan x =>
          obtain ⟨v,rfl,hv⟩:=hr
          exact hP F' w' bs' v x rfl hext hm' hv
       ·exact plain h
     ·simp [Tree.sel] at h
    ·simp [Tree.sel] at h
   ·exact plain h
  ·exact plain h
theorem ifOpP_at {H : Hd} (hpc : SumOk P H) {X : HdP} {call : CallH} (hcall : CallOk P call) {callP : CallP} (hcallP : CallPOk P X callP) {mem : Mem} {F : Nat → Prop} {w : World} {bs : List BI} {a : Act} (hm : MemRel P F w bs mem) {ρ : Operand → Option AV}
  (h0:∀ x av,ρ x = some av → av.Rel F w bs (a.eval x)) {o:Oper} {T:Tree (Out × Mem)} {r:Out} {mem':Mem}
  (h:ifOpP P H call callP mem ρ o.op = some T) (hT:T.sel = some (r,mem')) {K:Act → World → Prop} {Q:Exit → Act → World → Prop}
  (hK:∀ F' w' bs' v av,r = .ret av → Ext bs.length F w bs F' w' bs' → MemRel P F' w' bs' mem' → av.Rel F' w' bs' v → K (a.put o.dst v) w')
  (hP:∀ F' w' bs' v x,r = .pan x → Ext bs.length F w bs F' w' bs' → MemRel P F' w' bs' mem' → x.Rel F' w' bs' v → Q (.panic [{ v,recovered:=false }]) a w'):o.wp P a w K Q:=by
 unfold ifOpP at h
 split at h
 ·rename_i c ho
  split at h
  ·rename_i x m hcal
   split at h
   ·rename_i y l hy hl
    simp only [Option.some.injEq] at h
    subst h
    obtain ⟨z,hz,hT⟩:=sel_bind hT
    split at hT
    ·rename_i f hf
     split at hT
     ·rename_i hcl
      have hr:CV.Rel F w bs y (a.eval x):=h0 _ _ hy
      obtain ⟨u,hu,hru⟩:=heldT_ok hr hz
      have hargs:=evArgs_ok h0 hl
      have hrun:∀ w',(execOp a.eval o).run P w' = .ok (.enter f (u :: c.args.toList.map a.eval).toArray) w':=by
       intro w'
       have e2:(u :: c.args.toList.map a.eval).toArray = #[u] ++ c.args.map a.eval:=by
        apply Array.ext'; simp
       have e3:∀ l:Array Value,(#[Value.iface z.1 u] ++ l).extract 1 (#[Value.iface z.1 u] ++ l).size = l:=by
        intro l; apply Array.ext'; simp
       unfold execOp
       rw [ho]
       simp only [resolve,hcal,hu,Sem.run_bind,Sem.run_pure,Result.andThen_ok,invoke]
       have e4:(#[Value.iface z.1 u] ++ c.args.map a.eval)[0]? = some (.iface z.1 u):=by rw [Array.getElem?_append_left (by simp)]; rfl
       simp only [e4,e3]
       rw [e2]
       exact methodF_ok hf hcl u _ w'
      split at hT
      ·unfold Oper.wp
       rw [hrun]
       refine (hcallP.ok f _ _ _ _ hT F w bs _ hm (.cons hru hargs)).mono fun e w' ⟨F',bs',hext,hm',hr⟩ => ?_
       cases r with
       | ret av =>
         obtain ⟨v,rfl,hv⟩:=hr
         exact hK F' w' bs' v av rfl hext hm' hv
       | pan x =>
         obtain ⟨v,rfl,hv⟩:=hr
         exact hP F' w' bs' v x rfl hext hm' hv
      ·obtain ⟨⟨rv,m1⟩,h1,h2⟩:=sel_bind hT
       simp only [Tree.sel,Option.some.injEq,Prod.mk.injEq] at h2
       obtain ⟨rfl,rfl⟩:=h2
       exact callF_ok hpc hcall hm hcl (.cons hru hargs) hrun h1 fun F' w' bs' v hext hm hr => hK F' w' bs' v rv rfl hext hm hr
     ·simp [Tree.sel] at hT
    ·simp [Tree.sel] at hT
   ·simp at h
  ·simp at h
 ·rename_i t x ho
  split at h
  ·rename_i t' ht'
   simp only [Option.some.injEq] at h
   subst h
   obtain ⟨⟨rv,m1⟩,h1,h2⟩:=sel_bind hT
   simp only [Tree.sel,Option.some.injEq,Prod.mk.injEq] at h2
   obtain ⟨rfl,rfl⟩:=h2
   exact ifOp_at hpc hcall hm h0 (by rw [ho]; exact ht') h1 fun F' w' bs' v hext hm hr => hK F' w' bs' v rv rfl hext hm hr
  ·simp at h
 ·simp at h
theorem evOpI_at {H : Hd} (hpc : SumOk P H) {X : HdP} (hrx : RxOk P X.rx) {call : CallH} (hcall : CallOk P call) {callP : CallP} (hcallP : CallPOk P X callP) {mem : Mem} {F : Nat → Prop} {w : World} {bs : List BI} {a : Act} (hm : MemRel P F w bs mem) {ρ : List (Nat × Bool) → Operand → Option AV}
  (hρ:∀ K x av,KH a K → ρ K x = some av → av.Rel F w bs (a.eval x)) {o:Oper} {r:Out} {mem':Mem}
  (h:(evOpI P H X call callP mem ρ o.op).sel = some (r,mem')) {K:Act → World → Prop} {Q:Exit → Act → World → Prop}
  (hK:∀ F' w' bs' v av,r = .ret av → Ext bs.length F w bs F' w' bs' → MemRel P F' w' bs' mem' → av.Rel F' w' bs' v → K (a.put o.dst v) w')
  (hP:∀ F' w' bs' v x,r = .pan x → Ext bs.length F w bs F' w' bs' → MemRel P F' w' bs' mem' → x.Rel F' w' bs' v → Q (.panic [{ v,recovered:=false }]) a w'):o.wp P a w K Q:=by
 unfold evOpI at h
 split at h
 ·rename_i t ht
  exact ifOpP_at hpc hcall hcallP hm (fun x av hh => hρ [] x av KH_nil hh) ht h hK hP
 ·exact evOpQ_at hpc hrx hcall hcallP hm hρ h hK hP
theorem evOpP_ok {H : Hd} (hpc : SumOk P H) {X : HdP} (hrx : RxOk P X.rx) {call : CallH} (hcall : CallOk P call) {callP : CallP} (hcallP : CallPOk P X callP) {s : StP} {F : Nat → Prop} {w : World} {bs : List BI} {a : Act} (hs : StRel P a.defers F w bs s.s a) (hd : DsRel F w bs s.dl a.defers) {o : Oper} {r : Out} {mem' : Mem} {dl' : List CV}
  (h:(evOpP P H X call callP s o.op).sel = some (r,mem',dl')) {K:Act → World → Prop} {Q:Exit → Act → World → Prop}
  (hK:∀ F' w' bs' v av D',r = .ret av → Ext bs.length F w bs F' w' bs' → MemRel P F' w' bs' mem' → av.Rel F' w' bs' v → DsRel F' w' bs' dl' D' → K ({ a with defers:=D' }.put o.dst v) w')
  (hP:∀ F' w' bs' v x,r = .pan x → Ext bs.length F w bs F' w' bs' → MemRel P F' w' bs' mem' → x.Rel F' w' bs' v → DsRel F' w' bs' dl' a.defers → Q (.panic [{ v,recovered:=false }]) a w'):o.wp P a w K Q:=by
 have h0:∀ x av,opnd s.s [] x = some av → av.Rel F w bs (a.eval x):=fun x av hh => opnd_ok hs KH_nil hh
 have plain:((evOpI P H X call callP s.s.mem (fun K => opnd s.s K) o.op).bind fun y => (.leaf (y.1,y.2,s.dl):Tree (Out × Mem × List CV))).sel = some (r,mem',dl') → o.wp P a w K Q:=fun h => by
  obtain ⟨⟨rv,m⟩,h1,h2⟩:=sel_bind h
  simp only [Tree.sel,Option.some.injEq,Prod.mk.injEq] at h2
  obtain ⟨rfl,rfl,rfl⟩:=h2
  exact evOpI_at hpc hrx hcall hcallP hs.mem (fun K x av hk hh => opnd_ok hs hk hh) h1 (fun F' w' bs' v av e hext hm hr => hK F' w' bs' v av a.defers e hext hm hr (hd.grow hext.grow)) fun F' w' bs' v x e hext hm hr => hP F' w' bs' v x e hext hm hr (hd.grow hext.grow)
 unfold evOpP at h
 split at h
 ·rename_i x ho
  split at h
  ·rename_i y hy
   split at h
   ·rename_i hc
    simp only [Tree.sel,Option.some.injEq,Prod.mk.injEq] at h
    obtain ⟨rfl,rfl,rfl⟩:=h
    have hr:=h0 _ _ hy
    have hr:y.Rel F w bs (a.eval x):=hr
    generalize hz:a.eval x = z at hr
    rw [Bool.and_eq_true] at hc
    have go:∀ t v,a.eval x = .iface t v → CV.Rel F w bs y (.iface t v) → o.wp P a w K Q:=by
     intro t v hz hr
     unfold Oper.wp
     have hrun:(execOp a.eval o).run P w = .halt (.panic (.iface t v)) w:=by
      unfold execOp
      rw [ho]
      simp [hz,Instr.panic,goPanic]
     rw [hrun]
     exact hP F w bs _ _ rfl Ext.refl hs.mem hr hd
    cases hr <;> first | (simp [isIface] at hc; done) | skip
    ·rename_i t y v hv
     exact go t v hz (.iface hv)
    ·rename_i t l vs hl hv
     exact go t _ hz (.ifa hl hv)
   ·simp [Tree.sel] at h
  ·simp [Tree.sel] at h
 ·rename_i c ho
  split at h
  ·rename_i x hcal harg
   split at h
   ·rename_i g cap hx
    simp only [Tree.sel,Option.some.injEq,Prod.mk.injEq] at h
    obtain ⟨rfl,rfl,rfl⟩:=h
    have hr:=h0 _ _ hx
    generalize hz:a.eval x = z at hr
    cases hr with
    | fn l1 l2 r1 r2 =>
      rename_i vf vc
      have hvf:vf = []:=List.length_eq_zero_iff.1 l1.symm
      subst hvf
      have hrun:(execOp a.eval o).run P w = .ok (.defer { target:=.fn (.func g) vc.toArray,args:=#[] }) w:=by
       have ha:c.args = #[]:=by rw [← Array.toArray_toList (xs:=c.args),harg]
       unfold execOp
       rw [ho]
       simp [resolve,hcal,hz,Deferred.ofValue,ha]
      unfold Oper.wp
      rw [hrun]
      refine hK F w bs undef .any ({ target:=.fn (.func g) vc.toArray,args:=#[] } :: a.defers) rfl Ext.refl hs.mem trivial (.cons ⟨g,cap,vc,rfl,rfl,All2.of_nth l2 r2⟩ hd)
   ·simp [Tree.sel] at h
  ·simp [Tree.sel] at h
 ·exact plain h
end Go.Sx
namespace Go.Sx
open Go Go.RowKit
variable {P:Program}
structure PRel (P:Program) (F:Nat → Prop) (w:World) (bs:List BI) (s:StP) (a:Act):Prop where
 st:StRel P a.defers F w bs s.s a
 ds:DsRel F w bs s.dl a.defers
def XRel (F:Nat → Prop) (w:World) (bs:List BI):XP → Exit → Prop
 | .normal,e => e = .normal
 | .exit k,e => e = .exit k
 | .ret,e => e = .ret
 | .goto l,e => e = .goto l
 | .pan x,e => ∃ v,e = .panic [{ v,recovered:=false }] ∧ x.Rel F w bs v
theorem StRel.setD {D D' F w bs s} {a:Act} (h:StRel P D F w bs s a):StRel P D' F w bs s { a with defers:=D' }:=⟨rfl,h.len,h.slots,h.mem⟩
theorem StRel.toP {D F w bs} {s:St} {dl:List CV} {a:Act} (h:StRel P D F w bs s a) (hd:DsRel F w bs dl D):PRel P F w bs ⟨s,dl⟩ a:=by
 have e:=h.defers
 subst e
 exact ⟨h,hd⟩
theorem evOpsP_ok {H : Hd} (hpc : SumOk P H) {X : HdP} (hrx : RxOk P X.rx) {call : CallH} (hcall : CallOk P call) {callP : CallP} (hcallP : CallPOk P X callP) {ops : Array Oper} {Q : Exit → Act → World → Prop} {x : XP} {s' : StP} : ∀ (l : List Oper) (s : StP) {F : Nat → Prop} {w : World} {bs : List BI} {a : Act},
  (evOpsP P H X call callP ops.toList l s).sel = some (x,s') → PRel P F w bs s a → (∀ F' w' bs' a' e,Ext bs.length F w bs F' w' bs' → PRel P F' w' bs' s' a' → XRel F' w' bs' x e → Q e a' w') → wpList P ops Q l a w
 | [], s, F, w, bs, a, h, hs, hQ => by
   simp only [evOpsP,Tree.sel,Option.some.injEq,Prod.mk.injEq] at h
   obtain ⟨rfl,rfl⟩:=h
   exact wpList_nil (hQ F w bs a _ Ext.refl hs rfl)
 | o :: r, s, F, w, bs, a, h, hs, hQ => by
   simp only [evOpsP] at h
   split at h
   ·rename_i hg
    obtain ⟨⟨rv,mem',dl'⟩,h1,h2⟩:=sel_bind h
    refine wpList_plain hg fun K hK => evOpP_ok hpc hrx hcall hcallP hs.st hs.ds h1 (fun F' w' bs' v av D' hrv hext hm hr hd => hK _ _ ?_) (fun F' w' bs' v y hrv hext hm hr hd => ?_)
    ·subst hrv
     have hst:StRel P D' F' w' bs' { s.s with mem:=mem' } { a with defers:=D' }:=(hs.st.ext hext hm).setD
     exact evOpsP_ok hpc hrx hcall hcallP r _ h2 ((StRel.put hst (ks:=[]) (fun _ hp => by cases hp) (fun _ => hr) (fun h => (h KH_nil).elim)).toP hd) fun F'' w'' bs'' a'' e he hs'' hx => hQ _ _ _ _ _ (hext.trans he hext.le) hs'' hx
    ·subst hrv
     simp only [Tree.sel,Option.some.injEq,Prod.mk.injEq] at h2
     obtain ⟨rfl,rfl⟩:=h2
     exact hQ F' w' bs' a _ hext ⟨hs.st.ext hext hm,hd⟩ ⟨v,rfl,hr⟩
   ·rename_i j b hg
    split at h
    ·rename_i K hkeys
     split at h
     ·simp [Tree.sel] at h
     rename_i hdst
     simp only [Bool.not_eq_true] at hdst
     have hkd:∀ p ∈ K,some p.1 ≠ o.dst:=by
      intro p hp e
      rw [List.any_eq_false] at hdst
      exact hdst p hp (by simp [e])
     have hiff:=keys_ok hs.st hkeys
     split at h
     ·rename_i hq
      obtain ⟨⟨rv,mem'⟩,h1,h2⟩:=sel_bind h
      refine wpList_step fun KK hKK => ?_
      by_cases hk:KH a K
      ·have hw:Region.wanted o (yielded ops a.tmps) = true:=(wanted_iff hg _).2 (hiff.1 hk)
       rw [if_pos hw]
       have h1':=toNeed_sel h1 (gterm_ok hs.st hk)
       have hρ:∀ K' x av,KH a K' → opnd s.s (K' ++ K) x = some av → av.Rel F w bs (a.eval x):=fun K' x av hk' hh => opnd_ok hs.st (fun p hp => (List.mem_append.1 hp).elim (hk' p) (hk p)) hh
       have hme:=still_mem (ρ:=fun K' => opnd s.s (K' ++ K)) hpc hs.st.mem hρ hq h1'
       subst hme
       refine evOp_at hpc hcall hs.st.mem hρ h1' fun F' w' bs' v hext hm hr => hKK _ _ ?_
       exact evOpsP_ok hpc hrx hcall hcallP r _ h2 ((StRel.put (hs.st.ext hext hm) hkd (fun _ => hr) (fun h => (h hk).elim)).toP (hs.ds.grow hext.grow)) fun F'' w'' bs'' a'' e he hs'' hx => hQ _ _ _ _ _ (hext.trans he hext.le) hs'' hx
      ·have hw:¬ Region.wanted o (yielded ops a.tmps) = true:=fun h => hk (hiff.2 ((wanted_iff hg _).1 h))
       rw [if_neg hw]
       exact hKK _ _ (evOpsP_ok hpc hrx hcall hcallP r _ h2 ((StRel.put hs.st hkd (fun h => (hk h).elim) (fun _ => rfl)).toP hs.ds) hQ)
     ·split at h
      ·rename_i g hgd
       have hgk:=gdec_ok hs.st hgd
       simp only [Tree.sel] at h
       refine wpList_step fun KK hKK => ?_
       by_cases hk:KH a K
       ·have hw:Region.wanted o (yielded ops a.tmps) = true:=(wanted_iff hg _).2 (hiff.1 hk)
        rw [if_pos hw]
        rw [hgk.2 hk,cond_true] at h
        obtain ⟨⟨rv,mem'⟩,h1,h2⟩:=sel_bind h
        have hρ:∀ K' x av,KH a K' → opnd s.s (K' ++ K) x = some av → av.Rel F w bs (a.eval x):=fun K' x av hk' hh => opnd_ok hs.st (fun p hp => (List.mem_append.1 hp).elim (hk' p) (hk p)) hh
        refine evOp_at hpc hcall hs.st.mem hρ h1 fun F' w' bs' v hext hm hr => hKK _ _ ?_
        exact evOpsP_ok hpc hrx hcall hcallP r _ h2 ((StRel.put (hs.st.ext hext hm) (fun _ hp => by cases hp) (fun _ => hr) (fun h => (h KH_nil).elim)).toP (hs.ds.grow hext.grow)) fun F'' w'' bs'' a'' e he hs'' hx => hQ _ _ _ _ _ (hext.trans he hext.le) hs'' hx
       ·have hw:¬ Region.wanted o (yielded ops a.tmps) = true:=fun h => hk (hiff.2 ((wanted_iff hg _).1 h))
        rw [if_neg hw]
        have hg0:g = false:=by cases hgv:g; rfl; exact (hk (hgk.1 hgv)).elim
        rw [hg0,cond_false] at h
        exact hKK _ _ (evOpsP_ok hpc hrx hcall hcallP r _ h ((StRel.put hs.st hkd (fun h => (hk h).elim) (fun _ => rfl)).toP hs.ds) hQ)
      ·simp [Tree.sel] at h
    ·simp [Tree.sel] at h
end Go.Sx
