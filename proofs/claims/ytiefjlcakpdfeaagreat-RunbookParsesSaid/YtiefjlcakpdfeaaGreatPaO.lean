/-
 Part PaO of the proof: EngU EngMc EngPa EngPb EngPc.
-/
import Derived.Test.YtiefjlcakpdfeaaGreatPaN
namespace Go.Sx
open Go Go.RowKit
def yn (bad:Nat->Bool):Nat->Nat
 | 0=>0
 | n+1=>bif jY bad n then yn bad n else n
theorem OB {bad:Nat->Bool}:∀ {n:Nat},jY bad n=true->yn bad n<n∧bad (yn bad n)=true∧∀ j,j<yn bad n->bad j=false
 | 0,h=>by simp [jY] at h
 | n + 1, h => by
   unfold yn;cases hb:jY bad n
   ·simp only [jY,hb,Bool.false_or] at h;refine ⟨by simp,h,fun j hj => ?_⟩
    simp only [cond_false] at hj;rw [← Bool.not_eq_true];intro hh
    have:=QM.2 ⟨j,hj,hh⟩
    rw [hb] at this;cases this
   ·obtain ⟨h1,h2,h3⟩:=OB hb;exact ⟨by simp only [cond_true];omega,h2,h3⟩
theorem jdL {bad:Nat->Bool} {n i:Nat} (hi:i<n) (hb:bad i=true) (h:∀ j,j<i->bad j=false):jY bad n=true∧yn bad n=i:=by
 have ha:jY bad n=true:=QM.2 ⟨i,hi,hb⟩;obtain ⟨h1,h2,h3⟩:=OB ha;refine ⟨ha,?_⟩;rcases Nat.lt_trichotomy (yn bad n) i with hlt | heq | hgt
 ·rw [h _ hlt] at h2;cases h2
 ·exact heq
 ·rw [h3 _ hgt] at hb;cases hb
structure Sq {X:Type} (TX:X->Tree (XE × X)) (μ:X->Nat) (st sb:Nat->X) (n:Nat) (bad:Nat->Bool) (e1 e0:XE):Prop where
 out:e0 ≠ .normal
 hit:e1 ≠ .normal
 meas:∀ i,i<=n->μ (st i)=n - i
 round:∀ i,i<n->(TX (st i)).All fun y=>if bad i then y=(e1,sb i) else y=(.normal,st (i+1))
 stop:(TX (st n)).All fun y=>y=(e0,st n)
variable {X:Type} {TX:X->Tree (XE × X)} {μ:X->Nat} {st sb:Nat->X} {n:Nat} {bad:Nat->Bool} {e1 e0:XE}
theorem Sq.rounds (h:Sq TX μ st sb n bad e1 e0) {inv:X->Prop} (hinv:∀ x,inv x↔∃ i,i<=n∧x=st i):Wn TX inv μ (fun y=>(∃ i,i<n∧bad i=true∧y=(e1,sb i))∨y=(e0,st n)):=by
 intro x hx;obtain ⟨i,hi,rfl⟩:=(hinv x).1 hx;rcases Nat.lt_or_eq_of_le hi with hlt | rfl
 ·refine All.imp (fun y hy => ?_) (h.round i hlt);obtain ⟨e,z⟩:=y;cases hb:bad i
  ·rw [hb] at hy;simp only [Bool.false_eq_true,if_false,pIq] at hy;obtain ⟨rfl,rfl⟩:=hy;simp only;rw [h.meas i hi,h.meas (i+1) (by omega)]
   exact ⟨(hinv _).2 ⟨i+1,by omega,rfl⟩,by omega⟩
  ·rw [hb] at hy;simp only [if_true,pIq] at hy;obtain ⟨rfl,rfl⟩:=hy;cases hn:e with
   | normal=>exact (h.hit hn).elim
   | exit k=>subst hn;exact .inl ⟨i,hlt,hb,rfl⟩
   | ret=>subst hn;exact .inl ⟨i,hlt,hb,rfl⟩
 ·refine All.imp (fun y hy => ?_) h.stop;obtain ⟨e,z⟩:=y;simp only [pIq] at hy;obtain ⟨rfl,rfl⟩:=hy;cases hn:e with
  | normal=>exact (h.out hn).elim
  | exit k=>subst hn;exact .inr rfl
  | ret=>subst hn;exact .inr rfl
theorem Sq.fin_from (h:Sq TX μ st sb n bad e1 e0):∀ (d i:Nat),i+d=n->(∀ j,j<i->bad j=false)->fin TX μ (st i)=bif jY bad n then (e1,sb (yn bad n)) else (e0,st n):=by
 have hr:=h.rounds (inv:=fun x=>∃ i,i<=n∧x=st i) (fun _=>Iff.rfl);intro d
 induction d with
 | zero =>
   intro i hi hb;have hi:i=n:=by omega
   subst hi;obtain ⟨y,hs,hy⟩:=yf (Gw hr (x:=st i) ⟨i,lRq _,rfl⟩);obtain ⟨y',hs',hy'⟩:=yf h.stop;rw [hs] at hs';simp at hs';subst hs';rw [Uf hb];rcases hy with ⟨hn,_⟩ | ⟨_,hf⟩
   ·rw [hy'] at hn;exact (h.out hn).elim
   ·rw [hf,hy'];rfl
 | succ d ih =>
   intro i hi hb;obtain ⟨y,hs,hy⟩:=yf (Gw hr (x:=st i) ⟨i,by omega,rfl⟩)
   obtain ⟨y',hs',hy'⟩:=yf (h.round i (by omega))
   rw [hs] at hs';simp at hs';subst hs';cases hbi:bad i
   ·rw [hbi] at hy';simp only [Bool.false_eq_true,if_false] at hy';rcases hy with ⟨_,_,_,hf⟩ | ⟨hn,_⟩
    ·rw [← hf,hy'];refine ih (i+1) (by omega) fun j hj => ?_
     rcases Nat.lt_or_eq_of_le (Nat.le_of_lt_succ hj) with h1 | rfl
     ·exact hb j h1
     ·exact hbi
    ·rw [hy'] at hn;exact (hn rfl).elim
   ·rw [hbi] at hy';simp only [if_true] at hy';obtain ⟨ha,hf1⟩:=jdL (show i<n by omega) hbi hb
    rw [ha,hf1];rcases hy with ⟨hn,_⟩ | ⟨_,hf⟩
    ·rw [hy'] at hn;exact (h.hit hn).elim
    ·rw [hf,hy'];rfl
theorem Sq.fin0 (h:Sq TX μ st sb n bad e1 e0):fin TX μ (st 0)=bif jY bad n then (e1,sb (yn bad n)) else (e0,st n):=h.fin_from n 0 (by omega) fun j hj=>by omega
theorem ja4 {b1 b2:Nat->Bool} {n:Nat} (h:∀ i,i<n->(∀ j,j<i->b1 j=false)->b1 i=b2 i):jY b1 n=jY b2 n:=by
 induction n with
 | zero=>rfl
 | succ n ih =>
   have ih:=ih fun i hi=>h i (by omega)
   simp only [jY];cases hb:jY b1 n
   ·rw [hb] at ih;rw [← ih];simp only [Bool.false_or];refine h n (by omega) fun j hj => ?_
    rw [← Bool.not_eq_true];intro hh
    have:=QM.2 ⟨j,hj,hh⟩
    rw [hb] at this;cases this
   ·rw [hb] at ih;rw [← ih]
    simp
end Go.Sx
namespace Go.Sx
open Go Go.RowKit
variable {P:Program}
variable {D:List Deferred}
theorem F7 {P : Program} {H : Hd} (hH : HdOk P H) (n f : Nat) {G : List A1 -> Mem -> Tree (AV × Mem)}
  (h:∀ args mem r mem',(G args mem).sel=some (r,mem')->(jU P H n f args mem).All (fun y=>WkR P mem.length y (r,mem'))) (hf:f<1000000000:=by decide):qH P f G:=by
 intro args mem r mem' hG F w bs vs hm hargs;obtain ⟨y,hsel,hw⟩:=yf (h args mem r mem' hG);refine ((zu hH n).fn f args mem y.1 y.2 hf hsel F w bs vs hm hargs).mono fun e w2 ⟨u,F',bs',he,hext,hm',hu⟩ => ?_;obtain ⟨F2,bs2,e2,m2,r2⟩:=hw F' w2 bs' u (by have:=hext.le;have:=hm.len;omega) hm' hu
 rw [← hm.len] at e2;exact ⟨u,F2,bs2,he,hext.trans e2 (lRq _),m2,r2⟩
theorem YK {P : Program} {H : Hd} (hH : HdOk P H) (n f : Nat) {G : List A1 -> Mem -> Tree (AV × Mem)}
  (h:∀ args mem r mem',(G args mem).sel=some (r,mem')->∃ u,jU P H n f args mem=u∧u.All (fun y=>y=(r,mem'))) (hf:f<1000000000:=by decide):qH P f G :=
 F7 hH n f (fun args mem r mem' hG=>by
  obtain ⟨u,hu,ha⟩:=h args mem r mem' hG;rw [hu];exact All.imp (fun _ h=>h▸WkR.refl) ha) hf
theorem Lz {es:List Sh} {n:Nat} {ρ σ:Val} (h:∀ i f s,i<n->nth es f=some s->cellOf s ((ρ.at i).at f)=cellOf s ((σ.at i).at f)):leC (.sl es n ρ) (.sl es n σ):=fun F w v hv=>by
 cases hv with
 | slnil=>exact .slnil
 | sl val hn h0 hc hr=>exact .sl val hn h0 hc fun i f s hi hf=>h i f s hi hf▸hr i f s hi hf
end Go.Sx
namespace Go.Sx
open Go Go.RowKit
inductive Out where
 | ret (a:AV)
 | pan (x:CV)
inductive XP where
 | normal
 | exit (id:Nat)
 | ret
 | pan (x:CV)
 | goto (l:Nat)
structure StP where
 s:St
 dl:List CV
abbrev q9:=Nat->List A1->Mem->Tree (Out × Mem)
def pF (f:Nat):Nat × (List A1->Tree AV):=(12884901888+f,fun _=>.fail)
def Lm (H:Hd) (f:Nat):Bool:=(qP H.pc (12884901888+f)).isSome
def Gt (P:Program) (ρ:Operand->Option AV):Op->Option AV
 | .makeInterface t x=>match P.underlying t with
  | some (.interface _)=>none
  | some _=>match ρ x with
   | some (.one (.c y))=>if closedC y then some (.one (.c (.iface t y))) else none
   | some (.one (.agg l))=>if l.all closedC then some (.one (.c (.ifa t l))) else none
   | _=>none
  | none=>none
 | .typeAssert x _ a true=>match P.underlying a with
  | some (.interface _)=>none
  | some _=>match ρ x with
   | some (.one (.c (.iface t y)))=>if t==a then some (.tup [.c y,.c (.bool true)]) else none
   | some (.one (.c (.ifa t l)))=>if t==a then some (.tup [.agg l,.c (.bool true)]) else none
   | _=>none
  | none=>none
 | .binOp .neq t x (.const .nilIface) _=>match P.underlying t,ρ x with
  | some (.interface _),some (.one (.c .nili))=>some (.one (.c (.bool false)))
  | some (.interface _),some (.one (.c (.iface _ _)))=>some (.one (.c (.bool true)))
  | some (.interface _),some (.one (.c (.ifa _ _)))=>some (.one (.c (.bool true)))
  | _,_=>none
 | _=>none
def isIface:CV->Bool
 | .iface _ _=>true
 | .ifa _ _=>true
 | _=>false
structure HdP where
 px:List (Nat × (List A1->Mem->Tree (Out × Mem)))
 rx:List (Nat × (List A1->List A1->Tree Out))
 nc:List (Nat × (List A1->Tree (AV × Mem)))
 lx:List ((Nat × Nat) × (Nat->St->Tree (XP × St)))
 sx:List (Nat × (Nat->St->Tree (XP × St)))
 rounds:Nat
 lo:List Nat:=[]
def Wu:List ((Nat × Nat) × (Nat->St->Tree (XP × St)))->Nat->Nat->Option (Nat->St->Tree (XP × St))
 | [],_,_=>none
 | (k,F)::r,f,i=>if k.1==f&&k.2==i then some F else Wu r f i
def Wj:List (Nat × (Nat->St->Tree (XP × St)))->Nat->Option (Nat->St->Tree (XP × St))
 | [],_=>none
 | (k,F)::r,f=>if k==f then some F else Wj r f
def jv:Code->List Code
 | .seq a b=>jv a++jv b
 | .cond _ a b=>jv a++jv b
 | .block _ b=>jv b
 | .loop b=>jv b
 | .scope b=>b::jv b
 | .rangeFunc _ _ a b=>jv a++jv b
 | _=>[]
def Wb (g:StP->Tree (XP × StP)):Nat->StP->Tree (XP × StP)
 | 0,_=>.fail
 | n+1,s=>(g s).bind fun x=>match x.1 with
  | .normal=>Wb g n x.2
  | e=>.leaf (e,x.2)
def Wv:List (Nat × (List A1->Tree (AV × Mem)))->Nat->Option (List A1->Tree (AV × Mem))
 | [],_=>none
 | (k,F)::r,f=>if k==f then some F else Wv r f
def Yt:List (Nat × (List A1->Mem->Tree (Out × Mem)))->Nat->Option (List A1->Mem->Tree (Out × Mem))
 | [],_=>none
 | (k,F)::r,f=>if k==f then some F else Yt r f
def XY:List (Nat × (List A1->List A1->Tree Out))->Nat->Option (List A1->List A1->Tree Out)
 | [],_=>none
 | (k,F)::r,f=>if k==f then some F else XY r f
def QI (P:Program) (H:Hd) (X:HdP) (call:jw) (callP:q9) (mem:Mem) (ρ:List (Nat × Bool)->Operand->Option AV) (op:Op):Tree (Out × Mem) :=
 let plain:=(qM P H call mem ρ op).bind fun y=>.leaf (.ret y.1,y.2)
 match Gt P (ρ []) op with
 | some v=>.leaf (.ret v,mem)
 | none=>match op with
  | .call c=>match c.callee with
   | .value _=>match yV (ρ []) c with
    | some (f,args)=>if qD P f then (match XY X.rx f with
     | some F=>if (args.map (zi mem)).all jH&&args.all (fun a=>a.cells.all BY) then (F args (args.map (zi mem))).bind fun r=>.leaf (r,mem) else .fail
     | none=>if Lm H f then callP f args mem else plain) else .fail
    | none=>.fail
   | _=>plain
  | _=>plain
def jbF (P:Program) (H:Hd) (call:jw) (callP:q9) (mem:Mem) (ρ:Operand->Option AV) (op:Op):Option (Tree (Out × Mem)) :=
 match op with
 | .call c=>match c.callee with
  | .invoke x m=>match ρ x,zl ρ c.args.toList with
   | some (.one (.c y)),some l=>some ((Re y).bind fun z=>match UQ P z.1 m with
    | some f=>if qD P f then (if Lm H f then callP f (z.2::l) mem else (U4 H call mem f (z.2::l)).bind fun y=>.leaf (.ret y.1,y.2)) else .fail
    | none=>.fail)
   | _,_=>none
  | _=>none
 | .makeInterface t x=>match jcb P H call mem ρ (.makeInterface t x) with
  | some t=>some (t.bind fun y=>.leaf (.ret y.1,y.2))
  | none=>none
 | _=>none
def O7 (P:Program) (H:Hd) (X:HdP) (call:jw) (callP:q9) (mem:Mem) (ρ:List (Nat × Bool)->Operand->Option AV) (op:Op):Tree (Out × Mem) :=
 match jbF P H call callP mem (ρ []) op with
 | some t=>t
 | none=>QI P H X call callP mem ρ op
def jax (P:Program) (H:Hd) (X:HdP) (call:jw) (callP:q9) (s:StP) (op:Op):Tree (Out × Mem × List CV) :=
 let plain:=(O7 P H X call callP s.s.mem (fun K=>zH s.s K) op).bind fun y=>.leaf (y.1,y.2,s.dl)
 match op with
  | .panic x=>match zH s.s [] x with
   | some (.one (.c y))=>if isIface y&&closedC y then .leaf (.pan y,s.s.mem,s.dl) else .fail
   | _=>.fail
  | .defer c=>match c.callee,c.args.toList with
   | .value x,[]=>match zH s.s [] x with
    | some (.one (.c (.fn (.func g) [] cap)))=>.leaf (.ret .any,s.s.mem,.fn (.func g) [] cap::s.dl)
    | _=>.fail
   | _,_=>.fail
  | _=>plain
def Zv (P:Program) (H:Hd) (X:HdP) (call:jw) (callP:q9) (all:List Oper):List Oper->StP->Tree (XP × StP)
 | [],s=>.leaf (.normal,s)
 | o::r,s=>match o.guard with
  | none=>(jax P H X call callP s o.op).bind fun x=>match x.1 with
   | .ret v=>Zv P H X call callP all r ⟨{ s.s with mem:=x.2.1 }.put o.dst [] v,x.2.2⟩
   | .pan y=>.leaf (.pan y,⟨{ s.s with mem:=x.2.1 },x.2.2⟩)
  | some (j,b)=>match keysOf all s.s j b with
   | some K =>
     if K.any (fun p=>some p.1==o.dst) then .fail else
     if Qd H (zH s.s K) o.op then
      ((qM P H call s.s.mem (fun K'=>zH s.s (K'++K)) o.op).toNeed dGu (yH s.s K)).bind fun x=>Zv P H X call callP all r ⟨s.s.put o.dst K x.1,s.dl⟩
     else match ak s.s K with
      | some g=>.br g ((qM P H call s.s.mem (fun K'=>zH s.s (K'++K)) o.op).bind fun x=>Zv P H X call callP all r ⟨{ s.s with mem:=x.2 }.put o.dst [] x.1,s.dl⟩) (Zv P H X call callP all r ⟨s.s.put o.dst K dGu.1,s.dl⟩)
      | none=>.fail
   | none=>.fail
def XE.toP:XE->XP
 | .normal=>.normal
 | .exit k=>.exit k
 | .ret=>.ret
def Mh:List A1->Touch
 | .c (.ptr b 0)::_=>some [(b+1,true)]
 | _=>none
def Jm (P:Program) (H:Hd) (X:HdP) (ρ:Operand->Option AV) (len:Nat) (op:Op):Touch :=
 match Gt P ρ op with
 | some _=>some []
 | none=>match op with
  | .call c=>match c.callee with
   | .value _=>match yV ρ c with
    | some (f,args)=>if (XY X.rx f).isSome then some (Y4 args) else if Lm H f then (if JU f X.lo then Mh args else none) else qe H ρ len op
    | none=>none
   | _=>qe H ρ len op
  | _=>qe H ρ len op
def Va (K0:Nat):Touch->Touch
 | none=>none
 | some t=>some (t++(upto K0).map fun b=>(b+1,false))
def RA (masks:List Nat) (pn:Option (Nat × CV × Mem)) (n:Nat):Bool :=
 match pn with
 | some (j,_,_)=>zq masks j n
 | none=>false
def kW (P:Program) (H:Hd) (X:HdP) (call:jw) (callP:q9) (all:List Oper) (masks:List Nat) (K0:Nat):Nat->List Oper->St->Option (Nat × CV × Mem)->Tree (St × List kE × Option (Nat × CV × Mem))
 | _,[],s,pn=>.leaf (s,[],pn)
 | n, o :: r, s, pn =>
   if RA masks pn n then (kW P H X call callP all masks K0 (n+1) r (s.put0 o.dst [] .any) pn).bind fun y=>.leaf (y.1,(some [],[])::y.2.1,y.2.2)
   else match o.guard with
  | none=>(QI P H X call callP s.mem (fun K=>lim o s K) o.op).bind fun x=>match x.1 with
   | .ret v=>(kW P H X call callP all masks K0 (n+1) r ({ s with mem:=x.2 }.put0 o.dst [] v) pn).bind fun y=>.leaf (y.1,(Jm P H X (lim o s []) s.mem.length o.op,[])::y.2.1,y.2.2)
   | .pan z=>if pn.isSome then .fail else (kW P H X call callP all masks K0 (n+1) r (s.put0 o.dst [] .any) (some (n,z,x.2))).bind fun y=>.leaf (y.1,(Va K0 (Jm P H X (lim o s []) s.mem.length o.op),[])::y.2.1,y.2.2)
  | some (j,b)=>match keysOf all s j b with
   | some K =>
     if !Qd H (lim o s K) o.op||K.any (fun p=>some p.1==o.dst) then .fail else
     ((qM P H call s.mem (fun K'=>lim o s (K'++K)) o.op).toNeed dGu (yH s K)).bind fun x=>(kW P H X call callP all masks K0 (n+1) r (s.put0 o.dst K x.1) pn).bind fun y=>.leaf (y.1,(qe H (lim o s K) s.mem.length o.op,K)::y.2.1,y.2.2)
   | none=>.fail
def St.forget (s:St):List Oper->St
 | []=>s
 | o::r=>(s.put0 o.dst [] .any).forget r
def Bh (K:Nat):A1->Bool
 | .c x=>kr K x
 | .agg l=>l.all (kr K)
def Bb (K:Nat):AV->Bool
 | .any=>true
 | .one a=>Bh K a
 | .tup l=>l.all (Bh K)
def Rz (P:Program) (o:Oper):Option (TypeId × List CV) :=
 match o.guard,o.dst,o.op with
 | none,some _,.alloc e=>(match jV P e with | some z=>some (e,z) | none=>none)
 | _,_,_=>none
def z8 (ok:Nat->Bool):CV->Bool
 | .ptr b _=>ok b
 | .os b _=>ok b
 | .rowp b _ _ _=>ok b
 | .row _ _ _ _=>true
 | .yld b=>ok b
 | .lp _ _ _=>true
 | x=>closedC x
def kN (ok:Nat->Bool):Option (TypeId × List CV)->Bool
 | none=>true
 | some (_,cs)=>cs.all (z8 ok)
def Qa (ok:Nat->Bool):A1->Bool
 | .c x=>z8 ok x
 | .agg l=>l.all (z8 ok)
def yO (ok:Nat->Bool):AV->Bool
 | .any=>true
 | .one a=>Qa ok a
 | .tup l=>l.all (Qa ok)
def JZ (masks:List Nat) (K0 i b:Nat):Bool:=Nat.blt b K0||zq masks (b - K0) i||b==K0+i
def ax (ok:Nat->Bool) (mem:Mem):Touch->Bool
 | none=>mem.all (kN ok)
 | some t=>t.all fun p=>match p with
  | (b+1,true)=>(match nth mem b with | some e=>kN ok e | none=>true)
  | _=>true
def jbz (P:Program) (X:HdP) (ρ:Operand->Option AV) (o:Oper):Option (Tree (AV × Mem)) :=
 match o.guard,o.dst,o.op with
 | none,some _,.call c=>match c.callee with
  | .value _=>match yV ρ c with
   | some (f,args)=>match Wv X.nc f with
    | some G=>if qD P f&&args.all jH then some (G args) else none
    | none=>none
   | none=>none
  | _=>none
 | _,_,_=>none
def Jn (P:Program) (H:Hd) (X:HdP) (call:jw) (all:List Oper) (masks:List Nat) (K0:Nat):Nat->List Oper->St->Tree (St × List kE)
 | _,[],s=>.leaf (s,[])
 | n,o::r,s=>match Rz P o with
  | some (e,z)=>(match nth s.mem (K0+n) with
   | some none => if z.all closedC then
     (Jn P H X call all masks K0 (n+1) r ({ s with mem:=jl s.mem (K0+n) (some (e,z)) }.put0 o.dst [] (.one (.c (.ptr (K0+n) 0))))).bind fun y=>.leaf (y.1,(some [(K0+n+1,true)],[])::y.2) else .fail
   | _=>.fail)
  | none=>match jbz P X (lim o s []) o with
   | some g=>(match nth s.mem (K0+n) with
    | some none=>g.bind fun z=>match z with
     | (.one (.c (.os 0 sz)), [some (T, [.row false es m ρ])]) =>
       (Jn P H X call all masks K0 (n+1) r ({ s with mem:=jl s.mem (K0+n) (some (T,[.row false es m ρ])) }.put0 o.dst [] (.one (.c (.os (K0+n) sz))))).bind fun y=>.leaf (y.1,(some [(K0+n+1,true)],[])::y.2)
     | _=>.fail
    | _=>.fail)
   | none=>match o.guard with
    | none =>
      (qM P H call s.mem (fun K=>lim o s K) o.op).bind fun x=>if yO (JZ masks K0 n) x.1&&ax (JZ masks K0 n) x.2 (qe H (lim o s []) s.mem.length o.op) then
       (Jn P H X call all masks K0 (n+1) r ({ s with mem:=x.2 }.put0 o.dst [] x.1)).bind fun y=>.leaf (y.1,(qe H (lim o s []) s.mem.length o.op,[])::y.2) else .fail
    | some (j,b)=>match keysOf all s j b with
     | some K =>
       if !Qd H (lim o s K) o.op||K.any (fun p=>some p.1==o.dst) then .fail else
       ((qM P H call s.mem (fun K'=>lim o s (K'++K)) o.op).toNeed dGu (yH s K)).bind fun x=>if yO (JZ masks K0 n) x.1 then (Jn P H X call all masks K0 (n+1) r (s.put0 o.dst K x.1)).bind fun y=>.leaf (y.1,(qe H (lim o s K) s.mem.length o.op,K)::y.2) else .fail
     | none=>.fail
def Tw (P:Program) (H:Hd) (X:HdP) (call:jw) (ops:List Oper) (s:StP):Tree (XP × StP) :=
 if P.follows .mixedOrders&&s.s.mem.all (YD s.s.mem.length)&&s.s.tmps.all (fun sl=>Bb s.s.mem.length (unkey sl).v) then
  (Jn P H X call ops (qE ops []) s.s.mem.length 0 ops { tmps:=s.s.tmps.map unkey,mem:=s.s.mem++ops.map fun _=>none }).bind fun y =>
   if QB ops y.2 then .leaf (.normal,⟨{ y.1 with tmps:=y.1.tmps.map unkey },s.dl⟩) else .fail
 else .fail
def Kc (X:HdP):Nat->List Oper->List Nat
 | _,[]=>[]
 | n,o::r=>match o.op with
  | .alloc _=>n::Kc X (n+1) r
  | .call c=>(match c.callee with
   | .value (.func f)=>if (Wv X.nc f).isSome then n::Kc X (n+1) r else Kc X (n+1) r
   | _=>Kc X (n+1) r)
  | _=>Kc X (n+1) r
def Ig (masks:List Nat):List Nat->Bool
 | i::j::r=>!zq masks i j||Ig masks (j::r)
 | _=>false
def jbS (X:HdP) (ops:List Oper):Bool:=match Kc X 0 ops with
 | i::j::r=>Ig (qE ops []) (i::j::r)
 | _=>false
def Io (P:Program) (H:Hd) (X:HdP) (call:jw) (callP:q9) (ops:List Oper) (s:StP):Tree (XP × StP) :=
 if P.follows .mixedOrders then
  (kW P H X call callP ops (qE ops []) s.s.mem.length 0 ops { s.s with tmps:=s.s.tmps.map unkey } none).bind fun y =>
   if QB ops y.2.1 then (match y.2.2 with
    | none=>.leaf (.normal,⟨{ y.1 with tmps:=y.1.tmps.map unkey },s.dl⟩)
    | some (_,z,m)=>match takeN m s.s.mem.length with
     | some m0=>if m0.all (YD s.s.mem.length)&&closedC z then .leaf (.pan z,⟨({ tmps:=s.s.tmps.map unkey,mem:=m0 }:St).forget ops,s.dl⟩) else .fail
     | none=>.fail) else .fail
 else .fail
def j5 (P:Program) (H:Hd) (X:HdP) (call:jw) (callP:q9) (f K:Nat):Nat->Code->StP->Tree (XP × StP)
 | _,.skip,s=>.leaf (.normal,s)
 | _, .region _ ops draw, s => if draw then (if jbS X ops.toList then Tw P H X call ops.toList s else Io P H X call callP ops.toList s)
   else (Zv P H X call callP ops.toList ops.toList s).bind fun x=>.leaf (x.1,⟨{ x.2.s with tmps:=x.2.s.tmps.map unkey },x.2.dl⟩)
 | n,.seq a b,s=>(j5 P H X call callP f K n a s).bind fun x=>match x.1 with
  | .normal=>j5 P H X call callP f K (n+ji a) b x.2
  | e=>.leaf (e,x.2)
 | n,.cond c a b,s=>match zH s.s [] c with
  | some (.one (.c (.bool t)))=>.br t (j5 P H X call callP f K n a s) (j5 P H X call callP f K (n+ji a) b s)
  | _=>.fail
 | n,.block id b,s=>(j5 P H X call callP f K n b s).bind fun x=>match x.1 with
  | .exit k=>.leaf (if k=id then .normal else .exit k,x.2)
  | e=>.leaf (e,x.2)
 | n,.loop b,s=>match Wu X.lx f n with
  | some h=>if s.dl.isEmpty then (h K s.s).bind fun x=>.leaf (x.1,⟨x.2,[]⟩) else .fail
  | none=>match kY H.lh f n with
   | some h=>if s.dl.isEmpty then (h K s.s).bind fun x=>.leaf (x.1.toP,⟨x.2,[]⟩) else .fail
   | none=>Wb (fun s'=>j5 P H X call callP f K (n+1) b s') X.rounds s
 | n,.scope b,s=>match Wj X.sx f with
  | some h=>if s.dl.isEmpty then (h K s.s).bind fun x=>.leaf (x.1,⟨x.2,[]⟩) else .fail
  | none=>(j5 P H X call callP f K n b s).bind fun x=>match x.1 with
   | .goto _=>.fail
   | e=>.leaf (e,x.2)
 | _,.label _,s=>.leaf (.normal,s)
 | _,.goto l,s=>.leaf (.goto l,s)
 | _,.exit id,s=>.leaf (.exit id,s)
 | _,.ret,s=>.leaf (.ret,s)
 | _,_,_=>.fail
def Ms:Code->Option (Oper × List Oper × Code)
 | .seq (.region _ ops false) x=>match ops.toList with
  | o::r=>match o.guard,o.op with
   | none,.call c=>match c.callee with
    | .builtin .recover=>some (o,r,x)
    | _=>none
   | _,_=>none
  | []=>none
 | _=>none
def jeE:Option CV->CV
 | none=>.nili
 | some y=>y
def jb4 (P:Program) (H:Hd) (X:HdP) (call:jw) (callP:q9) (g:Nat) (cap:List CV) (pan:Option CV) (mem:Mem):Tree (Option CV × Mem) :=
 match nth P.funcs.toList g with
 | some fn=>match fn.body with
  | some c=>match Ms c with
   | some (o, r, x) => if Nat.ble cap.length fn.ntmps && qD P g then
     let s0:St:=⟨cap.map (fun a=>⟨[],.one (.c a)⟩)++List.replicate (fn.ntmps - cap.length) ⟨[],.any⟩,mem⟩
     (Zv P H X call callP (o::r) r ⟨s0.put o.dst [] (.one (.c (jeE pan))),[]⟩).bind fun y=>match y.1 with
      | .normal=>(j5 P H X call callP g mem.length 0 x ⟨{ y.2.s with tmps:=y.2.s.tmps.map unkey },y.2.dl⟩).bind fun z=>match z.1,z.2.dl with
       | .normal,[]=>if (zJ P z.2.s fn.results.toList).isSome then .leaf (none,z.2.s.mem) else .fail
       | .ret,[]=>if (zJ P z.2.s fn.results.toList).isSome then .leaf (none,z.2.s.mem) else .fail
       | _,_=>.fail
      | _=>.fail
     else .fail
   | none=>.fail
  | none=>.fail
 | none=>.fail
def ku (P:Program) (H:Hd) (X:HdP) (call:jw) (callP:q9) (fn:Func) (s:St):List CV->Option CV->Mem->Tree (Out × Mem)
 | [],none,mem=>match zJ P { s with mem:=mem } fn.results.toList with
  | some l=>.leaf (.ret (GY l),mem)
  | none=>.fail
 | [],some y,mem=>.leaf (.pan y,mem)
 | d::dl,u,mem=>match d with
  | .fn (.func g) [] cap=>(jb4 P H X call callP g cap u mem).bind fun y=>ku P H X call callP fn s dl y.1 y.2
  | _=>.fail
def zM (P:Program) (H:Hd) (X:HdP):Nat->q9
 | 0,_,_,_=>.fail
 | n+1,f,args,mem=>match Yt X.px f with
  | some G=>G args mem
  | none=>match nth P.funcs.toList f with
   | some fn=>match fn.body with
    | some c => if Nat.ble args.length fn.ntmps then
      (j5 P H X (jU P H n) (zM P H X n) f mem.length 0 c ⟨⟨args.map (fun a=>⟨[],.one a⟩)++List.replicate (fn.ntmps - args.length) ⟨[],.any⟩,mem⟩,[]⟩).bind fun x=>match x.1 with
       | .exit _=>.fail
       | .goto _=>.fail
       | .pan y=>ku P H X (jU P H n) (zM P H X n) fn x.2.s x.2.dl (some y) x.2.s.mem
       | _=>ku P H X (jU P H n) (zM P H X n) fn x.2.s x.2.dl none x.2.s.mem
      else .fail
    | none=>.fail
   | none=>.fail
def Out.Ends (F:Nat->Prop) (w:World) (bs:List BI):Out->Ending->Prop
 | .ret a,e=>∃ v,e=.returned v∧a.Rel F w bs v
 | .pan x,e=>∃ v,e=.panicked [{ v,recovered:=false }]∧x.Rel F w bs v
def LocFn (G:List A1->Mem->Tree (Out × Mem)):Prop :=
 ∀ b rest M r M',(G (.c (.ptr b 0)::rest) M).sel=some (r,M')->∀ mem,nth mem b=nth M b ->
  ∃ e,M'=jl M b e∧(G (.c (.ptr b 0)::rest) mem).sel=some (r,jl mem b e)
structure CallPOk (P:Program) (X:HdP) (callP:q9):Prop where
 ok:∀ f args mem r mem',(callP f args mem).sel=some (r,mem')->∀ F w bs vs,MemRel P F w bs mem->All2 (A1.Rel F w bs) args vs ->
  Calls P f vs.toArray w (fun e w'=>∃ F' bs',Ext bs.length F w bs F' w' bs'∧MemRel P F' w' bs' mem'∧r.Ends F' w' bs' e)
 loc:∀ f,JU f X.lo=true->LocFn (callP f)
def jpI (P:Program) (f:Nat) (G:List A1->List A1->Tree Out):Prop :=
 ∀ args mem r,(args.map (zi mem)).all jH=true->(G args (args.map (zi mem))).sel=some r->∀ F w bs vs,MemRel P F w bs mem->All2 (A1.Rel F w bs) args vs ->
  Calls P f vs.toArray w (fun e w'=>Below w.heap.size w w'∧r.Ends F w' bs e)
def Vb (P:Program) (rx:List (Nat × (List A1->List A1->Tree Out))):Prop:=∀ f G,XY rx f=some G->jpI P f G
def DRel (F:Nat->Prop) (w:World) (bs:List BI) (c:CV) (d:Deferred):Prop :=
 ∃ g cap vs,c=.fn (.func g) [] cap∧d={ target:=.fn (.func g) vs.toArray,args:=#[] }∧All2 (CV.Rel F w bs) cap vs
theorem All2.grow {F F' bs bs' w w'} (g:Grow F F' bs bs' w w'):∀ {l:List CV} {vs:List Value},All2 (CV.Rel F w bs) l vs->All2 (CV.Rel F' w' bs') l vs
 | _,_,.nil=>.nil
 | _,_,.cons h r=>.cons (h.grow g) (All2.grow g r)
theorem DRel.grow {F F' bs bs' w w' c d} (g:Grow F F' bs bs' w w') (h:DRel F w bs c d):DRel F' w' bs' c d :=
 let ⟨f,cap,vs,h1,h2,h3⟩:=h
 ⟨f,cap,vs,h1,h2,h3.grow g⟩
def DsRel (F:Nat->Prop) (w:World) (bs:List BI) (dl:List CV) (D:List Deferred):Prop:=All2 (DRel F w bs) dl D
theorem DsRel.grow {F F' bs bs' w w'} (g:Grow F F' bs bs' w w'):∀ {dl D},DsRel F w bs dl D->DsRel F' w' bs' dl D
 | _,_,.nil=>.nil
 | _,_,.cons h r=>.cons (h.grow g) (DsRel.grow g r)
variable {P:Program}
theorem T8 {a : Act} {t : TypeId} {x : Operand} {ms : Array (String × TypeId)} (hz : a.eval x = .nilIface) (hu : P.underlying t = some (.interface ms)) (w : World) :
  (do eqGuard .neq t x (.const .nilIface) (a.eval x) (a.eval (.const .nilIface));binOp .neq t (a.eval x) (a.eval (.const .nilIface)):Sem Value).run P w=.ok (.bool false) w:=by
 rw [hz]
 have e1:eqGuard .neq t x (.const .nilIface) .nilIface (a.eval (.const .nilIface))=(pure ():Sem Unit):=by
  show eqGuard .neq t x (.const .nilIface) .nilIface .nilIface=_;cases x<;>rfl
 have e2:binOp .neq t .nilIface (a.eval (.const .nilIface))=(do pure (.bool (!(← Op.equal t .nilIface .nilIface))):Sem Value):=rfl
 have e3:(Op.equal t .nilIface .nilIface).run P w=.ok true w:=by
  have h:∀ d,(Op.equalIn (d+1) t .nilIface .nilIface).run P w=.ok true w:=fun d=>by simp [Op.equalIn,run_underlying hu]
  exact h 9999
 rw [e1,e2];simp [e3]
theorem VG {a : Act} {t t' : TypeId} {v : Value} {x : Operand} {ms : Array (String × TypeId)} (hz : a.eval x = .iface t' v) (hu : P.underlying t = some (.interface ms)) (w : World) :
  (do eqGuard .neq t x (.const .nilIface) (a.eval x) (a.eval (.const .nilIface));binOp .neq t (a.eval x) (a.eval (.const .nilIface)):Sem Value).run P w=.ok (.bool true) w:=by
 rw [hz]
 have e1:eqGuard .neq t x (.const .nilIface) (.iface t' v) (a.eval (.const .nilIface))=(pure ():Sem Unit):=by
  show eqGuard .neq t x (.const .nilIface) (.iface t' v) .nilIface=_;rfl
 have e2:binOp .neq t (.iface t' v) (a.eval (.const .nilIface))=(do pure (.bool (!(← Op.equal t (.iface t' v) .nilIface))):Sem Value):=rfl
 have e3:(Op.equal t (.iface t' v) .nilIface).run P w=.ok false w:=by
  have h:∀ d,(Op.equalIn (d+1) t (.iface t' v) .nilIface).run P w=.ok false w:=fun d=>by simp [Op.equalIn,run_underlying hu]
  exact h 9999
 rw [e1,e2];simp [e3]
theorem jk3 {F : Nat -> Prop} {w : World} {bs : List BI} {ρ : Operand -> Option AV} {a : Act} (hρ : ∀ x av, ρ x = some av -> av.Rel F w bs (a.eval x)) {o : Oper} {r : AV} (h : Gt P ρ o.op = some r) :
  ∃ v,r.Rel F w bs v∧(execOp a.eval o).run P w=.ok (.value v) w:=by
 unfold Gt at h;split at h
 ·rename_i t x ho;split at h
  ·simp at h
  ·rename_i d hd hne;split at h
   ·rename_i y hy;split at h
    ·simp at h;subst h;have hr:=hρ _ _ hy;refine ⟨.iface t (a.eval x),CV.Rel.iface hr,?_⟩;unfold execOp;rw [ho];simp only [Instr.makeInterface,Sem.run_bind,run_underlying hne];cases d<;>first | rfl | (exact absurd rfl (hd _))
    ·simp at h
   ·rename_i l hy;split at h
    ·simp at h;subst h;obtain ⟨vs,hz,hr⟩:=hρ _ _ hy
     refine ⟨.iface t (a.eval x),by rw [hz];exact CV.Rel.ifa hr.length (fun i x v h1 h2=>by
      obtain ⟨v',hv',hr'⟩:=hr.nth h1;rw [jd] at h2;rw [h2] at hv';cases hv';exact hr'),?_⟩
     unfold execOp;rw [ho];simp only [Instr.makeInterface,Sem.run_bind,run_underlying hne];cases d<;>first | rfl | (exact absurd rfl (hd _))
    ·simp at h
   ·simp at h
  ·simp at h
 ·rename_i x t0 a0 ho;split at h
  ·simp at h
  ·rename_i d hd hne;split at h
   ·rename_i t y hy;split at h
    ·rename_i ht;have ht:=eq_of_beq ht;subst ht;simp at h;subst h;have hr:=hρ _ _ hy;generalize hz:a.eval x=z at hr;cases hr with
     | iface hv =>
       rename_i v;refine ⟨.tuple #[v,.bool true],⟨[v,.bool true],rfl,.cons hv (.cons (CV.Rel.bool _) .nil)⟩,?_⟩;unfold execOp;rw [ho];simp only [Instr.typeAssert,Sem.run_bind,run_underlying hne,hz];cases d<;>first | exact (hd _ rfl).elim | simp
    ·simp at h
   ·rename_i t l hy;split at h
    ·rename_i ht;have ht:=eq_of_beq ht;subst ht;simp at h;subst h;have hr:=hρ _ _ hy;generalize hz:a.eval x=z at hr;cases hr with
     | ifa hl hv =>
       rename_i vs;refine ⟨.tuple #[.agg vs.toArray,.bool true],⟨[.agg vs.toArray,.bool true],rfl,.cons ⟨vs,rfl,All2.of_nth hl hv⟩ (.cons (CV.Rel.bool _) .nil)⟩,?_⟩;unfold execOp;rw [ho];simp only [Instr.typeAssert,Sem.run_bind,run_underlying hne,hz];cases d<;>first | exact (hd _ rfl).elim | simp
    ·simp at h
   ·simp at h
  ·simp at h
 ·rename_i t x z ho;split at h
  ·rename_i ms hu hy;simp at h;subst h;have hr:=hρ _ _ hy;generalize hz:a.eval x=y at hr;cases hr;refine ⟨.bool false,CV.Rel.bool _,?_⟩;unfold execOp;rw [ho];simp only [Sem.run_bind,T8 hz hu w,Result.andThen_ok,Sem.run_pure]
  ·rename_i ms hu hy;simp at h;subst h;have hr:=hρ _ _ hy;generalize hz:a.eval x=y at hr;cases hr;refine ⟨.bool true,CV.Rel.bool _,?_⟩;unfold execOp;rw [ho];simp only [Sem.run_bind,VG hz hu w,Result.andThen_ok,Sem.run_pure]
  ·rename_i ms hu hy;simp at h;subst h;have hr:=hρ _ _ hy;generalize hz:a.eval x=y at hr;cases hr;refine ⟨.bool true,CV.Rel.bool _,?_⟩;unfold execOp;rw [ho];simp only [Sem.run_bind,VG hz hu w,Result.andThen_ok,Sem.run_pure]
  ·simp at h
 ·simp at h
theorem Gd {H : Hd} (hpc : SumOk P H) {X : HdP} (hrx : Vb P X.rx) {call : jw} (hcall : CallOk P call) {callP : q9} (hcallP : CallPOk P X callP) {mem : Mem} {F : Nat -> Prop} {w : World} {bs : List BI} {a : Act} (hm : MemRel P F w bs mem) {ρ : List (Nat × Bool) -> Operand -> Option AV}
  (hρ:∀ K x av,KH a K->ρ K x=some av->av.Rel F w bs (a.eval x)) {o:Oper} {r:Out} {mem':Mem}
  (h:(QI P H X call callP mem ρ o.op).sel=some (r,mem')) {K:Act->World->Prop} {Q:Exit->Act->World->Prop}
  (hK:∀ F' w' bs' v av,r=.ret av->Ext bs.length F w bs F' w' bs'->MemRel P F' w' bs' mem'->av.Rel F' w' bs' v->K (a.put o.dst v) w')
  (hP:∀ F' w' bs' v x,r=.pan x->Ext bs.length F w bs F' w' bs'->MemRel P F' w' bs' mem'->x.Rel F' w' bs' v->Q (.panic [{ v,recovered:=false }]) a w'):o.wp P a w K Q:=by
 have h0:∀ x av,ρ [] x=some av->av.Rel F w bs (a.eval x):=fun x av hh=>hρ [] x av jA hh
 have plain:((qM P H call mem ρ o.op).bind fun y=>(.leaf (.ret y.1,y.2):Tree (Out × Mem))).sel=some (r,mem')->o.wp P a w K Q:=fun h=>by
  obtain ⟨⟨rv,m⟩,h1,h2⟩:=jh h;simp only [Tree.sel,sIq,pIq] at h2;obtain ⟨rfl,rfl⟩:=h2;exact Jt hpc hcall hm hρ h1 fun F' w' bs' v hext hm hr=>hK F' w' bs' v rv rfl hext hm hr
 unfold QI at h;split at h
 ·rename_i v0 hv0;simp only [Tree.sel,sIq,pIq] at h;obtain ⟨rfl,rfl⟩:=h;obtain ⟨v,hr,hrun⟩:=jk3 h0 hv0;unfold Oper.wp;rw [hrun];exact hK F w bs v v0 rfl Ext.refl hm hr
 ·split at h
  ·rename_i c ho;split at h
   ·split at h
    ·rename_i f args ht;split at h
     ·rename_i hc;obtain ⟨vs,hvs,hrun⟩:=Yi h0 ho ht hc;split at h
      ·rename_i G hG;split at h
       ·rename_i hcl;obtain ⟨r0,h1,h2⟩:=jh h;simp only [Tree.sel,sIq,pIq] at h2;obtain ⟨rfl,rfl⟩:=h2;unfold Oper.wp;rw [hrun];refine (hrx f G hG args mem r0 (by rw [aTq] at hcl;exact hcl.1) h1 F w bs vs hm hvs).mono fun e w' ⟨hb,hr⟩ => ?_
        cases r0 with
        | ret av =>
          obtain ⟨v,rfl,hv⟩:=hr;exact hK F w' bs v av rfl (Ext.of_below hb) (hm.below hb) hv
        | pan x =>
          obtain ⟨v,rfl,hv⟩:=hr;exact hP F w' bs v x rfl (Ext.of_below hb) (hm.below hb) hv
       ·simp [Tree.sel] at h
      ·split at h
       ·unfold Oper.wp;rw [hrun];refine (hcallP.ok f args _ _ _ h F w bs vs hm hvs).mono fun e w' ⟨F',bs',hext,hm',hr⟩ => ?_;cases r with
        | ret av =>
          obtain ⟨v,rfl,hv⟩:=hr;exact hK F' w' bs' v av rfl hext hm' hv
        | pan x =>
          obtain ⟨v,rfl,hv⟩:=hr;exact hP F' w' bs' v x rfl hext hm' hv
       ·exact plain h
     ·simp [Tree.sel] at h
    ·simp [Tree.sel] at h
   ·exact plain h
  ·exact plain h
theorem jhZ {H : Hd} (hpc : SumOk P H) {X : HdP} {call : jw} (hcall : CallOk P call) {callP : q9} (hcallP : CallPOk P X callP) {mem : Mem} {F : Nat -> Prop} {w : World} {bs : List BI} {a : Act} (hm : MemRel P F w bs mem) {ρ : Operand -> Option AV}
  (h0:∀ x av,ρ x=some av->av.Rel F w bs (a.eval x)) {o:Oper} {T:Tree (Out × Mem)} {r:Out} {mem':Mem}
  (h:jbF P H call callP mem ρ o.op=some T) (hT:T.sel=some (r,mem')) {K:Act->World->Prop} {Q:Exit->Act->World->Prop}
  (hK:∀ F' w' bs' v av,r=.ret av->Ext bs.length F w bs F' w' bs'->MemRel P F' w' bs' mem'->av.Rel F' w' bs' v->K (a.put o.dst v) w')
  (hP:∀ F' w' bs' v x,r=.pan x->Ext bs.length F w bs F' w' bs'->MemRel P F' w' bs' mem'->x.Rel F' w' bs' v->Q (.panic [{ v,recovered:=false }]) a w'):o.wp P a w K Q:=by
 unfold jbF at h;split at h
 ·rename_i c ho;split at h
  ·rename_i x m hcal;split at h
   ·rename_i y l hy hl;simp only [sIq] at h;subst h;obtain ⟨z,hz,hT⟩:=jh hT;split at hT
    ·rename_i f hf;split at hT
     ·rename_i hcl;have hr:CV.Rel F w bs y (a.eval x):=h0 _ _ hy;obtain ⟨u,hu,hru⟩:=TP hr hz;have hargs:=zb h0 hl
      have hrun:∀ w',(execOp a.eval o).run P w'=.ok (.enter f (u::c.args.toList.map a.eval).toArray) w':=by
       intro w'
       have e2:(u::c.args.toList.map a.eval).toArray = #[u]++c.args.map a.eval:=by
        apply Array.ext';simp
       have e3:∀ l:Array Value,(#[Value.iface z.1 u]++l).extract 1 (#[Value.iface z.1 u]++l).size=l:=by
        intro l;apply Array.ext';simp
       unfold execOp;rw [ho];simp only [resolve,hcal,hu,Sem.run_bind,Sem.run_pure,Result.andThen_ok,invoke];have e4:(#[Value.iface z.1 u]++c.args.map a.eval)[0]? = some (.iface z.1 u):=by rw [Array.getElem?_append_left (by simp)];rfl
       simp only [e4,e3];rw [e2];exact He hf hcl u _ w'
      split at hT
      ·unfold Oper.wp;rw [hrun];refine (hcallP.ok f _ _ _ _ hT F w bs _ hm (.cons hru hargs)).mono fun e w' ⟨F',bs',hext,hm',hr⟩ => ?_;cases r with
       | ret av =>
         obtain ⟨v,rfl,hv⟩:=hr;exact hK F' w' bs' v av rfl hext hm' hv
       | pan x =>
         obtain ⟨v,rfl,hv⟩:=hr;exact hP F' w' bs' v x rfl hext hm' hv
      ·obtain ⟨⟨rv,m1⟩,h1,h2⟩:=jh hT;simp only [Tree.sel,sIq,pIq] at h2;obtain ⟨rfl,rfl⟩:=h2;exact Dw hpc hcall hm hcl (.cons hru hargs) hrun h1 fun F' w' bs' v hext hm hr=>hK F' w' bs' v rv rfl hext hm hr
     ·simp [Tree.sel] at hT
    ·simp [Tree.sel] at hT
   ·simp at h
  ·simp at h
 ·rename_i t x ho;split at h
  ·rename_i t' ht';simp only [sIq] at h;subst h;obtain ⟨⟨rv,m1⟩,h1,h2⟩:=jh hT;simp only [Tree.sel,sIq,pIq] at h2;obtain ⟨rfl,rfl⟩:=h2;exact jah hpc hcall hm h0 (by rw [ho];exact ht') h1 fun F' w' bs' v hext hm hr=>hK F' w' bs' v rv rfl hext hm hr
  ·simp at h
 ·simp at h
theorem jhc {H : Hd} (hpc : SumOk P H) {X : HdP} (hrx : Vb P X.rx) {call : jw} (hcall : CallOk P call) {callP : q9} (hcallP : CallPOk P X callP) {mem : Mem} {F : Nat -> Prop} {w : World} {bs : List BI} {a : Act} (hm : MemRel P F w bs mem) {ρ : List (Nat × Bool) -> Operand -> Option AV}
  (hρ:∀ K x av,KH a K->ρ K x=some av->av.Rel F w bs (a.eval x)) {o:Oper} {r:Out} {mem':Mem}
  (h:(O7 P H X call callP mem ρ o.op).sel=some (r,mem')) {K:Act->World->Prop} {Q:Exit->Act->World->Prop}
  (hK:∀ F' w' bs' v av,r=.ret av->Ext bs.length F w bs F' w' bs'->MemRel P F' w' bs' mem'->av.Rel F' w' bs' v->K (a.put o.dst v) w')
  (hP:∀ F' w' bs' v x,r=.pan x->Ext bs.length F w bs F' w' bs'->MemRel P F' w' bs' mem'->x.Rel F' w' bs' v->Q (.panic [{ v,recovered:=false }]) a w'):o.wp P a w K Q:=by
 unfold O7 at h;split at h
 ·rename_i t ht;exact jhZ hpc hcall hcallP hm (fun x av hh=>hρ [] x av jA hh) ht h hK hP
 ·exact Gd hpc hrx hcall hcallP hm hρ h hK hP
theorem jeG {H : Hd} (hpc : SumOk P H) {X : HdP} (hrx : Vb P X.rx) {call : jw} (hcall : CallOk P call) {callP : q9} (hcallP : CallPOk P X callP) {s : StP} {F : Nat -> Prop} {w : World} {bs : List BI} {a : Act} (hs : StRel P a.defers F w bs s.s a) (hd : DsRel F w bs s.dl a.defers) {o : Oper} {r : Out} {mem' : Mem} {dl' : List CV}
  (h:(jax P H X call callP s o.op).sel=some (r,mem',dl')) {K:Act->World->Prop} {Q:Exit->Act->World->Prop}
  (hK:∀ F' w' bs' v av D',r=.ret av->Ext bs.length F w bs F' w' bs'->MemRel P F' w' bs' mem'->av.Rel F' w' bs' v->DsRel F' w' bs' dl' D'->K ({ a with defers:=D' }.put o.dst v) w')
  (hP:∀ F' w' bs' v x,r=.pan x->Ext bs.length F w bs F' w' bs'->MemRel P F' w' bs' mem'->x.Rel F' w' bs' v->DsRel F' w' bs' dl' a.defers->Q (.panic [{ v,recovered:=false }]) a w'):o.wp P a w K Q:=by
 have h0:∀ x av,zH s.s [] x=some av->av.Rel F w bs (a.eval x):=fun x av hh=>qx hs jA hh
 have plain:((O7 P H X call callP s.s.mem (fun K=>zH s.s K) o.op).bind fun y=>(.leaf (y.1,y.2,s.dl):Tree (Out × Mem × List CV))).sel=some (r,mem',dl')->o.wp P a w K Q:=fun h=>by
  obtain ⟨⟨rv,m⟩,h1,h2⟩:=jh h;simp only [Tree.sel,sIq,pIq] at h2;obtain ⟨rfl,rfl,rfl⟩:=h2;exact jhc hpc hrx hcall hcallP hs.mem (fun K x av hk hh=>qx hs hk hh) h1 (fun F' w' bs' v av e hext hm hr=>hK F' w' bs' v av a.defers e hext hm hr (hd.grow hext.grow)) fun F' w' bs' v x e hext hm hr=>hP F' w' bs' v x e hext hm hr (hd.grow hext.grow)
 unfold jax at h;split at h
 ·rename_i x ho;split at h
  ·rename_i y hy;split at h
   ·rename_i hc;simp only [Tree.sel,sIq,pIq] at h;obtain ⟨rfl,rfl,rfl⟩:=h;have hr:=h0 _ _ hy;have hr:y.Rel F w bs (a.eval x):=hr;generalize hz:a.eval x=z at hr;rw [aTq] at hc
    have go:∀ t v,a.eval x=.iface t v->CV.Rel F w bs y (.iface t v)->o.wp P a w K Q:=by
     intro t v hz hr;unfold Oper.wp
     have hrun:(execOp a.eval o).run P w=.halt (.panic (.iface t v)) w:=by
      unfold execOp;rw [ho];simp [hz,Instr.panic,goPanic]
     rw [hrun];exact hP F w bs _ _ rfl Ext.refl hs.mem hr hd
    cases hr<;>first | (simp [isIface] at hc;done) | skip
    ·rename_i t y v hv;exact go t v hz (.iface hv)
    ·rename_i t l vs hl hv;exact go t _ hz (.ifa hl hv)
   ·simp [Tree.sel] at h
  ·simp [Tree.sel] at h
 ·rename_i c ho;split at h
  ·rename_i x hcal harg;split at h
   ·rename_i g cap hx;simp only [Tree.sel,sIq,pIq] at h;obtain ⟨rfl,rfl,rfl⟩:=h;have hr:=h0 _ _ hx;generalize hz:a.eval x=z at hr;cases hr with
    | fn l1 l2 r1 r2 =>
      rename_i vf vc;have hvf:vf=[]:=List.length_eq_zero_iff.1 l1.symm;subst hvf
      have hrun:(execOp a.eval o).run P w=.ok (.defer { target:=.fn (.func g) vc.toArray,args:=#[] }) w:=by
       have ha:c.args = #[]:=by rw [← Array.toArray_toList (xs:=c.args),harg]
       unfold execOp;rw [ho];simp [resolve,hcal,hz,Deferred.ofValue,ha]
      unfold Oper.wp;rw [hrun];refine hK F w bs undef .any ({ target:=.fn (.func g) vc.toArray,args:=#[] }::a.defers) rfl Ext.refl hs.mem trivial (.cons ⟨g,cap,vc,rfl,rfl,All2.of_nth l2 r2⟩ hd)
   ·simp [Tree.sel] at h
  ·simp [Tree.sel] at h
 ·exact plain h
end Go.Sx
namespace Go.Sx
open Go Go.RowKit
variable {P:Program}
structure PRel (P:Program) (F:Nat->Prop) (w:World) (bs:List BI) (s:StP) (a:Act):Prop where
 st:StRel P a.defers F w bs s.s a
 ds:DsRel F w bs s.dl a.defers
def XRel (F:Nat->Prop) (w:World) (bs:List BI):XP->Exit->Prop
 | .normal,e=>e=.normal
 | .exit k,e=>e=.exit k
 | .ret,e=>e=.ret
 | .goto l,e=>e=.goto l
 | .pan x,e=>∃ v,e=.panic [{ v,recovered:=false }]∧x.Rel F w bs v
theorem StRel.setD {D D' F w bs s} {a:Act} (h:StRel P D F w bs s a):StRel P D' F w bs s { a with defers:=D' }:=⟨rfl,h.len,h.slots,h.mem⟩
theorem StRel.toP {D F w bs} {s:St} {dl:List CV} {a:Act} (h:StRel P D F w bs s a) (hd:DsRel F w bs dl D):PRel P F w bs ⟨s,dl⟩ a:=by
 have e:=h.defers;subst e;exact ⟨h,hd⟩
theorem JE {H : Hd} (hpc : SumOk P H) {X : HdP} (hrx : Vb P X.rx) {call : jw} (hcall : CallOk P call) {callP : q9} (hcallP : CallPOk P X callP) {ops : Array Oper} {Q : Exit -> Act -> World -> Prop} {x : XP} {s' : StP} : ∀ (l : List Oper) (s : StP) {F : Nat -> Prop} {w : World} {bs : List BI} {a : Act},
  (Zv P H X call callP ops.toList l s).sel=some (x,s')->PRel P F w bs s a->(∀ F' w' bs' a' e,Ext bs.length F w bs F' w' bs'->PRel P F' w' bs' s' a'->XRel F' w' bs' x e->Q e a' w')->wpList P ops Q l a w
 | [], s, F, w, bs, a, h, hs, hQ => by
   simp only [Zv,Tree.sel,sIq,pIq] at h;obtain ⟨rfl,rfl⟩:=h;exact wpList_nil (hQ F w bs a _ Ext.refl hs rfl)
 | o :: r, s, F, w, bs, a, h, hs, hQ => by
   simp only [Zv] at h;split at h
   ·rename_i hg;obtain ⟨⟨rv,mem',dl'⟩,h1,h2⟩:=jh h;refine wpList_plain hg fun K hK=>jeG hpc hrx hcall hcallP hs.st hs.ds h1 (fun F' w' bs' v av D' hrv hext hm hr hd=>hK _ _ ?_) (fun F' w' bs' v y hrv hext hm hr hd => ?_)
    ·subst hrv;have hst:StRel P D' F' w' bs' { s.s with mem:=mem' } { a with defers:=D' }:=(hs.st.ext hext hm).setD
     exact JE hpc hrx hcall hcallP r _ h2 ((StRel.put hst (ks:=[]) (fun _ hp=>by cases hp) (fun _=>hr) (fun h=>(h jA).elim)).toP hd) fun F'' w'' bs'' a'' e he hs'' hx=>hQ _ _ _ _ _ (hext.trans he hext.le) hs'' hx
    ·subst hrv;simp only [Tree.sel,sIq,pIq] at h2;obtain ⟨rfl,rfl⟩:=h2;exact hQ F' w' bs' a _ hext ⟨hs.st.ext hext hm,hd⟩ ⟨v,rfl,hr⟩
   ·rename_i j b hg;split at h
    ·rename_i K hkeys;split at h
     ·simp [Tree.sel] at h
     rename_i hdst;simp only [Bool.not_eq_true] at hdst
     have hkd:∀ p ∈ K,some p.1 ≠ o.dst:=by
      intro p hp e;rw [List.any_eq_false] at hdst;exact hdst p hp (by simp [e])
     have hiff:=Wl hs.st hkeys;split at h
     ·rename_i hq;obtain ⟨⟨rv,mem'⟩,h1,h2⟩:=jh h;refine wpList_step fun KK hKK => ?_;by_cases hk:KH a K
      ·have hw:Region.wanted o (yielded ops a.tmps)=true:=(qU hg _).2 (hiff.1 hk);rw [if_pos hw];have h1':=Zx h1 (ZX hs.st hk);have hρ:∀ K' x av,KH a K'->zH s.s (K'++K) x=some av->av.Rel F w bs (a.eval x):=fun K' x av hk' hh=>qx hs.st (fun p hp=>(List.mem_append.1 hp).elim (hk' p) (hk p)) hh;have hme:=Yn (ρ:=fun K'=>zH s.s (K'++K)) hpc hs.st.mem hρ hq h1';subst hme;refine Jt hpc hcall hs.st.mem hρ h1' fun F' w' bs' v hext hm hr=>hKK _ _ ?_;exact JE hpc hrx hcall hcallP r _ h2 ((StRel.put (hs.st.ext hext hm) hkd (fun _=>hr) (fun h=>(h hk).elim)).toP (hs.ds.grow hext.grow)) fun F'' w'' bs'' a'' e he hs'' hx=>hQ _ _ _ _ _ (hext.trans he hext.le) hs'' hx
      ·have hw:¬ Region.wanted o (yielded ops a.tmps)=true:=fun h=>hk (hiff.2 ((qU hg _).1 h));rw [if_neg hw];exact hKK _ _ (JE hpc hrx hcall hcallP r _ h2 ((StRel.put hs.st hkd (fun h=>(hk h).elim) (fun _=>rfl)).toP hs.ds) hQ)
     ·split at h
      ·rename_i g hgd;have hgk:=NR hs.st hgd;simp only [Tree.sel] at h;refine wpList_step fun KK hKK => ?_;by_cases hk:KH a K
       ·have hw:Region.wanted o (yielded ops a.tmps)=true:=(qU hg _).2 (hiff.1 hk);rw [if_pos hw];rw [hgk.2 hk,cond_true] at h;obtain ⟨⟨rv,mem'⟩,h1,h2⟩:=jh h;have hρ:∀ K' x av,KH a K'->zH s.s (K'++K) x=some av->av.Rel F w bs (a.eval x):=fun K' x av hk' hh=>qx hs.st (fun p hp=>(List.mem_append.1 hp).elim (hk' p) (hk p)) hh;refine Jt hpc hcall hs.st.mem hρ h1 fun F' w' bs' v hext hm hr=>hKK _ _ ?_;exact JE hpc hrx hcall hcallP r _ h2 ((StRel.put (hs.st.ext hext hm) (fun _ hp=>by cases hp) (fun _=>hr) (fun h=>(h jA).elim)).toP (hs.ds.grow hext.grow)) fun F'' w'' bs'' a'' e he hs'' hx=>hQ _ _ _ _ _ (hext.trans he hext.le) hs'' hx
       ·have hw:¬ Region.wanted o (yielded ops a.tmps)=true:=fun h=>hk (hiff.2 ((qU hg _).1 h));rw [if_neg hw];have hg0:g=false:=by cases hgv:g;rfl;exact (hk (hgk.1 hgv)).elim
        rw [hg0,cond_false] at h;exact hKK _ _ (JE hpc hrx hcall hcallP r _ h ((StRel.put hs.st hkd (fun h=>(hk h).elim) (fun _=>rfl)).toP hs.ds) hQ)
      ·simp [Tree.sel] at h
    ·simp [Tree.sel] at h
end Go.Sx