/-
 Part TpP of the proof: EngPa EngPb EngPc EngPp.
-/
import Derived.Test.YtiefjlcakpdfeaaGreatDoorTpN
namespace Go.Sx
open Go Go.RowKit
inductive Out where
 | ret (a:AV)
 | pan (x:CV)
inductive XP where
 | normal
 | exit (id:Nat)
 | ret
 | pan (x:CV)
 | goto (l:Nat)
structure StP where
 s:St
 dl:List CV
abbrev zc:=Nat->List A1->Mem->Tree (Out × Mem)
def pF (f:Nat):Nat × (List A1->Tree AV):=(12884901888+f,fun _=>.fail)
def GZ (H:Hd) (f:Nat):Bool:=(qT H.pc (12884901888+f)).isSome
def B4 (P:Program) (ρ:Operand->Option AV):Op->Option AV
 | .makeInterface t x=>match P.underlying t with
  | some (.interface _)=>none
  | some _=>match ρ x with
   | some (.one (.c y))=>if closedC y then some (.one (.c (.iface t y))) else none
   | some (.one (.agg l))=>if l.all closedC then some (.one (.c (.ifa t l))) else none
   | _=>none
  | none=>none
 | .typeAssert x _ a true=>match P.underlying a with
  | some (.interface _)=>none
  | some _=>match ρ x with
   | some (.one (.c (.iface t y)))=>if t==a then some (.tup [.c y,.c (.bool true)]) else none
   | some (.one (.c (.ifa t l)))=>if t==a then some (.tup [.agg l,.c (.bool true)]) else none
   | _=>none
  | none=>none
 | .binOp .neq t x (.const .nilIface) _=>match P.underlying t,ρ x with
  | some (.interface _),some (.one (.c .nili))=>some (.one (.c (.bool false)))
  | some (.interface _),some (.one (.c (.iface _ _)))=>some (.one (.c (.bool true)))
  | some (.interface _),some (.one (.c (.ifa _ _)))=>some (.one (.c (.bool true)))
  | _,_=>none
 | _=>none
def isIface:CV->Bool
 | .iface _ _=>true
 | .ifa _ _=>true
 | _=>false
structure HdP where
 px:List (Nat × (List A1->Mem->Tree (Out × Mem)))
 rx:List (Nat × (List A1->List A1->Tree Out))
 nc:List (Nat × (List A1->Tree (AV × Mem)))
 lx:List ((Nat × Nat) × (Nat->St->Tree (XP × St)))
 sx:List (Nat × (Nat->St->Tree (XP × St)))
 rounds:Nat
 lo:List Nat:=[]
def X2:List ((Nat × Nat) × (Nat->St->Tree (XP × St)))->Nat->Nat->Option (Nat->St->Tree (XP × St))
 | [],_,_=>none
 | (k,F)::r,f,i=>if k.1==f&&k.2==i then some F else X2 r f i
def Wg:List (Nat × (Nat->St->Tree (XP × St)))->Nat->Option (Nat->St->Tree (XP × St))
 | [],_=>none
 | (k,F)::r,f=>if k==f then some F else Wg r f
def jr:Code->List Code
 | .seq a b=>jr a++jr b
 | .cond _ a b=>jr a++jr b
 | .block _ b=>jr b
 | .loop b=>jr b
 | .scope b=>b::jr b
 | .rangeFunc _ _ a b=>jr a++jr b
 | _=>[]
def XM (g:StP->Tree (XP × StP)):Nat->StP->Tree (XP × StP)
 | 0,_=>.fail
 | n+1,s=>(g s).bind fun x=>match x.1 with
  | .normal=>XM g n x.2
  | e=>.leaf (e,x.2)
def XO:List (Nat × (List A1->Tree (AV × Mem)))->Nat->Option (List A1->Tree (AV × Mem))
 | [],_=>none
 | (k,F)::r,f=>if k==f then some F else XO r f
def Yz:List (Nat × (List A1->Mem->Tree (Out × Mem)))->Nat->Option (List A1->Mem->Tree (Out × Mem))
 | [],_=>none
 | (k,F)::r,f=>if k==f then some F else Yz r f
def XJ:List (Nat × (List A1->List A1->Tree Out))->Nat->Option (List A1->List A1->Tree Out)
 | [],_=>none
 | (k,F)::r,f=>if k==f then some F else XJ r f
def QF (P:Program) (H:Hd) (X:HdP) (call:ju) (callP:zc) (mem:Mem) (ρ:List (Nat × Bool)->Operand->Option AV) (op:Op):Tree (Out × Mem) :=
 let plain:=(qP P H call mem ρ op).bind fun y=>.leaf (.ret y.1,y.2)
 match B4 P (ρ []) op with
 | some v=>.leaf (.ret v,mem)
 | none=>match op with
  | .call c=>match c.callee with
   | .value _=>match yW (ρ []) c with
    | some (f,args)=>if qH P f then (match XJ X.rx f with
     | some F=>if (args.map (zo mem)).all jB&&args.all (fun a=>a.cells.all BQ) then (F args (args.map (zo mem))).bind fun r=>.leaf (r,mem) else .fail
     | none=>if GZ H f then callP f args mem else plain) else .fail
    | none=>.fail
   | _=>plain
  | _=>plain
def MK (P:Program) (H:Hd) (call:ju) (callP:zc) (mem:Mem) (ρ:Operand->Option AV) (op:Op):Option (Tree (Out × Mem)) :=
 match op with
 | .call c=>match c.callee with
  | .invoke x m=>match ρ x,zq ρ c.args.toList with
   | some (.one (.c y)),some l=>some ((Rl y).bind fun z=>match UZ P z.1 m with
    | some f=>if qH P f then (if GZ H f then callP f (z.2::l) mem else (Bc H call mem f (z.2::l)).bind fun y=>.leaf (.ret y.1,y.2)) else .fail
    | none=>.fail)
   | _,_=>none
  | _=>none
 | .makeInterface t x=>match jaN P H call mem ρ (.makeInterface t x) with
  | some t=>some (t.bind fun y=>.leaf (.ret y.1,y.2))
  | none=>none
 | _=>none
def O0 (P:Program) (H:Hd) (X:HdP) (call:ju) (callP:zc) (mem:Mem) (ρ:List (Nat × Bool)->Operand->Option AV) (op:Op):Tree (Out × Mem) :=
 match MK P H call callP mem (ρ []) op with
 | some t=>t
 | none=>QF P H X call callP mem ρ op
def jb0 (P:Program) (H:Hd) (X:HdP) (call:ju) (callP:zc) (s:StP) (op:Op):Tree (Out × Mem × List CV) :=
 let plain:=(O0 P H X call callP s.s.mem (fun K=>zJ s.s K) op).bind fun y=>.leaf (y.1,y.2,s.dl)
 match op with
  | .panic x=>match zJ s.s [] x with
   | some (.one (.c y))=>if isIface y&&closedC y then .leaf (.pan y,s.s.mem,s.dl) else .fail
   | _=>.fail
  | .defer c=>match c.callee,c.args.toList with
   | .value x,[]=>match zJ s.s [] x with
    | some (.one (.c (.fn (.func g) [] cap)))=>.leaf (.ret .any,s.s.mem,.fn (.func g) [] cap::s.dl)
    | _=>.fail
   | _,_=>.fail
  | _=>plain
def Zs (P:Program) (H:Hd) (X:HdP) (call:ju) (callP:zc) (all:List Oper):List Oper->StP->Tree (XP × StP)
 | [],s=>.leaf (.normal,s)
 | o::r,s=>match o.guard with
  | none=>(jb0 P H X call callP s o.op).bind fun x=>match x.1 with
   | .ret v=>Zs P H X call callP all r ⟨{ s.s with mem:=x.2.1 }.put o.dst [] v,x.2.2⟩
   | .pan y=>.leaf (.pan y,⟨{ s.s with mem:=x.2.1 },x.2.2⟩)
  | some (j,b)=>match keysOf all s.s j b with
   | some K =>
     if K.any (fun p=>some p.1==o.dst) then .fail else
     if J6 H (zJ s.s K) o.op then
      ((qP P H call s.s.mem (fun K'=>zJ s.s (K'++K)) o.op).toNeed dGu (yG s.s K)).bind fun x=>Zs P H X call callP all r ⟨s.s.put o.dst K x.1,s.dl⟩
     else match L9 s.s K with
      | some g=>.br g ((qP P H call s.s.mem (fun K'=>zJ s.s (K'++K)) o.op).bind fun x=>Zs P H X call callP all r ⟨{ s.s with mem:=x.2 }.put o.dst [] x.1,s.dl⟩) (Zs P H X call callP all r ⟨s.s.put o.dst K dGu.1,s.dl⟩)
      | none=>.fail
   | none=>.fail
def XE.toP:XE->XP
 | .normal=>.normal
 | .exit k=>.exit k
 | .ret=>.ret
def Mu:List A1->Touch
 | .c (.ptr b 0)::_=>some [(b+1,true)]
 | _=>none
def Jm (P:Program) (H:Hd) (X:HdP) (ρ:Operand->Option AV) (len:Nat) (op:Op):Touch :=
 match B4 P ρ op with
 | some _=>some []
 | none=>match op with
  | .call c=>match c.callee with
   | .value _=>match yW ρ c with
    | some (f,args)=>if (XJ X.rx f).isSome then some (YW args) else if GZ H f then (if JE f X.lo then Mu args else none) else qi H ρ len op
    | none=>none
   | _=>qi H ρ len op
  | _=>qi H ρ len op
def WY (K0:Nat):Touch->Touch
 | none=>none
 | some t=>some (t++(upto K0).map fun b=>(b+1,false))
def Ri (masks:List Nat) (pn:Option (Nat × CV × Mem)) (n:Nat):Bool :=
 match pn with
 | some (j,_,_)=>zA masks j n
 | none=>false
def kQ (P:Program) (H:Hd) (X:HdP) (call:ju) (callP:zc) (all:List Oper) (masks:List Nat) (K0:Nat):Nat->List Oper->St->Option (Nat × CV × Mem)->Tree (St × List kG × Option (Nat × CV × Mem))
 | _,[],s,pn=>.leaf (s,[],pn)
 | n, o :: r, s, pn =>
   if Ri masks pn n then (kQ P H X call callP all masks K0 (n+1) r (s.put0 o.dst [] .any) pn).bind fun y=>.leaf (y.1,(some [],[])::y.2.1,y.2.2)
   else match o.guard with
  | none=>(QF P H X call callP s.mem (fun K=>lim o s K) o.op).bind fun x=>match x.1 with
   | .ret v=>(kQ P H X call callP all masks K0 (n+1) r ({ s with mem:=x.2 }.put0 o.dst [] v) pn).bind fun y=>.leaf (y.1,(Jm P H X (lim o s []) s.mem.length o.op,[])::y.2.1,y.2.2)
   | .pan z=>if pn.isSome then .fail else (kQ P H X call callP all masks K0 (n+1) r (s.put0 o.dst [] .any) (some (n,z,x.2))).bind fun y=>.leaf (y.1,(WY K0 (Jm P H X (lim o s []) s.mem.length o.op),[])::y.2.1,y.2.2)
  | some (j,b)=>match keysOf all s j b with
   | some K =>
     if !J6 H (lim o s K) o.op||K.any (fun p=>some p.1==o.dst) then .fail else
     ((qP P H call s.mem (fun K'=>lim o s (K'++K)) o.op).toNeed dGu (yG s K)).bind fun x=>(kQ P H X call callP all masks K0 (n+1) r (s.put0 o.dst K x.1) pn).bind fun y=>.leaf (y.1,(qi H (lim o s K) s.mem.length o.op,K)::y.2.1,y.2.2)
   | none=>.fail
def St.forget (s:St):List Oper->St
 | []=>s
 | o::r=>(s.put0 o.dst [] .any).forget r
def U8 (K:Nat):A1->Bool
 | .c x=>kq K x
 | .agg l=>l.all (kq K)
def UT (K:Nat):AV->Bool
 | .any=>true
 | .one a=>U8 K a
 | .tup l=>l.all (U8 K)
def Rm (P:Program) (o:Oper):Option (TypeId × List CV) :=
 match o.guard,o.dst,o.op with
 | none,some _,.alloc e=>(match jS P e with | some z=>some (e,z) | none=>none)
 | _,_,_=>none
def yf (ok:Nat->Bool):CV->Bool
 | .ptr b _=>ok b
 | .os b _=>ok b
 | .rowp b _ _ _=>ok b
 | .row _ _ _ _=>true
 | .yld b=>ok b
 | .lp _ _ _=>true
 | x=>closedC x
def kL (ok:Nat->Bool):Option (TypeId × List CV)->Bool
 | none=>true
 | some (_,cs)=>cs.all (yf ok)
def J9 (ok:Nat->Bool):A1->Bool
 | .c x=>yf ok x
 | .agg l=>l.all (yf ok)
def yP (ok:Nat->Bool):AV->Bool
 | .any=>true
 | .one a=>J9 ok a
 | .tup l=>l.all (J9 ok)
def JK (masks:List Nat) (K0 i b:Nat):Bool:=Nat.blt b K0||zA masks (b - K0) i||b==K0+i
def jkC (ok:Nat->Bool) (mem:Mem):Touch->Bool
 | none=>mem.all (kL ok)
 | some t=>t.all fun p=>match p with
  | (b+1,true)=>(match nth mem b with | some e=>kL ok e | none=>true)
  | _=>true
def jbV (P:Program) (X:HdP) (ρ:Operand->Option AV) (o:Oper):Option (Tree (AV × Mem)) :=
 match o.guard,o.dst,o.op with
 | none,some _,.call c=>match c.callee with
  | .value _=>match yW ρ c with
   | some (f,args)=>match XO X.nc f with
    | some G=>if qH P f&&args.all jB then some (G args) else none
    | none=>none
   | none=>none
  | _=>none
 | _,_,_=>none
def Jq (P:Program) (H:Hd) (X:HdP) (call:ju) (all:List Oper) (masks:List Nat) (K0:Nat):Nat->List Oper->St->Tree (St × List kG)
 | _,[],s=>.leaf (s,[])
 | n,o::r,s=>match Rm P o with
  | some (e,z)=>(match nth s.mem (K0+n) with
   | some none => if z.all closedC then
     (Jq P H X call all masks K0 (n+1) r ({ s with mem:=jk s.mem (K0+n) (some (e,z)) }.put0 o.dst [] (.one (.c (.ptr (K0+n) 0))))).bind fun y=>.leaf (y.1,(some [(K0+n+1,true)],[])::y.2) else .fail
   | _=>.fail)
  | none=>match jbV P X (lim o s []) o with
   | some g=>(match nth s.mem (K0+n) with
    | some none=>g.bind fun z=>match z with
     | (.one (.c (.os 0 sz)), [some (T, [.row false es m ρ])]) =>
       (Jq P H X call all masks K0 (n+1) r ({ s with mem:=jk s.mem (K0+n) (some (T,[.row false es m ρ])) }.put0 o.dst [] (.one (.c (.os (K0+n) sz))))).bind fun y=>.leaf (y.1,(some [(K0+n+1,true)],[])::y.2)
     | _=>.fail
    | _=>.fail)
   | none=>match o.guard with
    | none =>
      (qP P H call s.mem (fun K=>lim o s K) o.op).bind fun x=>if yP (JK masks K0 n) x.1&&jkC (JK masks K0 n) x.2 (qi H (lim o s []) s.mem.length o.op) then
       (Jq P H X call all masks K0 (n+1) r ({ s with mem:=x.2 }.put0 o.dst [] x.1)).bind fun y=>.leaf (y.1,(qi H (lim o s []) s.mem.length o.op,[])::y.2) else .fail
    | some (j,b)=>match keysOf all s j b with
     | some K =>
       if !J6 H (lim o s K) o.op||K.any (fun p=>some p.1==o.dst) then .fail else
       ((qP P H call s.mem (fun K'=>lim o s (K'++K)) o.op).toNeed dGu (yG s K)).bind fun x=>if yP (JK masks K0 n) x.1 then (Jq P H X call all masks K0 (n+1) r (s.put0 o.dst K x.1)).bind fun y=>.leaf (y.1,(qi H (lim o s K) s.mem.length o.op,K)::y.2) else .fail
     | none=>.fail
def Dw (P:Program) (H:Hd) (X:HdP) (call:ju) (ops:List Oper) (s:StP):Tree (XP × StP) :=
 if P.follows .mixedOrders&&s.s.mem.all (Ym s.s.mem.length)&&s.s.tmps.all (fun sl=>UT s.s.mem.length (unkey sl).v) then
  (Jq P H X call ops (qI ops []) s.s.mem.length 0 ops { tmps:=s.s.tmps.map unkey,mem:=s.s.mem++ops.map fun _=>none }).bind fun y =>
   if Qq ops y.2 then .leaf (.normal,⟨{ y.1 with tmps:=y.1.tmps.map unkey },s.dl⟩) else .fail
 else .fail
def Y5 (X:HdP):Nat->List Oper->List Nat
 | _,[]=>[]
 | n,o::r=>match o.op with
  | .alloc _=>n::Y5 X (n+1) r
  | .call c=>(match c.callee with
   | .value (.func f)=>if (XO X.nc f).isSome then n::Y5 X (n+1) r else Y5 X (n+1) r
   | _=>Y5 X (n+1) r)
  | _=>Y5 X (n+1) r
def Fi (masks:List Nat):List Nat->Bool
 | i::j::r=>!zA masks i j||Fi masks (j::r)
 | _=>false
def MO (X:HdP) (ops:List Oper):Bool:=match Y5 X 0 ops with
 | i::j::r=>Fi (qI ops []) (i::j::r)
 | _=>false
def Tv (P:Program) (H:Hd) (X:HdP) (call:ju) (callP:zc) (ops:List Oper) (s:StP):Tree (XP × StP) :=
 if P.follows .mixedOrders then
  (kQ P H X call callP ops (qI ops []) s.s.mem.length 0 ops { s.s with tmps:=s.s.tmps.map unkey } none).bind fun y =>
   if Qq ops y.2.1 then (match y.2.2 with
    | none=>.leaf (.normal,⟨{ y.1 with tmps:=y.1.tmps.map unkey },s.dl⟩)
    | some (_,z,m)=>match takeN m s.s.mem.length with
     | some m0=>if m0.all (Ym s.s.mem.length)&&closedC z then .leaf (.pan z,⟨({ tmps:=s.s.tmps.map unkey,mem:=m0 }:St).forget ops,s.dl⟩) else .fail
     | none=>.fail) else .fail
 else .fail
def j6 (P:Program) (H:Hd) (X:HdP) (call:ju) (callP:zc) (f K:Nat):Nat->Code->StP->Tree (XP × StP)
 | _,.skip,s=>.leaf (.normal,s)
 | _, .region _ ops draw, s => if draw then (if MO X ops.toList then Dw P H X call ops.toList s else Tv P H X call callP ops.toList s)
   else (Zs P H X call callP ops.toList ops.toList s).bind fun x=>.leaf (x.1,⟨{ x.2.s with tmps:=x.2.s.tmps.map unkey },x.2.dl⟩)
 | n,.seq a b,s=>(j6 P H X call callP f K n a s).bind fun x=>match x.1 with
  | .normal=>j6 P H X call callP f K (n+ji a) b x.2
  | e=>.leaf (e,x.2)
 | n,.cond c a b,s=>match zJ s.s [] c with
  | some (.one (.c (.bool t)))=>.br t (j6 P H X call callP f K n a s) (j6 P H X call callP f K (n+ji a) b s)
  | _=>.fail
 | n,.block id b,s=>(j6 P H X call callP f K n b s).bind fun x=>match x.1 with
  | .exit k=>.leaf (if k=id then .normal else .exit k,x.2)
  | e=>.leaf (e,x.2)
 | n,.loop b,s=>match X2 X.lx f n with
  | some h=>if s.dl.isEmpty then (h K s.s).bind fun x=>.leaf (x.1,⟨x.2,[]⟩) else .fail
  | none=>match kK H.lh f n with
   | some h=>if s.dl.isEmpty then (h K s.s).bind fun x=>.leaf (x.1.toP,⟨x.2,[]⟩) else .fail
   | none=>XM (fun s'=>j6 P H X call callP f K (n+1) b s') X.rounds s
 | n,.scope b,s=>match Wg X.sx f with
  | some h=>if s.dl.isEmpty then (h K s.s).bind fun x=>.leaf (x.1,⟨x.2,[]⟩) else .fail
  | none=>(j6 P H X call callP f K n b s).bind fun x=>match x.1 with
   | .goto _=>.fail
   | e=>.leaf (e,x.2)
 | _,.label _,s=>.leaf (.normal,s)
 | _,.goto l,s=>.leaf (.goto l,s)
 | _,.exit id,s=>.leaf (.exit id,s)
 | _,.ret,s=>.leaf (.ret,s)
 | _,_,_=>.fail
def Ms:Code->Option (Oper × List Oper × Code)
 | .seq (.region _ ops false) x=>match ops.toList with
  | o::r=>match o.guard,o.op with
   | none,.call c=>match c.callee with
    | .builtin .recover=>some (o,r,x)
    | _=>none
   | _,_=>none
  | []=>none
 | _=>none
def jgM:Option CV->CV
 | none=>.nili
 | some y=>y
def jbR (P:Program) (H:Hd) (X:HdP) (call:ju) (callP:zc) (g:Nat) (cap:List CV) (pan:Option CV) (mem:Mem):Tree (Option CV × Mem) :=
 match nth P.funcs.toList g with
 | some fn=>match fn.body with
  | some c=>match Ms c with
   | some (o, r, x) => if Nat.ble cap.length fn.ntmps && qH P g then
     let s0:St:=⟨cap.map (fun a=>⟨[],.one (.c a)⟩)++List.replicate (fn.ntmps - cap.length) ⟨[],.any⟩,mem⟩
     (Zs P H X call callP (o::r) r ⟨s0.put o.dst [] (.one (.c (jgM pan))),[]⟩).bind fun y=>match y.1 with
      | .normal=>(j6 P H X call callP g mem.length 0 x ⟨{ y.2.s with tmps:=y.2.s.tmps.map unkey },y.2.dl⟩).bind fun z=>match z.1,z.2.dl with
       | .normal,[]=>if (zN P z.2.s fn.results.toList).isSome then .leaf (none,z.2.s.mem) else .fail
       | .ret,[]=>if (zN P z.2.s fn.results.toList).isSome then .leaf (none,z.2.s.mem) else .fail
       | _,_=>.fail
      | _=>.fail
     else .fail
   | none=>.fail
  | none=>.fail
 | none=>.fail
def kp (P:Program) (H:Hd) (X:HdP) (call:ju) (callP:zc) (fn:Func) (s:St):List CV->Option CV->Mem->Tree (Out × Mem)
 | [],none,mem=>match zN P { s with mem:=mem } fn.results.toList with
  | some l=>.leaf (.ret (HX l),mem)
  | none=>.fail
 | [],some y,mem=>.leaf (.pan y,mem)
 | d::dl,u,mem=>match d with
  | .fn (.func g) [] cap=>(jbR P H X call callP g cap u mem).bind fun y=>kp P H X call callP fn s dl y.1 y.2
  | _=>.fail
def zO (P:Program) (H:Hd) (X:HdP):Nat->zc
 | 0,_,_,_=>.fail
 | n+1,f,args,mem=>match Yz X.px f with
  | some G=>G args mem
  | none=>match nth P.funcs.toList f with
   | some fn=>match fn.body with
    | some c => if Nat.ble args.length fn.ntmps then
      (j6 P H X (jZ P H n) (zO P H X n) f mem.length 0 c ⟨⟨args.map (fun a=>⟨[],.one a⟩)++List.replicate (fn.ntmps - args.length) ⟨[],.any⟩,mem⟩,[]⟩).bind fun x=>match x.1 with
       | .exit _=>.fail
       | .goto _=>.fail
       | .pan y=>kp P H X (jZ P H n) (zO P H X n) fn x.2.s x.2.dl (some y) x.2.s.mem
       | _=>kp P H X (jZ P H n) (zO P H X n) fn x.2.s x.2.dl none x.2.s.mem
      else .fail
    | none=>.fail
   | none=>.fail
def Out.Ends (F:Nat->Prop) (w:World) (bs:List BI):Out->Ending->Prop
 | .ret a,e=>∃ v,e=.returned v∧a.Rel F w bs v
 | .pan x,e=>∃ v,e=.panicked [{ v,recovered:=false }]∧x.Rel F w bs v
def LocFn (G:List A1->Mem->Tree (Out × Mem)):Prop :=
 ∀ b rest M r M',(G (.c (.ptr b 0)::rest) M).sel=some (r,M')->∀ mem,nth mem b=nth M b ->
  ∃ e,M'=jk M b e∧(G (.c (.ptr b 0)::rest) mem).sel=some (r,jk mem b e)
structure CallPOk (P:Program) (X:HdP) (callP:zc):Prop where
 ok:∀ f args mem r mem',(callP f args mem).sel=some (r,mem')->∀ F w bs vs,MemRel P F w bs mem->All2 (A1.Rel F w bs) args vs ->
  Calls P f vs.toArray w (fun e w'=>∃ F' bs',Ext bs.length F w bs F' w' bs'∧MemRel P F' w' bs' mem'∧r.Ends F' w' bs' e)
 loc:∀ f,JE f X.lo=true->LocFn (callP f)
def jnP (P:Program) (f:Nat) (G:List A1->List A1->Tree Out):Prop :=
 ∀ args mem r,(args.map (zo mem)).all jB=true->(G args (args.map (zo mem))).sel=some r->∀ F w bs vs,MemRel P F w bs mem->All2 (A1.Rel F w bs) args vs ->
  Calls P f vs.toArray w (fun e w'=>Below w.heap.size w w'∧r.Ends F w' bs e)
def WR (P:Program) (rx:List (Nat × (List A1->List A1->Tree Out))):Prop:=∀ f G,XJ rx f=some G->jnP P f G
def DRel (F:Nat->Prop) (w:World) (bs:List BI) (c:CV) (d:Deferred):Prop :=
 ∃ g cap vs,c=.fn (.func g) [] cap∧d={ target:=.fn (.func g) vs.toArray,args:=#[] }∧All2 (CV.Rel F w bs) cap vs
theorem All2.grow {F F' bs bs' w w'} (g:Grow F F' bs bs' w w'):∀ {l:List CV} {vs:List Value},All2 (CV.Rel F w bs) l vs->All2 (CV.Rel F' w' bs') l vs
 | _,_,.nil=>.nil
 | _,_,.cons h r=>.cons (h.grow g) (All2.grow g r)
theorem DRel.grow {F F' bs bs' w w' c d} (g:Grow F F' bs bs' w w') (h:DRel F w bs c d):DRel F' w' bs' c d :=
 let ⟨f,cap,vs,h1,h2,h3⟩:=h
 ⟨f,cap,vs,h1,h2,h3.grow g⟩
def DsRel (F:Nat->Prop) (w:World) (bs:List BI) (dl:List CV) (D:List Deferred):Prop:=All2 (DRel F w bs) dl D
theorem DsRel.grow {F F' bs bs' w w'} (g:Grow F F' bs bs' w w'):∀ {dl D},DsRel F w bs dl D->DsRel F' w' bs' dl D
 | _,_,.nil=>.nil
 | _,_,.cons h r=>.cons (h.grow g) (DsRel.grow g r)
variable {P:Program}
theorem TR {a : Act} {t : TypeId} {x : Operand} {ms : Array (String × TypeId)} (hz : a.eval x = .nilIface) (hu : P.underlying t = some (.interface ms)) (w : World) :
  (do eqGuard .neq t x (.const .nilIface) (a.eval x) (a.eval (.const .nilIface));binOp .neq t (a.eval x) (a.eval (.const .nilIface)):Sem Value).run P w=.ok (.bool false) w:=by
 rw [hz]
 have e1:eqGuard .neq t x (.const .nilIface) .nilIface (a.eval (.const .nilIface))=(pure ():Sem Unit):=by
  show eqGuard .neq t x (.const .nilIface) .nilIface .nilIface=_;cases x<;>rfl
 have e2:binOp .neq t .nilIface (a.eval (.const .nilIface))=(do pure (.bool (!(← Op.equal t .nilIface .nilIface))):Sem Value):=rfl
 have e3:(Op.equal t .nilIface .nilIface).run P w=.ok true w:=by
  have h:∀ d,(Op.equalIn (d+1) t .nilIface .nilIface).run P w=.ok true w:=fun d=>by simp [Op.equalIn,run_underlying hu]
  exact h 9999
 rw [e1,e2];simp [e3]
theorem Vu {a : Act} {t t' : TypeId} {v : Value} {x : Operand} {ms : Array (String × TypeId)} (hz : a.eval x = .iface t' v) (hu : P.underlying t = some (.interface ms)) (w : World) :
  (do eqGuard .neq t x (.const .nilIface) (a.eval x) (a.eval (.const .nilIface));binOp .neq t (a.eval x) (a.eval (.const .nilIface)):Sem Value).run P w=.ok (.bool true) w:=by
 rw [hz]
 have e1:eqGuard .neq t x (.const .nilIface) (.iface t' v) (a.eval (.const .nilIface))=(pure ():Sem Unit):=by
  show eqGuard .neq t x (.const .nilIface) (.iface t' v) .nilIface=_;rfl
 have e2:binOp .neq t (.iface t' v) (a.eval (.const .nilIface))=(do pure (.bool (!(← Op.equal t (.iface t' v) .nilIface))):Sem Value):=rfl
 have e3:(Op.equal t (.iface t' v) .nilIface).run P w=.ok false w:=by
  have h:∀ d,(Op.equalIn (d+1) t (.iface t' v) .nilIface).run P w=.ok false w:=fun d=>by simp [Op.equalIn,run_underlying hu]
  exact h 9999
 rw [e1,e2];simp [e3]
theorem jjB {F : Nat -> Prop} {w : World} {bs : List BI} {ρ : Operand -> Option AV} {a : Act} (hρ : ∀ x av, ρ x = some av -> av.Rel F w bs (a.eval x)) {o : Oper} {r : AV} (h : B4 P ρ o.op = some r) :
  ∃ v,r.Rel F w bs v∧(execOp a.eval o).run P w=.ok (.value v) w:=by
 unfold B4 at h;split at h
 ·rename_i t x ho;split at h
  ·simp at h
  ·rename_i d hd hne;split at h
   ·rename_i y hy;split at h
    ·simp at h;subst h;have hr:=hρ _ _ hy;refine ⟨.iface t (a.eval x),CV.Rel.iface hr,?_⟩;unfold execOp;rw [ho];simp only [Instr.makeInterface,Sem.run_bind,run_underlying hne];cases d<;>first | rfl | (exact absurd rfl (hd _))
    ·simp at h
   ·rename_i l hy;split at h
    ·simp at h;subst h;obtain ⟨vs,hz,hr⟩:=hρ _ _ hy
     refine ⟨.iface t (a.eval x),by rw [hz];exact CV.Rel.ifa hr.length (fun i x v h1 h2=>by
      obtain ⟨v',hv',hr'⟩:=hr.nth h1;rw [jd] at h2;rw [h2] at hv';cases hv';exact hr'),?_⟩
     unfold execOp;rw [ho];simp only [Instr.makeInterface,Sem.run_bind,run_underlying hne];cases d<;>first | rfl | (exact absurd rfl (hd _))
    ·simp at h
   ·simp at h
  ·simp at h
 ·rename_i x t0 a0 ho;split at h
  ·simp at h
  ·rename_i d hd hne;split at h
   ·rename_i t y hy;split at h
    ·rename_i ht;have ht:=eq_of_beq ht;subst ht;simp at h;subst h;have hr:=hρ _ _ hy;generalize hz:a.eval x=z at hr;cases hr with
     | iface hv =>
       rename_i v;refine ⟨.tuple #[v,.bool true],⟨[v,.bool true],rfl,.cons hv (.cons (CV.Rel.bool _) .nil)⟩,?_⟩;unfold execOp;rw [ho];simp only [Instr.typeAssert,Sem.run_bind,run_underlying hne,hz];cases d<;>first | exact (hd _ rfl).elim | simp
    ·simp at h
   ·rename_i t l hy;split at h
    ·rename_i ht;have ht:=eq_of_beq ht;subst ht;simp at h;subst h;have hr:=hρ _ _ hy;generalize hz:a.eval x=z at hr;cases hr with
     | ifa hl hv =>
       rename_i vs;refine ⟨.tuple #[.agg vs.toArray,.bool true],⟨[.agg vs.toArray,.bool true],rfl,.cons ⟨vs,rfl,All2.of_nth hl hv⟩ (.cons (CV.Rel.bool _) .nil)⟩,?_⟩;unfold execOp;rw [ho];simp only [Instr.typeAssert,Sem.run_bind,run_underlying hne,hz];cases d<;>first | exact (hd _ rfl).elim | simp
    ·simp at h
   ·simp at h
  ·simp at h
 ·rename_i t x z ho;split at h
  ·rename_i ms hu hy;simp at h;subst h;have hr:=hρ _ _ hy;generalize hz:a.eval x=y at hr;cases hr;refine ⟨.bool false,CV.Rel.bool _,?_⟩;unfold execOp;rw [ho];simp only [Sem.run_bind,TR hz hu w,Result.andThen_ok,Sem.run_pure]
  ·rename_i ms hu hy;simp at h;subst h;have hr:=hρ _ _ hy;generalize hz:a.eval x=y at hr;cases hr;refine ⟨.bool true,CV.Rel.bool _,?_⟩;unfold execOp;rw [ho];simp only [Sem.run_bind,Vu hz hu w,Result.andThen_ok,Sem.run_pure]
  ·rename_i ms hu hy;simp at h;subst h;have hr:=hρ _ _ hy;generalize hz:a.eval x=y at hr;cases hr;refine ⟨.bool true,CV.Rel.bool _,?_⟩;unfold execOp;rw [ho];simp only [Sem.run_bind,Vu hz hu w,Result.andThen_ok,Sem.run_pure]
  ·simp at h
 ·simp at h
theorem B8 {H : Hd} (hpc : SumOk P H) {X : HdP} (hrx : WR P X.rx) {call : ju} (hcall : CallOk P call) {callP : zc} (hcallP : CallPOk P X callP) {mem : Mem} {F : Nat -> Prop} {w : World} {bs : List BI} {a : Act} (hm : MemRel P F w bs mem) {ρ : List (Nat × Bool) -> Operand -> Option AV}
  (hρ:∀ K x av,KH a K->ρ K x=some av->av.Rel F w bs (a.eval x)) {o:Oper} {r:Out} {mem':Mem}
  (h:(QF P H X call callP mem ρ o.op).sel=some (r,mem')) {K:Act->World->Prop} {Q:Exit->Act->World->Prop}
  (hK:∀ F' w' bs' v av,r=.ret av->Ext bs.length F w bs F' w' bs'->MemRel P F' w' bs' mem'->av.Rel F' w' bs' v->K (a.put o.dst v) w')
  (hP:∀ F' w' bs' v x,r=.pan x->Ext bs.length F w bs F' w' bs'->MemRel P F' w' bs' mem'->x.Rel F' w' bs' v->Q (.panic [{ v,recovered:=false }]) a w'):o.wp P a w K Q:=by
 have h0:∀ x av,ρ [] x=some av->av.Rel F w bs (a.eval x):=fun x av hh=>hρ [] x av jA hh
 have plain:((qP P H call mem ρ o.op).bind fun y=>(.leaf (.ret y.1,y.2):Tree (Out × Mem))).sel=some (r,mem')->o.wp P a w K Q:=fun h=>by
  obtain ⟨⟨rv,m⟩,h1,h2⟩:=jh h;simp only [Tree.sel,sIq,pIq] at h2;obtain ⟨rfl,rfl⟩:=h2;exact Js hpc hcall hm hρ h1 fun F' w' bs' v hext hm hr=>hK F' w' bs' v rv rfl hext hm hr
 unfold QF at h;split at h
 ·rename_i v0 hv0;simp only [Tree.sel,sIq,pIq] at h;obtain ⟨rfl,rfl⟩:=h;obtain ⟨v,hr,hrun⟩:=jjB h0 hv0;unfold Oper.wp;rw [hrun];exact hK F w bs v v0 rfl Ext.refl hm hr
 ·split at h
  ·rename_i c ho;split at h
   ·split at h
    ·rename_i f args ht;split at h
     ·rename_i hc;obtain ⟨vs,hvs,hrun⟩:=Ya h0 ho ht hc;split at h
      ·rename_i G hG;split at h
       ·rename_i hcl;obtain ⟨r0,h1,h2⟩:=jh h;simp only [Tree.sel,sIq,pIq] at h2;obtain ⟨rfl,rfl⟩:=h2;unfold Oper.wp;rw [hrun];refine (hrx f G hG args mem r0 (by rw [aTq] at hcl;exact hcl.1) h1 F w bs vs hm hvs).mono fun e w' ⟨hb,hr⟩ => ?_
        cases r0 with
        | ret av =>
          obtain ⟨v,rfl,hv⟩:=hr;exact hK F w' bs v av rfl (Ext.of_below hb) (hm.below hb) hv
        | pan x =>
          obtain ⟨v,rfl,hv⟩:=hr;exact hP F w' bs v x rfl (Ext.of_below hb) (hm.below hb) hv
       ·simp [Tree.sel] at h
      ·split at h
       ·unfold Oper.wp;rw [hrun];refine (hcallP.ok f args _ _ _ h F w bs vs hm hvs).mono fun e w' ⟨F',bs',hext,hm',hr⟩ => ?_;cases r with
        | ret av =>
          obtain ⟨v,rfl,hv⟩:=hr;exact hK F' w' bs' v av rfl hext hm' hv
        | pan x =>
          obtain ⟨v,rfl,hv⟩:=hr;exact hP F' w' bs' v x rfl hext hm' hv
       ·exact plain h
     ·simp [Tree.sel] at h
    ·simp [Tree.sel] at h
   ·exact plain h
  ·exact plain h
theorem jec {H : Hd} (hpc : SumOk P H) {X : HdP} {call : ju} (hcall : CallOk P call) {callP : zc} (hcallP : CallPOk P X callP) {mem : Mem} {F : Nat -> Prop} {w : World} {bs : List BI} {a : Act} (hm : MemRel P F w bs mem) {ρ : Operand -> Option AV}
  (h0:∀ x av,ρ x=some av->av.Rel F w bs (a.eval x)) {o:Oper} {T:Tree (Out × Mem)} {r:Out} {mem':Mem}
  (h:MK P H call callP mem ρ o.op=some T) (hT:T.sel=some (r,mem')) {K:Act->World->Prop} {Q:Exit->Act->World->Prop}
  (hK:∀ F' w' bs' v av,r=.ret av->Ext bs.length F w bs F' w' bs'->MemRel P F' w' bs' mem'->av.Rel F' w' bs' v->K (a.put o.dst v) w')
  (hP:∀ F' w' bs' v x,r=.pan x->Ext bs.length F w bs F' w' bs'->MemRel P F' w' bs' mem'->x.Rel F' w' bs' v->Q (.panic [{ v,recovered:=false }]) a w'):o.wp P a w K Q:=by
 unfold MK at h;split at h
 ·rename_i c ho;split at h
  ·rename_i x m hcal;split at h
   ·rename_i y l hy hl;simp only [sIq] at h;subst h;obtain ⟨z,hz,hT⟩:=jh hT;split at hT
    ·rename_i f hf;split at hT
     ·rename_i hcl;have hr:CV.Rel F w bs y (a.eval x):=h0 _ _ hy;obtain ⟨u,hu,hru⟩:=F9 hr hz;have hargs:=zf h0 hl
      have hrun:∀ w',(execOp a.eval o).run P w'=.ok (.enter f (u::c.args.toList.map a.eval).toArray) w':=by
       intro w'
       have e2:(u::c.args.toList.map a.eval).toArray = #[u]++c.args.map a.eval:=by
        apply Array.ext';simp
       have e3:∀ l:Array Value,(#[Value.iface z.1 u]++l).extract 1 (#[Value.iface z.1 u]++l).size=l:=by
        intro l;apply Array.ext';simp
       unfold execOp;rw [ho];simp only [resolve,hcal,hu,Sem.run_bind,Sem.run_pure,Result.andThen_ok,invoke];have e4:(#[Value.iface z.1 u]++c.args.map a.eval)[0]? = some (.iface z.1 u):=by rw [Array.getElem?_append_left (by simp)];rfl
       simp only [e4,e3];rw [e2];exact Lj hf hcl u _ w'
      split at hT
      ·unfold Oper.wp;rw [hrun];refine (hcallP.ok f _ _ _ _ hT F w bs _ hm (.cons hru hargs)).mono fun e w' ⟨F',bs',hext,hm',hr⟩ => ?_;cases r with
       | ret av =>
         obtain ⟨v,rfl,hv⟩:=hr;exact hK F' w' bs' v av rfl hext hm' hv
       | pan x =>
         obtain ⟨v,rfl,hv⟩:=hr;exact hP F' w' bs' v x rfl hext hm' hv
      ·obtain ⟨⟨rv,m1⟩,h1,h2⟩:=jh hT;simp only [Tree.sel,sIq,pIq] at h2;obtain ⟨rfl,rfl⟩:=h2;exact Dk hpc hcall hm hcl (.cons hru hargs) hrun h1 fun F' w' bs' v hext hm hr=>hK F' w' bs' v rv rfl hext hm hr
     ·simp [Tree.sel] at hT
    ·simp [Tree.sel] at hT
   ·simp at h
  ·simp at h
 ·rename_i t x ho;split at h
  ·rename_i t' ht';simp only [sIq] at h;subst h;obtain ⟨⟨rv,m1⟩,h1,h2⟩:=jh hT;simp only [Tree.sel,sIq,pIq] at h2;obtain ⟨rfl,rfl⟩:=h2;exact MF hpc hcall hm h0 (by rw [ho];exact ht') h1 fun F' w' bs' v hext hm hr=>hK F' w' bs' v rv rfl hext hm hr
  ·simp at h
 ·simp at h
theorem jfG {H : Hd} (hpc : SumOk P H) {X : HdP} (hrx : WR P X.rx) {call : ju} (hcall : CallOk P call) {callP : zc} (hcallP : CallPOk P X callP) {mem : Mem} {F : Nat -> Prop} {w : World} {bs : List BI} {a : Act} (hm : MemRel P F w bs mem) {ρ : List (Nat × Bool) -> Operand -> Option AV}
  (hρ:∀ K x av,KH a K->ρ K x=some av->av.Rel F w bs (a.eval x)) {o:Oper} {r:Out} {mem':Mem}
  (h:(O0 P H X call callP mem ρ o.op).sel=some (r,mem')) {K:Act->World->Prop} {Q:Exit->Act->World->Prop}
  (hK:∀ F' w' bs' v av,r=.ret av->Ext bs.length F w bs F' w' bs'->MemRel P F' w' bs' mem'->av.Rel F' w' bs' v->K (a.put o.dst v) w')
  (hP:∀ F' w' bs' v x,r=.pan x->Ext bs.length F w bs F' w' bs'->MemRel P F' w' bs' mem'->x.Rel F' w' bs' v->Q (.panic [{ v,recovered:=false }]) a w'):o.wp P a w K Q:=by
 unfold O0 at h;split at h
 ·rename_i t ht;exact jec hpc hcall hcallP hm (fun x av hh=>hρ [] x av jA hh) ht h hK hP
 ·exact B8 hpc hrx hcall hcallP hm hρ h hK hP
theorem jgi {H : Hd} (hpc : SumOk P H) {X : HdP} (hrx : WR P X.rx) {call : ju} (hcall : CallOk P call) {callP : zc} (hcallP : CallPOk P X callP) {s : StP} {F : Nat -> Prop} {w : World} {bs : List BI} {a : Act} (hs : StRel P a.defers F w bs s.s a) (hd : DsRel F w bs s.dl a.defers) {o : Oper} {r : Out} {mem' : Mem} {dl' : List CV}
  (h:(jb0 P H X call callP s o.op).sel=some (r,mem',dl')) {K:Act->World->Prop} {Q:Exit->Act->World->Prop}
  (hK:∀ F' w' bs' v av D',r=.ret av->Ext bs.length F w bs F' w' bs'->MemRel P F' w' bs' mem'->av.Rel F' w' bs' v->DsRel F' w' bs' dl' D'->K ({ a with defers:=D' }.put o.dst v) w')
  (hP:∀ F' w' bs' v x,r=.pan x->Ext bs.length F w bs F' w' bs'->MemRel P F' w' bs' mem'->x.Rel F' w' bs' v->DsRel F' w' bs' dl' a.defers->Q (.panic [{ v,recovered:=false }]) a w'):o.wp P a w K Q:=by
 have h0:∀ x av,zJ s.s [] x=some av->av.Rel F w bs (a.eval x):=fun x av hh=>qB hs jA hh
 have plain:((O0 P H X call callP s.s.mem (fun K=>zJ s.s K) o.op).bind fun y=>(.leaf (y.1,y.2,s.dl):Tree (Out × Mem × List CV))).sel=some (r,mem',dl')->o.wp P a w K Q:=fun h=>by
  obtain ⟨⟨rv,m⟩,h1,h2⟩:=jh h;simp only [Tree.sel,sIq,pIq] at h2;obtain ⟨rfl,rfl,rfl⟩:=h2;exact jfG hpc hrx hcall hcallP hs.mem (fun K x av hk hh=>qB hs hk hh) h1 (fun F' w' bs' v av e hext hm hr=>hK F' w' bs' v av a.defers e hext hm hr (hd.grow hext.grow)) fun F' w' bs' v x e hext hm hr=>hP F' w' bs' v x e hext hm hr (hd.grow hext.grow)
 unfold jb0 at h;split at h
 ·rename_i x ho;split at h
  ·rename_i y hy;split at h
   ·rename_i hc;simp only [Tree.sel,sIq,pIq] at h;obtain ⟨rfl,rfl,rfl⟩:=h;have hr:=h0 _ _ hy;have hr:y.Rel F w bs (a.eval x):=hr;generalize hz:a.eval x=z at hr;rw [aTq] at hc
    have go:∀ t v,a.eval x=.iface t v->CV.Rel F w bs y (.iface t v)->o.wp P a w K Q:=by
     intro t v hz hr;unfold Oper.wp
     have hrun:(execOp a.eval o).run P w=.halt (.panic (.iface t v)) w:=by
      unfold execOp;rw [ho];simp [hz,Instr.panic,goPanic]
     rw [hrun];exact hP F w bs _ _ rfl Ext.refl hs.mem hr hd
    cases hr<;>first | (simp [isIface] at hc;done) | skip
    ·rename_i t y v hv;exact go t v hz (.iface hv)
    ·rename_i t l vs hl hv;exact go t _ hz (.ifa hl hv)
   ·simp [Tree.sel] at h
  ·simp [Tree.sel] at h
 ·rename_i c ho;split at h
  ·rename_i x hcal harg;split at h
   ·rename_i g cap hx;simp only [Tree.sel,sIq,pIq] at h;obtain ⟨rfl,rfl,rfl⟩:=h;have hr:=h0 _ _ hx;generalize hz:a.eval x=z at hr;cases hr with
    | fn l1 l2 r1 r2 =>
      rename_i vf vc;have hvf:vf=[]:=List.length_eq_zero_iff.1 l1.symm;subst hvf
      have hrun:(execOp a.eval o).run P w=.ok (.defer { target:=.fn (.func g) vc.toArray,args:=#[] }) w:=by
       have ha:c.args = #[]:=by rw [← Array.toArray_toList (xs:=c.args),harg]
       unfold execOp;rw [ho];simp [resolve,hcal,hz,Deferred.ofValue,ha]
      unfold Oper.wp;rw [hrun];refine hK F w bs undef .any ({ target:=.fn (.func g) vc.toArray,args:=#[] }::a.defers) rfl Ext.refl hs.mem trivial (.cons ⟨g,cap,vc,rfl,rfl,All2.of_nth l2 r2⟩ hd)
   ·simp [Tree.sel] at h
  ·simp [Tree.sel] at h
 ·exact plain h
end Go.Sx
namespace Go.Sx
open Go Go.RowKit
variable {P:Program}
structure PRel (P:Program) (F:Nat->Prop) (w:World) (bs:List BI) (s:StP) (a:Act):Prop where
 st:StRel P a.defers F w bs s.s a
 ds:DsRel F w bs s.dl a.defers
def XRel (F:Nat->Prop) (w:World) (bs:List BI):XP->Exit->Prop
 | .normal,e=>e=.normal
 | .exit k,e=>e=.exit k
 | .ret,e=>e=.ret
 | .goto l,e=>e=.goto l
 | .pan x,e=>∃ v,e=.panic [{ v,recovered:=false }]∧x.Rel F w bs v
theorem StRel.setD {D D' F w bs s} {a:Act} (h:StRel P D F w bs s a):StRel P D' F w bs s { a with defers:=D' }:=⟨rfl,h.len,h.slots,h.mem⟩
theorem StRel.toP {D F w bs} {s:St} {dl:List CV} {a:Act} (h:StRel P D F w bs s a) (hd:DsRel F w bs dl D):PRel P F w bs ⟨s,dl⟩ a:=by
 have e:=h.defers;subst e;exact ⟨h,hd⟩
theorem JH {H : Hd} (hpc : SumOk P H) {X : HdP} (hrx : WR P X.rx) {call : ju} (hcall : CallOk P call) {callP : zc} (hcallP : CallPOk P X callP) {ops : Array Oper} {Q : Exit -> Act -> World -> Prop} {x : XP} {s' : StP} : ∀ (l : List Oper) (s : StP) {F : Nat -> Prop} {w : World} {bs : List BI} {a : Act},
  (Zs P H X call callP ops.toList l s).sel=some (x,s')->PRel P F w bs s a->(∀ F' w' bs' a' e,Ext bs.length F w bs F' w' bs'->PRel P F' w' bs' s' a'->XRel F' w' bs' x e->Q e a' w')->wpList P ops Q l a w
 | [], s, F, w, bs, a, h, hs, hQ => by
   simp only [Zs,Tree.sel,sIq,pIq] at h;obtain ⟨rfl,rfl⟩:=h;exact wpList_nil (hQ F w bs a _ Ext.refl hs rfl)
 | o :: r, s, F, w, bs, a, h, hs, hQ => by
   simp only [Zs] at h;split at h
   ·rename_i hg;obtain ⟨⟨rv,mem',dl'⟩,h1,h2⟩:=jh h;refine wpList_plain hg fun K hK=>jgi hpc hrx hcall hcallP hs.st hs.ds h1 (fun F' w' bs' v av D' hrv hext hm hr hd=>hK _ _ ?_) (fun F' w' bs' v y hrv hext hm hr hd => ?_)
    ·subst hrv;have hst:StRel P D' F' w' bs' { s.s with mem:=mem' } { a with defers:=D' }:=(hs.st.ext hext hm).setD
     exact JH hpc hrx hcall hcallP r _ h2 ((StRel.put hst (ks:=[]) (fun _ hp=>by cases hp) (fun _=>hr) (fun h=>(h jA).elim)).toP hd) fun F'' w'' bs'' a'' e he hs'' hx=>hQ _ _ _ _ _ (hext.trans he hext.le) hs'' hx
    ·subst hrv;simp only [Tree.sel,sIq,pIq] at h2;obtain ⟨rfl,rfl⟩:=h2;exact hQ F' w' bs' a _ hext ⟨hs.st.ext hext hm,hd⟩ ⟨v,rfl,hr⟩
   ·rename_i j b hg;split at h
    ·rename_i K hkeys;split at h
     ·simp [Tree.sel] at h
     rename_i hdst;simp only [Bool.not_eq_true] at hdst
     have hkd:∀ p ∈ K,some p.1 ≠ o.dst:=by
      intro p hp e;rw [List.any_eq_false] at hdst;exact hdst p hp (by simp [e])
     have hiff:=XQ hs.st hkeys;split at h
     ·rename_i hq;obtain ⟨⟨rv,mem'⟩,h1,h2⟩:=jh h;refine wpList_step fun KK hKK => ?_;by_cases hk:KH a K
      ·have hw:Region.wanted o (yielded ops a.tmps)=true:=(q8 hg _).2 (hiff.1 hk);rw [if_pos hw];have h1':=Zj h1 (ZF hs.st hk);have hρ:∀ K' x av,KH a K'->zJ s.s (K'++K) x=some av->av.Rel F w bs (a.eval x):=fun K' x av hk' hh=>qB hs.st (fun p hp=>(List.mem_append.1 hp).elim (hk' p) (hk p)) hh;have hme:=YA (ρ:=fun K'=>zJ s.s (K'++K)) hpc hs.st.mem hρ hq h1';subst hme;refine Js hpc hcall hs.st.mem hρ h1' fun F' w' bs' v hext hm hr=>hKK _ _ ?_;exact JH hpc hrx hcall hcallP r _ h2 ((StRel.put (hs.st.ext hext hm) hkd (fun _=>hr) (fun h=>(h hk).elim)).toP (hs.ds.grow hext.grow)) fun F'' w'' bs'' a'' e he hs'' hx=>hQ _ _ _ _ _ (hext.trans he hext.le) hs'' hx
      ·have hw:¬ Region.wanted o (yielded ops a.tmps)=true:=fun h=>hk (hiff.2 ((q8 hg _).1 h));rw [if_neg hw];exact hKK _ _ (JH hpc hrx hcall hcallP r _ h2 ((StRel.put hs.st hkd (fun h=>(hk h).elim) (fun _=>rfl)).toP hs.ds) hQ)
     ·split at h
      ·rename_i g hgd;have hgk:=Nn hs.st hgd;simp only [Tree.sel] at h;refine wpList_step fun KK hKK => ?_;by_cases hk:KH a K
       ·have hw:Region.wanted o (yielded ops a.tmps)=true:=(q8 hg _).2 (hiff.1 hk);rw [if_pos hw];rw [hgk.2 hk,cond_true] at h;obtain ⟨⟨rv,mem'⟩,h1,h2⟩:=jh h;have hρ:∀ K' x av,KH a K'->zJ s.s (K'++K) x=some av->av.Rel F w bs (a.eval x):=fun K' x av hk' hh=>qB hs.st (fun p hp=>(List.mem_append.1 hp).elim (hk' p) (hk p)) hh;refine Js hpc hcall hs.st.mem hρ h1 fun F' w' bs' v hext hm hr=>hKK _ _ ?_;exact JH hpc hrx hcall hcallP r _ h2 ((StRel.put (hs.st.ext hext hm) (fun _ hp=>by cases hp) (fun _=>hr) (fun h=>(h jA).elim)).toP (hs.ds.grow hext.grow)) fun F'' w'' bs'' a'' e he hs'' hx=>hQ _ _ _ _ _ (hext.trans he hext.le) hs'' hx
       ·have hw:¬ Region.wanted o (yielded ops a.tmps)=true:=fun h=>hk (hiff.2 ((q8 hg _).1 h));rw [if_neg hw];have hg0:g=false:=by cases hgv:g;rfl;exact (hk (hgk.1 hgv)).elim
        rw [hg0,cond_false] at h;exact hKK _ _ (JH hpc hrx hcall hcallP r _ h ((StRel.put hs.st hkd (fun h=>(hk h).elim) (fun _=>rfl)).toP hs.ds) hQ)
      ·simp [Tree.sel] at h
    ·simp [Tree.sel] at h
end Go.Sx
namespace Go.Sx
open Go Go.RowKit
structure APlan (all:List Oper) where
 st:Nat->St
 rs:Nat->AV
 T:Nat->Touch
 K:Nat->List (Nat × Bool)
 anc:Nat->Nat->Prop
 put:∀ i o,all[i]? = some o->(st (i+1)).tmps=((st i).put0 o.dst (K i) (rs i)).tmps
 same1:∀ i l,i<all.length->¬ (T i).wr l->obs (st (i+1)).mem l=obs (st i).mem l
 start:∀ sl ∈ (st 0).tmps,sl.keys=[]
 edges:∀ i o,all[i]? = some o->∀ e ∈ o.after,Region.binds .any e=true->e.on<i
 dsts:∀ (i j:Nat) (o o':Oper) (d:Tmp),all[i]? = some o->all[j]? = some o'->o.dst=some d->o'.dst=some d->i=j
 tmps:∀ (j:Nat) (o:Oper) (t:Tmp),all[j]? = some o->t ∈ tmpsIn o.op.operands.toList->(∃ (i:Nat) (oi:Oper),all[i]? = some oi∧oi.dst=some t∧(anc i j∨anc j i∨i=j))∨(∀ (i:Nat) (oi:Oper),all[i]? = some oi->oi.dst ≠ some t)
 guards:∀ (j:Nat) (o:Oper) (g:Nat) (b:Bool),all[j]? = some o->o.guard=some (g,b)->anc g j
 keys:∀ (j:Nat) (o:Oper) p,all[j]? = some o->p ∈ K j->∃ (i:Nat) (oi:Oper),all[i]? = some oi∧oi.dst=some p.1∧anc i j
 touch:∀ i j l,i<j->j<all.length->(T i).wr l∧(T j).at l∨(T i).at l∧(T j).wr l->anc i j
 lt:∀ i j,anc i j->i<j
 down:∀ (L N:Nat->Prop),(∀ j o,all[j]? = some o->N j->∀ e ∈ o.after,Region.binds .any e=true->L e.on)->(∀ j,L j->N j)->∀ i j,anc i j->N j->L i
variable {all:List Oper}
structure JA (p:APlan all) (L:Nat->Prop) (s:St):Prop where
 len:s.tmps.length=(p.st 0).tmps.length
 slots:∀ (i:Nat) (o:Oper) (d:Tmp),all[i]? = some o->o.dst=some d->(L i->nth s.tmps d=nth (jk (p.st 0).tmps d ⟨p.K i,p.rs i⟩) d)∧(¬ L i->nth s.tmps d=nth (p.st 0).tmps d)
 free:∀ d:Nat,(∀ (i:Nat) (o:Oper),all[i]? = some o->o.dst ≠ some d)->nth s.tmps d=nth (p.st 0).tmps d
 mem:∀ l,∃ i,i<=all.length∧obs s.mem l=obs (p.st i).mem l∧∀ k,k<all.length->(p.T k).wr l->(L k↔k<i)
theorem JA.put {p : APlan all} {L : Nat -> Prop} {s s1 : St} (h : JA p L s) {j : Nat} {o : Oper} (ho : all[j]? = some o) (ht : s1.tmps = (s.put0 o.dst (p.K j) (p.rs j)).tmps)
  (hm:∀ l,∃ i,i<=all.length∧obs s1.mem l=obs (p.st i).mem l∧∀ k,k<all.length->(p.T k).wr l->((L k∨k=j)↔k<i)):JA p (fun k=>L k∨k=j) s1:=by
 refine ⟨?_,fun i oi d hi hd => ?_,fun d hd => ?_,hm⟩
 ·rw [ht,← h.len];cases o.dst<;>simp [St.put0,jC]
 ·by_cases hij:i=j
  ·subst hij;rw [ho] at hi;simp at hi;subst hi;refine ⟨fun _ => ?_,fun hn=>(hn (.inr rfl)).elim⟩;rw [ht,hd];exact Vt h.len
  ·have hne:o.dst ≠ some d:=fun e=>hij (p.dsts i j oi o d hi ho hd e);rw [ht,Y9 hne];exact ⟨fun hl=>(h.slots i oi d hi hd).1 (hl.resolve_right hij),fun hn=>(h.slots i oi d hi hd).2 fun hl=>hn (.inl hl)⟩
 ·rw [ht,Y9 (hd j o ho)];exact h.free d hd
theorem JA.congr {p:APlan all} {L L':Nat->Prop} {s:St} (h:JA p L s) (hl:∀ k,k<all.length->(L k↔L' k)):JA p L' s:=by
 refine ⟨h.len,fun i o d hi hd => ?_,h.free,fun l => ?_⟩
 ·have:=hl i (qG hi)
  exact ⟨fun x=>(h.slots i o d hi hd).1 (this.2 x),fun x=>(h.slots i o d hi hd).2 fun y=>x (this.1 y)⟩
 ·obtain ⟨i,h1,h2,h3⟩:=h.mem l;exact ⟨i,h1,h2,fun k hk hw=>(hl k hk).symm.trans (h3 k hk hw)⟩
theorem QC {p:APlan all} {l i:Nat}:∀ (d:Nat),i+d<=all.length->(∀ k,i<=k->k<i+d->¬ (p.T k).wr l)->obs (p.st (i+d)).mem l=obs (p.st i).mem l
 | 0,_,_=>rfl
 | d + 1, hd, h => by
   rw [← Nat.add_assoc,p.same1 _ _ (by omega) (h (i+d) (by omega) (by omega))]
   exact QC d (by omega) fun k h1 h2=>h k h1 (by omega)
theorem We (p:APlan all):∀ j,j<=all.length->JA p (fun k=>k<j) (p.st j)
 | 0,_=>⟨rfl,fun i o d _ _=>⟨fun h=>by omega,fun _=>rfl⟩,fun _ _=>rfl,fun l=>⟨0,by omega,rfl,fun k _ _=>by simp⟩⟩
 | j + 1, hj => by
   have ho:all[j]? = some all[j]:=List.getElem?_eq_getElem (by omega)
   have hs:=p.put j _ ho;have h:=We p j (by omega)
   have:=h.put ho (s1:=p.st (j+1)) hs fun l=>⟨j+1,hj,rfl,fun k _ _=>by omega⟩
   exact this.congr fun k hk=>by omega
theorem JA.same {p : APlan all} {L : Nat -> Prop} {s : St} (h : JA p L s) {j : Nat} {o : Oper} (ho : all[j]? = some o) (hd : ∀ i, p.anc i j -> L i) (hL : ∀ i k, p.anc i k -> L k -> L i) (hj : ¬ L j) :
  (∀ t ∈ tmpsIn o.op.operands.toList,nth s.tmps t=nth (p.st j).tmps t)∧(∀ (i:Nat) (oi:Oper) (d:Tmp),all[i]? = some oi->oi.dst=some d->p.anc i j->nth s.tmps d=nth (p.st j).tmps d) ∧
  (∀ l,(p.T j).at l->obs s.mem l=obs (p.st j).mem l):=by
 have hjl:=qG ho;have ht:=We p j (by omega)
 have hs:∀ (i:Nat) (oi:Oper) (d:Tmp),all[i]? = some oi->oi.dst=some d->p.anc i j->nth s.tmps d=nth (p.st j).tmps d:=by
  intro i oi d hi hdd ha;rw [(h.slots i oi d hi hdd).1 (hd i ha),(ht.slots i oi d hi hdd).1 (p.lt i j ha)]
 refine ⟨fun t htt => ?_,hs,fun l hl => ?_⟩
 ·rcases p.tmps j o t ho htt with ⟨i,oi,hi,hdd,ha | ha | rfl⟩ | hf
  ·exact hs i oi t hi hdd ha
  ·rw [(h.slots i oi t hi hdd).2 (fun hl=>hj (hL _ _ ha hl)),(ht.slots i oi t hi hdd).2 (by have:=p.lt j i ha;omega)]
  ·rw [(h.slots i oi t hi hdd).2 hj,(ht.slots i oi t hi hdd).2 (by omega)]
  ·rw [h.free t hf,ht.free t hf]
 ·obtain ⟨i,hi,hob,hth⟩:=h.mem l;rw [hob];rcases Nat.le_total i j with hij | hij
  ·have := QC (p := p) (l := l) (i := i) (j - i) (by omega) fun k h1 h2 hw => by
    have hk:k<j:=by omega
    have ha:=p.touch k j l hk hjl (.inl ⟨hw,hl⟩)
    have:=(hth k (by omega) hw).1 (hd k ha)
    omega
   rw [show i+(j - i)=j by omega] at this
   exact this.symm
  ·have := QC (p := p) (l := l) (i := j) (i - j) (by omega) fun k h1 h2 hw => by
    have hlk:=(hth k (by omega) hw).2 (by omega)
    rcases Nat.lt_or_eq_of_le h1 with hlt | rfl
    ·exact hj (hL j k (p.touch j k l hlt (by omega) (.inr ⟨hl,hw⟩)) hlk)
    ·exact hj hlk
   rw [show j+(i - j)=i by omega] at this
   exact this
theorem JA.eq {p:APlan all} {L:Nat->Prop} {s:St} (h:JA p L s) (hall:∀ k,k<all.length->L k):s=p.st all.length:=by
 have ht:=(We p all.length (lRq _)).congr (L':=L) fun k hk=>⟨fun _=>hall k hk,fun _=>hk⟩
 have h1:s.tmps=(p.st all.length).tmps:=by
  apply List.ext_getElem?;intro d;rw [← jd,← jd];by_cases hf:∀ (i:Nat) (o:Oper),all[i]? = some o->o.dst ≠ some d
  ·rw [h.free d hf,ht.free d hf]
  ·have : ∃ (i : Nat) (o : Oper), all[i]? = some o ∧ o.dst = some d := by
    apply Classical.byContradiction;intro hn;exact hf fun i o hi hd=>hn ⟨i,o,hi,hd⟩
   obtain ⟨i,o,hi,hd⟩:=this;rw [(h.slots i o d hi hd).1 (hall i (qG hi)),(ht.slots i o d hi hd).1 (hall i (qG hi))]
 have h2:s.mem=(p.st all.length).mem:=by
  refine XY fun l => ?_;obtain ⟨i,hi,hob,hth⟩:=h.mem l;rw [hob]
  have:=QC (p:=p) (l:=l) (i:=i) (all.length - i) (by omega) fun k h1 h2 hw=>by
   have:=(hth k (by omega) hw).1 (hall k (by omega))
   omega
  rw [show i+(all.length - i)=all.length by omega] at this
  exact this.symm
 cases s;cases hh:p.st all.length
 simp_all
theorem JA.put_eq {p : APlan all} {L : Nat -> Prop} {s : St} (h : JA p L s) {j : Nat} {o : Oper} (ho : all[j]? = some o) (hL : ∀ i k, p.anc i k -> L k -> L i) (hj : ¬ L j) (K : List (Nat × Bool)) (v : AV) :
  s.put o.dst K v=s.put0 o.dst K v:=by
 cases hd:o.dst with
 | none=>rfl
 | some d =>
   have:s.tmps.map (Kd d)=s.tmps:=by
    refine (List.map_congr_left fun sl hsl => ?_).trans (List.map_id _);simp only [id,Kd];rw [if_neg];intro hany;obtain ⟨q,hq,hqd⟩:=List.any_eq_true.1 hany;obtain ⟨t,hn⟩:=kR hsl
    have hstart:nth (p.st 0).tmps t=some sl->False:=fun hx=>by
     have:=p.start sl (jH hx)
     rw [this] at hq;cases hq
    by_cases hf:∀ (i:Nat) (o:Oper),all[i]? = some o->o.dst ≠ some t
    ·exact hstart (by rw [← h.free t hf];exact hn)
    ·have : ∃ (i : Nat) (o : Oper), all[i]? = some o ∧ o.dst = some t := by
      apply Classical.byContradiction;intro hn;exact hf fun i o hi hd=>hn ⟨i,o,hi,hd⟩
     obtain ⟨i,oi,hi,hdi⟩:=this;by_cases hl:L i
     ·rw [(h.slots i oi t hi hdi).1 hl,jC,jd,List.getElem?_set_self'] at hn;cases hx:(p.st 0).tmps[t]? with
      | none=>rw [hx] at hn;simp at hn
      | some y =>
        rw [hx] at hn;simp at hn;subst hn;obtain ⟨i',oi',hi',hdi',ha⟩:=p.keys i oi q hi hq
        have:q.1=d:=by simpa using hqd
        rw [this] at hdi'
        have:=p.dsts i' j oi' o d hi' ho hdi' hd
        subst this;exact hj (hL _ _ ha hl)
     ·exact hstart (by rw [← (h.slots i oi t hi hdi).2 hl];exact hn)
   simp only [St.put,St.put0,this]
theorem JA.mem_step {p : APlan all} {L : Nat -> Prop} {s : St} (h : JA p L s) {j : Nat} {o : Oper} (ho : all[j]? = some o) (hd : ∀ i, p.anc i j -> L i) (hL : ∀ i k, p.anc i k -> L k -> L i) (hj : ¬ L j) {mem' : Mem}
  (hm:∀ l,((p.T j).wr l->obs mem' l=obs (p.st (j+1)).mem l)∧(¬ (p.T j).wr l->obs mem' l=obs s.mem l)) :
  ∀ l,∃ i,i<=all.length∧obs mem' l=obs (p.st i).mem l∧∀ k,k<all.length->(p.T k).wr l->((L k∨k=j)↔k<i):=by
 intro l;have hjl:=qG ho;by_cases hw:(p.T j).wr l
 ·refine ⟨j+1,by omega,(hm l).1 hw,fun k hk hwk=>⟨fun hx => ?_,fun hx => ?_⟩⟩
  ·rcases hx with hx | rfl
   ·rcases Nat.lt_or_ge j k with hjk | hjk
    ·exact (hj (hL j k (p.touch j k l hjk hk (.inl ⟨hw,(Touch.wr_at hwk)⟩)) hx)).elim
    ·omega
   ·omega
  ·rcases Nat.lt_or_eq_of_le (Nat.le_of_lt_succ hx) with hlt | rfl
   ·exact .inl (hd k (p.touch k j l hlt hjl (.inl ⟨hwk,(Touch.wr_at hw)⟩)))
   ·exact .inr rfl
 ·obtain ⟨i,hi,hob,hth⟩:=h.mem l;refine ⟨i,hi,by rw [(hm l).2 hw,hob],fun k hk hwk => ?_⟩
  have:k ≠ j:=fun e=>hw (e▸hwk)
  rw [← hth k hk hwk];simp [this]
end Go.Sx