/-
 Part TpA of the proof: EngA.
-/
import Derived.WalkKit
import Derived.WalkSpells
import Derived.WalkLawsBesides
import Derived.Deep.Quiet
import Derived.KernelRfl
namespace Go
theorem sIq {α:Type _} {a b:α}:(some a=some b)=(a=b):=Option.some.injEq a b
theorem pIq {α:Type _} {β:Type _} {a c:α} {b d:β}:((a,b)=(c,d))=(a=c∧b=d):=Prod.mk.injEq a b c d
theorem aTq {a b:Bool}:((a&&b)=true)=(a=true∧b=true):=Bool.and_eq_true a b
theorem lRq (n:Nat):n<=n:=Nat.le_refl n
end Go
namespace Go.Sx
inductive Sh where
 | bool
 | int (k:IntKind)
 | str
 | sl (es:List Sh)
 | rt (k:Nat)
 | ifc
def rtT (t:Nat):Option Nat:=if Nat.beq t 94 then some 0 else if Nat.beq t 96 then some 1 else none
def jl:Nat->List Sh
 | 0=>[.str,.int .i64,.rt 0]
 | _=>[.str,.sl [.str],.str,.int .i64,.rt 0,.rt 1,.rt 1,.int .i64]
def DG:Nat->Option (Nat × Bool × List Sh)
 | 0=>some (201,false,[.int .i64])
 | 1=>some (203,true,[.str,.int .i64])
 | 2=>some (206,true,[.str,.sl [.ifc]])
 | _=>none
def itN:Nat:=3
structure Val where
 B:List Nat->Bool
 N:List Nat->Int
 S:List Nat->ByteArray
 L:List Nat->Nat
def Val.at (ρ:Val) (i:Nat):Val:=⟨fun p=>ρ.B (i::p),fun p=>ρ.N (i::p),fun p=>ρ.S (i::p),fun p=>ρ.L (i::p)⟩
def Val.from (ρ:Val) (lo:Nat):Val where
 B:=fun | []=>false | i::p=>ρ.B ((lo+i)::p)
 N:=fun | []=>0 | i::p=>ρ.N ((lo+i)::p)
 S:=fun | []=>.empty | i::p=>ρ.S ((lo+i)::p)
 L:=fun | []=>0 | i::p=>ρ.L ((lo+i)::p)
inductive LpS where
 | ready
 | busy
 | done (e:Option Nat)
 | tab
inductive CV where
 | any
 | bool (b:Bool)
 | int (k:IntKind) (n:Int)
 | str (s:ByteArray)
 | nilp
 | ptr (b o:Nat)
 | rop (es:List Sh) (off:Nat) (ρ:Val)
 | nils
 | sl (es:List Sh) (n:Nat) (ρ:Val)
 | fn (f:Fn) (first cap:List CV)
 | nilf
 | nili
 | iface (t:TypeId) (v:CV)
 | ifa (t:TypeId) (l:List CV)
 | ifx (ρ:Val)
 | os (b sz:Nat)
 | rowp (b sz i off:Nat)
 | ost (b sz lo:Nat)
 | osh (b sz m:Nat)
 | oc (b m c:Nat)
 | row (fz:Bool) (es:List Sh) (n:Nat) (ρ:Val)
 | yld (b:Nat)
 | mp (ks:List ByteArray) (vs:List CV)
 | lp (f i:Nat) (st:LpS)
def cellOf:Sh->Val->CV
 | .bool,ρ=>.bool (ρ.B [])
 | .int k,ρ=>.int k (ρ.N [])
 | .str,ρ=>.str (ρ.S [])
 | .sl es,ρ=>.sl es (ρ.L []) ρ
 | .rt k,ρ=>.sl (jl k) (ρ.L []) ρ
 | .ifc,ρ=>.ifx ρ
def qY:List Sh->Nat->Val->List CV
 | [],_,_=>[]
 | s::r,i,ρ=>cellOf s (ρ.at i)::qY r (i+1) ρ
inductive A1 where
 | c (x:CV)
 | agg (l:List CV)
inductive AV where
 | any
 | one (x:A1)
 | tup (l:List A1)
inductive Tree (α:Type) where
 | leaf (a:α)
 | br (c:Bool) (t e:Tree α)
 | need (c:Bool) (t:Tree α)
 | fail
def Tree.bind {α β:Type}:Tree α->(α->Tree β)->Tree β
 | .leaf a,f=>f a
 | .br c t e,f=>.br c (t.bind f) (e.bind f)
 | .need c t,f=>.need c (t.bind f)
 | .fail,_=>.fail
def Tree.sel {α:Type}:Tree α->Option α
 | .leaf a=>some a
 | .br c t e=>bif c then t.sel else e.sel
 | .need c t=>bif c then t.sel else none
 | .fail=>none
def Tree.ofOpt {α:Type}:Option α->Tree α
 | some a=>.leaf a
 | none=>.fail
def shEq:Sh->Sh->Bool
 | .bool,.bool=>true
 | .int k,.int k'=>decide (k=k')
 | .str,.str=>true
 | .sl a,.sl b=>shsEq a b
 | .rt a,.rt b=>decide (a=b)
 | .ifc,.ifc=>true
 | _,_=>false
 where shsEq:List Sh->List Sh->Bool
 | [],[]=>true
 | a::l,b::r=>shEq a b&&shsEq l r
 | _,_=>false
def KU:List CV->Nat->Option CV
 | [],_=>none
 | x::_,0=>some x
 | _::r,n+1=>KU r n
def Val.byFst (f:Nat->Val):Val where
 B:=fun | []=>false | i::p=>(f i).B p
 N:=fun | []=>0 | i::p=>(f i).N p
 S:=fun | []=>.empty | i::p=>(f i).S p
 L:=fun | []=>0 | i::p=>(f i).L p
def Val.tagged (k:Nat) (f:Nat->Val):Val where
 B:=fun | []=>false | i::p=>(f i).B p
 N:=fun | []=>0 | i::p=>(f i).N p
 S:=fun | []=>.empty | i::p=>(f i).S p
 L:=fun | []=>k | i::p=>(f i).L p
def Kv (t:TypeId) (agg:Bool):Nat->Option (Nat × List Sh)
 | 0=>none
 | n+1=>match DG n with
  | some (t',a,es)=>if Nat.beq t' t&&(a==agg) then some (n,es) else Kv t agg n
  | none=>Kv t agg n
def Val.ofC0:CV->Val
 | .bool b=>⟨fun _=>b,fun _=>0,fun _=>.empty,fun _=>0⟩
 | .int _ n=>⟨fun _=>false,fun _=>n,fun _=>.empty,fun _=>0⟩
 | .str s=>⟨fun _=>false,fun _=>0,fun _=>s,fun _=>0⟩
 | .sl _ n σ=>⟨σ.B,σ.N,σ.S,fun p=>match p with | []=>n | i::q=>σ.L (i::q)⟩
 | .ifx ρ=>ρ
 | _=>⟨fun _=>false,fun _=>0,fun _=>.empty,fun _=>0⟩
def Val.ofC:CV->Val
 | .iface t x=>match Kv t false itN with
  | some (k,_)=>.tagged (k+1) fun _=>.ofC0 x
  | none=>.ofC0 .any
 | .ifa t l=>match Kv t true itN with
  | some (k,_)=>.tagged (k+1) fun i=>match KU l i with | some x=>.ofC0 x | none=>.ofC0 .any
  | none=>.ofC0 .any
 | x=>.ofC0 x
def Val.zero:Val:=⟨fun _=>false,fun _=>0,fun _=>.empty,fun _=>0⟩
def Yb:Sh->CV->Bool
 | .bool,.bool _=>true
 | .int k,.int k' _=>decide (k=k')
 | .str,.str _=>true
 | .sl es,.sl es' _ _=>shEq.shsEq es es'
 | .sl _,.nils=>true
 | .rt k,.sl es' _ _=>shEq.shsEq (jl k) es'
 | .rt _,.nils=>true
 | .ifc,.nili=>true
 | .ifc,.ifx _=>true
 | _,_=>false
def Qu:List Sh->List CV->Bool
 | [],[]=>true
 | s::r,x::l=>Yb s x&&Qu r l
 | _,_=>false
def fits (s:Sh) (x:CV):Bool:=Yb s x||(match s,x with
 | .ifc,.iface t y=>(match Kv t false itN with
  | some (_,[e])=>Yb e y
  | _=>false)
 | .ifc,.ifa t l=>(match Kv t true itN with
  | some (_,es)=>Qu es l
  | none=>false)
 | _,_=>false)
def YQ:List Sh->List CV->Bool
 | [],[]=>true
 | s::r,x::l=>fits s x&&YQ r l
 | _,_=>false
def Val.ofCs (l:List CV):Val:=.byFst fun i=>match nthC l i with | some x=>.ofC x | none=>.zero
 where nthC:List CV->Nat->Option CV
 | [],_=>none
 | x::_,0=>some x
 | _::r,n+1=>nthC r n
def yH (c:Bool) (a b:Val):Val:=⟨fun p=>bif c then a.B p else b.B p,fun p=>bif c then a.N p else b.N p,fun p=>bif c then a.S p else b.S p,fun p=>bif c then a.L p else b.L p⟩
def Val.cat (n:Nat) (a b:Val):Val:=.byFst fun i=>yH (Nat.blt i n) (a.at i) (b.at (i - n))
def Val.upd (a:Val) (i f:Nat) (x:CV):Val:=.byFst fun k=>yH (Nat.beq k i) (.byFst fun g=>yH (Nat.beq g f) (.ofC x) ((a.at k).at g)) (a.at k)
def Val.upds (a:Val) (i:Nat):Nat->List CV->Val
 | _,[]=>a
 | f,x::r=>(a.upd i f x).upds i (f+1) r
def nth {α:Type}:List α->Nat->Option α
 | [],_=>none
 | a::_,0=>some a
 | _::l,n+1=>nth l n
def jk {α:Type}:List α->Nat->α->List α
 | [],_,_=>[]
 | _::l,0,b=>b::l
 | a::l,n+1,b=>a::jk l n b
structure Slot where
 keys:List (Nat × Bool)
 v:AV
abbrev Mem:=List (Option (TypeId × List CV))
structure St where
 tmps:List Slot
 mem:Mem
def jep:AV:=.any
def jbA:Value->Option AV
 | .bool b=>some (.one (.c (.bool b)))
 | .int k n=>some (.one (.c (.int k n)))
 | .string s=>some (.one (.c (.str s)))
 | .pointer none=>some (.one (.c .nilp))
 | .slice none 0 0=>some (.one (.c .nils))
 | .nilFunc=>some (.one (.c .nilf))
 | .nilIface=>some (.one (.c .nili))
 | _=>none
def WM:Value->Option CV
 | .bool b=>some (.bool b)
 | .int k n=>some (.int k n)
 | .string s=>some (.str s)
 | .pointer none=>some .nilp
 | .slice none 0 0=>some .nils
 | .nilFunc=>some .nilf
 | .nilIface=>some .nili
 | _=>none
def kV:List Value->Option (List CV)
 | []=>some []
 | v::r=>match WM v,kV r with
  | some c,some l=>some (c::l)
  | _,_=>none
def Rs (K:List (Nat × Bool)) (p:Nat × Bool):Bool:=K.any fun q=>q.1==p.1&&q.2==p.2
def zJ (s:St) (K:List (Nat × Bool)):Operand->Option AV
 | .tmp t=>match nth s.tmps t with
  | some ⟨ks,v⟩=>if ks.all (Rs K) then some v else none
  | none=>none
 | .const v=>jbA v
 | .func f=>some (.one (.c (.fn (.func f) [] [])))
 | .global _=>none
def Qp (c:Bool):CV->CV->CV
 | .bool a,.bool b=>.bool (bif c then a else b)
 | .int k a,.int k' b=>if k=k' then .int k (bif c then a else b) else .any
 | .str a,.str b=>.str (bif c then a else b)
 | .nilp,.nilp=>.nilp
 | .nils,.nils=>.nils
 | .nilf,.nilf=>.nilf
 | .nili,.nili=>.nili
 | .ptr a o,.ptr b o'=>if a==b&&o==o' then .ptr a o else .any
 | .os a z,.os b z'=>if a==b&&z==z' then .os a z else .any
 | .sl es n ρ,.sl es' m σ=>if shEq.shsEq es es' then .sl es (bif c then n else m) (yH c ρ σ) else .any
 | .sl es n ρ,.nils=>.sl es (bif c then n else 0) ρ
 | .nils,.sl es n ρ=>.sl es (bif c then 0 else n) ρ
 | _,_=>.any
def yO (c:Bool):List CV->List CV->Option (List CV)
 | [],[]=>some []
 | a::l,b::r=>match yO c l r with
  | some m=>some (Qp c a b::m)
  | none=>none
 | _,_=>none
def F7 (c:Bool):A1->A1->Option A1
 | .c a,.c b=>some (.c (Qp c a b))
 | .agg a,.agg b=>match yO c a b with
  | some m=>some (.agg m)
  | none=>none
 | _,_=>none
def ZE (c:Bool):List A1->List A1->Option (List A1)
 | [],[]=>some []
 | a::l,b::r=>match F7 c a b,ZE c l r with
  | some x,some m=>some (x::m)
  | _,_=>none
 | _,_=>none
def Qr (c:Bool):AV->AV->AV
 | .tup a,.tup b=>match ZE c a b with
  | some m=>.tup m
  | none=>jep
 | .one (.c a),.one (.c b)=>.one (.c (Qp c a b))
 | .one (.agg a),.one (.agg b)=>match yO c a b with
  | some m=>.one (.agg m)
  | none=>jep
 | _,_=>jep
def YJ (P:Program) (f:Field):Bool :=
 f.name != "_" && P.cellsOf f.type==1&&(match P.underlying f.type with | some .bool | some (.int _) | some .string=>true | _=>false)
def eqFields (P:Program) (xs ys:List CV):List Field->Option Bool
 | []=>some true
 | f :: r =>
   if YJ P f then
    match nth xs f.offset,nth ys f.offset with
    | some a,some b=>match P.underlying f.type,a,b,eqFields P xs ys r with
     | some .bool,.bool p,.bool q,some e=>some ((p==q)&&e)
     | some (.int _),.int k p,.int k' q,some e=>if k=k' then some ((p==q)&&e) else none
     | some .string,.str p,.str q,some e=>some ((p==q)&&e)
     | _,_,_,_=>none
    | _,_=>none
   else none
def V4 (P:Program) (e:TypeId):Bool :=
 P.cellsOf e==1&&(match P.underlying e with | some .bool | some (.int _) | some .string=>true | _=>false)
def eqItems (P:Program) (e:TypeId) (xs ys:List CV):List Nat->Option Bool
 | []=>some true
 | i :: r => match nth xs i, nth ys i with
   | some a,some b=>match P.underlying e,a,b,eqItems P e xs ys r with
    | some .bool,.bool p,.bool q,some z=>some ((p==q)&&z)
    | some (.int _),.int k p,.int k' q,some z=>if k=k' then some ((p==q)&&z) else none
    | some .string,.str p,.str q,some z=>some ((p==q)&&z)
    | _,_,_,_=>none
   | _,_=>none
def Ru (P:Program) (t:TypeId):A1->A1->Option Bool
 | .c (.bool a),.c (.bool b)=>match P.underlying t with
  | some .bool=>some (a==b)
  | _=>none
 | .agg xs,.agg ys=>match P.underlying t with
  | some (.struct fs)=>if P.stoodInHeld t||P.eqGuardType P.depth t then none else eqFields P xs ys fs.toList
  | some (.array n e)=>if P.eqGuardType P.depth t||!V4 P e||(P.info? e).isNone then none else eqItems P e xs ys (List.range n)
  | _=>none
 | .c .nils,.c .nils=>match P.underlying t with | some (.slice _)=>some true | _=>none
 | .c .nilp,.c .nilp=>match P.underlying t with | some (.pointer _)=>some true | _=>none
 | .c (.ptr _ _),.c .nilp=>match P.underlying t with | some (.pointer _)=>some false | _=>none
 | _,_=>none
def lt (a b:Int):Bool:=decide (a<b)
def le (a b:Int):Bool:=decide (a<=b)
def jab (a b:Int):Int:=bif lt a b then b else a
def QM (a b:Int):Int:=bif lt b a then b else a
def jlS (k:IntKind) (a b:Int):Int:=k.wrap (a*2 ^ (min b.toNat k.bits))
def jkh (k:IntKind) (a b:Int):Int:=a.fdiv (2 ^ (min b.toNat k.bits))
def jj2 (k:IntKind) (a b:Int):Int:=k.wrap ((BitVec.ofInt k.bits a &&& BitVec.ofInt k.bits b).toNat:Nat)
def orI (k:IntKind) (a b:Int):Int:=k.wrap ((BitVec.ofInt k.bits a ||| BitVec.ofInt k.bits b).toNat:Nat)
def jkz (k:IntKind) (a b:Int):Int:=k.wrap ((BitVec.ofInt k.bits a ^^^ BitVec.ofInt k.bits b).toNat:Nat)
def I6 (k:IntKind) (a b:Int):Int:=k.wrap ((BitVec.ofInt k.bits a &&& ~~~ BitVec.ofInt k.bits b).toNat:Nat)
def kU:List UInt8->List UInt8->Bool
 | [],[]=>true
 | a::l,b::r=>Nat.beq a.toNat b.toNat&&kU l r
 | _,_=>false
def jb (a b:ByteArray):Bool:=kU a.data.toList b.data.toList
def zh (a b:ByteArray):ByteArray:=⟨⟨a.data.toList++b.data.toList⟩⟩
def kg (s:ByteArray) (lo hi:Nat):ByteArray:=⟨⟨(s.data.toList.take hi).drop lo⟩⟩
def jx (s:ByteArray) (i:Nat):Int:=match nth s.data.toList i with | some b=>(b.toNat:Int) | none=>0
def strOf (n:Int):ByteArray:=⟨⟨[UInt8.ofNat n.toNat]⟩⟩
def encI (n:Int):ByteArray:=bif le 0 n&&lt n 128 then strOf n else Utf8.encode n
def Ny (op:BinOp) (k:IntKind) (a b:Int):Tree AV :=
 let i (n:Int):Tree AV:=.leaf (.one (.c (.int k n)))
 let b' (x:Bool):Tree AV:=.leaf (.one (.c (.bool x)))
 match op with
 | .add=>i (k.wrap (a+b))
 | .sub=>i (k.wrap (a - b))
 | .mul=>i (k.wrap (a*b))
 | .quo=>.need (!(b==0)) (i (k.wrap (a.tdiv b)))
 | .rem=>.need (!(b==0)) (i (a.tmod b))
 | .eql=>b' (a==b)
 | .neq=>b' (a != b)
 | .lss=>b' (lt a b)
 | .leq=>b' (le a b)
 | .gtr=>b' (lt b a)
 | .geq=>b' (le b a)
 | .and=>i (jj2 k a b)
 | .or=>i (orI k a b)
 | .xor=>i (jkz k a b)
 | .andNot=>i (I6 k a b)
 | _=>.fail
def jbt (P:Program) (op:BinOp) (t:TypeId):AV->AV->Tree AV
 | .one (.c (.int k a)), .one (.c (.int k' b)) =>
   match op with
  | .shl=>.need (le 0 b) (.leaf (.one (.c (.int k (jlS k a b)))))
  | .shr=>.need (le 0 b) (.leaf (.one (.c (.int k (jkh k a b)))))
  | _=>if k=k' then Ny op k a b else .fail
 | .one (.c (.str a)), .one (.c (.str b)) =>
   match op with
  | .eql=>.leaf (.one (.c (.bool (jb a b))))
  | .neq=>.leaf (.one (.c (.bool (!jb a b))))
  | .add=>.need (Nat.ble (a.size+b.size) 9223372036854775807) (.leaf (.one (.c (.str (zh a b)))))
  | _=>.fail
 | .one a, .one b =>
   match op with
  | .eql=>match Ru P t a b with
   | some e=>.leaf (.one (.c (.bool e)))
   | none=>.fail
  | .neq=>match Ru P t a b with
   | some e=>.leaf (.one (.c (.bool (!e))))
   | none=>.fail
  | _=>.fail
 | _,_=>.fail
def je1 (op:UnOp):AV->Tree AV
 | .one (.c (.bool b))=>match op with
  | .not=>.leaf (.one (.c (.bool (!b))))
  | _=>.fail
 | .one (.c (.int k n))=>match op with
  | .neg=>.leaf (.one (.c (.int k (k.wrap (0 - n)))))
  | _=>.fail
 | _=>.fail
def takeN {α:Type}:List α->Nat->Option (List α)
 | _,0=>some []
 | [],_+1=>none
 | a::l,n+1=>match takeN l n with | some r=>some (a::r) | none=>none
def UB {α:Type}:List α->Nat->List α
 | l,0=>l
 | [],_+1=>[]
 | _::l,n+1=>UB l n
def JC (P:Program) (t:TypeId):Option Bool :=
 match P.underlying t with
 | some (.struct _) | some (.array _ _)=>some true
 | some _=>some false
 | none=>none
def partOf (P:Program) (t:TypeId) (cs:List CV) (off:Nat):Option A1 :=
 match JC P t with
 | some true=>match takeN (UB cs off) (P.cellsOf t) with | some l=>some (.agg l) | none=>none
 | some false=>match nth cs off with | some x=>some (.c x) | none=>none
 | none=>none
def A1.cells:A1->List CV
 | .agg l=>l
 | .c x=>[x]
def putCells:List CV->Nat->List CV->List CV
 | cs,_,[]=>cs
 | cs,o,x::r=>putCells (jk cs o x) (o+1) r
def ku (places:Nat->Option (Nat × Nat)):List CV->List (Nat × A1)->Option (List CV)
 | cs,[]=>some cs
 | cs,(i,v)::r=>match places i with
  | none=>none
  | some (off, size) =>
    if v.cells.length==size&&Nat.ble (off+v.cells.length) cs.length then ku places (putCells cs off v.cells) r else none
def Qc (ρ:Operand->Option AV):List (Nat × Operand)->Option (List (Nat × A1))
 | []=>some []
 | (i,x)::r=>match ρ x,Qc ρ r with
  | some (.one a),some l=>some ((i,a)::l)
  | _,_=>none
def jS (P:Program) (t:TypeId):Option (List CV) :=
 match P.info? t with
 | some i=>match i.zero with
  | some z=>kV z.cells.toList
  | none=>none
 | none=>none
def Lw (P:Program) (t:TypeId) (parts:List (Nat × A1)):Option AV :=
 match jS P t,P.underlying t with
 | some z,some (.struct fs)=>match ku (fun i=>match nth fs.toList i with | some f=>(match P.info? f.type with | some j=>some (f.offset,j.size) | none=>none) | none=>none) z parts with
  | some cs=>if fs.toList.all (fun f=>(P.info? f.type).isSome) then some (.one (.agg cs)) else none
  | none=>none
 | some z,some (.array _ e)=>match P.info? e with
  | some j=>match ku (fun i=>some (i*j.size,j.size)) z parts with
   | some cs=>some (.one (.agg cs))
   | none=>none
  | none=>none
 | _,_=>none
def kN (sh:TypeId->Option (List Sh)) (P:Program):Nat->List Field->Option (List Sh)
 | _,[]=>some []
 | o,f::r=>if f.offset==o then (match sh f.type with
  | some a=>if a.length==P.cellsOf f.type then (match kN sh P (o+a.length) r with | some b=>some (a++b) | none=>none) else none
  | none=>none) else none
def Xs (l:List Sh):Nat->List Sh
 | 0=>[]
 | n+1=>l++Xs l n
def ZR (P:Program):Nat->TypeId->Option (List Sh)
 | 0,_=>none
 | n+1,t=>match P.underlying t with
  | some .bool=>some [.bool]
  | some (.int k)=>some [.int k]
  | some .string=>some [.str]
  | some (.slice e)=>match rtT e with
   | some k=>if (jl k).length==P.cellsOf e then some [.rt k] else none
   | none=>match ZR P n e with
    | some es=>if es.length==P.cellsOf e&&!es.isEmpty then some [.sl es] else none
    | none=>none
  | some (.struct fs)=>match kN (ZR P n) P 0 fs.toList with
   | some l=>if l.length==P.cellsOf t then some l else none
   | none=>none
  | some (.array m e)=>match ZR P n e with
   | some es=>if es.length==P.cellsOf e&&(Xs es m).length==P.cellsOf t then some (Xs es m) else none
   | none=>none
  | some (.interface _)=>if P.cellsOf t==1 then some [.ifc] else none
  | _=>none
def ja (n:Nat):Int:=Int.ofNat n
def Rq (P:Program) (t:TypeId):AV->Tree AV
 | .one (.c (.sl _ n _))=>match P.underlying t with
  | some (.slice _)=>.leaf (.one (.c (.int .i64 (ja n))))
  | _=>.fail
 | .one (.c (.oc _ m _))=>match P.underlying t with
  | some (.slice _)=>.leaf (.one (.c (.int .i64 (ja m))))
  | _=>.fail
 | .one (.c .nils)=>match P.underlying t with
  | some (.slice _)=>.leaf (.one (.c (.int .i64 0)))
  | _=>.fail
 | .one (.c (.str s))=>match P.underlying t with
  | some .string=>.leaf (.one (.c (.int .i64 (ja s.size))))
  | _=>.fail
 | _=>.fail
def qs (k:IntKind):Int->List A1->Option Int
 | a,[]=>some a
 | a,.c (.int _ b)::r=>qs k (jab a b) r
 | _,_=>none
def qt (k:IntKind):Int->List A1->Option Int
 | a,[]=>some a
 | a,.c (.int _ b)::r=>qt k (QM a b) r
 | _,_=>none
def jad (mx:Bool):List A1->Tree AV
 | .c (.int k a)::r=>match (if mx then qs k a r else qt k a r) with
  | some n=>.leaf (.one (.c (.int k n)))
  | none=>.fail
 | _=>.fail
def zq (ρ:Operand->Option AV):List Operand->Option (List A1)
 | []=>some []
 | x::r=>match ρ x,zq ρ r with
  | some (.one a),some l=>some (a::l)
  | _,_=>none
def Yp {α:Type} (i:Int):Int->List α->Tree α
 | _,[]=>.fail
 | _,[a]=>.leaf a
 | j,a::r=>.br (i==j) (.leaf a) (Yp i (j+1) r)
def joW:A1->Bool
 | .c (.fn _ _ _)=>true
 | _=>false
def UD (i:Int):Int->List A1->AV
 | _,[]=>.any
 | _,[a]=>.one a
 | j,a::r=>Qr (i==j) (.one a) (UD i (j+1) r)
def partsOf (P:Program) (e:TypeId) (cs:List CV):(count off step:Nat)->Option (List A1)
 | 0,_,_=>some []
 | n+1,off,step=>match partOf P e cs off,partsOf P e cs n (off+step) step with
  | some a,some l=>some (a::l)
  | _,_=>none
def jc (i:Int) (n:Nat):Bool:=le 0 i&&lt i (ja n)
def L2 (P:Program) (t:TypeId):AV->AV->Tree AV
 | .one (.agg cs),.one (.c (.int _ i))=>match P.underlying t with
  | some (.array len e)=>match P.info? e with
   | some j=>match partsOf P e cs len 0 j.size with
    | some []=>.fail
    | some (p::ps)=>.need (jc i len) (if joW p then (Yp i 0 (p::ps)).bind fun a=>.leaf (.one a) else .leaf (UD i 0 (p::ps)))
    | none=>.fail
   | none=>.fail
  | _=>.fail
 | .one (.c (.str s)),.one (.c (.int _ i))=>match P.underlying t with
  | some .string=>.need (jc i s.size) (.leaf (.one (.c (.int .u8 (jx s i.toNat)))))
  | _=>.fail
 | _,_=>.fail
def jdn (n:Nat) (ρ:Val):ByteArray:=((List.range n).map fun i=>((ρ.at i).at 0).N []).foldl (fun r n=>r.push (UInt8.ofNat n.toNat)) ByteArray.empty
def O8 (P:Program) (s d:TypeId):Option AV->Option AV
 | some (.one (.c (.sl [.int .u8] n ρ)))=>match P.underlying s,P.underlying d with
  | some (.slice e),some .string=>match P.underlying e with
   | some (.int .u8)=>some (.one (.c (.str (jdn n ρ))))
   | _=>none
  | _,_=>none
 | some (.one (.c .nils))=>match P.underlying s,P.underlying d with
  | some (.slice e),some .string=>match P.underlying e with
   | some (.int .u8)=>some (.one (.c (.str ByteArray.empty)))
   | _=>none
  | _,_=>none
 | _=>none
def evPure0 (P:Program) (ρ:List (Nat × Bool)->Operand->Option AV):Op->Tree AV
 | .move x | .assign x=>.ofOpt (ρ [] x)
 | .pick (.tmp t) a b=>match ρ [] (.tmp t),ρ [(t,true)] a,ρ [(t,false)] b with
  | some (.one (.c (.bool c))),some va,some vb=>.leaf (Qr c va vb)
  | _,_,_=>.fail
 | .build t parts=>match Qc (ρ []) parts.toList with
  | some l=>.ofOpt (Lw P t l)
  | none=>.fail
 | .binOp op t x y _=>match ρ [] x,ρ [] y with
  | some a,some b=>jbt P op t a b
  | _,_=>.fail
 | .unOp op _ x=>match ρ [] x with
  | some a=>je1 op a
  | none=>.fail
 | .convert s d x=>match P.underlying s,P.underlying d,ρ [] x with
  | some _,some (.int k),some (.one (.c (.int _ n)))=>.leaf (.one (.c (.int k (k.wrap n))))
  | some (.int _),some .string,some (.one (.c (.int _ n)))=>.leaf (.one (.c (.str (encI n))))
  | _,_,_=>.fail
 | .extract x i=>match ρ [] x with
  | some (.tup l)=>match nth l i with
   | some a=>.leaf (.one a)
   | none=>.fail
  | _=>.fail
 | .field t x i=>match P.underlying t,ρ [] x with
  | some (.struct fs),some (.one (.agg cs))=>match nth fs.toList i with
   | some f=>match partOf P f.type cs f.offset with
    | some a=>.leaf (.one a)
    | none=>.fail
   | none=>.fail
  | _,_=>.fail
 | .fieldAddr t x i=>match P.underlying t,ρ [] x with
  | some (.struct fs),some (.one (.c (.ptr b o)))=>match nth fs.toList i with
   | some f=>match P.info? f.type with
    | some j=>if j.size==0 then .fail else .leaf (.one (.c (.ptr b (o+f.offset))))
    | none=>.fail
   | none=>.fail
  | some (.struct fs),some (.one (.c (.rop es off ρ)))=>match nth fs.toList i with
   | some f=>match P.info? f.type with
    | some j=>if j.size==0 then .fail else .leaf (.one (.c (.rop es (off+f.offset) ρ)))
    | none=>.fail
   | none=>.fail
  | some (.struct fs),some (.one (.c (.rowp b sz i' off)))=>match nth fs.toList i with
   | some f=>match P.info? f.type with
    | some j=>if j.size==0 then .fail else .leaf (.one (.c (.rowp b sz i' (off+f.offset))))
    | none=>.fail
   | none=>.fail
  | _,_=>.fail
 | .indexAddr t x i=>match P.underlying t,ρ [] x,ρ [] i with
  | some (.slice e),some (.one (.c (.sl es n ρ))),some (.one (.c (.int _ i)))=>match P.info? e with
   | some j=>if j.size==es.length then .need (jc i n) (.leaf (.one (.c (.rop es 0 (ρ.at i.toNat))))) else .fail
   | none=>.fail
  | some (.array len e),some (.one (.c (.ptr b o))),some (.one (.c (.int _ i)))=>match P.info? e with
   | some j=>.need (jc i len) ((Yp i 0 (List.range len)).bind fun k=>.leaf (.one (.c (.ptr b (o+k*j.size)))))
   | none=>.fail
  | some (.slice e),some (.one (.c (.oc b m _))),some (.one (.c (.int _ i)))=>match P.info? e with
   | some j=>if j.size==1 then .need (jc i m) ((Yp i 0 (List.range m)).bind fun k=>.leaf (.one (.c (.ptr b k)))) else .fail
   | none=>.fail
  | _,_,_=>.fail
 | .index t x i=>match ρ [] x,ρ [] i with
  | some a,some b=>L2 P t a b
  | _,_=>.fail
 | .makeFunc f first cap=>match zq (ρ []) first.toList,zq (ρ []) cap.toList with
  | some a,some b=>match cellsOnly a,cellsOnly b with
   | some x,some y=>.leaf (.one (.c (.fn f x y)))
   | _,_=>.fail
  | _,_=>.fail
 | .nilCheck x=>match ρ [] x with
  | some (.one (.c (.ptr b o)))=>.leaf (.one (.c (.ptr b o)))
  | some (.one (.c (.rop es off ρ)))=>.leaf (.one (.c (.rop es off ρ)))
  | some (.one (.c (.rowp b sz i off)))=>.leaf (.one (.c (.rowp b sz i off)))
  | some (.one (.c (.fn (.func f) a b)))=>.leaf (.one (.c (.fn (.func f) a b)))
  | _=>.fail
 | .call { callee:=.builtin .len,args,argTypes }=>match zq (ρ []) args.toList,argTypes.toList with
  | some [a],[t]=>Rq P t (.one a)
  | _,_=>.fail
 | .call { callee:=.builtin .max,args,.. }=>match zq (ρ []) args.toList with
  | some l=>jad true l
  | none=>.fail
 | .call { callee:=.builtin .min,args,.. }=>match zq (ρ []) args.toList with
  | some l=>jad false l
  | none=>.fail
 | _=>.fail
 where
 cellsOnly:List A1->Option (List CV)
 | []=>some []
 | .c x::r=>match cellsOnly r with | some l=>some (x::l) | none=>none
 | _=>none
def GD (P:Program) (t:TypeId):Option AV->Option AV->Option (Tree AV)
 | some (.one (.c (.ptr b o))),some (.one (.c (.int _ i)))=>match P.underlying t with
  | some (.array len e)=>match P.info? e with
   | some j=>some (cond (jc i len) (.leaf (.one (.c (.ptr b (o+i.toNat*j.size))))) .fail)
   | none=>none
  | _=>none
 | _,_=>none
def JU (P:Program) (B1:Bool) (ρ:List (Nat × Bool)->Operand->Option AV):Op->Tree AV
 | .indexAddr t x i=>match (if B1 then GD P t (ρ [] x) (ρ [] i) else none) with
  | some r=>r
  | none=>evPure0 P ρ (.indexAddr t x i)
 | .convert s d x=>match O8 P s d (ρ [] x) with
  | some v=>.leaf v
  | none=>evPure0 P ρ (.convert s d x)
 | op=>evPure0 P ρ op
inductive XE where
 | normal
 | exit (id:Nat)
 | ret
structure Hd where
 pc:List (Nat × (List A1->Tree AV))
 hc:List (Nat × (List A1->Tree AV)):=[]
 lh:List ((Nat × Nat) × (Nat->St->Tree (XE × St)))
 mc:List (Nat × (List A1->Mem->Tree (AV × Mem)))
def Uu:List (Nat × (List A1->Mem->Tree (AV × Mem)))->Nat->Option (List A1->Mem->Tree (AV × Mem))
 | [],_=>none
 | (k,F)::r,f=>if k==f then some F else Uu r f
def oG (G:List A1->Option AV) (args:List A1):Tree AV :=
 match G args with
 | some r=>.leaf r
 | none=>.fail
def qT:List (Nat × (List A1->Tree AV))->Nat->Option (List A1->Tree AV)
 | [],_=>none
 | (k,F)::r,f=>if k==f then some F else qT r f
def kK:List ((Nat × Nat) × (Nat->St->Tree (XE × St)))->Nat->Nat->Option (Nat->St->Tree (XE × St))
 | [],_,_=>none
 | (k,F)::r,f,i=>if k.1==f&&k.2==i then some F else kK r f i
def yW (ρ:Operand->Option AV) (c:Call):Option (Nat × List A1) :=
 match c.callee with
 | .value x=>match ρ x,zq ρ c.args.toList with
  | some (.one (.c (.fn (.func f) first cap))),some l=>some (f,first.map .c++l++cap.map .c)
  | _,_=>none
 | _=>none
def closedC:CV->Bool
 | .ptr _ _=>false
 | .os _ _=>false
 | .ost _ _ _=>false
 | .osh _ _ _=>false
 | .oc _ _ _=>false
 | .rowp _ _ _ _=>false
 | .row _ _ _ _=>false
 | .yld _=>false
 | .mp _ _=>false
 | .lp _ _ _=>false
 | .fn _ a b=>closedCs a&&closedCs b
 | .iface _ v=>closedC v
 | .ifa _ l=>closedCs l
 | _=>true
 where closedCs:List CV->Bool
 | []=>true
 | a::l=>closedC a&&closedCs l
def jB:A1->Bool
 | .c x=>closedC x
 | .agg l=>l.all closedC
def qH (P:Program) (f:Nat):Bool :=
 match nth P.funcs.toList f with
 | some fn=>(fn.name != "runtime.NumGoroutine" && fn.body.isSome)&&Nat.blt f 1000000000
 | none=>false
def B1 (H:Hd):Bool:=(qT H.pc 4294967295).isSome
abbrev ju:=Nat->List A1->Mem->Tree (AV × Mem)
def je:List CV->Bool
 | [.row _ _ _ _]=>true
 | .lp _ _ _::_=>true
 | _=>false
def Kn (P:Program) (mem:Mem) (t:TypeId):AV->Option AV
 | .one (.c (.ptr b o))=>match nth mem b with
  | some (some (_,cs))=>if je cs then none else match partOf P t cs o with
   | some a=>some (.one a)
   | none=>none
  | _=>none
 | .one (.c (.rop es off ρ))=>match partOf P t (qY es 0 ρ) off with
  | some a=>some (.one a)
  | none=>none
 | _=>none
def jnl (c:Bool):Bool->Bool
 | true=>true
 | false=>!c
def Lz:Bool->Bool->Bool
 | true,y=>y
 | false,_=>false
def rowAt (mem:Mem) (b:Nat):Option (TypeId × Bool × List Sh × Nat × Val) :=
 match nth mem b with
 | some (some (T,[.row fz es n ρ]))=>some (T,fz,es,n,ρ)
 | _=>none
def ZS (mem:Mem):CV->Mem × CV
 | .os b sz=>match rowAt mem b with
  | some (T,_,es,n,ρ)=>if es.length==sz then (jk mem b (some (T,[.row true es n ρ])),.sl es n ρ) else (mem,.os b sz)
  | none=>(mem,.os b sz)
 | x=>(mem,x)
def qL:Mem->List CV->Mem × List CV
 | mem,[]=>(mem,[])
 | mem, x :: r =>
   let y:=ZS mem x
   let z:=qL y.1 r
   (z.1,y.2::z.2)
def Gs (mem:Mem):A1->Mem × A1
 | .c x=>let y:=ZS mem x;(y.1,.c y.2)
 | .agg l=>let y:=qL mem l;(y.1,.agg y.2)
def zy:Mem->List A1->Mem × List A1
 | mem,[]=>(mem,[])
 | mem, x :: r =>
   let y:=Gs mem x
   let z:=zy y.1 r
   (z.1,y.2::z.2)
def ym:CV->Bool
 | .os _ _=>true
 | _=>false
def Qi (l:List CV):Nat->List CV
 | 0=>[]
 | n+1=>l++Qi l n
def Val.ofFlat (sz:Nat) (cs:List CV):Val:=.byFst fun i=>.byFst fun f=>match nth cs (i*sz+f) with | some x=>.ofC x | none=>.zero
def QI (es:List Sh):Nat->List CV->Bool
 | 0,[]=>true
 | n+1,cs=>match takeN cs es.length with
  | some l=>YQ es l&&QI es n (UB cs es.length)
  | none=>false
 | _,_=>false
def kO (P:Program) (mem:Mem) (t:TypeId) (n:Nat) (parts:List (Nat × A1)):Option (AV × Mem) :=
 match P.underlying t with
 | some (.slice e)=>match P.info? e,ZR P 12 e,jS P e with
  | some j, some es, some z =>
    if es.length==j.size&&Nat.blt 0 j.size&&z.length==j.size&&Nat.ble (n*j.size) 16777216 then
     match ku (fun i=>some (i*j.size,j.size)) (Qi z n) parts with
     | some cs =>
       let y:=qL mem cs
       if QI es n y.2 then some (.one (.c (.os y.1.length j.size)),y.1++[some (e,[.row false es n (Val.ofFlat j.size y.2)])]) else none
     | none=>none
    else none
  | _,_,_=>none
 | _=>none
def YU (mem:Mem):A1->Option (List Sh × Nat × Val)
 | .c (.sl es n ρ)=>some (es,n,ρ)
 | .c (.os b sz)=>match rowAt mem b with
  | some (_,_,es,n,ρ)=>if es.length==sz then some (es,n,ρ) else none
  | none=>none
 | _=>none
def jhN (b:Nat):A1->Bool
 | .c (.os b' _)=>!(b'==b)
 | _=>true
def ZQ (P:Program) (mem:Mem) (t:TypeId) (a x:A1):Tree (AV × Mem) :=
 match P.underlying t with
 | some (.slice e)=>match P.info? e,jS P e with
  | some j, some z =>
    if !(Nat.blt 0 j.size&&Nat.blt 0 j.bytes&&z.length==j.size) then .fail else
    match a,x with
   | .c .nils,.c .nils=>.leaf (.one (.c .nils),mem)
   | .c (.os b sz),.c .nils=>match rowAt mem b with
    | some _=>.leaf (.one (.c (.os b sz)),mem)
    | none=>.fail
   | .c .nils,x=>match YU mem x with
    | some (es,m,σ)=>if es.length==j.size then .need (Nat.ble (m*j.bytes) 140737488355328) (.leaf (.one (.c (.os mem.length j.size)),mem++[some (e,[.row false es m σ])])) else .fail
    | none=>.fail
   | .c (.os b sz),x=>match rowAt mem b,YU mem x with
    | some (T, false, es, n, ρ), some (es', m, σ) =>
      if T==e&&es.length==j.size&&sz==j.size&&shEq.shsEq es es'&&jhN b x then
       .need (Nat.ble ((n+m)*j.bytes) 140737488355328) (.leaf (.one (.c (.os mem.length j.size)),jk mem b none++[some (e,[.row false es (n+m) (Val.cat n ρ σ)])]))
      else .fail
    | _,_=>.fail
   | _,_=>.fail
  | _,_=>.fail
 | _=>.fail
def jhq:A1->Bool
 | .c (.osh _ _ _)=>true
 | _=>false
def Vz (P:Program) (mem:Mem) (t:TypeId) (a x:A1):Tree (AV × Mem) :=
 match a with
 | .c (.osh b sz m)=>match nth mem b with
  | some (some (T,[.row false es n ρ]))=>if Nat.ble m n then ZQ P (jk mem b none++[some (T,[.row false es m ρ])]) t (.c (.os mem.length sz)) x else .fail
  | _=>.fail
 | a=>ZQ P mem t a x
def Qa (ρ:Operand->Option AV):Option Operand->Option (Option Int)
 | none=>some none
 | some x=>match ρ x with
  | some (.one (.c (.int _ i)))=>some (some i)
  | _=>none
def Ve (es:List Sh) (n:Nat) (ρ:Val) (lo hi:Option Int) (mem:Mem):Tree (AV × Mem) :=
 match lo,hi with
 | none,none=>.leaf (.one (.c (.sl es n ρ)),mem)
 | none,some h=>.need (le 0 h&&le h (ja n)) (.leaf (.one (.c (.sl es h.toNat ρ)),mem))
 | some l,none=>.need (le 0 l&&le l (ja n)) (.leaf (.one (.c (.sl es (n - l.toNat) (ρ.from l.toNat))),mem))
 | some l,some h=>.need (le 0 l&&le l h&&le h (ja n)) (.leaf (.one (.c (.sl es (h.toNat - l.toNat) (ρ.from l.toNat))),mem))
def G1 (s:ByteArray) (lo hi:Option Int) (mem:Mem):Tree (AV × Mem) :=
 .need (le 0 (lo.getD 0)&&le (lo.getD 0) (hi.getD (ja s.size))&&le (hi.getD (ja s.size)) (ja s.size)) (.leaf (.one (.c (.str (kg s (lo.getD 0).toNat (hi.getD (ja s.size)).toNat))),mem))
def isZero:Option Int->Bool
 | none=>true
 | some i=>i==0
def Mc:Option Int->Bool
 | none=>false
 | some i=>i==0
def Za (P:Program) (mem:Mem) (t:TypeId) (a:A1) (lo hi mx:Option Int):Tree (AV × Mem) :=
 match P.underlying t with
 | some (.slice e)=>match P.info? e with
  | some j=>match mx with
   | some m => if m == 0 && isZero lo && Mc hi then
     (match a with
      | .c .nils=>.leaf (.one (.c .nils),mem)
      | .c (.sl es _ ρ)=>if es.length==j.size then .leaf (.one (.c (.os mem.length j.size)),mem++[some (e,[.row false es 0 ρ])]) else .fail
      | .c (.os b sz)=>match rowAt mem b with
       | some (_,_,es,_,ρ)=>if es.length==j.size&&sz==j.size then .leaf (.one (.c (.os mem.length j.size)),mem++[some (e,[.row false es 0 ρ])]) else .fail
       | none=>.fail
      | _=>.fail)
     else .fail
   | none=>match a with
    | .c (.sl es n ρ)=>if es.length==j.size then Ve es n ρ lo hi mem else .fail
    | .c .nils=>if isZero lo&&isZero hi then .leaf (.one (.c .nils),mem) else .fail
    | .c (.os b sz)=>match rowAt mem b with
     | some (T, fz, es, n, ρ) =>
       if es.length==j.size&&sz==j.size&&T==e then
        (match fz,lo,hi with
         | false,none,some h=>.need (lt 0 h&&le h (ja n)) (.leaf (.one (.c (.os mem.length j.size)),jk mem b none++[some (e,[.row false es h.toNat ρ])]))
         | _,_,_=>Ve es n ρ lo hi (jk mem b (some (T,[.row true es n ρ]))))
       else .fail
     | none=>.fail
    | _=>.fail
  | none=>.fail
 | some .string=>match a,mx with
  | .c (.str s),none=>G1 s lo hi mem
  | _,_=>.fail
 | _=>.fail
def QW (P:Program) (mem:Mem) (t:TypeId) (b sz i off:Nat):Option AV :=
 match rowAt mem b with
 | some (_,_,es,_,ρ)=>if es.length==sz then (match partOf P t (qY es 0 (ρ.at i)) off with
  | some a=>some (.one a)
  | none=>none) else none
 | none=>none
def YV (P:Program) (mem:Mem) (t:TypeId) (b sz i off:Nat) (v:A1):Option Mem :=
 match P.info? t with
 | some j =>
   let y:=qL mem v.cells
   match rowAt y.1 b with
  | some (T, false, es, n, ρ) =>
    if es.length==sz&&y.2.length==j.size&&Nat.blt 0 j.size then (match takeN (UB es off) j.size with
     | some es'=>if YQ es' y.2 then some (jk y.1 b (some (T,[.row false es n (ρ.upds i off y.2)]))) else none
     | none=>none) else none
  | _=>none
 | none=>none
def O5:CV->Bool
 | .bool _ | .int _ _ | .str _=>true
 | _=>false
def Rx:A1->Bool
 | .c x=>O5 x
 | .agg l=>l.all O5
def WA:AV->Bool
 | .any=>false
 | .one x=>Rx x
 | .tup l=>l.all Rx
def kv (mem:Mem):CV->CV
 | .os b sz=>match rowAt mem b with
  | some (_,_,es,n,ρ)=>if es.length==sz then .sl es n ρ else .os b sz
  | none=>.os b sz
 | x=>x
def joj:List CV->Option (List Sh)
 | .sl es _ _::_=>some es
 | _=>none
def jbw (mem:Mem) (b m:Nat):Option CV :=
 match nth mem b with
 | some (some (_,cs))=>if je cs then none else match takeN cs m with
  | some l=>match joj (l.map (kv mem)) with
   | some es=>if QI [.sl es] m (l.map (kv mem)) then some (.sl [.sl es] m (Val.ofFlat 1 (l.map (kv mem)))) else none
   | none=>none
  | none=>none
 | _=>none
def W2:CV->Option Sh
 | .bool _=>some .bool
 | .int k _=>some (.int k)
 | .str _=>some .str
 | .sl es _ _=>some (.sl es)
 | .nils=>some (.sl [])
 | _=>none
def Uf:List CV->Option (List Sh)
 | []=>some []
 | x::l=>match W2 x,Uf l with
  | some s,some r=>some (s::r)
  | _,_=>none
def Val.ofCells (l:List CV):Val:=.byFst fun i=>match KU l i with | some x=>.ofC0 x | none=>.zero
def jfQ (mem:Mem) (b o:Nat):Option CV:=match nth mem b with
 | some (some (_,cs))=>if je cs then none else match Uf (cs.map (kv mem)) with
  | some es=>some (.rop es o (.ofCells (cs.map (kv mem))))
  | none=>none
 | _=>none
def Zp (mem:Mem):CV->CV
 | .os b sz=>match rowAt mem b with
  | some (_,_,es,n,ρ)=>if es.length==sz then .sl es n ρ else .os b sz
  | none=>.os b sz
 | .oc b m c=>match jbw mem b m with
  | some x=>x
  | none=>.oc b m c
 | .ptr b o=>match jfQ mem b o with
  | some x=>x
  | none=>.ptr b o
 | x=>x
def zo (mem:Mem):A1->A1
 | .c x=>.c (Zp mem x)
 | .agg l=>.agg (l.map (Zp mem))
def BQ:CV->Bool
 | .oc _ _ _=>false
 | .ptr _ _=>false
 | _=>true
def Hu (H:Hd):Bool:=(qT H.pc 4294967293).isSome
def ko (P:Program) (mem:Mem) (t:TypeId):A1->Option Int->Option Int->Option Int->Option (Tree (AV × Mem))
 | .c (.os b sz),some l,none,none=>match P.underlying t,rowAt mem b with
  | some (.slice e),some (T,false,es,n,_)=>match P.info? e with
   | some j=>if es.length==j.size&&sz==j.size&&T==e then some (.need (le 0 l&&lt l (ja n)) (.leaf (.one (.c (.ost b sz l.toNat)),mem))) else none
   | none=>none
  | _,_=>none
 | _,_,_,_=>none
def UY (H:Hd):Bool:=(qT H.pc 4294967291).isSome
def kA (P:Program) (mem:Mem) (t:TypeId):A1->Option Int->Option Int->Option Int->Option (Tree (AV × Mem))
 | .c (.os b sz),none,some h,none=>match P.underlying t,rowAt mem b with
  | some (.slice e),some (T,false,es,n,_)=>match P.info? e with
   | some j=>if es.length==j.size&&sz==j.size&&T==e then some (.need (le 0 h&&le h (ja n)) (.leaf (.one (.c (.osh b sz h.toNat)),mem))) else none
   | none=>none
  | _,_=>none
 | _,_,_,_=>none
def HI:A1->Bool
 | .c (.os _ _)=>true
 | _=>false
def jbG:A1->Option (Nat × Nat × Nat)
 | .c (.os b sz)=>some (b,sz,0)
 | .c (.ost b sz lo)=>some (b,sz,lo)
 | _=>none
def VZ (mem:Mem):A1->Option (List Sh × Nat × Val)
 | .c (.sl es n ρ)=>some (es,n,ρ)
 | .c (.osh b sz m)=>match rowAt mem b with
  | some (_,_,es,_,ρ)=>if es.length==sz then some (es,m,ρ) else none
  | none=>none
 | _=>none
def splice (lo k:Nat) (ρ σ:Val):Val:=.byFst fun i=>yH (Nat.blt i lo) (ρ.at i) (yH (Nat.blt i (lo+k)) (σ.at (i - lo)) (ρ.at i))
def V3 (P:Program) (mem:Mem) (t:TypeId) (a x:A1):Tree (AV × Mem) :=
 match jbG a,VZ mem x with
 | some (b,sz,lo),some (es',m,σ)=>match P.underlying t,rowAt mem b with
  | some (.slice e),some (T,false,es,n,ρ)=>match P.info? e with
   | some j => if shEq.shsEq es' es && es.length == j.size && sz == j.size && T == e && Nat.blt 0 sz then
     .leaf (.one (.c (.int .i64 (ja (Nat.min m (n - lo))))),jk mem b (some (T,[.row false es n (splice lo (Nat.min m (n - lo)) ρ σ)]))) else .fail
   | none=>.fail
  | _,_=>.fail
 | _,_=>.fail
def lits (H:Hd):Bool:=(qT H.pc 4294967292).isSome
def MI (P:Program) (t:TypeId) (n:Nat) (parts:List (Nat × A1)):Option AV :=
 match P.underlying t with
 | some (.slice e)=>match P.info? e,ZR P 12 e,jS P e with
  | some j, some es, some z =>
    if es.length==j.size&&Nat.blt 0 j.size&&z.length==j.size&&Nat.ble (n*j.size) 16777216 then
     match ku (fun i=>some (i*j.size,j.size)) (Qi z n) parts with
     | some cs=>if cs.all closedC&&QI es n cs then some (.one (.c (.sl es n (Val.ofFlat j.size cs)))) else none
     | none=>none
    else none
  | _,_,_=>none
 | _=>none
def jg7 (H:Hd) (ρ:Operand->Option AV):Op->Bool
 | .buildSlice _ _ parts=>lits H&&(match Qc ρ parts.toList with
  | some l=>l.all (fun p=>jB p.2)
  | none=>false)
 | _=>false
def Nk (P:Program) (mem:Mem) (t:TypeId):A1->Tree (AV × Mem)
 | .c (.ost b sz lo)=>match P.underlying t,rowAt mem b with
  | some (.slice e),some (T,false,es,n,ρ)=>match jS P e with
   | some z=>if es.length==sz&&z.length==sz&&Nat.blt 0 sz&&T==e&&YQ es z then .leaf (.any,jk mem b (some (T,[.row false es n (Val.cat lo ρ (.byFst fun _=>Val.ofCs z))]))) else .fail
   | none=>.fail
  | _,_=>.fail
 | _=>.fail
def XI (P:Program) (mem:Mem) (t:TypeId):AV->AV->Tree (AV × Mem)
 | .one (.c (.int _ l)),.one (.c (.int _ c))=>match P.underlying t with
  | some (.slice e)=>match P.info? e,ZR P 12 e,jS P e with
   | some j, some es, some z =>
     if es.length==j.size&&Nat.blt 0 j.size&&Nat.blt 0 j.bytes&&z.length==j.size&&YQ es z then
      .need (le 0 l&&le l c&&le (c*ja j.bytes) 140737488355328) (.leaf (.one (.c (.os mem.length j.size)),mem++[some (e,[.row false es l.toNat (.byFst fun _=>Val.ofCs z)])]))
     else .fail
   | _,_,_=>.fail
  | _=>.fail
 | _,_=>.fail
def jbN (args:List A1):Bool:=args.all fun a=>a.cells.all fun x=>closedC x||ym x
def jo7 (H:Hd):Bool:=(qT H.pc 4294967289).isSome
def jn9:CV->Bool
 | .ptr _ _=>true
 | _=>false
def jkt (args:List A1):Bool:=args.all fun a=>a.cells.all fun x=>closedC x||ym x||jn9 x
def rdA (H:Hd) (args:List A1):Bool:=jbN args||(jo7 H&&jkt args)
def qP (P:Program) (H:Hd) (call:ju) (mem:Mem) (ρ:List (Nat × Bool)->Operand->Option AV):Op->Tree (AV × Mem)
 | .alloc e=>match jS P e with
  | some z=>.leaf (.one (.c (.ptr mem.length 0)),mem++[some (e,z)])
  | none=>.fail
 | .box e x=>match ρ [] x with
  | some (.one a)=>if je a.cells then .fail else .leaf (.one (.c (.ptr mem.length 0)),mem++[some (e,a.cells)])
  | _=>.fail
 | .load t x=>match ρ [] x with
  | some (.one (.c (.rowp b sz i off)))=>match QW P mem t b sz i off with
   | some v=>.leaf (v,mem)
   | none=>.fail
  | some a=>match Kn P mem t a with
   | some v=>.leaf (v,mem)
   | none=>.fail
  | none=>.fail
 | .store t x y=>match ρ [] x,ρ [] y with
  | some (.one (.c (.rowp b sz i off))),some (.one v)=>match YV P mem t b sz i off v with
   | some mem'=>.leaf (.any,mem')
   | none=>.fail
  | some (.one (.c (.ptr b o))),some (.one v)=>match nth mem b,P.info? t with
   | some (some (T,cs)),some i=>if !je cs&&v.cells.length==i.size&&Nat.ble (o+i.size) cs.length&&!je v.cells then .leaf (.any,jk mem b (some (T,putCells cs o v.cells))) else .fail
   | _,_=>.fail
  | _,_=>.fail
 | .buildSlice t n parts=>match Qc (ρ []) parts.toList with
  | some l=>if lits H&&l.all (fun p=>jB p.2) then (match MI P t n l with
   | some v=>.leaf (v,mem)
   | none=>.fail)
    else match kO P mem t n l with
   | some r=>.leaf r
   | none=>.fail
  | none=>.fail
 | .makeSlice t x y=>match ρ [] x,ρ [] y with
  | some l,some c=>XI P mem t l c
  | _,_=>.fail
 | .slice t x lo hi mx=>match ρ [] x,Qa (ρ []) lo,Qa (ρ []) hi,Qa (ρ []) mx with
  | some (.one a),some l,some h,some m=>match (if Hu H then ko P mem t a l h m else none) with
   | some r=>r
   | none=>match (if UY H then kA P mem t a l h m else none) with
    | some r=>r
    | none=>if UY H&&HI a&&m.isNone then .fail else Za P mem t a l h m
  | _,_,_,_=>.fail
 | .indexAddr t x i=>match ρ [] x,ρ [] i with
  | some (.one (.c (.os b sz))),some (.one (.c (.int _ k)))=>match P.underlying t,rowAt mem b with
   | some (.slice e),some (_,_,es,n,_)=>match P.info? e with
    | some j=>if j.size==sz&&es.length==sz then .need (jc k n) (.leaf (.one (.c (.rowp b sz k.toNat 0)),mem)) else .fail
    | none=>.fail
   | _,_=>.fail
  | _,_=>(JU P (B1 H) ρ (.indexAddr t x i)).bind fun v=>.leaf (v,mem)
 | .call c=>match c.callee with
  | .value _=>match yW (ρ []) c with
   | some (f,args)=>if qH P f then (match qT H.pc f with
    | some F=>let l:=args.map (zo mem);if l.all jB then (F l).bind (fun r=>if args.all jB||WA r then .leaf (r,mem) else .fail) else if rdA H args then .fail else call f args mem
    | none=>match qT H.hc f with
     | some F=>let y:=zy mem args;if y.2.all jB then (F y.2).bind (fun r=>.leaf (r,y.1)) else .fail
     | none=>call f args mem) else .fail
   | none=>.fail
  | .builtin .append=>match zq (ρ []) c.args.toList,c.argTypes.toList with
   | some [a,x],[t,t']=>if t==t' then Vz P mem t a x else .fail
   | _,_=>.fail
  | .builtin .clear=>match zq (ρ []) c.args.toList,c.argTypes.toList with
   | some [a],[t]=>Nk P mem t a
   | _,_=>.fail
  | .builtin .copy=>match zq (ρ []) c.args.toList,c.argTypes.toList with
   | some [a,x],t::_=>V3 P mem t a x
   | _,_=>.fail
  | .builtin .len=>match zq (ρ []) c.args.toList,c.argTypes.toList with
   | some [.c (.os b _)],[t]=>match P.underlying t,rowAt mem b with
    | some (.slice _),some (_,_,_,n,_)=>.leaf (.one (.c (.int .i64 (ja n))),mem)
    | _,_=>.fail
   | _,_=>(JU P (B1 H) ρ (.call c)).bind fun v=>.leaf (v,mem)
  | _=>(JU P (B1 H) ρ (.call c)).bind fun v=>.leaf (v,mem)
 | op=>(JU P (B1 H) ρ op).bind fun v=>.leaf (v,mem)
def Kd (d:Nat) (s:Slot):Slot:=if s.keys.any (fun p=>p.1==d) then ⟨[],.any⟩ else s
def St.put (s:St) (dst:Option Tmp) (ks:List (Nat × Bool)) (v:AV):St :=
 match dst with
 | some d=>{ s with tmps:=jk (s.tmps.map (Kd d)) d ⟨ks,v⟩ }
 | none=>s
def yG (s:St):List (Nat × Bool)->Bool
 | []=>true
 | (d,b)::r=>(match nth s.tmps d with
  | some ⟨_,.one (.c (.bool c))⟩=>c==b
  | _=>true)&&yG s r
def L9 (s:St):List (Nat × Bool)->Option Bool
 | []=>some true
 | (d,b)::r=>match nth s.tmps d,L9 s r with
  | some ⟨ks,.one (.c (.bool c))⟩,some g=>if ks.all (Rs r) then some (Lz g (c==b)) else none
  | _,_=>none
def Tree.toNeed {α:Type} (d:α) (g:Bool):Tree α->Tree α
 | .leaf a=>.leaf a
 | .need c t=>.need (!g||c) (t.toNeed d g)
 | _=>.need (!g) (.leaf d)
def dGu:AV × Mem:=(.one (.c (.bool false)),[])
def keysOf (ops:List Oper) (s:St) (j:Nat) (b:Bool):Option (List (Nat × Bool)) :=
 match nth ops j with
 | some o=>match o.dst with
  | some d=>match nth s.tmps d with
   | some ⟨ks,.one (.c (.bool _))⟩=>some ((d,b)::ks)
   | _=>none
  | none=>none
 | none=>none
def j5 (H:Hd) (ρ:Operand->Option AV):Op->Bool
 | .alloc _ | .box _ _ | .store _ _ _ | .buildSlice _ _ _ | .makeSlice _ _ _=>false
 | .slice _ _ _ _ _=>false
 | .indexAddr _ x _=>match ρ x with | some (.one (.c (.os _ _)))=>false | _=>true
 | .load _ x=>match ρ x with | some (.one (.c (.rowp _ _ _ _)))=>false | _=>true
 | .call c=>match c.callee with
  | .value _=>match yW ρ c with
   | some (f,args)=>(qT H.pc f).isSome&&args.all jB
   | none=>false
  | .builtin .append=>false
  | .builtin .clear=>false
  | .builtin .copy=>false
  | .builtin .len=>match zq ρ c.args.toList with
   | some [.c (.os _ _)]=>false
   | _=>true
  | _=>true
 | _=>true
def Xz (H:Hd) (ρ:Operand->Option AV) (c:Call):Bool :=
 match c.callee with
 | .value _=>match yW ρ c with
  | some (f,args)=>(qT H.pc f).isNone&&(qT H.hc f).isSome&&args.all jB
  | none=>false
 | _=>false
def J6 (H:Hd) (ρ:Operand->Option AV) (op:Op):Bool :=
 j5 H ρ op||(match op with
  | .buildSlice t n parts=>jg7 H ρ (.buildSlice t n parts)
  | .load _ x=>match ρ x with | some (.one (.c (.rowp _ _ _ _)))=>true | _=>false
  | .indexAddr _ x _=>match ρ x with | some (.one (.c (.os _ _)))=>true | _=>false
  | .call c=>match c.callee with | .builtin .len=>true | _=>Xz H ρ c
  | _=>false)
def jbv (ρ:Operand->Option AV):Op->Option (Nat × List A1)
 | .call c=>match c.callee with
  | .value x=>match ρ x,zq ρ c.args.toList with
   | some (.one (.c (.yld b))),some l=>some (b,l)
   | _,_=>none
  | _=>none
 | _=>none
def MV (H:Hd):Bool:=(qT H.pc 4294967290).isSome
def Gj (P:Program) (mem:Mem) (t:TypeId) (n:Nat) (parts:List (Nat × A1)):Option (Tree (AV × Mem)) :=
 match P.underlying t with
 | some (.slice e)=>match P.info? e,jS P e with
  | some j, some z =>
    if j.size==1&&Nat.blt 0 n&&z.length==1&&Nat.ble n 16777216 then
     match ku (fun i=>some (i*j.size,j.size)) (Qi z n) parts with
     | some cs=>some (.leaf (.one (.c (.oc mem.length n n)),mem++[some (e,cs)]))
     | none=>none
    else none
  | _,_=>none
 | _=>none
def LQ (P:Program) (mem:Mem) (t:TypeId):AV->AV->Option (Tree (AV × Mem))
 | .one (.c (.int _ l)),.one (.c (.int _ c))=>match P.underlying t with
  | some (.slice e)=>match P.info? e,jS P e,ZR P 12 e with
   | some j, some z, some [.sl _] =>
     if j.size==1&&Nat.blt 0 j.bytes&&z.length==1 then
      some (.need (le 0 l&&le l c&&le (c*ja j.bytes) 140737488355328) (.leaf (.one (.c (.oc mem.length l.toNat c.toNat)),mem++[some (e,Qi z c.toNat)])))
     else none
   | _,_,_=>none
  | _=>none
 | _,_=>none
def TW (P:Program) (mem:Mem) (t:TypeId):List A1->Option (Tree (AV × Mem))
 | [.c (.oc b m c),.c (.oc b' 1 _)]=>match P.underlying t with
  | some (.slice e)=>match P.info? e,nth mem b,nth mem b' with
   | some j, some (some (T, cs)), some (some (T', [x])) =>
     if j.size==1&&Nat.blt m c&&cs.length==c&&T==e&&!je cs&&!je [x]&&T'==e then some (.leaf (.one (.c (.oc b (m+1) c)),jk mem b (some (T,jk cs m x)))) else none
   | _,_,_=>none
  | _=>none
 | _=>none
def Ta (P:Program) (H:Hd) (mem:Mem) (ρ:Operand->Option AV):Op->Option (Tree (AV × Mem))
 | .makeSlice t x y=>if MV H then (match ρ x,ρ y with
  | some l,some c=>LQ P mem t l c
  | _,_=>none) else none
 | .buildSlice t n parts=>if MV H then (match Qc ρ parts.toList with
  | some l=>if l.any (fun p=>p.2.cells.any ym) then Gj P mem t n l else none
  | none=>none) else none
 | .call c=>match c.callee with
  | .builtin .append=>if MV H then (match zq ρ c.args.toList,c.argTypes.toList with
   | some l,[t,t']=>if t==t' then TW P mem t l else none
   | _,_=>none) else none
  | _=>none
 | _=>none
def Bc (H:Hd) (call:ju) (mem:Mem) (f:Nat) (args:List A1):Tree (AV × Mem) :=
 match qT H.pc f with
 | some F=>let l:=args.map (zo mem);if l.all jB then (F l).bind (fun r=>if args.all jB||WA r then .leaf (r,mem) else .fail) else if rdA H args then .fail else call f args mem
 | none=>match qT H.hc f with
  | some F=>let y:=zy mem args;if y.2.all jB then (F y.2).bind (fun r=>.leaf (r,y.1)) else .fail
  | none=>call f args mem
def W9 (ρ:Val):Nat->Tree (TypeId × A1)
 | 0=>.fail
 | n+1=>match DG n with
  | some (t,false,[s])=>.br (Nat.beq (ρ.L []) (n+1)) (.leaf (t,.c (cellOf s (ρ.at 0)))) (W9 ρ n)
  | some (t,true,es)=>.br (Nat.beq (ρ.L []) (n+1)) (.leaf (t,.agg (qY es 0 ρ))) (W9 ρ n)
  | _=>W9 ρ n
def Rl:CV->Tree (TypeId × A1)
 | .iface t v=>.leaf (t,.c v)
 | .ifa t l=>.leaf (t,.agg l)
 | .ifx ρ=>W9 ρ itN
 | _=>.fail
def UZ (P:Program) (t:TypeId) (name:String):Option Nat :=
 match P.info? t with
 | some i=>match i.methods.find? (fun m=>m.name==name) with
  | some m=>if m.path.isEmpty then (match m.func,P.underlying t with
   | some (_,false),some (.pointer _)=>none
   | some (f,false),some _=>some f
   | _,_=>none) else none
  | none=>none
 | none=>none
def WJ (s:ByteArray):List ByteArray->List CV->Tree CV
 | k::ks,v::vs=>.br (jb s k) (.leaf v) (WJ s ks vs)
 | _,_=>.fail
def V1 (P:Program) (t:TypeId):Bool:=match P.underlying t with
 | some (.map k _)=>(match P.underlying k with | some .string=>true | _=>false)
 | _=>false
def jaN (P:Program) (H:Hd) (call:ju) (mem:Mem) (ρ:Operand->Option AV):Op->Option (Tree (AV × Mem))
 | .makeInterface t x=>match P.underlying t with
  | some (.interface _)=>none
  | some _=>match ρ x with
   | some (.one (.c y))=>let z:=ZS mem y;if closedC z.2 then some (.leaf (.one (.c (.iface t z.2)),z.1)) else none
   | some (.one (.agg l))=>let z:=qL mem l;if z.2.all closedC then some (.leaf (.one (.c (.ifa t z.2)),z.1)) else none
   | _=>none
  | none=>none
 | .call c=>match c.callee with
  | .invoke x m=>match ρ x,zq ρ c.args.toList with
   | some (.one (.c y)),some l=>some ((Rl y).bind fun z=>match UZ P z.1 m with
    | some f=>if qH P f then Bc H call mem f (z.2::l) else .fail
    | none=>.fail)
   | _,_=>none
  | _=>none
 | .lookup t x k false=>match ρ x,ρ k with
  | some (.one (.c (.mp ks vs))),some (.one (.c (.str s)))=>if V1 P t then some ((WJ s ks vs).bind fun v=>.leaf (.one (.c v),mem)) else none
  | _,_=>none
 | _=>none
def OZ (P:Program) (H:Hd) (call:ju) (mem:Mem) (ρ:List (Nat × Bool)->Operand->Option AV) (op:Op):Tree (AV × Mem) :=
 match jbv (ρ []) op with
 | some (b,l)=>call (1000000000+b) l mem
 | none=>match Ta P H mem (ρ []) op with
  | some r=>r
  | none=>match jaN P H call mem (ρ []) op with
   | some r=>r
   | none=>qP P H call mem ρ op
def Z3 (P:Program) (H:Hd) (call:ju) (quiet:Bool) (all:List Oper):List Oper->St->Tree St
 | [],s=>.leaf s
 | o::r,s=>match o.guard with
  | none => if quiet && !j5 H (zJ s []) o.op then .fail else
    (OZ P H call s.mem (fun K=>zJ s K) o.op).bind fun x=>Z3 P H call quiet all r ({ s with mem:=x.2 }.put o.dst [] x.1)
  | some (j,b)=>match keysOf all s j b with
   | some K =>
     if K.any (fun p=>some p.1==o.dst) then .fail else
     if J6 H (zJ s K) o.op then
      ((qP P H call s.mem (fun K'=>zJ s (K'++K)) o.op).toNeed dGu (yG s K)).bind fun x=>Z3 P H call quiet all r (s.put o.dst K x.1)
     else if quiet then .fail else match L9 s K with
      | some g=>.br g ((OZ P H call s.mem (fun K'=>zJ s (K'++K)) o.op).bind fun x=>Z3 P H call quiet all r ({ s with mem:=x.2 }.put o.dst [] x.1)) (Z3 P H call quiet all r (s.put o.dst K dGu.1))
      | none=>.fail
   | none=>.fail
def jdU (P:Program) (o:Oper):Option (Nat × TypeId):=match o.guard,o.dst,o.op with
 | none,some d,.makeMap t none=>if V1 P t then some (d,t) else none
 | _,_,_=>none
def Fz (d:Nat) (t:TypeId) (o:Oper):Option (ByteArray × Operand):=match o.guard,o.dst,o.op with
 | none,none,.insert t' (.tmp d') (.const (.string k)) v=>if t'==t&&d'==d then some (k,v) else none
 | _,_,_=>none
def jn0:Op->Bool
 | .insert .. => true
 | _=>false
def XX (P:Program) (H:Hd) (call:ju) (all:List Oper) (d:Nat) (t:TypeId):List Oper->List ByteArray->List CV->St->Tree St
 | [],ks,vs,s=>.leaf (s.put (some d) [] (.one (.c (.mp ks vs))))
 | o::r,ks,vs,s=>match Fz d t o with
  | some (k,v)=>if ks.any (jb k) then .fail else match zJ s [] v with
   | some (.one (.c x))=>XX P H call all d t r (ks++[k]) (vs++[x]) s
   | _=>.fail
  | none => if (o :: r).any (fun o => jn0 o.op) then match o.guard with
    | none=>if o.dst==some d then .fail else (JU P false (fun K=>zJ s K) o.op).bind fun x=>XX P H call all d t r ks vs (s.put o.dst [] x)
    | some _=>.fail
    else Z3 P H call false all (o::r) (s.put (some d) [] (.one (.c (.mp ks vs))))
def D7 (P:Program) (H:Hd) (call:ju) (ops:List Oper) (s:St):Tree St :=
 match ops with
 | o::r=>match jdU P o with
  | some (d,t)=>if Nat.blt d s.tmps.length then XX P H call ops d t r [] [] (s.put (some d) [] .any) else .fail
  | none=>Z3 P H call false ops ops s
 | []=>Z3 P H call false ops ops s
abbrev Touch:=Option (List (Nat × Bool))
def J3:List CV->List (Nat × Bool)
 | []=>[]
 | .os b _::l=>(b+1,false)::J3 l
 | _::l=>J3 l
def YW:List A1->List (Nat × Bool)
 | []=>[]
 | a::l=>J3 a.cells++YW l
def K9:Nat->List (Nat × Bool)
 | 0=>[(0,false)]
 | n+1=>(n+1,false)::K9 n
def UG (H:Hd) (ρ:Operand->Option AV) (len:Nat) (c:Call):Touch :=
 match c.callee with
 | .value _=>match yW ρ c with
  | some (f,args)=>if (qT H.pc f).isSome&&jbN args then some (YW args) else if (qT H.pc f).isSome&&rdA H args then some (K9 len) else none
  | none=>none
 | _=>none
def qi (H:Hd) (ρ:Operand->Option AV) (len:Nat):Op->Touch
 | .load _ x=>match ρ x with
  | some (.one (.c (.ptr b _)))=>some [(b+1,false)]
  | some (.one (.c (.rowp b _ _ _)))=>some [(b+1,false)]
  | some (.one (.c (.rop _ _ _)))=>some []
  | _=>none
 | .store _ x y=>match ρ x with
  | some (.one (.c (.ptr b _)))=>some [(b+1,true)]
  | some (.one (.c (.rowp b _ _ _)))=>match ρ y with
   | some (.one v)=>if v.cells.all (fun x=>!ym x) then some [(b+1,true)] else none
   | _=>none
  | _=>none
 | .alloc _=>some [(0,true),(len+1,true)]
 | .box _ _=>some [(0,true),(len+1,true)]
 | .buildSlice _ _ parts=>match Qc ρ parts.toList with
  | some l=>if lits H&&l.all (fun p=>jB p.2) then some [] else if l.all (fun p=>p.2.cells.all (fun x=>!ym x)) then some [(0,true),(len+1,true)] else none
  | none=>none
 | .makeSlice _ _ _=>some [(0,true),(len+1,true)]
 | .indexAddr t x i=>match ρ x with
  | some (.one (.c (.os b _)))=>some [(b+1,false)]
  | _=>if j5 H ρ (.indexAddr t x i) then some [] else none
 | .slice _ x _ _ mx=>match ρ x,mx with
  | some (.one (.c (.sl _ _ _))),none=>some []
  | some (.one (.c .nils)),none=>some []
  | some (.one (.c (.str _))),none=>some []
  | some (.one (.c (.os b _))),none=>if UY H then some [(b+1,false)] else none
  | _,_=>none
 | .call c=>match c.callee with
  | .builtin .append=>match zq ρ c.args.toList with
   | some [.c .nils,.c (.sl _ _ _)]=>some [(0,true),(len+1,true)]
   | some [.c .nils,.c (.os b _)]=>some [(0,true),(len+1,true),(b+1,false)]
   | some [.c (.os b _),.c (.sl _ _ _)]=>some [(0,true),(len+1,true),(b+1,true)]
   | some [.c (.os b _),.c (.os b' _)]=>some [(0,true),(len+1,true),(b+1,true),(b'+1,false)]
   | some [.c .nils,.c .nils]=>some []
   | some [.c (.os b _),.c .nils]=>some [(b+1,false)]
   | _=>none
  | .builtin .len=>match zq ρ c.args.toList with
   | some [.c (.os b _)]=>some [(b+1,false)]
   | _=>some []
  | .builtin .copy=>match zq ρ c.args.toList with
   | some [.c (.os b _),.c (.sl _ _ _)]=>some [(b+1,true)]
   | some [.c (.ost b _ _),.c (.osh b' _ _)]=>some [(b+1,true),(b'+1,false)]
   | some [.c (.ost b _ _),.c (.sl _ _ _)]=>some [(b+1,true)]
   | _=>none
  | _=>if j5 H ρ (.call c)||Xz H ρ c then some [] else UG H ρ len c
 | op=>if j5 H ρ op then some [] else none
def tmpsIn:List Operand->List Nat
 | []=>[]
 | .tmp t::r=>t::tmpsIn r
 | _::r=>tmpsIn r
def JE (t:Nat):List Nat->Bool
 | []=>false
 | u::r=>t==u||JE t r
def UK (ts:List Nat) (ρ:Operand->Option AV):Operand->Option AV
 | .tmp t=>if JE t ts then ρ (.tmp t) else none
 | x=>ρ x
def lim (o:Oper) (s:St) (K:List (Nat × Bool)):Operand->Option AV:=UK (tmpsIn o.op.operands.toList) (zJ s K)
def St.put0 (s:St) (dst:Option Tmp) (ks:List (Nat × Bool)) (v:AV):St :=
 match dst with
 | some d=>{ s with tmps:=jk s.tmps d ⟨ks,v⟩ }
 | none=>s
abbrev kG:=Touch × List (Nat × Bool)
def Zn (P:Program) (H:Hd) (call:ju) (all:List Oper):List Oper->St->Tree (St × List kG)
 | [],s=>.leaf (s,[])
 | o::r,s=>match o.guard with
  | none =>
    (qP P H call s.mem (fun K=>lim o s K) o.op).bind fun x=>(Zn P H call all r ({ s with mem:=x.2 }.put0 o.dst [] x.1)).bind fun y=>.leaf (y.1,(qi H (lim o s []) s.mem.length o.op,[])::y.2)
  | some (j,b)=>match keysOf all s j b with
   | some K =>
     if !J6 H (lim o s K) o.op||K.any (fun p=>some p.1==o.dst) then .fail else
     ((qP P H call s.mem (fun K'=>lim o s (K'++K)) o.op).toNeed dGu (yG s K)).bind fun x=>(Zn P H call all r (s.put0 o.dst K x.1)).bind fun y=>.leaf (y.1,(qi H (lim o s K) s.mem.length o.op,K)::y.2)
   | none=>.fail
def Wd (masks:List Nat):List Edge->Nat
 | []=>0
 | e::r=>(match nth masks e.on with | some m=>if Region.binds .any e then 2 ^ e.on ||| m else 0 | none=>0) ||| Wd masks r
def qI:List Oper->List Nat->List Nat
 | [],acc=>acc
 | o::r,acc=>qI r (acc++[Wd acc o.after.toList])
def X7:Nat->List Oper->Bool
 | _,[]=>true
 | i,o::r=>o.after.toList.all (fun e=>!Region.binds .any e||Nat.blt e.on i)&&X7 (i+1) r
def JD (t:Nat):Nat->List Oper->Option Nat
 | _,[]=>none
 | i,o::r=>if o.dst==some t then some i else JD t (i+1) r
def Wj:List Oper->Bool
 | []=>true
 | o::r=>(match o.dst with | some t=>r.all (fun o'=>!(o'.dst==some t)) | none=>true)&&Wj r
def zA (masks:List Nat) (i j:Nat):Bool:=Nat.blt i j&&match nth masks j with | some m=>m.testBit i | none=>false
def Hw (all:List Oper) (masks:List Nat) (j t:Nat):Bool :=
 match JD t 0 all with
 | some i=>zA masks i j||zA masks j i||i==j
 | none=>true
def GP (all:List Oper) (masks:List Nat) (j t:Nat):Bool :=
 match JD t 0 all with
 | some i=>zA masks i j
 | none=>false
def Ht (all:List Oper) (masks:List Nat):Nat->List Oper->List kG->Bool
 | j, o :: r, (_, K) :: q => (tmpsIn o.op.operands.toList).all (fun t => Hw all masks j t) &&
   (match o.guard with | some (g,_)=>zA masks g j | none=>true)&&K.all (fun p=>GP all masks j p.1)&&Ht all masks (j+1) r q
 | _,_,_=>true
def clash (masks:List Nat) (i j:Nat):Touch->Touch->Bool
 | some t,some u=>t.all (fun p=>u.all (fun q=>!(p.1==q.1)||!(p.2||q.2)||zA masks i j))
 | some t,none=>t.isEmpty||zA masks i j
 | none,some u=>u.isEmpty||zA masks i j
 | none,none=>zA masks i j
def Ky (masks:List Nat) (i:Nat) (t:Touch):Nat->List kG->Bool
 | _,[]=>true
 | j,u::r=>clash masks i j t u.1&&Ky masks i t (j+1) r
def Yr (masks:List Nat):Nat->List kG->Bool
 | _,[]=>true
 | i,t::r=>Ky masks i t.1 (i+1) r&&Yr masks (i+1) r
def Qq (ops:List Oper) (ts:List kG):Bool :=
 let masks:=qI ops []
 X7 0 ops&&Wj ops&&Ht ops masks 0 ops ts&&Yr masks 0 ts
def unkey (s:Slot):Slot:=if s.keys.isEmpty then s else ⟨[],.any⟩
def ji:Code->Nat
 | .seq a b=>ji a+ji b
 | .cond _ a b=>ji a+ji b
 | .block _ b=>ji b
 | .loop b=>ji b+1
 | .scope b=>ji b
 | .rangeFunc _ _ a b=>ji a+ji b
 | _=>0
def jJ:Code->Nat
 | .seq a b=>jJ a+jJ b
 | .cond _ a b=>jJ a+jJ b
 | .block _ b=>jJ b
 | .loop b=>jJ b
 | .scope b=>jJ b
 | .rangeFunc _ _ a b=>jJ a+jJ b+1
 | _=>0
structure RC where
 ps:Array Tmp
 a:Code
 b:Code
 n:Nat
def jM:Code->Nat->Nat->Option RC
 | .seq a b,i,n=>if i<jJ a then jM a i n else jM b (i - jJ a) (n+ji a)
 | .cond _ a b,i,n=>if i<jJ a then jM a i n else jM b (i - jJ a) (n+ji a)
 | .block _ b,i,n=>jM b i n
 | .loop b,i,n=>jM b i (n+1)
 | .scope b,i,n=>jM b i n
 | .rangeFunc _ ps a b,0,n=>some ⟨ps,a,b,n⟩
 | .rangeFunc _ _ a b,i+1,n=>if i<jJ a then jM a i n else jM b (i - jJ a) (n+ji a)
 | _,_,_=>none
def VF (P:Program) (f i:Nat):Option RC :=
 match nth P.funcs.toList f with
 | some fn=>match fn.body with
  | some c=>jM c i 0
  | none=>none
 | none=>none
def jf:Code->Nat->Option Code
 | .seq a b,i=>if i<ji a then jf a i else jf b (i - ji a)
 | .cond _ a b,i=>if i<ji a then jf a i else jf b (i - ji a)
 | .block _ b,i=>jf b i
 | .loop b,0=>some b
 | .loop b,i+1=>jf b i
 | .scope b,i=>jf b i
 | .rangeFunc _ _ a b,i=>if i<ji a then jf a i else jf b (i - ji a)
 | _,_=>none
def lin {α:Type}:Tree α->Option (List Bool × α)
 | .leaf a=>some ([],a)
 | .need c t=>match lin t with
  | some (l,a)=>some (c::l,a)
  | none=>none
 | _=>none
def XS {α:Type}:List Bool->Tree α->Tree α
 | [],t=>t
 | c::l,t=>.need c (XS l t)
def Ks (c:Bool) (l1 l2:List Bool):List Bool:=l1.map (fun n=>!c||n)++l2.map (fun n=>c||n)
def yt:CV->Bool
 | .any=>true
 | _=>false
def ja4:List CV->List CV->Bool
 | [],_=>true
 | _,[]=>true
 | a::l,m::r=>(!yt m||yt a)&&ja4 l r
def Vf (c:Bool) (cs ds:List CV):Option (List CV) :=
 match cs,ds with
 | [.row fz es n ρ],[.row fz' es' m σ]=>if fz==fz'&&shEq.shsEq es es' then some [.row fz es (bif c then n else m) (yH c ρ σ)] else none
 | _,_=>if je cs||je ds then none else match yO c cs ds with
  | some m=>if ja4 cs m&&ja4 ds m then some m else none
  | none=>none
def Ry (c:Bool):Option (TypeId × List CV)->Option (TypeId × List CV)->Option (Option (TypeId × List CV))
 | none,none=>some none
 | some (T,cs),some (T',ds)=>if T==T' then (match Vf c cs ds with
  | some m=>some (some (T,m))
  | none=>none) else none
 | _,_=>none
def UX (K:Nat):Nat->Mem->Option Mem
 | _,[]=>some []
 | k,_::l=>if Nat.blt k K then none else match UX K (k+1) l with
  | some m=>some (none::m)
  | none=>none
def QQ (c:Bool) (K:Nat):Nat->Mem->Mem->Option Mem
 | k,[],r=>UX K k r
 | k,a::l,[]=>UX K k (a::l)
 | k,a::l,b::r=>match Ry c a b,QQ c K (k+1) l r with
  | some e,some m=>some (e::m)
  | none,some m=>if Nat.blt k K then none else some (none::m)
  | _,none=>none
def On (c:Bool) (a b:Slot):Slot :=
 match a.keys,b.keys with
 | [],[]=>⟨[],Qr c a.v b.v⟩
 | _,_=>⟨[],.any⟩
def kZ (c:Bool):List Slot->List Slot->Option (List Slot)
 | [],[]=>some []
 | a::l,b::r=>match kZ c l r with
  | some m=>some (On c a b::m)
  | none=>none
 | _,_=>none
def LV (c:Bool) (K:Nat) (a b:St):Option St :=
 match kZ c a.tmps b.tmps,QQ c K 0 a.mem b.mem with
 | some t,some m=>some ⟨t,m⟩
 | _,_=>none
def J1 (j:Bool) (c:Bool) (K:Nat) (t e:Tree (XE × St)):Tree (XE × St) :=
 if j then match lin t,lin e with
  | some (l1,(.normal,s1)),some (l2,(.normal,s2))=>match LV c K s1 s2 with
   | some s=>XS (Ks c l1 l2) (.leaf (.normal,s))
   | none=>.br c t e
  | _,_=>.br c t e
 else .br c t e
def jkv:AV->Bool
 | .any=>true
 | _=>false
def kJ (K:Nat):Tree (AV × Mem)->Tree (AV × Mem)
 | .br c t e=>match lin (kJ K t),lin (kJ K e) with
  | some (l1,(r1,m1)),some (l2,(r2,m2))=>match QQ c K 0 m1 m2 with
   | some m=>if jkv (Qr c r1 r2) then .br c (kJ K t) (kJ K e) else XS (Ks c l1 l2) (.leaf (Qr c r1 r2,m))
   | none=>.br c (kJ K t) (kJ K e)
  | _,_=>.br c (kJ K t) (kJ K e)
 | .need c t=>.need c (kJ K t)
 | x=>x
def zu (mem:Mem):AV->Mem × AV
 | .any=>(mem,.any)
 | .one a=>let y:=Gs mem a;(y.1,.one y.2)
 | .tup l=>let y:=zy mem l;(y.1,.tup y.2)
def kD:AV->Bool
 | .any=>false
 | .one a=>jB a
 | .tup l=>l.all jB
def kq (K:Nat):CV->Bool
 | .ptr b _=>Nat.blt b K
 | .os b _=>Nat.blt b K
 | .rowp b _ _ _=>Nat.blt b K
 | .row _ _ _ _=>true
 | .yld b=>Nat.blt b K
 | .lp _ _ _=>true
 | x=>closedC x
def Ym (K:Nat):Option (TypeId × List CV)->Bool
 | none=>true
 | some (_,cs)=>cs.all (kq K)
def FL (K:Nat) (y:AV × Mem):AV × Mem :=
 let z:=zu y.2 y.1
 match takeN z.1 K with
 | some m=>if kD z.2&&m.all (Ym K) then (z.2,m) else y
 | none=>y
def jnz (H:Hd) (f:Nat):Bool:=(qT H.pc (4294967296+f)).isSome
def jn6 (H:Hd) (f:Nat):Bool:=(qT H.pc (8589934592+f)).isSome
def joined (j:Bool) (K:Nat) (t:Tree (AV × Mem)):Tree (AV × Mem) :=
 if j then kJ K (t.bind fun y=>.leaf (FL K y)) else t
def zT:Op->Bool
 | .defer _=>false
 | _=>true
def jL (P:Program) (H:Hd) (call:ju) (f K:Nat):Nat->Code->St->Tree (XE × St)
 | _,.skip,s=>.leaf (.normal,s)
 | _, .region _ ops draw, s => if !ops.toList.all (fun o => zT o.op) then .fail else if draw then
   (if P.follows .mixedOrders then (Zn P H call ops.toList ops.toList { s with tmps:=s.tmps.map unkey }).bind fun y =>
    if Qq ops.toList y.2 then .leaf (.normal,{ y.1 with tmps:=y.1.tmps.map unkey }) else .fail
   else .fail)
   else (D7 P H call ops.toList s).bind fun s'=>.leaf (.normal,{ s' with tmps:=s'.tmps.map unkey })
 | n,.seq a b,s=>(jL P H call f K n a s).bind fun x=>match x.1 with
  | .normal=>jL P H call f K (n+ji a) b x.2
  | e=>.leaf (e,x.2)
 | n,.cond c a b,s=>match zJ s [] c with
  | some (.one (.c (.bool t)))=>J1 (jn6 H f) t s.mem.length (jL P H call f K n a s) (jL P H call f K (n+ji a) b s)
  | _=>.fail
 | n,.block id b,s=>(jL P H call f K n b s).bind fun x=>match x.1 with
  | .exit k=>.leaf (if k=id then .normal else .exit k,x.2)
  | e=>.leaf (e,x.2)
 | n,.loop _,s=>match kK H.lh f n with
  | some h=>h K s
  | none=>.fail
 | _,.exit id,s=>.leaf (.exit id,s)
 | _,.ret,s=>.leaf (.ret,s)
 | _,_,_=>.fail
def GA (P:Program) (s:St):ResultVar->Option A1
 | .tmp t=>match nth s.tmps t with
  | some ⟨[],.one a⟩=>some a
  | _=>none
 | .cell a t=>match nth s.tmps a with
  | some ⟨[],v⟩=>match Kn P s.mem t v with
   | some (.one a)=>some a
   | _=>none
  | _=>none
def zN (P:Program) (s:St):List ResultVar->Option (List A1)
 | []=>some []
 | x::r=>match GA P s x,zN P s r with
  | some a,some l=>some (a::l)
  | _,_=>none
def HX:List A1->AV
 | [a]=>.one a
 | l=>.tup l
def Lc:CV->AV
 | .any=>.any
 | x=>.one (.c x)
def cellS:Slot->CV
 | ⟨[],.one (.c x)⟩=>x
 | _=>.any
def Q9:List Tmp->List A1->List Slot->List Slot
 | t::ts,a::as,l=>Q9 ts as (jk l t ⟨[],.one a⟩)
 | _,_,l=>l
def setSt (mem:Mem) (b:Nat) (st:LpS):Option Mem :=
 match nth mem b with
 | some (some (T,.lp f i .busy::cs))=>some (jk mem b (some (T,.lp f i st::cs)))
 | _=>none
def NN (mem:Mem) (b:Nat):Option Mem :=
 match nth mem b with
 | some (some (T,.lp f i .ready::cs))=>some (jk mem b (some (T,.lp f i .busy::cs)))
 | _=>none
def FG (b:Nat) (y:XE × St):Tree (AV × Mem) :=
 match y.1 with
 | .normal=>match setSt y.2.mem b .ready with
  | some m=>.leaf (.one (.c (.bool true)),m)
  | none=>.fail
 | .ret=>match setSt y.2.mem b (.done none) with
  | some m=>.leaf (.one (.c (.bool false)),m)
  | none=>.fail
 | .exit e=>match setSt y.2.mem b (.done (some e)) with
  | some m=>.leaf (.one (.c (.bool false)),m)
  | none=>.fail
def UE (P:Program) (H:Hd) (call:ju) (b:Nat) (args:List A1) (mem:Mem):Tree (AV × Mem) :=
 match nth mem b with
 | some (some (_,.lp f i .ready::cs))=>match VF P f i with
  | some rc => if args.length == rc.ps.size then
    (jL P H call f mem.length rc.n rc.a ⟨Q9 rc.ps.toList args (cs.map fun c=>⟨[],Lc c⟩),mem⟩).bind fun x=>match x.1 with
     | .normal=>match NN x.2.mem b with
      | some m=>(jL P H call f mem.length (rc.n+ji rc.a) rc.b ⟨x.2.tmps,m⟩).bind fun y=>FG b y
      | none=>.fail
     | _=>.fail
    else .fail
  | none=>.fail
 | _=>.fail
def Jr:Code->Bool
 | .seq a b=>Jr a&&Jr b
 | .cond _ a b=>Jr a&&Jr b
 | .block _ b=>Jr b
 | .loop b=>Jr b
 | .scope b=>Jr b
 | .rangeFunc _ _ _ _=>false
 | _=>true
def BR (b0:Nat) (tmps:List Slot) (mem:Mem):Tree (XE × St) :=
 match nth mem b0 with
 | some (some (_,.lp _ _ .ready::_))=>.leaf (.normal,⟨tmps,jk mem b0 none⟩)
 | some (some (_,.lp _ _ (.done none)::_))=>.leaf (.ret,⟨tmps,jk mem b0 none⟩)
 | some (some (_,.lp _ _ (.done (some e))::_))=>.leaf (.exit e,⟨tmps,jk mem b0 none⟩)
 | _=>.fail
def q9 (P:Program) (H:Hd) (call:ju) (f K:Nat):Nat->Nat->Code->St->Tree (XE × St)
 | n, m, .seq a b, s => if Jr (.seq a b) then jL P H call f K n (.seq a b) s else
   (q9 P H call f K n m a s).bind fun x=>match x.1 with
    | .normal=>q9 P H call f K (n+ji a) (m+jJ a) b x.2
    | e=>.leaf (e,x.2)
 | n, m, .cond c a b, s => if Jr (.cond c a b) then jL P H call f K n (.cond c a b) s else
   match zJ s [] c with
   | some (.one (.c (.bool t)))=>.br t (q9 P H call f K n m a s) (q9 P H call f K (n+ji a) (m+jJ a) b s)
   | _=>.fail
 | n, m, .block id b, s => if Jr (.block id b) then jL P H call f K n (.block id b) s else
   (q9 P H call f K n m b s).bind fun x=>match x.1 with
    | .exit k=>.leaf (if k=id then .normal else .exit k,x.2)
    | e=>.leaf (e,x.2)
 | _,m,.rangeFunc g _ _ _,s=>match zJ s [] g with
  | some (.one (.c (.fn (.func gf) first cap))) => if qH P gf then
    (call gf (first.map .c++(.c (.yld s.mem.length)::cap.map .c)) (s.mem++[some (0,.lp f m .ready::s.tmps.map cellS)])).bind fun x=>BR s.mem.length s.tmps x.2
    else .fail
  | _=>.fail
 | n,_,c,s=>jL P H call f K n c s
def jZ (P:Program) (H:Hd):Nat->ju
 | 0,_,_,_=>.fail
 | n+1,f,args,mem=>if Nat.ble 1000000000 f then UE P H (jZ P H n) (f - 1000000000) args mem else match Uu H.mc f with
  | some G=>G args mem
  | none=>match nth P.funcs.toList f with
   | some fn=>match fn.body with
    | some c => if Nat.ble args.length fn.ntmps then
      joined (jnz H f) mem.length ((q9 P H (jZ P H n) f mem.length 0 0 c ⟨args.map (fun a=>⟨[],.one a⟩)++List.replicate (fn.ntmps - args.length) ⟨[],.any⟩,mem⟩).bind fun x=>match x.1 with
       | .exit _=>.fail
       | _=>match zN P x.2 fn.results.toList with
        | some l=>.leaf (HX l,x.2.mem)
        | none=>.fail)
      else .fail
    | none=>.fail
   | none=>.fail
end Go.Sx