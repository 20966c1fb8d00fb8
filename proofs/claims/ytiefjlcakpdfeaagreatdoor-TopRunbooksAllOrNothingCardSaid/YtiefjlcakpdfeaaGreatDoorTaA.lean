/-
 Part TaA of the proof: EngA.
-/
import Derived.WalkKit
import Derived.WalkSpells
import Derived.WalkLawsBesides
import Derived.Deep.Quiet
import Derived.KernelRfl
namespace Go
theorem sIq {α:Type _} {a b:α}:(some a=some b)=(a=b):=Option.some.injEq a b
theorem pIq {α:Type _} {β:Type _} {a c:α} {b d:β}:((a,b)=(c,d))=(a=c∧b=d):=Prod.mk.injEq a b c d
theorem aTq {a b:Bool}:((a&&b)=true)=(a=true∧b=true):=Bool.and_eq_true a b
theorem lRq (n:Nat):n<=n:=Nat.le_refl n
theorem lOq (a b:Nat):a<b∨a≥b:=Nat.lt_or_ge a b
theorem eBq {n m:Nat} (h:Nat.beq n m=true):n=m:=Nat.eq_of_beq_eq_true h
theorem gEq {α:Type _} {l:List α} {i:Nat} (h:i<l.length):l[i]?=some l[i]:=List.getElem?_eq_getElem h
theorem lAq {α:Type _} {a b:List α}:(a++b).length=a.length+b.length:=List.length_append
end Go
namespace Go.Sx
inductive Sh where
 | bool
 | int (k:IntKind)
 | str
 | sl (es:List Sh)
 | rt (k:Nat)
 | ifc
def rtT (t:Nat):Option Nat:=if Nat.beq t 94 then some 0 else if Nat.beq t 96 then some 1 else none
def jm:Nat->List Sh
 | 0=>[.str,.int .i64,.rt 0]
 | _=>[.str,.sl [.str],.str,.int .i64,.rt 0,.rt 1,.rt 1,.int .i64]
def DF:Nat->Option (Nat × Bool × List Sh)
 | 0=>some (201,false,[.int .i64])
 | 1=>some (203,true,[.str,.int .i64])
 | 2=>some (206,true,[.str,.sl [.ifc]])
 | _=>none
def itN:Nat:=3
structure Val where
 B:List Nat->Bool
 N:List Nat->Int
 S:List Nat->ByteArray
 L:List Nat->Nat
def Val.at (ρ:Val) (i:Nat):Val:=⟨fun p=>ρ.B (i::p),fun p=>ρ.N (i::p),fun p=>ρ.S (i::p),fun p=>ρ.L (i::p)⟩
def Val.from (ρ:Val) (lo:Nat):Val where
 B:=fun | []=>false | i::p=>ρ.B ((lo+i)::p)
 N:=fun | []=>0 | i::p=>ρ.N ((lo+i)::p)
 S:=fun | []=>.empty | i::p=>ρ.S ((lo+i)::p)
 L:=fun | []=>0 | i::p=>ρ.L ((lo+i)::p)
inductive LpS where
 | ready
 | busy
 | done (e:Option Nat)
 | tab
inductive CV where
 | any
 | bool (b:Bool)
 | int (k:IntKind) (n:Int)
 | str (s:ByteArray)
 | nilp
 | ptr (b o:Nat)
 | rop (es:List Sh) (off:Nat) (ρ:Val)
 | nils
 | sl (es:List Sh) (n:Nat) (ρ:Val)
 | fn (f:Fn) (first cap:List CV)
 | nilf
 | nili
 | iface (t:TypeId) (v:CV)
 | ifa (t:TypeId) (l:List CV)
 | ifx (ρ:Val)
 | os (b sz:Nat)
 | rowp (b sz i off:Nat)
 | ost (b sz lo:Nat)
 | osh (b sz m:Nat)
 | oc (b m c:Nat)
 | row (fz:Bool) (es:List Sh) (n:Nat) (ρ:Val)
 | yld (b:Nat)
 | mp (ks:List ByteArray) (vs:List CV)
 | lp (f i:Nat) (st:LpS)
def cellOf:Sh->Val->CV
 | .bool,ρ=>.bool (ρ.B [])
 | .int k,ρ=>.int k (ρ.N [])
 | .str,ρ=>.str (ρ.S [])
 | .sl es,ρ=>.sl es (ρ.L []) ρ
 | .rt k,ρ=>.sl (jm k) (ρ.L []) ρ
 | .ifc,ρ=>.ifx ρ
def qK:List Sh->Nat->Val->List CV
 | [],_,_=>[]
 | s::r,i,ρ=>cellOf s (ρ.at i)::qK r (i+1) ρ
inductive A1 where
 | c (x:CV)
 | agg (l:List CV)
inductive AV where
 | any
 | one (x:A1)
 | tup (l:List A1)
inductive Tree (α:Type) where
 | leaf (a:α)
 | br (c:Bool) (t e:Tree α)
 | need (c:Bool) (t:Tree α)
 | fail
def Tree.bind {α β:Type}:Tree α->(α->Tree β)->Tree β
 | .leaf a,f=>f a
 | .br c t e,f=>.br c (t.bind f) (e.bind f)
 | .need c t,f=>.need c (t.bind f)
 | .fail,_=>.fail
def Tree.sel {α:Type}:Tree α->Option α
 | .leaf a=>some a
 | .br c t e=>bif c then t.sel else e.sel
 | .need c t=>bif c then t.sel else none
 | .fail=>none
def Tree.ofOpt {α:Type}:Option α->Tree α
 | some a=>.leaf a
 | none=>.fail
def shEq:Sh->Sh->Bool
 | .bool,.bool=>true
 | .int k,.int k'=>decide (k=k')
 | .str,.str=>true
 | .sl a,.sl b=>shsEq a b
 | .rt a,.rt b=>decide (a=b)
 | .ifc,.ifc=>true
 | _,_=>false
 where shsEq:List Sh->List Sh->Bool
 | [],[]=>true
 | a::l,b::r=>shEq a b&&shsEq l r
 | _,_=>false
def KD:List CV->Nat->Option CV
 | [],_=>none
 | x::_,0=>some x
 | _::r,n+1=>KD r n
def Val.byFst (f:Nat->Val):Val where
 B:=fun | []=>false | i::p=>(f i).B p
 N:=fun | []=>0 | i::p=>(f i).N p
 S:=fun | []=>.empty | i::p=>(f i).S p
 L:=fun | []=>0 | i::p=>(f i).L p
def Val.tagged (k:Nat) (f:Nat->Val):Val where
 B:=fun | []=>false | i::p=>(f i).B p
 N:=fun | []=>0 | i::p=>(f i).N p
 S:=fun | []=>.empty | i::p=>(f i).S p
 L:=fun | []=>k | i::p=>(f i).L p
def Kg (t:TypeId) (agg:Bool):Nat->Option (Nat × List Sh)
 | 0=>none
 | n+1=>match DF n with
  | some (t',a,es)=>if Nat.beq t' t&&(a==agg) then some (n,es) else Kg t agg n
  | none=>Kg t agg n
def Val.ofC0:CV->Val
 | .bool b=>⟨fun _=>b,fun _=>0,fun _=>.empty,fun _=>0⟩
 | .int _ n=>⟨fun _=>false,fun _=>n,fun _=>.empty,fun _=>0⟩
 | .str s=>⟨fun _=>false,fun _=>0,fun _=>s,fun _=>0⟩
 | .sl _ n σ=>⟨σ.B,σ.N,σ.S,fun p=>match p with | []=>n | i::q=>σ.L (i::q)⟩
 | .ifx ρ=>ρ
 | _=>⟨fun _=>false,fun _=>0,fun _=>.empty,fun _=>0⟩
def Val.ofC:CV->Val
 | .iface t x=>match Kg t false itN with
  | some (k,_)=>.tagged (k+1) fun _=>.ofC0 x
  | none=>.ofC0 .any
 | .ifa t l=>match Kg t true itN with
  | some (k,_)=>.tagged (k+1) fun i=>match KD l i with | some x=>.ofC0 x | none=>.ofC0 .any
  | none=>.ofC0 .any
 | x=>.ofC0 x
def Val.zero:Val:=⟨fun _=>false,fun _=>0,fun _=>.empty,fun _=>0⟩
def ZK:Sh->CV->Bool
 | .bool,.bool _=>true
 | .int k,.int k' _=>decide (k=k')
 | .str,.str _=>true
 | .sl es,.sl es' _ _=>shEq.shsEq es es'
 | .sl _,.nils=>true
 | .rt k,.sl es' _ _=>shEq.shsEq (jm k) es'
 | .rt _,.nils=>true
 | .ifc,.nili=>true
 | .ifc,.ifx _=>true
 | _,_=>false
def Qf:List Sh->List CV->Bool
 | [],[]=>true
 | s::r,x::l=>ZK s x&&Qf r l
 | _,_=>false
def fits (s:Sh) (x:CV):Bool:=ZK s x||(match s,x with
 | .ifc,.iface t y=>(match Kg t false itN with
  | some (_,[e])=>ZK e y
  | _=>false)
 | .ifc,.ifa t l=>(match Kg t true itN with
  | some (_,es)=>Qf es l
  | none=>false)
 | _,_=>false)
def Yo:List Sh->List CV->Bool
 | [],[]=>true
 | s::r,x::l=>fits s x&&Yo r l
 | _,_=>false
def Val.ofCs (l:List CV):Val:=.byFst fun i=>match nthC l i with | some x=>.ofC x | none=>.zero
 where nthC:List CV->Nat->Option CV
 | [],_=>none
 | x::_,0=>some x
 | _::r,n+1=>nthC r n
def zn (c:Bool) (a b:Val):Val:=⟨fun p=>bif c then a.B p else b.B p,fun p=>bif c then a.N p else b.N p,fun p=>bif c then a.S p else b.S p,fun p=>bif c then a.L p else b.L p⟩
def Val.cat (n:Nat) (a b:Val):Val:=.byFst fun i=>zn (Nat.blt i n) (a.at i) (b.at (i - n))
def Val.upd (a:Val) (i f:Nat) (x:CV):Val:=.byFst fun k=>zn (Nat.beq k i) (.byFst fun g=>zn (Nat.beq g f) (.ofC x) ((a.at k).at g)) (a.at k)
def Val.upds (a:Val) (i:Nat):Nat->List CV->Val
 | _,[]=>a
 | f,x::r=>(a.upd i f x).upds i (f+1) r
def nth {α:Type}:List α->Nat->Option α
 | [],_=>none
 | a::_,0=>some a
 | _::l,n+1=>nth l n
def jk {α:Type}:List α->Nat->α->List α
 | [],_,_=>[]
 | _::l,0,b=>b::l
 | a::l,n+1,b=>a::jk l n b
structure Slot where
 keys:List (Nat × Bool)
 v:AV
abbrev Mem:=List (Option (TypeId × List CV))
structure St where
 tmps:List Slot
 mem:Mem
def jgr:AV:=.any
def jaw:Value->Option AV
 | .bool b=>some (.one (.c (.bool b)))
 | .int k n=>some (.one (.c (.int k n)))
 | .string s=>some (.one (.c (.str s)))
 | .pointer none=>some (.one (.c .nilp))
 | .slice none 0 0=>some (.one (.c .nils))
 | .nilFunc=>some (.one (.c .nilf))
 | .nilIface=>some (.one (.c .nili))
 | _=>none
def WZ:Value->Option CV
 | .bool b=>some (.bool b)
 | .int k n=>some (.int k n)
 | .string s=>some (.str s)
 | .pointer none=>some .nilp
 | .slice none 0 0=>some .nils
 | .nilFunc=>some .nilf
 | .nilIface=>some .nili
 | _=>none
def kN:List Value->Option (List CV)
 | []=>some []
 | v::r=>match WZ v,kN r with
  | some c,some l=>some (c::l)
  | _,_=>none
def Ri (K:List (Nat × Bool)) (p:Nat × Bool):Bool:=K.any fun q=>q.1==p.1&&q.2==p.2
def zp (s:St) (K:List (Nat × Bool)):Operand->Option AV
 | .tmp t=>match nth s.tmps t with
  | some ⟨ks,v⟩=>if ks.all (Ri K) then some v else none
  | none=>none
 | .const v=>jaw v
 | .func f=>some (.one (.c (.fn (.func f) [] [])))
 | .global _=>none
def Qi (c:Bool):CV->CV->CV
 | .bool a,.bool b=>.bool (bif c then a else b)
 | .int k a,.int k' b=>if k=k' then .int k (bif c then a else b) else .any
 | .str a,.str b=>.str (bif c then a else b)
 | .nilp,.nilp=>.nilp
 | .nils,.nils=>.nils
 | .nilf,.nilf=>.nilf
 | .nili,.nili=>.nili
 | .ptr a o,.ptr b o'=>if a==b&&o==o' then .ptr a o else .any
 | .os a z,.os b z'=>if a==b&&z==z' then .os a z else .any
 | .sl es n ρ,.sl es' m σ=>if shEq.shsEq es es' then .sl es (bif c then n else m) (zn c ρ σ) else .any
 | .sl es n ρ,.nils=>.sl es (bif c then n else 0) ρ
 | .nils,.sl es n ρ=>.sl es (bif c then 0 else n) ρ
 | _,_=>.any
def yG (c:Bool):List CV->List CV->Option (List CV)
 | [],[]=>some []
 | a::l,b::r=>match yG c l r with
  | some m=>some (Qi c a b::m)
  | none=>none
 | _,_=>none
def TL (c:Bool):A1->A1->Option A1
 | .c a,.c b=>some (.c (Qi c a b))
 | .agg a,.agg b=>match yG c a b with
  | some m=>some (.agg m)
  | none=>none
 | _,_=>none
def Zw (c:Bool):List A1->List A1->Option (List A1)
 | [],[]=>some []
 | a::l,b::r=>match TL c a b,Zw c l r with
  | some x,some m=>some (x::m)
  | _,_=>none
 | _,_=>none
def Qg (c:Bool):AV->AV->AV
 | .tup a,.tup b=>match Zw c a b with
  | some m=>.tup m
  | none=>jgr
 | .one (.c a),.one (.c b)=>.one (.c (Qi c a b))
 | .one (.agg a),.one (.agg b)=>match yG c a b with
  | some m=>.one (.agg m)
  | none=>jgr
 | _,_=>jgr
def Yq (P:Program) (f:Field):Bool :=
 f.name != "_" && P.cellsOf f.type==1&&(match P.underlying f.type with | some .bool | some (.int _) | some .string=>true | _=>false)
def eqFields (P:Program) (xs ys:List CV):List Field->Option Bool
 | []=>some true
 | f :: r =>
   if Yq P f then
    match nth xs f.offset,nth ys f.offset with
    | some a,some b=>match P.underlying f.type,a,b,eqFields P xs ys r with
     | some .bool,.bool p,.bool q,some e=>some ((p==q)&&e)
     | some (.int _),.int k p,.int k' q,some e=>if k=k' then some ((p==q)&&e) else none
     | some .string,.str p,.str q,some e=>some ((p==q)&&e)
     | _,_,_,_=>none
    | _,_=>none
   else none
def Uj (P:Program) (e:TypeId):Bool :=
 P.cellsOf e==1&&(match P.underlying e with | some .bool | some (.int _) | some .string=>true | _=>false)
def eqItems (P:Program) (e:TypeId) (xs ys:List CV):List Nat->Option Bool
 | []=>some true
 | i :: r => match nth xs i, nth ys i with
   | some a,some b=>match P.underlying e,a,b,eqItems P e xs ys r with
    | some .bool,.bool p,.bool q,some z=>some ((p==q)&&z)
    | some (.int _),.int k p,.int k' q,some z=>if k=k' then some ((p==q)&&z) else none
    | some .string,.str p,.str q,some z=>some ((p==q)&&z)
    | _,_,_,_=>none
   | _,_=>none
def O9 (P:Program) (t:TypeId):A1->A1->Option Bool
 | .c (.bool a),.c (.bool b)=>match P.underlying t with
  | some .bool=>some (a==b)
  | _=>none
 | .agg xs,.agg ys=>match P.underlying t with
  | some (.struct fs)=>if P.stoodInHeld t||P.eqGuardType P.depth t then none else eqFields P xs ys fs.toList
  | some (.array n e)=>if P.eqGuardType P.depth t||!Uj P e||(P.info? e).isNone then none else eqItems P e xs ys (List.range n)
  | _=>none
 | .c .nils,.c .nils=>match P.underlying t with | some (.slice _)=>some true | _=>none
 | .c .nilp,.c .nilp=>match P.underlying t with | some (.pointer _)=>some true | _=>none
 | .c (.ptr _ _),.c .nilp=>match P.underlying t with | some (.pointer _)=>some false | _=>none
 | _,_=>none
def lt (a b:Int):Bool:=decide (a<b)
def le (a b:Int):Bool:=decide (a<=b)
def Xg (a b:Int):Int:=bif lt a b then b else a
def QB (a b:Int):Int:=bif lt b a then b else a
def jlQ (k:IntKind) (a b:Int):Int:=k.wrap (a*2 ^ (min b.toNat k.bits))
def jgX (k:IntKind) (a b:Int):Int:=a.fdiv (2 ^ (min b.toNat k.bits))
def jou (k:IntKind) (a b:Int):Int:=k.wrap ((BitVec.ofInt k.bits a &&& BitVec.ofInt k.bits b).toNat:Nat)
def orI (k:IntKind) (a b:Int):Int:=k.wrap ((BitVec.ofInt k.bits a ||| BitVec.ofInt k.bits b).toNat:Nat)
def jpj (k:IntKind) (a b:Int):Int:=k.wrap ((BitVec.ofInt k.bits a ^^^ BitVec.ofInt k.bits b).toNat:Nat)
def MG (k:IntKind) (a b:Int):Int:=k.wrap ((BitVec.ofInt k.bits a &&& ~~~ BitVec.ofInt k.bits b).toNat:Nat)
def kH:List UInt8->List UInt8->Bool
 | [],[]=>true
 | a::l,b::r=>Nat.beq a.toNat b.toNat&&kH l r
 | _,_=>false
def jb (a b:ByteArray):Bool:=kH a.data.toList b.data.toList
def jn (a b:ByteArray):ByteArray:=⟨⟨a.data.toList++b.data.toList⟩⟩
def y4 (s:ByteArray) (lo hi:Nat):ByteArray:=⟨⟨(s.data.toList.take hi).drop lo⟩⟩
def jB (s:ByteArray) (i:Nat):Int:=match nth s.data.toList i with | some b=>(b.toNat:Int) | none=>0
def strOf (n:Int):ByteArray:=⟨⟨[UInt8.ofNat n.toNat]⟩⟩
def encI (n:Int):ByteArray:=bif le 0 n&&lt n 128 then strOf n else Utf8.encode n
def Nt (op:BinOp) (k:IntKind) (a b:Int):Tree AV :=
 let i (n:Int):Tree AV:=.leaf (.one (.c (.int k n)))
 let b' (x:Bool):Tree AV:=.leaf (.one (.c (.bool x)))
 match op with
 | .add=>i (k.wrap (a+b))
 | .sub=>i (k.wrap (a - b))
 | .mul=>i (k.wrap (a*b))
 | .quo=>.need (!(b==0)) (i (k.wrap (a.tdiv b)))
 | .rem=>.need (!(b==0)) (i (a.tmod b))
 | .eql=>b' (a==b)
 | .neq=>b' (a != b)
 | .lss=>b' (lt a b)
 | .leq=>b' (le a b)
 | .gtr=>b' (lt b a)
 | .geq=>b' (le b a)
 | .and=>i (jou k a b)
 | .or=>i (orI k a b)
 | .xor=>i (jpj k a b)
 | .andNot=>i (MG k a b)
 | _=>.fail
def jaN (P:Program) (op:BinOp) (t:TypeId):AV->AV->Tree AV
 | .one (.c (.int k a)), .one (.c (.int k' b)) =>
   match op with
  | .shl=>.need (le 0 b) (.leaf (.one (.c (.int k (jlQ k a b)))))
  | .shr=>.need (le 0 b) (.leaf (.one (.c (.int k (jgX k a b)))))
  | _=>if k=k' then Nt op k a b else .fail
 | .one (.c (.str a)), .one (.c (.str b)) =>
   match op with
  | .eql=>.leaf (.one (.c (.bool (jb a b))))
  | .neq=>.leaf (.one (.c (.bool (!jb a b))))
  | .add=>.need (Nat.ble (a.size+b.size) 9223372036854775807) (.leaf (.one (.c (.str (jn a b)))))
  | _=>.fail
 | .one a, .one b =>
   match op with
  | .eql=>match O9 P t a b with
   | some e=>.leaf (.one (.c (.bool e)))
   | none=>.fail
  | .neq=>match O9 P t a b with
   | some e=>.leaf (.one (.c (.bool (!e))))
   | none=>.fail
  | _=>.fail
 | _,_=>.fail
def jeR (op:UnOp):AV->Tree AV
 | .one (.c (.bool b))=>match op with
  | .not=>.leaf (.one (.c (.bool (!b))))
  | _=>.fail
 | .one (.c (.int k n))=>match op with
  | .neg=>.leaf (.one (.c (.int k (k.wrap (0 - n)))))
  | _=>.fail
 | _=>.fail
def takeN {α:Type}:List α->Nat->Option (List α)
 | _,0=>some []
 | [],_+1=>none
 | a::l,n+1=>match takeN l n with | some r=>some (a::r) | none=>none
def U9 {α:Type}:List α->Nat->List α
 | l,0=>l
 | [],_+1=>[]
 | _::l,n+1=>U9 l n
def Jl (P:Program) (t:TypeId):Option Bool :=
 match P.underlying t with
 | some (.struct _) | some (.array _ _)=>some true
 | some _=>some false
 | none=>none
def partOf (P:Program) (t:TypeId) (cs:List CV) (off:Nat):Option A1 :=
 match Jl P t with
 | some true=>match takeN (U9 cs off) (P.cellsOf t) with | some l=>some (.agg l) | none=>none
 | some false=>match nth cs off with | some x=>some (.c x) | none=>none
 | none=>none
def A1.cells:A1->List CV
 | .agg l=>l
 | .c x=>[x]
def putCells:List CV->Nat->List CV->List CV
 | cs,_,[]=>cs
 | cs,o,x::r=>putCells (jk cs o x) (o+1) r
def y6 (places:Nat->Option (Nat × Nat)):List CV->List (Nat × A1)->Option (List CV)
 | cs,[]=>some cs
 | cs,(i,v)::r=>match places i with
  | none=>none
  | some (off, size) =>
    if v.cells.length==size&&Nat.ble (off+v.cells.length) cs.length then y6 places (putCells cs off v.cells) r else none
def JR (ρ:Operand->Option AV):List (Nat × Operand)->Option (List (Nat × A1))
 | []=>some []
 | (i,x)::r=>match ρ x,JR ρ r with
  | some (.one a),some l=>some ((i,a)::l)
  | _,_=>none
def jP (P:Program) (t:TypeId):Option (List CV) :=
 match P.info? t with
 | some i=>match i.zero with
  | some z=>kN z.cells.toList
  | none=>none
 | none=>none
def Nm (P:Program) (t:TypeId) (parts:List (Nat × A1)):Option AV :=
 match jP P t,P.underlying t with
 | some z,some (.struct fs)=>match y6 (fun i=>match nth fs.toList i with | some f=>(match P.info? f.type with | some j=>some (f.offset,j.size) | none=>none) | none=>none) z parts with
  | some cs=>if fs.toList.all (fun f=>(P.info? f.type).isSome) then some (.one (.agg cs)) else none
  | none=>none
 | some z,some (.array _ e)=>match P.info? e with
  | some j=>match y6 (fun i=>some (i*j.size,j.size)) z parts with
   | some cs=>some (.one (.agg cs))
   | none=>none
  | none=>none
 | _,_=>none
def kF (sh:TypeId->Option (List Sh)) (P:Program):Nat->List Field->Option (List Sh)
 | _,[]=>some []
 | o,f::r=>if f.offset==o then (match sh f.type with
  | some a=>if a.length==P.cellsOf f.type then (match kF sh P (o+a.length) r with | some b=>some (a++b) | none=>none) else none
  | none=>none) else none
def Xf (l:List Sh):Nat->List Sh
 | 0=>[]
 | n+1=>l++Xf l n
def zR (P:Program):Nat->TypeId->Option (List Sh)
 | 0,_=>none
 | n+1,t=>match P.underlying t with
  | some .bool=>some [.bool]
  | some (.int k)=>some [.int k]
  | some .string=>some [.str]
  | some (.slice e)=>match zR P n e with
   | some es=>if es.length==P.cellsOf e&&!es.isEmpty then some [.sl es] else none
   | none=>none
  | some (.struct fs)=>match kF (zR P n) P 0 fs.toList with
   | some l=>if l.length==P.cellsOf t then some l else none
   | none=>none
  | some (.array m e)=>match zR P n e with
   | some es=>if es.length==P.cellsOf e&&(Xf es m).length==P.cellsOf t then some (Xf es m) else none
   | none=>none
  | _=>none
def Zp (P:Program):Nat->TypeId->Option (List Sh)
 | 0,_=>none
 | n+1,t=>match P.underlying t with
  | some .bool=>some [.bool]
  | some (.int k)=>some [.int k]
  | some .string=>some [.str]
  | some (.slice e)=>match rtT e with
   | some k=>if (jm k).length==P.cellsOf e then some [.rt k] else none
   | none=>match Zp P n e with
    | some es=>if es.length==P.cellsOf e&&!es.isEmpty then some [.sl es] else none
    | none=>none
  | some (.struct fs)=>match kF (Zp P n) P 0 fs.toList with
   | some l=>if l.length==P.cellsOf t then some l else none
   | none=>none
  | some (.array m e)=>match Zp P n e with
   | some es=>if es.length==P.cellsOf e&&(Xf es m).length==P.cellsOf t then some (Xf es m) else none
   | none=>none
  | some (.interface _)=>if P.cellsOf t==1 then some [.ifc] else none
  | _=>none
def ja (n:Nat):Int:=Int.ofNat n
def Rr (P:Program) (t:TypeId):AV->Tree AV
 | .one (.c (.sl _ n _))=>match P.underlying t with
  | some (.slice _)=>.leaf (.one (.c (.int .i64 (ja n))))
  | _=>.fail
 | .one (.c (.oc _ m _))=>match P.underlying t with
  | some (.slice _)=>.leaf (.one (.c (.int .i64 (ja m))))
  | _=>.fail
 | .one (.c .nils)=>match P.underlying t with
  | some (.slice _)=>.leaf (.one (.c (.int .i64 0)))
  | _=>.fail
 | .one (.c (.str s))=>match P.underlying t with
  | some .string=>.leaf (.one (.c (.int .i64 (ja s.size))))
  | _=>.fail
 | _=>.fail
def ql (k:IntKind):Int->List A1->Option Int
 | a,[]=>some a
 | a,.c (.int _ b)::r=>ql k (Xg a b) r
 | _,_=>none
def qm (k:IntKind):Int->List A1->Option Int
 | a,[]=>some a
 | a,.c (.int _ b)::r=>qm k (QB a b) r
 | _,_=>none
def jaP (mx:Bool):List A1->Tree AV
 | .c (.int k a)::r=>match (if mx then ql k a r else qm k a r) with
  | some n=>.leaf (.one (.c (.int k n)))
  | none=>.fail
 | _=>.fail
def q9 (ρ:Operand->Option AV):List Operand->Option (List A1)
 | []=>some []
 | x::r=>match ρ x,q9 ρ r with
  | some (.one a),some l=>some (a::l)
  | _,_=>none
def Z4 {α:Type} (i:Int):Int->List α->Tree α
 | _,[]=>.fail
 | _,[a]=>.leaf a
 | j,a::r=>.br (i==j) (.leaf a) (Z4 i (j+1) r)
def jrd:A1->Bool
 | .c (.fn _ _ _)=>true
 | _=>false
def UW (i:Int):Int->List A1->AV
 | _,[]=>.any
 | _,[a]=>.one a
 | j,a::r=>Qg (i==j) (.one a) (UW i (j+1) r)
def partsOf (P:Program) (e:TypeId) (cs:List CV):(count off step:Nat)->Option (List A1)
 | 0,_,_=>some []
 | n+1,off,step=>match partOf P e cs off,partsOf P e cs n (off+step) step with
  | some a,some l=>some (a::l)
  | _,_=>none
def jc (i:Int) (n:Nat):Bool:=le 0 i&&lt i (ja n)
def NS (P:Program) (t:TypeId):AV->AV->Tree AV
 | .one (.agg cs),.one (.c (.int _ i))=>match P.underlying t with
  | some (.array len e)=>match P.info? e with
   | some j=>match partsOf P e cs len 0 j.size with
    | some []=>.fail
    | some (p::ps)=>.need (jc i len) (if jrd p then (Z4 i 0 (p::ps)).bind fun a=>.leaf (.one a) else .leaf (UW i 0 (p::ps)))
    | none=>.fail
   | none=>.fail
  | _=>.fail
 | .one (.c (.str s)),.one (.c (.int _ i))=>match P.underlying t with
  | some .string=>.need (jc i s.size) (.leaf (.one (.c (.int .u8 (jB s i.toNat)))))
  | _=>.fail
 | _,_=>.fail
def jdk (n:Nat) (ρ:Val):ByteArray:=((List.range n).map fun i=>((ρ.at i).at 0).N []).foldl (fun r n=>r.push (UInt8.ofNat n.toNat)) ByteArray.empty
def Rt (P:Program) (s d:TypeId):Option AV->Option AV
 | some (.one (.c (.sl [.int .u8] n ρ)))=>match P.underlying s,P.underlying d with
  | some (.slice e),some .string=>match P.underlying e with
   | some (.int .u8)=>some (.one (.c (.str (jdk n ρ))))
   | _=>none
  | _,_=>none
 | some (.one (.c .nils))=>match P.underlying s,P.underlying d with
  | some (.slice e),some .string=>match P.underlying e with
   | some (.int .u8)=>some (.one (.c (.str ByteArray.empty)))
   | _=>none
  | _,_=>none
 | _=>none
def evPure0 (P:Program) (ρ:List (Nat × Bool)->Operand->Option AV):Op->Tree AV
 | .move x | .assign x=>.ofOpt (ρ [] x)
 | .pick (.tmp t) a b=>match ρ [] (.tmp t),ρ [(t,true)] a,ρ [(t,false)] b with
  | some (.one (.c (.bool c))),some va,some vb=>.leaf (Qg c va vb)
  | _,_,_=>.fail
 | .build t parts=>match JR (ρ []) parts.toList with
  | some l=>.ofOpt (Nm P t l)
  | none=>.fail
 | .binOp op t x y _=>match ρ [] x,ρ [] y with
  | some a,some b=>jaN P op t a b
  | _,_=>.fail
 | .unOp op _ x=>match ρ [] x with
  | some a=>jeR op a
  | none=>.fail
 | .convert s d x=>match P.underlying s,P.underlying d,ρ [] x with
  | some _,some (.int k),some (.one (.c (.int _ n)))=>.leaf (.one (.c (.int k (k.wrap n))))
  | some (.int _),some .string,some (.one (.c (.int _ n)))=>.leaf (.one (.c (.str (encI n))))
  | _,_,_=>.fail
 | .extract x i=>match ρ [] x with
  | some (.tup l)=>match nth l i with
   | some a=>.leaf (.one a)
   | none=>.fail
  | _=>.fail
 | .field t x i=>match P.underlying t,ρ [] x with
  | some (.struct fs),some (.one (.agg cs))=>match nth fs.toList i with
   | some f=>match partOf P f.type cs f.offset with
    | some a=>.leaf (.one a)
    | none=>.fail
   | none=>.fail
  | _,_=>.fail
 | .fieldAddr t x i=>match P.underlying t,ρ [] x with
  | some (.struct fs),some (.one (.c (.ptr b o)))=>match nth fs.toList i with
   | some f=>match P.info? f.type with
    | some j=>if j.size==0 then .fail else .leaf (.one (.c (.ptr b (o+f.offset))))
    | none=>.fail
   | none=>.fail
  | some (.struct fs),some (.one (.c (.rop es off ρ)))=>match nth fs.toList i with
   | some f=>match P.info? f.type with
    | some j=>if j.size==0 then .fail else .leaf (.one (.c (.rop es (off+f.offset) ρ)))
    | none=>.fail
   | none=>.fail
  | some (.struct fs),some (.one (.c (.rowp b sz i' off)))=>match nth fs.toList i with
   | some f=>match P.info? f.type with
    | some j=>if j.size==0 then .fail else .leaf (.one (.c (.rowp b sz i' (off+f.offset))))
    | none=>.fail
   | none=>.fail
  | _,_=>.fail
 | .indexAddr t x i=>match P.underlying t,ρ [] x,ρ [] i with
  | some (.slice e),some (.one (.c (.sl es n ρ))),some (.one (.c (.int _ i)))=>match P.info? e with
   | some j=>if j.size==es.length then .need (jc i n) (.leaf (.one (.c (.rop es 0 (ρ.at i.toNat))))) else .fail
   | none=>.fail
  | some (.array len e),some (.one (.c (.ptr b o))),some (.one (.c (.int _ i)))=>match P.info? e with
   | some j=>.need (jc i len) ((Z4 i 0 (List.range len)).bind fun k=>.leaf (.one (.c (.ptr b (o+k*j.size)))))
   | none=>.fail
  | some (.slice e),some (.one (.c (.oc b m _))),some (.one (.c (.int _ i)))=>match P.info? e with
   | some j=>if j.size==1 then .need (jc i m) ((Z4 i 0 (List.range m)).bind fun k=>.leaf (.one (.c (.ptr b k)))) else .fail
   | none=>.fail
  | _,_,_=>.fail
 | .index t x i=>match ρ [] x,ρ [] i with
  | some a,some b=>NS P t a b
  | _,_=>.fail
 | .makeFunc f first cap=>match q9 (ρ []) first.toList,q9 (ρ []) cap.toList with
  | some a,some b=>match cellsOnly a,cellsOnly b with
   | some x,some y=>.leaf (.one (.c (.fn f x y)))
   | _,_=>.fail
  | _,_=>.fail
 | .nilCheck x=>match ρ [] x with
  | some (.one (.c (.ptr b o)))=>.leaf (.one (.c (.ptr b o)))
  | some (.one (.c (.rop es off ρ)))=>.leaf (.one (.c (.rop es off ρ)))
  | some (.one (.c (.rowp b sz i off)))=>.leaf (.one (.c (.rowp b sz i off)))
  | some (.one (.c (.fn (.func f) a b)))=>.leaf (.one (.c (.fn (.func f) a b)))
  | _=>.fail
 | .call { callee:=.builtin .len,args,argTypes }=>match q9 (ρ []) args.toList,argTypes.toList with
  | some [a],[t]=>Rr P t (.one a)
  | _,_=>.fail
 | .call { callee:=.builtin .max,args,.. }=>match q9 (ρ []) args.toList with
  | some l=>jaP true l
  | none=>.fail
 | .call { callee:=.builtin .min,args,.. }=>match q9 (ρ []) args.toList with
  | some l=>jaP false l
  | none=>.fail
 | _=>.fail
 where
 cellsOnly:List A1->Option (List CV)
 | []=>some []
 | .c x::r=>match cellsOnly r with | some l=>some (x::l) | none=>none
 | _=>none
def HS (P:Program) (t:TypeId):Option AV->Option AV->Option (Tree AV)
 | some (.one (.c (.ptr b o))),some (.one (.c (.int _ i)))=>match P.underlying t with
  | some (.array len e)=>match P.info? e with
   | some j=>some (cond (jc i len) (.leaf (.one (.c (.ptr b (o+i.toNat*j.size))))) .fail)
   | none=>none
  | _=>none
 | _,_=>none
def JE (P:Program) (Gn:Bool) (ρ:List (Nat × Bool)->Operand->Option AV):Op->Tree AV
 | .indexAddr t x i=>match (if Gn then HS P t (ρ [] x) (ρ [] i) else none) with
  | some r=>r
  | none=>evPure0 P ρ (.indexAddr t x i)
 | .convert s d x=>match Rt P s d (ρ [] x) with
  | some v=>.leaf v
  | none=>evPure0 P ρ (.convert s d x)
 | op=>evPure0 P ρ op
inductive XE where
 | normal
 | exit (id:Nat)
 | ret
structure Hd where
 pc:List (Nat × (List A1->Tree AV))
 hc:List (Nat × (List A1->Tree AV)):=[]
 lh:List ((Nat × Nat) × (Nat->St->Tree (XE × St)))
 mc:List (Nat × (List A1->Mem->Tree (AV × Mem)))
def VE:List (Nat × (List A1->Mem->Tree (AV × Mem)))->Nat->Option (List A1->Mem->Tree (AV × Mem))
 | [],_=>none
 | (k,F)::r,f=>if k==f then some F else VE r f
def oG (G:List A1->Option AV) (args:List A1):Tree AV :=
 match G args with
 | some r=>.leaf r
 | none=>.fail
def qF:List (Nat × (List A1->Tree AV))->Nat->Option (List A1->Tree AV)
 | [],_=>none
 | (k,F)::r,f=>if k==f then some F else qF r f
def kB:List ((Nat × Nat) × (Nat->St->Tree (XE × St)))->Nat->Nat->Option (Nat->St->Tree (XE × St))
 | [],_,_=>none
 | (k,F)::r,f,i=>if k.1==f&&k.2==i then some F else kB r f i
def yK (ρ:Operand->Option AV) (c:Call):Option (Nat × List A1) :=
 match c.callee with
 | .value x=>match ρ x,q9 ρ c.args.toList with
  | some (.one (.c (.fn (.func f) first cap))),some l=>some (f,first.map .c++l++cap.map .c)
  | _,_=>none
 | _=>none
def closedC:CV->Bool
 | .ptr _ _=>false
 | .os _ _=>false
 | .ost _ _ _=>false
 | .osh _ _ _=>false
 | .oc _ _ _=>false
 | .rowp _ _ _ _=>false
 | .row _ _ _ _=>false
 | .yld _=>false
 | .mp _ _=>false
 | .lp _ _ _=>false
 | .fn _ a b=>closedCs a&&closedCs b
 | .iface _ v=>closedC v
 | .ifa _ l=>closedCs l
 | _=>true
 where closedCs:List CV->Bool
 | []=>true
 | a::l=>closedC a&&closedCs l
def jx:A1->Bool
 | .c x=>closedC x
 | .agg l=>l.all closedC
def qx (P:Program) (f:Nat):Bool :=
 match nth P.funcs.toList f with
 | some fn=>(fn.name != "runtime.NumGoroutine" && fn.body.isSome)&&Nat.blt f 1000000000
 | none=>false
def Gn (H:Hd):Bool:=(qF H.pc 4294967295).isSome
abbrev jt:=Nat->List A1->Mem->Tree (AV × Mem)
def je:List CV->Bool
 | [.row _ _ _ _]=>true
 | .lp _ _ _::_=>true
 | _=>false
def Y3 (P:Program) (mem:Mem) (t:TypeId):AV->Option AV
 | .one (.c (.ptr b o))=>match nth mem b with
  | some (some (_,cs))=>if je cs then none else match partOf P t cs o with
   | some a=>some (.one a)
   | none=>none
  | _=>none
 | .one (.c (.rop es off ρ))=>match partOf P t (qK es 0 ρ) off with
  | some a=>some (.one a)
  | none=>none
 | _=>none
def jm6 (c:Bool):Bool->Bool
 | true=>true
 | false=>!c
def LX:Bool->Bool->Bool
 | true,y=>y
 | false,_=>false
def rowAt (mem:Mem) (b:Nat):Option (TypeId × Bool × List Sh × Nat × Val) :=
 match nth mem b with
 | some (some (T,[.row fz es n ρ]))=>some (T,fz,es,n,ρ)
 | _=>none
def Zx (mem:Mem):CV->Mem × CV
 | .os b sz=>match rowAt mem b with
  | some (T,_,es,n,ρ)=>if es.length==sz then (jk mem b (some (T,[.row true es n ρ])),.sl es n ρ) else (mem,.os b sz)
  | none=>(mem,.os b sz)
 | x=>(mem,x)
def qA:Mem->List CV->Mem × List CV
 | mem,[]=>(mem,[])
 | mem, x :: r =>
   let y:=Zx mem x
   let z:=qA y.1 r
   (z.1,y.2::z.2)
def GI (mem:Mem):A1->Mem × A1
 | .c x=>let y:=Zx mem x;(y.1,.c y.2)
 | .agg l=>let y:=qA mem l;(y.1,.agg y.2)
def zg:Mem->List A1->Mem × List A1
 | mem,[]=>(mem,[])
 | mem, x :: r =>
   let y:=GI mem x
   let z:=zg y.1 r
   (z.1,y.2::z.2)
def z7:CV->Bool
 | .os _ _=>true
 | _=>false
def J5 (l:List CV):Nat->List CV
 | 0=>[]
 | n+1=>l++J5 l n
def Val.ofFlat (sz:Nat) (cs:List CV):Val:=.byFst fun i=>.byFst fun f=>match nth cs (i*sz+f) with | some x=>.ofC x | none=>.zero
def Qw (es:List Sh):Nat->List CV->Bool
 | 0,[]=>true
 | n+1,cs=>match takeN cs es.length with
  | some l=>Yo es l&&Qw es n (U9 cs es.length)
  | none=>false
 | _,_=>false
def kE (P:Program) (mem:Mem) (t:TypeId) (n:Nat) (parts:List (Nat × A1)):Option (AV × Mem) :=
 match P.underlying t with
 | some (.slice e)=>match P.info? e,Zp P 12 e,jP P e with
  | some j, some es, some z =>
    if es.length==j.size&&Nat.blt 0 j.size&&z.length==j.size&&Nat.ble (n*j.size) 16777216 then
     match y6 (fun i=>some (i*j.size,j.size)) (J5 z n) parts with
     | some cs =>
       let y:=qA mem cs
       if Qw es n y.2 then some (.one (.c (.os y.1.length j.size)),y.1++[some (e,[.row false es n (Val.ofFlat j.size y.2)])]) else none
     | none=>none
    else none
  | _,_,_=>none
 | _=>none
def Yw (mem:Mem):A1->Option (List Sh × Nat × Val)
 | .c (.sl es n ρ)=>some (es,n,ρ)
 | .c (.os b sz)=>match rowAt mem b with
  | some (_,_,es,n,ρ)=>if es.length==sz then some (es,n,ρ) else none
  | none=>none
 | _=>none
def jjv (b:Nat):A1->Bool
 | .c (.os b' _)=>!(b'==b)
 | _=>true
def Zk (P:Program) (mem:Mem) (t:TypeId) (a x:A1):Tree (AV × Mem) :=
 match P.underlying t with
 | some (.slice e)=>match P.info? e,jP P e with
  | some j, some z =>
    if !(Nat.blt 0 j.size&&Nat.blt 0 j.bytes&&z.length==j.size) then .fail else
    match a,x with
   | .c .nils,.c .nils=>.leaf (.one (.c .nils),mem)
   | .c (.os b sz),.c .nils=>match rowAt mem b with
    | some _=>.leaf (.one (.c (.os b sz)),mem)
    | none=>.fail
   | .c .nils,x=>match Yw mem x with
    | some (es,m,σ)=>if es.length==j.size then .need (Nat.ble (m*j.bytes) 140737488355328) (.leaf (.one (.c (.os mem.length j.size)),mem++[some (e,[.row false es m σ])])) else .fail
    | none=>.fail
   | .c (.os b sz),x=>match rowAt mem b,Yw mem x with
    | some (T, false, es, n, ρ), some (es', m, σ) =>
      if T==e&&es.length==j.size&&sz==j.size&&shEq.shsEq es es'&&jjv b x then
       .need (Nat.ble ((n+m)*j.bytes) 140737488355328) (.leaf (.one (.c (.os mem.length j.size)),jk mem b none++[some (e,[.row false es (n+m) (Val.cat n ρ σ)])]))
      else .fail
    | _,_=>.fail
   | _,_=>.fail
  | _,_=>.fail
 | _=>.fail
def jip:A1->Bool
 | .c (.osh _ _ _)=>true
 | _=>false
def Uk (P:Program) (mem:Mem) (t:TypeId) (a x:A1):Tree (AV × Mem) :=
 match a with
 | .c (.osh b sz m)=>match nth mem b with
  | some (some (T,[.row false es n ρ]))=>if Nat.ble m n then Zk P (jk mem b none++[some (T,[.row false es m ρ])]) t (.c (.os mem.length sz)) x else .fail
  | _=>.fail
 | a=>Zk P mem t a x
def JV (ρ:Operand->Option AV):Option Operand->Option (Option Int)
 | none=>some none
 | some x=>match ρ x with
  | some (.one (.c (.int _ i)))=>some (some i)
  | _=>none
def W3 (es:List Sh) (n:Nat) (ρ:Val) (lo hi:Option Int) (mem:Mem):Tree (AV × Mem) :=
 match lo,hi with
 | none,none=>.leaf (.one (.c (.sl es n ρ)),mem)
 | none,some h=>.need (le 0 h&&le h (ja n)) (.leaf (.one (.c (.sl es h.toNat ρ)),mem))
 | some l,none=>.need (le 0 l&&le l (ja n)) (.leaf (.one (.c (.sl es (n - l.toNat) (ρ.from l.toNat))),mem))
 | some l,some h=>.need (le 0 l&&le l h&&le h (ja n)) (.leaf (.one (.c (.sl es (h.toNat - l.toNat) (ρ.from l.toNat))),mem))
def Lp (s:ByteArray) (lo hi:Option Int) (mem:Mem):Tree (AV × Mem) :=
 .need (le 0 (lo.getD 0)&&le (lo.getD 0) (hi.getD (ja s.size))&&le (hi.getD (ja s.size)) (ja s.size)) (.leaf (.one (.c (.str (y4 s (lo.getD 0).toNat (hi.getD (ja s.size)).toNat))),mem))
def isZero:Option Int->Bool
 | none=>true
 | some i=>i==0
def Ms:Option Int->Bool
 | none=>false
 | some i=>i==0
def QH (P:Program) (mem:Mem) (t:TypeId) (a:A1) (lo hi mx:Option Int):Tree (AV × Mem) :=
 match P.underlying t with
 | some (.slice e)=>match P.info? e with
  | some j=>match mx with
   | some m => if m == 0 && isZero lo && Ms hi then
     (match a with
      | .c .nils=>.leaf (.one (.c .nils),mem)
      | .c (.sl es _ ρ)=>if es.length==j.size then .leaf (.one (.c (.os mem.length j.size)),mem++[some (e,[.row false es 0 ρ])]) else .fail
      | .c (.os b sz)=>match rowAt mem b with
       | some (_,_,es,_,ρ)=>if es.length==j.size&&sz==j.size then .leaf (.one (.c (.os mem.length j.size)),mem++[some (e,[.row false es 0 ρ])]) else .fail
       | none=>.fail
      | _=>.fail)
     else .fail
   | none=>match a with
    | .c (.sl es n ρ)=>if es.length==j.size then W3 es n ρ lo hi mem else .fail
    | .c .nils=>if isZero lo&&isZero hi then .leaf (.one (.c .nils),mem) else .fail
    | .c (.os b sz)=>match rowAt mem b with
     | some (T, fz, es, n, ρ) =>
       if es.length==j.size&&sz==j.size&&T==e then
        (match fz,lo,hi with
         | false,none,some h=>.need (lt 0 h&&le h (ja n)) (.leaf (.one (.c (.os mem.length j.size)),jk mem b none++[some (e,[.row false es h.toNat ρ])]))
         | _,_,_=>W3 es n ρ lo hi (jk mem b (some (T,[.row true es n ρ]))))
       else .fail
     | none=>.fail
    | _=>.fail
  | none=>.fail
 | some .string=>match a,mx with
  | .c (.str s),none=>Lp s lo hi mem
  | _,_=>.fail
 | _=>.fail
def QM (P:Program) (mem:Mem) (t:TypeId) (b sz i off:Nat):Option AV :=
 match rowAt mem b with
 | some (_,_,es,_,ρ)=>if es.length==sz then (match partOf P t (qK es 0 (ρ.at i)) off with
  | some a=>some (.one a)
  | none=>none) else none
 | none=>none
def Ym (P:Program) (mem:Mem) (t:TypeId) (b sz i off:Nat) (v:A1):Option Mem :=
 match P.info? t with
 | some j =>
   let y:=qA mem v.cells
   match rowAt y.1 b with
  | some (T, false, es, n, ρ) =>
    if es.length==sz&&y.2.length==j.size&&Nat.blt 0 j.size then (match takeN (U9 es off) j.size with
     | some es'=>if Yo es' y.2 then some (jk y.1 b (some (T,[.row false es n (ρ.upds i off y.2)]))) else none
     | none=>none) else none
  | _=>none
 | none=>none
def Rj:CV->Bool
 | .bool _ | .int _ _ | .str _=>true
 | _=>false
def OX:A1->Bool
 | .c x=>Rj x
 | .agg l=>l.all Rj
def Wx:AV->Bool
 | .any=>false
 | .one x=>OX x
 | .tup l=>l.all OX
def yY (mem:Mem):CV->CV
 | .os b sz=>match rowAt mem b with
  | some (_,_,es,n,ρ)=>if es.length==sz then .sl es n ρ else .os b sz
  | none=>.os b sz
 | x=>x
def jrH:List CV->Option (List Sh)
 | .sl es _ _::_=>some es
 | _=>none
def jbk (mem:Mem) (b m:Nat):Option CV :=
 match nth mem b with
 | some (some (_,cs))=>if je cs then none else match takeN cs m with
  | some l=>match jrH (l.map (yY mem)) with
   | some es=>if Qw [.sl es] m (l.map (yY mem)) then some (.sl [.sl es] m (Val.ofFlat 1 (l.map (yY mem)))) else none
   | none=>none
  | none=>none
 | _=>none
def WJ:CV->Option Sh
 | .bool _=>some .bool
 | .int k _=>some (.int k)
 | .str _=>some .str
 | .sl es _ _=>some (.sl es)
 | .nils=>some (.sl [])
 | _=>none
def Uy:List CV->Option (List Sh)
 | []=>some []
 | x::l=>match WJ x,Uy l with
  | some s,some r=>some (s::r)
  | _,_=>none
def Val.ofCells (l:List CV):Val:=.byFst fun i=>match KD l i with | some x=>.ofC0 x | none=>.zero
def jfM (mem:Mem) (b o:Nat):Option CV:=match nth mem b with
 | some (some (_,cs))=>if je cs then none else match Uy (cs.map (yY mem)) with
  | some es=>some (.rop es o (.ofCells (cs.map (yY mem))))
  | none=>none
 | _=>none
def Q4 (mem:Mem):CV->CV
 | .os b sz=>match rowAt mem b with
  | some (_,_,es,n,ρ)=>if es.length==sz then .sl es n ρ else .os b sz
  | none=>.os b sz
 | .oc b m c=>match jbk mem b m with
  | some x=>x
  | none=>.oc b m c
 | .ptr b o=>match jfM mem b o with
  | some x=>x
  | none=>.ptr b o
 | x=>x
def q8 (mem:Mem):A1->A1
 | .c x=>.c (Q4 mem x)
 | .agg l=>.agg (l.map (Q4 mem))
def B6:CV->Bool
 | .oc _ _ _=>false
 | .ptr _ _=>false
 | _=>true
def Le (H:Hd):Bool:=(qF H.pc 4294967293).isSome
def yX (P:Program) (mem:Mem) (t:TypeId):A1->Option Int->Option Int->Option Int->Option (Tree (AV × Mem))
 | .c (.os b sz),some l,none,none=>match P.underlying t,rowAt mem b with
  | some (.slice e),some (T,false,es,n,_)=>match P.info? e with
   | some j=>if es.length==j.size&&sz==j.size&&T==e then some (.need (le 0 l&&lt l (ja n)) (.leaf (.one (.c (.ost b sz l.toNat)),mem))) else none
   | none=>none
  | _,_=>none
 | _,_,_,_=>none
def Bl (H:Hd):Bool:=(qF H.pc 4294967291).isSome
def y8 (P:Program) (mem:Mem) (t:TypeId):A1->Option Int->Option Int->Option Int->Option (Tree (AV × Mem))
 | .c (.os b sz),none,some h,none=>match P.underlying t,rowAt mem b with
  | some (.slice e),some (T,false,es,n,_)=>match P.info? e with
   | some j=>if es.length==j.size&&sz==j.size&&T==e then some (.need (le 0 h&&le h (ja n)) (.leaf (.one (.c (.osh b sz h.toNat)),mem))) else none
   | none=>none
  | _,_=>none
 | _,_,_,_=>none
def Lt:A1->Bool
 | .c (.os _ _)=>true
 | _=>false
def jb1:A1->Option (Nat × Nat × Nat)
 | .c (.os b sz)=>some (b,sz,0)
 | .c (.ost b sz lo)=>some (b,sz,lo)
 | _=>none
def VB (mem:Mem):A1->Option (List Sh × Nat × Val)
 | .c (.sl es n ρ)=>some (es,n,ρ)
 | .c (.osh b sz m)=>match rowAt mem b with
  | some (_,_,es,_,ρ)=>if es.length==sz then some (es,m,ρ) else none
  | none=>none
 | _=>none
def splice (lo k:Nat) (ρ σ:Val):Val:=.byFst fun i=>zn (Nat.blt i lo) (ρ.at i) (zn (Nat.blt i (lo+k)) (σ.at (i - lo)) (ρ.at i))
def Uo (P:Program) (mem:Mem) (t:TypeId) (a x:A1):Tree (AV × Mem) :=
 match jb1 a,VB mem x with
 | some (b,sz,lo),some (es',m,σ)=>match P.underlying t,rowAt mem b with
  | some (.slice e),some (T,false,es,n,ρ)=>match P.info? e with
   | some j => if shEq.shsEq es' es && es.length == j.size && sz == j.size && T == e && Nat.blt 0 sz then
     .leaf (.one (.c (.int .i64 (ja (Nat.min m (n - lo))))),jk mem b (some (T,[.row false es n (splice lo (Nat.min m (n - lo)) ρ σ)]))) else .fail
   | none=>.fail
  | _,_=>.fail
 | _,_=>.fail
def lits (H:Hd):Bool:=(qF H.pc 4294967292).isSome
def jas (P:Program) (t:TypeId) (n:Nat) (parts:List (Nat × A1)):Option AV :=
 match P.underlying t with
 | some (.slice e)=>match P.info? e,Zp P 12 e,jP P e with
  | some j, some es, some z =>
    if es.length==j.size&&Nat.blt 0 j.size&&z.length==j.size&&Nat.ble (n*j.size) 16777216 then
     match y6 (fun i=>some (i*j.size,j.size)) (J5 z n) parts with
     | some cs=>if cs.all closedC&&Qw es n cs then some (.one (.c (.sl es n (Val.ofFlat j.size cs)))) else none
     | none=>none
    else none
  | _,_,_=>none
 | _=>none
def jis (H:Hd) (ρ:Operand->Option AV):Op->Bool
 | .buildSlice _ _ parts=>lits H&&(match JR ρ parts.toList with
  | some l=>l.all (fun p=>jx p.2)
  | none=>false)
 | _=>false
def Nh (P:Program) (mem:Mem) (t:TypeId):A1->Tree (AV × Mem)
 | .c (.ost b sz lo)=>match P.underlying t,rowAt mem b with
  | some (.slice e),some (T,false,es,n,ρ)=>match jP P e with
   | some z=>if es.length==sz&&z.length==sz&&Nat.blt 0 sz&&T==e&&Yo es z then .leaf (.any,jk mem b (some (T,[.row false es n (Val.cat lo ρ (.byFst fun _=>Val.ofCs z))]))) else .fail
   | none=>.fail
  | _,_=>.fail
 | _=>.fail
def X5 (P:Program) (mem:Mem) (t:TypeId):AV->AV->Tree (AV × Mem)
 | .one (.c (.int _ l)),.one (.c (.int _ c))=>match P.underlying t with
  | some (.slice e)=>match P.info? e,Zp P 12 e,jP P e with
   | some j, some es, some z =>
     if es.length==j.size&&Nat.blt 0 j.size&&Nat.blt 0 j.bytes&&z.length==j.size&&Yo es z then
      .need (le 0 l&&le l c&&le (c*ja j.bytes) 140737488355328) (.leaf (.one (.c (.os mem.length j.size)),mem++[some (e,[.row false es l.toNat (.byFst fun _=>Val.ofCs z)])]))
     else .fail
   | _,_,_=>.fail
  | _=>.fail
 | _,_=>.fail
def jaB (args:List A1):Bool:=args.all fun a=>a.cells.all fun x=>closedC x||z7 x
def jqw (H:Hd):Bool:=(qF H.pc 4294967289).isSome
def jpx:CV->Bool
 | .ptr _ _=>true
 | _=>false
def jmQ (args:List A1):Bool:=args.all fun a=>a.cells.all fun x=>closedC x||z7 x||jpx x
def rdA (H:Hd) (args:List A1):Bool:=jaB args||(jqw H&&jmQ args)
def qD (P:Program) (H:Hd) (call:jt) (mem:Mem) (ρ:List (Nat × Bool)->Operand->Option AV):Op->Tree (AV × Mem)
 | .alloc e=>match jP P e with
  | some z=>.leaf (.one (.c (.ptr mem.length 0)),mem++[some (e,z)])
  | none=>.fail
 | .box e x=>match ρ [] x with
  | some (.one a)=>if je a.cells then .fail else .leaf (.one (.c (.ptr mem.length 0)),mem++[some (e,a.cells)])
  | _=>.fail
 | .load t x=>match ρ [] x with
  | some (.one (.c (.rowp b sz i off)))=>match QM P mem t b sz i off with
   | some v=>.leaf (v,mem)
   | none=>.fail
  | some a=>match Y3 P mem t a with
   | some v=>.leaf (v,mem)
   | none=>.fail
  | none=>.fail
 | .store t x y=>match ρ [] x,ρ [] y with
  | some (.one (.c (.rowp b sz i off))),some (.one v)=>match Ym P mem t b sz i off v with
   | some mem'=>.leaf (.any,mem')
   | none=>.fail
  | some (.one (.c (.ptr b o))),some (.one v)=>match nth mem b,P.info? t with
   | some (some (T,cs)),some i=>if !je cs&&v.cells.length==i.size&&Nat.ble (o+i.size) cs.length&&!je v.cells then .leaf (.any,jk mem b (some (T,putCells cs o v.cells))) else .fail
   | _,_=>.fail
  | _,_=>.fail
 | .buildSlice t n parts=>match JR (ρ []) parts.toList with
  | some l=>if lits H&&l.all (fun p=>jx p.2) then (match jas P t n l with
   | some v=>.leaf (v,mem)
   | none=>.fail)
    else match kE P mem t n l with
   | some r=>.leaf r
   | none=>.fail
  | none=>.fail
 | .makeSlice t x y=>match ρ [] x,ρ [] y with
  | some l,some c=>X5 P mem t l c
  | _,_=>.fail
 | .slice t x lo hi mx=>match ρ [] x,JV (ρ []) lo,JV (ρ []) hi,JV (ρ []) mx with
  | some (.one a),some l,some h,some m=>match (if Le H then yX P mem t a l h m else none) with
   | some r=>r
   | none=>match (if Bl H then y8 P mem t a l h m else none) with
    | some r=>r
    | none=>if Bl H&&Lt a&&m.isNone then .fail else QH P mem t a l h m
  | _,_,_,_=>.fail
 | .indexAddr t x i=>match ρ [] x,ρ [] i with
  | some (.one (.c (.os b sz))),some (.one (.c (.int _ k)))=>match P.underlying t,rowAt mem b with
   | some (.slice e),some (_,_,es,n,_)=>match P.info? e with
    | some j=>if j.size==sz&&es.length==sz then .need (jc k n) (.leaf (.one (.c (.rowp b sz k.toNat 0)),mem)) else .fail
    | none=>.fail
   | _,_=>.fail
  | _,_=>(JE P (Gn H) ρ (.indexAddr t x i)).bind fun v=>.leaf (v,mem)
 | .call c=>match c.callee with
  | .value _=>match yK (ρ []) c with
   | some (f,args)=>if qx P f then (match qF H.pc f with
    | some F=>let l:=args.map (q8 mem);if l.all jx then (F l).bind (fun r=>if args.all jx||Wx r then .leaf (r,mem) else .fail) else if rdA H args then .fail else call f args mem
    | none=>match qF H.hc f with
     | some F=>let y:=zg mem args;if y.2.all jx then (F y.2).bind (fun r=>.leaf (r,y.1)) else .fail
     | none=>call f args mem) else .fail
   | none=>.fail
  | .builtin .append=>match q9 (ρ []) c.args.toList,c.argTypes.toList with
   | some [a,x],[t,t']=>if t==t' then Uk P mem t a x else .fail
   | _,_=>.fail
  | .builtin .clear=>match q9 (ρ []) c.args.toList,c.argTypes.toList with
   | some [a],[t]=>Nh P mem t a
   | _,_=>.fail
  | .builtin .copy=>match q9 (ρ []) c.args.toList,c.argTypes.toList with
   | some [a,x],t::_=>Uo P mem t a x
   | _,_=>.fail
  | .builtin .len=>match q9 (ρ []) c.args.toList,c.argTypes.toList with
   | some [.c (.os b _)],[t]=>match P.underlying t,rowAt mem b with
    | some (.slice _),some (_,_,_,n,_)=>.leaf (.one (.c (.int .i64 (ja n))),mem)
    | _,_=>.fail
   | _,_=>(JE P (Gn H) ρ (.call c)).bind fun v=>.leaf (v,mem)
  | _=>(JE P (Gn H) ρ (.call c)).bind fun v=>.leaf (v,mem)
 | op=>(JE P (Gn H) ρ op).bind fun v=>.leaf (v,mem)
def YR (d:Nat) (s:Slot):Slot:=if s.keys.any (fun p=>p.1==d) then ⟨[],.any⟩ else s
def St.put (s:St) (dst:Option Tmp) (ks:List (Nat × Bool)) (v:AV):St :=
 match dst with
 | some d=>{ s with tmps:=jk (s.tmps.map (YR d)) d ⟨ks,v⟩ }
 | none=>s
def yy (s:St):List (Nat × Bool)->Bool
 | []=>true
 | (d,b)::r=>(match nth s.tmps d with
  | some ⟨_,.one (.c (.bool c))⟩=>c==b
  | _=>true)&&yy s r
def Nu (s:St):List (Nat × Bool)->Option Bool
 | []=>some true
 | (d,b)::r=>match nth s.tmps d,Nu s r with
  | some ⟨ks,.one (.c (.bool c))⟩,some g=>if ks.all (Ri r) then some (LX g (c==b)) else none
  | _,_=>none
def Tree.toNeed {α:Type} (d:α) (g:Bool):Tree α->Tree α
 | .leaf a=>.leaf a
 | .need c t=>.need (!g||c) (t.toNeed d g)
 | _=>.need (!g) (.leaf d)
def dGu:AV × Mem:=(.one (.c (.bool false)),[])
def keysOf (ops:List Oper) (s:St) (j:Nat) (b:Bool):Option (List (Nat × Bool)) :=
 match nth ops j with
 | some o=>match o.dst with
  | some d=>match nth s.tmps d with
   | some ⟨ks,.one (.c (.bool _))⟩=>some ((d,b)::ks)
   | _=>none
  | none=>none
 | none=>none
def j0 (H:Hd) (ρ:Operand->Option AV):Op->Bool
 | .alloc _ | .box _ _ | .store _ _ _ | .buildSlice _ _ _ | .makeSlice _ _ _=>false
 | .slice _ _ _ _ _=>false
 | .indexAddr _ x _=>match ρ x with | some (.one (.c (.os _ _)))=>false | _=>true
 | .load _ x=>match ρ x with | some (.one (.c (.rowp _ _ _ _)))=>false | _=>true
 | .call c=>match c.callee with
  | .value _=>match yK ρ c with
   | some (f,args)=>(qF H.pc f).isSome&&args.all jx
   | none=>false
  | .builtin .append=>false
  | .builtin .clear=>false
  | .builtin .copy=>false
  | .builtin .len=>match q9 ρ c.args.toList with
   | some [.c (.os _ _)]=>false
   | _=>true
  | _=>true
 | _=>true
def XV (H:Hd) (ρ:Operand->Option AV) (c:Call):Bool :=
 match c.callee with
 | .value _=>match yK ρ c with
  | some (f,args)=>(qF H.pc f).isNone&&(qF H.hc f).isSome&&args.all jx
  | none=>false
 | _=>false
def JS (H:Hd) (ρ:Operand->Option AV) (op:Op):Bool :=
 j0 H ρ op||(match op with
  | .buildSlice t n parts=>jis H ρ (.buildSlice t n parts)
  | .load _ x=>match ρ x with | some (.one (.c (.rowp _ _ _ _)))=>true | _=>false
  | .indexAddr _ x _=>match ρ x with | some (.one (.c (.os _ _)))=>true | _=>false
  | .call c=>match c.callee with | .builtin .len=>true | _=>XV H ρ c
  | _=>false)
def jco (ρ:Operand->Option AV):Op->Option (Nat × List A1)
 | .call c=>match c.callee with
  | .value x=>match ρ x,q9 ρ c.args.toList with
   | some (.one (.c (.yld b))),some l=>some (b,l)
   | _,_=>none
  | _=>none
 | _=>none
def ja0 (H:Hd):Bool:=(qF H.pc 4294967290).isSome
def B8 (P:Program) (mem:Mem) (t:TypeId) (n:Nat) (parts:List (Nat × A1)):Option (Tree (AV × Mem)) :=
 match P.underlying t with
 | some (.slice e)=>match P.info? e,jP P e with
  | some j, some z =>
    if j.size==1&&Nat.blt 0 n&&z.length==1&&Nat.ble n 16777216 then
     match y6 (fun i=>some (i*j.size,j.size)) (J5 z n) parts with
     | some cs=>some (.leaf (.one (.c (.oc mem.length n n)),mem++[some (e,cs)]))
     | none=>none
    else none
  | _,_=>none
 | _=>none
def L3 (P:Program) (mem:Mem) (t:TypeId):AV->AV->Option (Tree (AV × Mem))
 | .one (.c (.int _ l)),.one (.c (.int _ c))=>match P.underlying t with
  | some (.slice e)=>match P.info? e,jP P e,Zp P 12 e with
   | some j, some z, some [.sl _] =>
     if j.size==1&&Nat.blt 0 j.bytes&&z.length==1 then
      some (.need (le 0 l&&le l c&&le (c*ja j.bytes) 140737488355328) (.leaf (.one (.c (.oc mem.length l.toNat c.toNat)),mem++[some (e,J5 z c.toNat)])))
     else none
   | _,_,_=>none
  | _=>none
 | _,_=>none
def IA (P:Program) (mem:Mem) (t:TypeId):List A1->Option (Tree (AV × Mem))
 | [.c (.oc b m c),.c (.oc b' 1 _)]=>match P.underlying t with
  | some (.slice e)=>match P.info? e,nth mem b,nth mem b' with
   | some j, some (some (T, cs)), some (some (T', [x])) =>
     if j.size==1&&Nat.blt m c&&cs.length==c&&T==e&&!je cs&&!je [x]&&T'==e then some (.leaf (.one (.c (.oc b (m+1) c)),jk mem b (some (T,jk cs m x)))) else none
   | _,_,_=>none
  | _=>none
 | _=>none
def T8 (P:Program) (H:Hd) (mem:Mem) (ρ:Operand->Option AV):Op->Option (Tree (AV × Mem))
 | .makeSlice t x y=>if ja0 H then (match ρ x,ρ y with
  | some l,some c=>L3 P mem t l c
  | _,_=>none) else none
 | .buildSlice t n parts=>if ja0 H then (match JR ρ parts.toList with
  | some l=>if l.any (fun p=>p.2.cells.any z7) then B8 P mem t n l else none
  | none=>none) else none
 | .call c=>match c.callee with
  | .builtin .append=>if ja0 H then (match q9 ρ c.args.toList,c.argTypes.toList with
   | some l,[t,t']=>if t==t' then IA P mem t l else none
   | _,_=>none) else none
  | _=>none
 | _=>none
def U5 (H:Hd) (call:jt) (mem:Mem) (f:Nat) (args:List A1):Tree (AV × Mem) :=
 match qF H.pc f with
 | some F=>let l:=args.map (q8 mem);if l.all jx then (F l).bind (fun r=>if args.all jx||Wx r then .leaf (r,mem) else .fail) else if rdA H args then .fail else call f args mem
 | none=>match qF H.hc f with
  | some F=>let y:=zg mem args;if y.2.all jx then (F y.2).bind (fun r=>.leaf (r,y.1)) else .fail
  | none=>call f args mem
def WI (ρ:Val):Nat->Tree (TypeId × A1)
 | 0=>.fail
 | n+1=>match DF n with
  | some (t,false,[s])=>.br (Nat.beq (ρ.L []) (n+1)) (.leaf (t,.c (cellOf s (ρ.at 0)))) (WI ρ n)
  | some (t,true,es)=>.br (Nat.beq (ρ.L []) (n+1)) (.leaf (t,.agg (qK es 0 ρ))) (WI ρ n)
  | _=>WI ρ n
def O4:CV->Tree (TypeId × A1)
 | .iface t v=>.leaf (t,.c v)
 | .ifa t l=>.leaf (t,.agg l)
 | .ifx ρ=>WI ρ itN
 | _=>.fail
def Bd (P:Program) (t:TypeId) (name:String):Option Nat :=
 match P.info? t with
 | some i=>match i.methods.find? (fun m=>m.name==name) with
  | some m=>if m.path.isEmpty then (match m.func,P.underlying t with
   | some (_,false),some (.pointer _)=>none
   | some (f,false),some _=>some f
   | _,_=>none) else none
  | none=>none
 | none=>none
def W2 (s:ByteArray):List ByteArray->List CV->Tree CV
 | k::ks,v::vs=>.br (jb s k) (.leaf v) (W2 s ks vs)
 | _,_=>.fail
def Uf (P:Program) (t:TypeId):Bool:=match P.underlying t with
 | some (.map k _)=>(match P.underlying k with | some .string=>true | _=>false)
 | _=>false
def jb5 (P:Program) (H:Hd) (call:jt) (mem:Mem) (ρ:Operand->Option AV):Op->Option (Tree (AV × Mem))
 | .makeInterface t x=>match P.underlying t with
  | some (.interface _)=>none
  | some _=>match ρ x with
   | some (.one (.c y))=>let z:=Zx mem y;if closedC z.2 then some (.leaf (.one (.c (.iface t z.2)),z.1)) else none
   | some (.one (.agg l))=>let z:=qA mem l;if z.2.all closedC then some (.leaf (.one (.c (.ifa t z.2)),z.1)) else none
   | _=>none
  | none=>none
 | .call c=>match c.callee with
  | .invoke x m=>match ρ x,q9 ρ c.args.toList with
   | some (.one (.c y)),some l=>some ((O4 y).bind fun z=>match Bd P z.1 m with
    | some f=>if qx P f then U5 H call mem f (z.2::l) else .fail
    | none=>.fail)
   | _,_=>none
  | _=>none
 | .lookup t x k false=>match ρ x,ρ k with
  | some (.one (.c (.mp ks vs))),some (.one (.c (.str s)))=>if Uf P t then some ((W2 s ks vs).bind fun v=>.leaf (.one (.c v),mem)) else none
  | _,_=>none
 | _=>none
def O8 (P:Program) (H:Hd) (call:jt) (mem:Mem) (ρ:List (Nat × Bool)->Operand->Option AV) (op:Op):Tree (AV × Mem) :=
 match jco (ρ []) op with
 | some (b,l)=>call (1000000000+b) l mem
 | none=>match T8 P H mem (ρ []) op with
  | some r=>r
  | none=>match jb5 P H call mem (ρ []) op with
   | some r=>r
   | none=>qD P H call mem ρ op
def ZU (P:Program) (H:Hd) (call:jt) (quiet:Bool) (all:List Oper):List Oper->St->Tree St
 | [],s=>.leaf s
 | o::r,s=>match o.guard with
  | none => if quiet && !j0 H (zp s []) o.op then .fail else
    (O8 P H call s.mem (fun K=>zp s K) o.op).bind fun x=>ZU P H call quiet all r ({ s with mem:=x.2 }.put o.dst [] x.1)
  | some (j,b)=>match keysOf all s j b with
   | some K =>
     if K.any (fun p=>some p.1==o.dst) then .fail else
     if JS H (zp s K) o.op then
      ((qD P H call s.mem (fun K'=>zp s (K'++K)) o.op).toNeed dGu (yy s K)).bind fun x=>ZU P H call quiet all r (s.put o.dst K x.1)
     else if quiet then .fail else match Nu s K with
      | some g=>.br g ((O8 P H call s.mem (fun K'=>zp s (K'++K)) o.op).bind fun x=>ZU P H call quiet all r ({ s with mem:=x.2 }.put o.dst [] x.1)) (ZU P H call quiet all r (s.put o.dst K dGu.1))
      | none=>.fail
   | none=>.fail
def jeW (P:Program) (o:Oper):Option (Nat × TypeId):=match o.guard,o.dst,o.op with
 | none,some d,.makeMap t none=>if Uf P t then some (d,t) else none
 | _,_,_=>none
def Ry (d:Nat) (t:TypeId) (o:Oper):Option (ByteArray × Operand):=match o.guard,o.dst,o.op with
 | none,none,.insert t' (.tmp d') (.const (.string k)) v=>if t'==t&&d'==d then some (k,v) else none
 | _,_,_=>none
def jqb:Op->Bool
 | .insert .. => true
 | _=>false
def Wd (P:Program) (H:Hd) (call:jt) (all:List Oper) (d:Nat) (t:TypeId):List Oper->List ByteArray->List CV->St->Tree St
 | [],ks,vs,s=>.leaf (s.put (some d) [] (.one (.c (.mp ks vs))))
 | o::r,ks,vs,s=>match Ry d t o with
  | some (k,v)=>if ks.any (jb k) then .fail else match zp s [] v with
   | some (.one (.c x))=>Wd P H call all d t r (ks++[k]) (vs++[x]) s
   | _=>.fail
  | none => if (o :: r).any (fun o => jqb o.op) then match o.guard with
    | none=>if o.dst==some d then .fail else (JE P false (fun K=>zp s K) o.op).bind fun x=>Wd P H call all d t r ks vs (s.put o.dst [] x)
    | some _=>.fail
    else ZU P H call false all (o::r) (s.put (some d) [] (.one (.c (.mp ks vs))))
def DK (P:Program) (H:Hd) (call:jt) (ops:List Oper) (s:St):Tree St :=
 match ops with
 | o::r=>match jeW P o with
  | some (d,t)=>if Nat.blt d s.tmps.length then Wd P H call ops d t r [] [] (s.put (some d) [] .any) else .fail
  | none=>ZU P H call false ops ops s
 | []=>ZU P H call false ops ops s
abbrev Touch:=Option (List (Nat × Bool))
def JP:List CV->List (Nat × Bool)
 | []=>[]
 | .os b _::l=>(b+1,false)::JP l
 | _::l=>JP l
def YD:List A1->List (Nat × Bool)
 | []=>[]
 | a::l=>JP a.cells++YD l
def KN:Nat->List (Nat × Bool)
 | 0=>[(0,false)]
 | n+1=>(n+1,false)::KN n
def Bt (H:Hd) (ρ:Operand->Option AV) (len:Nat) (c:Call):Touch :=
 match c.callee with
 | .value _=>match yK ρ c with
  | some (f,args)=>if (qF H.pc f).isSome&&jaB args then some (YD args) else if (qF H.pc f).isSome&&rdA H args then some (KN len) else none
  | none=>none
 | _=>none
def qe (H:Hd) (ρ:Operand->Option AV) (len:Nat):Op->Touch
 | .load _ x=>match ρ x with
  | some (.one (.c (.ptr b _)))=>some [(b+1,false)]
  | some (.one (.c (.rowp b _ _ _)))=>some [(b+1,false)]
  | some (.one (.c (.rop _ _ _)))=>some []
  | _=>none
 | .store _ x y=>match ρ x with
  | some (.one (.c (.ptr b _)))=>some [(b+1,true)]
  | some (.one (.c (.rowp b _ _ _)))=>match ρ y with
   | some (.one v)=>if v.cells.all (fun x=>!z7 x) then some [(b+1,true)] else none
   | _=>none
  | _=>none
 | .alloc _=>some [(0,true),(len+1,true)]
 | .box _ _=>some [(0,true),(len+1,true)]
 | .buildSlice _ _ parts=>match JR ρ parts.toList with
  | some l=>if lits H&&l.all (fun p=>jx p.2) then some [] else if l.all (fun p=>p.2.cells.all (fun x=>!z7 x)) then some [(0,true),(len+1,true)] else none
  | none=>none
 | .makeSlice _ _ _=>some [(0,true),(len+1,true)]
 | .indexAddr t x i=>match ρ x with
  | some (.one (.c (.os b _)))=>some [(b+1,false)]
  | _=>if j0 H ρ (.indexAddr t x i) then some [] else none
 | .slice _ x _ _ mx=>match ρ x,mx with
  | some (.one (.c (.sl _ _ _))),none=>some []
  | some (.one (.c .nils)),none=>some []
  | some (.one (.c (.str _))),none=>some []
  | some (.one (.c (.os b _))),none=>if Bl H then some [(b+1,false)] else none
  | _,_=>none
 | .call c=>match c.callee with
  | .builtin .append=>match q9 ρ c.args.toList with
   | some [.c .nils,.c (.sl _ _ _)]=>some [(0,true),(len+1,true)]
   | some [.c .nils,.c (.os b _)]=>some [(0,true),(len+1,true),(b+1,false)]
   | some [.c (.os b _),.c (.sl _ _ _)]=>some [(0,true),(len+1,true),(b+1,true)]
   | some [.c (.os b _),.c (.os b' _)]=>some [(0,true),(len+1,true),(b+1,true),(b'+1,false)]
   | some [.c .nils,.c .nils]=>some []
   | some [.c (.os b _),.c .nils]=>some [(b+1,false)]
   | _=>none
  | .builtin .len=>match q9 ρ c.args.toList with
   | some [.c (.os b _)]=>some [(b+1,false)]
   | _=>some []
  | .builtin .copy=>match q9 ρ c.args.toList with
   | some [.c (.os b _),.c (.sl _ _ _)]=>some [(b+1,true)]
   | some [.c (.ost b _ _),.c (.osh b' _ _)]=>some [(b+1,true),(b'+1,false)]
   | some [.c (.ost b _ _),.c (.sl _ _ _)]=>some [(b+1,true)]
   | _=>none
  | _=>if j0 H ρ (.call c)||XV H ρ c then some [] else Bt H ρ len c
 | op=>if j0 H ρ op then some [] else none
def tmpsIn:List Operand->List Nat
 | []=>[]
 | .tmp t::r=>t::tmpsIn r
 | _::r=>tmpsIn r
def JM (t:Nat):List Nat->Bool
 | []=>false
 | u::r=>t==u||JM t r
def Bv (ts:List Nat) (ρ:Operand->Option AV):Operand->Option AV
 | .tmp t=>if JM t ts then ρ (.tmp t) else none
 | x=>ρ x
def lim (o:Oper) (s:St) (K:List (Nat × Bool)):Operand->Option AV:=Bv (tmpsIn o.op.operands.toList) (zp s K)
def St.put0 (s:St) (dst:Option Tmp) (ks:List (Nat × Bool)) (v:AV):St :=
 match dst with
 | some d=>{ s with tmps:=jk s.tmps d ⟨ks,v⟩ }
 | none=>s
abbrev kq:=Touch × List (Nat × Bool)
def Ze (P:Program) (H:Hd) (call:jt) (all:List Oper):List Oper->St->Tree (St × List kq)
 | [],s=>.leaf (s,[])
 | o::r,s=>match o.guard with
  | none =>
    (qD P H call s.mem (fun K=>lim o s K) o.op).bind fun x=>(Ze P H call all r ({ s with mem:=x.2 }.put0 o.dst [] x.1)).bind fun y=>.leaf (y.1,(qe H (lim o s []) s.mem.length o.op,[])::y.2)
  | some (j,b)=>match keysOf all s j b with
   | some K =>
     if !JS H (lim o s K) o.op||K.any (fun p=>some p.1==o.dst) then .fail else
     ((qD P H call s.mem (fun K'=>lim o s (K'++K)) o.op).toNeed dGu (yy s K)).bind fun x=>(Ze P H call all r (s.put0 o.dst K x.1)).bind fun y=>.leaf (y.1,(qe H (lim o s K) s.mem.length o.op,K)::y.2)
   | none=>.fail
def XZ (masks:List Nat):List Edge->Nat
 | []=>0
 | e::r=>(match nth masks e.on with | some m=>if Region.binds .any e then 2 ^ e.on ||| m else 0 | none=>0) ||| XZ masks r
def qw:List Oper->List Nat->List Nat
 | [],acc=>acc
 | o::r,acc=>qw r (acc++[XZ acc o.after.toList])
def XO:Nat->List Oper->Bool
 | _,[]=>true
 | i,o::r=>o.after.toList.all (fun e=>!Region.binds .any e||Nat.blt e.on i)&&XO (i+1) r
def JL (t:Nat):Nat->List Oper->Option Nat
 | _,[]=>none
 | i,o::r=>if o.dst==some t then some i else JL t (i+1) r
def Wh:List Oper->Bool
 | []=>true
 | o::r=>(match o.dst with | some t=>r.all (fun o'=>!(o'.dst==some t)) | none=>true)&&Wh r
def zh (masks:List Nat) (i j:Nat):Bool:=Nat.blt i j&&match nth masks j with | some m=>m.testBit i | none=>false
def GY (all:List Oper) (masks:List Nat) (j t:Nat):Bool :=
 match JL t 0 all with
 | some i=>zh masks i j||zh masks j i||i==j
 | none=>true
def Hu (all:List Oper) (masks:List Nat) (j t:Nat):Bool :=
 match JL t 0 all with
 | some i=>zh masks i j
 | none=>false
def Lr (all:List Oper) (masks:List Nat):Nat->List Oper->List kq->Bool
 | j, o :: r, (_, K) :: q => (tmpsIn o.op.operands.toList).all (fun t => GY all masks j t) &&
   (match o.guard with | some (g,_)=>zh masks g j | none=>true)&&K.all (fun p=>Hu all masks j p.1)&&Lr all masks (j+1) r q
 | _,_,_=>true
def clash (masks:List Nat) (i j:Nat):Touch->Touch->Bool
 | some t,some u=>t.all (fun p=>u.all (fun q=>!(p.1==q.1)||!(p.2||q.2)||zh masks i j))
 | some t,none=>t.isEmpty||zh masks i j
 | none,some u=>u.isEmpty||zh masks i j
 | none,none=>zh masks i j
def Ke (masks:List Nat) (i:Nat) (t:Touch):Nat->List kq->Bool
 | _,[]=>true
 | j,u::r=>clash masks i j t u.1&&Ke masks i t (j+1) r
def ZX (masks:List Nat):Nat->List kq->Bool
 | _,[]=>true
 | i,t::r=>Ke masks i t.1 (i+1) r&&ZX masks (i+1) r
def Qj (ops:List Oper) (ts:List kq):Bool :=
 let masks:=qw ops []
 XO 0 ops&&Wh ops&&Lr ops masks 0 ops ts&&ZX masks 0 ts
def unkey (s:Slot):Slot:=if s.keys.isEmpty then s else ⟨[],.any⟩
def ji:Code->Nat
 | .seq a b=>ji a+ji b
 | .cond _ a b=>ji a+ji b
 | .block _ b=>ji b
 | .loop b=>ji b+1
 | .scope b=>ji b
 | .rangeFunc _ _ a b=>ji a+ji b
 | _=>0
def jK:Code->Nat
 | .seq a b=>jK a+jK b
 | .cond _ a b=>jK a+jK b
 | .block _ b=>jK b
 | .loop b=>jK b
 | .scope b=>jK b
 | .rangeFunc _ _ a b=>jK a+jK b+1
 | _=>0
structure RC where
 ps:Array Tmp
 a:Code
 b:Code
 n:Nat
def jL:Code->Nat->Nat->Option RC
 | .seq a b,i,n=>if i<jK a then jL a i n else jL b (i - jK a) (n+ji a)
 | .cond _ a b,i,n=>if i<jK a then jL a i n else jL b (i - jK a) (n+ji a)
 | .block _ b,i,n=>jL b i n
 | .loop b,i,n=>jL b i (n+1)
 | .scope b,i,n=>jL b i n
 | .rangeFunc _ ps a b,0,n=>some ⟨ps,a,b,n⟩
 | .rangeFunc _ _ a b,i+1,n=>if i<jK a then jL a i n else jL b (i - jK a) (n+ji a)
 | _,_,_=>none
def Uq (P:Program) (f i:Nat):Option RC :=
 match nth P.funcs.toList f with
 | some fn=>match fn.body with
  | some c=>jL c i 0
  | none=>none
 | none=>none
def jf:Code->Nat->Option Code
 | .seq a b,i=>if i<ji a then jf a i else jf b (i - ji a)
 | .cond _ a b,i=>if i<ji a then jf a i else jf b (i - ji a)
 | .block _ b,i=>jf b i
 | .loop b,0=>some b
 | .loop b,i+1=>jf b i
 | .scope b,i=>jf b i
 | .rangeFunc _ _ a b,i=>if i<ji a then jf a i else jf b (i - ji a)
 | _,_=>none
def lin {α:Type}:Tree α->Option (List Bool × α)
 | .leaf a=>some ([],a)
 | .need c t=>match lin t with
  | some (l,a)=>some (c::l,a)
  | none=>none
 | _=>none
def Wj {α:Type}:List Bool->Tree α->Tree α
 | [],t=>t
 | c::l,t=>.need c (Wj l t)
def Kh (c:Bool) (l1 l2:List Bool):List Bool:=l1.map (fun n=>!c||n)++l2.map (fun n=>c||n)
def yj:CV->Bool
 | .any=>true
 | _=>false
def jcd:List CV->List CV->Bool
 | [],_=>true
 | _,[]=>true
 | a::l,m::r=>(!yj m||yj a)&&jcd l r
def Wz (c:Bool) (cs ds:List CV):Option (List CV) :=
 match cs,ds with
 | [.row fz es n ρ],[.row fz' es' m σ]=>if fz==fz'&&shEq.shsEq es es' then some [.row fz es (bif c then n else m) (zn c ρ σ)] else none
 | _,_=>if je cs||je ds then none else match yG c cs ds with
  | some m=>if jcd cs m&&jcd ds m then some m else none
  | none=>none
def Ip (c:Bool):Option (TypeId × List CV)->Option (TypeId × List CV)->Option (Option (TypeId × List CV))
 | none,none=>some none
 | some (T,cs),some (T',ds)=>if T==T' then (match Wz c cs ds with
  | some m=>some (some (T,m))
  | none=>none) else none
 | _,_=>none
def Bm (K:Nat):Nat->Mem->Option Mem
 | _,[]=>some []
 | k,_::l=>if Nat.blt k K then none else match Bm K (k+1) l with
  | some m=>some (none::m)
  | none=>none
def QE (c:Bool) (K:Nat):Nat->Mem->Mem->Option Mem
 | k,[],r=>Bm K k r
 | k,a::l,[]=>Bm K k (a::l)
 | k,a::l,b::r=>match Ip c a b,QE c K (k+1) l r with
  | some e,some m=>some (e::m)
  | none,some m=>if Nat.blt k K then none else some (none::m)
  | _,none=>none
def Oy (c:Bool) (a b:Slot):Slot :=
 match a.keys,b.keys with
 | [],[]=>⟨[],Qg c a.v b.v⟩
 | _,_=>⟨[],.any⟩
def kU (c:Bool):List Slot->List Slot->Option (List Slot)
 | [],[]=>some []
 | a::l,b::r=>match kU c l r with
  | some m=>some (Oy c a b::m)
  | none=>none
 | _,_=>none
def L9 (c:Bool) (K:Nat) (a b:St):Option St :=
 match kU c a.tmps b.tmps,QE c K 0 a.mem b.mem with
 | some t,some m=>some ⟨t,m⟩
 | _,_=>none
def kS (j:Bool) (c:Bool) (K:Nat) (t e:Tree (XE × St)):Tree (XE × St) :=
 if j then match lin t,lin e with
  | some (l1,(.normal,s1)),some (l2,(.normal,s2))=>match L9 c K s1 s2 with
   | some s=>Wj (Kh c l1 l2) (.leaf (.normal,s))
   | none=>.br c t e
  | _,_=>.br c t e
 else .br c t e
def jok:AV->Bool
 | .any=>true
 | _=>false
def ky (K:Nat):Tree (AV × Mem)->Tree (AV × Mem)
 | .br c t e=>match lin (ky K t),lin (ky K e) with
  | some (l1,(r1,m1)),some (l2,(r2,m2))=>match QE c K 0 m1 m2 with
   | some m=>if jok (Qg c r1 r2) then .br c (ky K t) (ky K e) else Wj (Kh c l1 l2) (.leaf (Qg c r1 r2,m))
   | none=>.br c (ky K t) (ky K e)
  | _,_=>.br c (ky K t) (ky K e)
 | .need c t=>.need c (ky K t)
 | x=>x
def ze (mem:Mem):AV->Mem × AV
 | .any=>(mem,.any)
 | .one a=>let y:=GI mem a;(y.1,.one y.2)
 | .tup l=>let y:=zg mem l;(y.1,.tup y.2)
def aw:AV->Bool
 | .any=>false
 | .one a=>jx a
 | .tup l=>l.all jx
def kf (K:Nat):CV->Bool
 | .ptr b _=>Nat.blt b K
 | .os b _=>Nat.blt b K
 | .rowp b _ _ _=>Nat.blt b K
 | .row _ _ _ _=>true
 | .yld b=>Nat.blt b K
 | .lp _ _ _=>true
 | x=>closedC x
def ZV (K:Nat):Option (TypeId × List CV)->Bool
 | none=>true
 | some (_,cs)=>cs.all (kf K)
def Ib (K:Nat) (y:AV × Mem):AV × Mem :=
 let z:=ze y.2 y.1
 match takeN z.1 K with
 | some m=>if aw z.2&&m.all (ZV K) then (z.2,m) else y
 | none=>y
def jpR (H:Hd) (f:Nat):Bool:=(qF H.pc (4294967296+f)).isSome
def jpV (H:Hd) (f:Nat):Bool:=(qF H.pc (8589934592+f)).isSome
def joined (j:Bool) (K:Nat) (t:Tree (AV × Mem)):Tree (AV × Mem) :=
 if j then ky K (t.bind fun y=>.leaf (Ib K y)) else t
def zK:Op->Bool
 | .defer _=>false
 | _=>true
def jI (P:Program) (H:Hd) (call:jt) (f K:Nat):Nat->Code->St->Tree (XE × St)
 | _,.skip,s=>.leaf (.normal,s)
 | _, .region _ ops draw, s => if !ops.toList.all (fun o => zK o.op) then .fail else if draw then
   (if P.follows .mixedOrders then (Ze P H call ops.toList ops.toList { s with tmps:=s.tmps.map unkey }).bind fun y =>
    if Qj ops.toList y.2 then .leaf (.normal,{ y.1 with tmps:=y.1.tmps.map unkey }) else .fail
   else .fail)
   else (DK P H call ops.toList s).bind fun s'=>.leaf (.normal,{ s' with tmps:=s'.tmps.map unkey })
 | n,.seq a b,s=>(jI P H call f K n a s).bind fun x=>match x.1 with
  | .normal=>jI P H call f K (n+ji a) b x.2
  | e=>.leaf (e,x.2)
 | n,.cond c a b,s=>match zp s [] c with
  | some (.one (.c (.bool t)))=>kS (jpV H f) t s.mem.length (jI P H call f K n a s) (jI P H call f K (n+ji a) b s)
  | _=>.fail
 | n,.block id b,s=>(jI P H call f K n b s).bind fun x=>match x.1 with
  | .exit k=>.leaf (if k=id then .normal else .exit k,x.2)
  | e=>.leaf (e,x.2)
 | n,.loop _,s=>match kB H.lh f n with
  | some h=>h K s
  | none=>.fail
 | _,.exit id,s=>.leaf (.exit id,s)
 | _,.ret,s=>.leaf (.ret,s)
 | _,_,_=>.fail
def Gf (P:Program) (s:St):ResultVar->Option A1
 | .tmp t=>match nth s.tmps t with
  | some ⟨[],.one a⟩=>some a
  | _=>none
 | .cell a t=>match nth s.tmps a with
  | some ⟨[],v⟩=>match Y3 P s.mem t v with
   | some (.one a)=>some a
   | _=>none
  | _=>none
def zt (P:Program) (s:St):List ResultVar->Option (List A1)
 | []=>some []
 | x::r=>match Gf P s x,zt P s r with
  | some a,some l=>some (a::l)
  | _,_=>none
def GQ:List A1->AV
 | [a]=>.one a
 | l=>.tup l
def HX:CV->AV
 | .any=>.any
 | x=>.one (.c x)
def cellS:Slot->CV
 | ⟨[],.one (.c x)⟩=>x
 | _=>.any
def QO:List Tmp->List A1->List Slot->List Slot
 | t::ts,a::as,l=>QO ts as (jk l t ⟨[],.one a⟩)
 | _,_,l=>l
def setSt (mem:Mem) (b:Nat) (st:LpS):Option Mem :=
 match nth mem b with
 | some (some (T,.lp f i .busy::cs))=>some (jk mem b (some (T,.lp f i st::cs)))
 | _=>none
def LR (mem:Mem) (b:Nat):Option Mem :=
 match nth mem b with
 | some (some (T,.lp f i .ready::cs))=>some (jk mem b (some (T,.lp f i .busy::cs)))
 | _=>none
def Fz (b:Nat) (y:XE × St):Tree (AV × Mem) :=
 match y.1 with
 | .normal=>match setSt y.2.mem b .ready with
  | some m=>.leaf (.one (.c (.bool true)),m)
  | none=>.fail
 | .ret=>match setSt y.2.mem b (.done none) with
  | some m=>.leaf (.one (.c (.bool false)),m)
  | none=>.fail
 | .exit e=>match setSt y.2.mem b (.done (some e)) with
  | some m=>.leaf (.one (.c (.bool false)),m)
  | none=>.fail
def Bu (P:Program) (H:Hd) (call:jt) (b:Nat) (args:List A1) (mem:Mem):Tree (AV × Mem) :=
 match nth mem b with
 | some (some (_,.lp f i .ready::cs))=>match Uq P f i with
  | some rc => if args.length == rc.ps.size then
    (jI P H call f mem.length rc.n rc.a ⟨QO rc.ps.toList args (cs.map fun c=>⟨[],HX c⟩),mem⟩).bind fun x=>match x.1 with
     | .normal=>match LR x.2.mem b with
      | some m=>(jI P H call f mem.length (rc.n+ji rc.a) rc.b ⟨x.2.tmps,m⟩).bind fun y=>Fz b y
      | none=>.fail
     | _=>.fail
    else .fail
  | none=>.fail
 | _=>.fail
def k9:Code->Bool
 | .seq a b=>k9 a&&k9 b
 | .cond _ a b=>k9 a&&k9 b
 | .block _ b=>k9 b
 | .loop b=>k9 b
 | .scope b=>k9 b
 | .rangeFunc _ _ _ _=>false
 | _=>true
def GL (b0:Nat) (tmps:List Slot) (mem:Mem):Tree (XE × St) :=
 match nth mem b0 with
 | some (some (_,.lp _ _ .ready::_))=>.leaf (.normal,⟨tmps,jk mem b0 none⟩)
 | some (some (_,.lp _ _ (.done none)::_))=>.leaf (.ret,⟨tmps,jk mem b0 none⟩)
 | some (some (_,.lp _ _ (.done (some e))::_))=>.leaf (.exit e,⟨tmps,jk mem b0 none⟩)
 | _=>.fail
def qP (P:Program) (H:Hd) (call:jt) (f K:Nat):Nat->Nat->Code->St->Tree (XE × St)
 | n, m, .seq a b, s => if k9 (.seq a b) then jI P H call f K n (.seq a b) s else
   (qP P H call f K n m a s).bind fun x=>match x.1 with
    | .normal=>qP P H call f K (n+ji a) (m+jK a) b x.2
    | e=>.leaf (e,x.2)
 | n, m, .cond c a b, s => if k9 (.cond c a b) then jI P H call f K n (.cond c a b) s else
   match zp s [] c with
   | some (.one (.c (.bool t)))=>.br t (qP P H call f K n m a s) (qP P H call f K (n+ji a) (m+jK a) b s)
   | _=>.fail
 | n, m, .block id b, s => if k9 (.block id b) then jI P H call f K n (.block id b) s else
   (qP P H call f K n m b s).bind fun x=>match x.1 with
    | .exit k=>.leaf (if k=id then .normal else .exit k,x.2)
    | e=>.leaf (e,x.2)
 | _,m,.rangeFunc g _ _ _,s=>match zp s [] g with
  | some (.one (.c (.fn (.func gf) first cap))) => if qx P gf then
    (call gf (first.map .c++(.c (.yld s.mem.length)::cap.map .c)) (s.mem++[some (0,.lp f m .ready::s.tmps.map cellS)])).bind fun x=>GL s.mem.length s.tmps x.2
    else .fail
  | _=>.fail
 | n,_,c,s=>jI P H call f K n c s
def jU (P:Program) (H:Hd):Nat->jt
 | 0,_,_,_=>.fail
 | n+1,f,args,mem=>if Nat.ble 1000000000 f then Bu P H (jU P H n) (f - 1000000000) args mem else match VE H.mc f with
  | some G=>G args mem
  | none=>match nth P.funcs.toList f with
   | some fn=>match fn.body with
    | some c => if Nat.ble args.length fn.ntmps then
      joined (jpR H f) mem.length ((qP P H (jU P H n) f mem.length 0 0 c ⟨args.map (fun a=>⟨[],.one a⟩)++List.replicate (fn.ntmps - args.length) ⟨[],.any⟩,mem⟩).bind fun x=>match x.1 with
       | .exit _=>.fail
       | _=>match zt P x.2 fn.results.toList with
        | some l=>.leaf (GQ l,x.2.mem)
        | none=>.fail)
      else .fail
    | none=>.fail
   | none=>.fail
end Go.Sx