/-
 Part TpZE of the proof: RuB RuC RuD RuE EngFo RuF.
-/
import Derived.Test.YtiefjlcakpdfeaaGreatDoorTpZB
import Derived.Test.YtiefjlcakpdfeaaGreatDoorTpZD
import Derived.Test.YtiefjlcakpdfeaaGreatDoorTpS
namespace Go.Proofs.YtiefjlcakpdfeaaGreatDoor
open Go Go.Sx Go.RowKit Rb
set_option maxRecDepth 100000
structure PU where
 n:Nat
 ρ:Val
def pU0:PU:=⟨0,.zero⟩
def jj3 (x:PU):Mem:=[some (59,[.os 1 1]),some (9,[.row false [.str] x.n x.ρ])]
def jaZ:Mem->Option PU
 | [some (59,[.os 1 1]),some (9,[.row false [.str] n ρ])]=>some ⟨n,ρ⟩
 | _=>none
def ClP:Clus PU:=⟨jj3,jaZ,fun b m=>V7 b [(0,9,[.str])] m⟩
theorem Hh {m:Mem} {x:PU} (h:jaZ m=some x):m=jj3 x:=by
 unfold jaZ at h;split at h
 ·cases h;rfl
 ·cases h
theorem jcL:ClP.Ok where
 get:=fun m x h P F w bs hm=>by rw [Hh h] at hm;exact hm
 liv:=fun m x h k y T cs hk hl=>by
  have e:m=ClP.lay x:=Hh h;rw [← e] at hk;exact ⟨T,cs,hk,hl⟩
 ok:=fun x=>rfl
 prep:=fun P F w bs b mem hm=>KL b _ hm
def eU:AV:=.tup []
def okN (x:PU) (m:Nat):Bool:=Nat.ble ((x.n+m)*16) 140737488355328
def QL (x:PU) (m:Nat) (σ:Val):PU:=⟨x.n+m,Val.cat x.n x.ρ σ⟩
def ZI (m:Nat) (σ:Val) (x:PU):Option PU:=nd (okN x m) (some (QL x m σ))
def zV (w:ByteArray) (x:PU):PU:=QL x 1 (yA w)
def yy (w:ByteArray) (x:PU):Option PU:=ZI 1 (yA w) x
def row2 (w z:ByteArray):Val:=Val.ofFlat 1 [.str w,.str z]
def Tl (T:Tree (AV × PU)) (o:Option PU):Prop:=∀ y,o=some y->T.sel=some (eU,y)
theorem Tl.none {T:Tree (AV × PU)}:Tl T none:=fun _ h=>by cases h
theorem Tl.leaf {y:PU}:Tl (.leaf (eU,y)) (some y):=fun z h=>by cases h;rfl
theorem Tl.nd {c d:Bool} {T:Tree (AV × PU)} {o:Option PU} (hd:c=true->d=true) (h:Tl T o):Tl (.need d T) (Go.Proofs.YtiefjlcakpdfeaaGreatDoor.nd c o):=by
 cases c with
 | false=>exact Tl.none
 | true =>
   intro y hy;rw [jG,hd rfl];exact h y hy
theorem Tl.br {c:Bool} {A B:Tree (AV × PU)} {a b:Option PU} (h1:c=true->Tl A a) (h2:c=false->Tl B b):Tl (.br c A B) (bif c then a else b):=by
 cases c with
 | true=>exact fun y hy=>(by rw [qg];exact h1 rfl y hy)
 | false=>exact fun y hy=>(by rw [qg];exact h2 rfl y hy)
theorem Tl.br1 {c:Bool} {A B:Tree (AV × PU)} {a:Option PU} (hc:c=true) (h:Tl A a):Tl (.br c A B) a:=by
 subst hc;exact fun y hy=>(by rw [qg];exact h y hy)
theorem Tl.br0 {c:Bool} {A B:Tree (AV × PU)} {a:Option PU} (hc:c=false) (h:Tl B a):Tl (.br c A B) a:=by
 subst hc;exact fun y hy=>(by rw [qg];exact h y hy)
theorem Tl.bind {o:Option PU} {K:PU->Tree (AV × PU)} {f:PU->Option PU} (h:∀ v,Tl (K v) (f v)):Tl (.need (os1 o) (K (ov1 pU0 o))) (o.bind f):=by
 cases o with
 | none=>exact Tl.none
 | some v=>intro y hy;exact h v y hy
theorem Tl.put {m:Nat} {σ:Val} {x:PU} {K:PU->Tree (AV × PU)} {f:PU->Option PU} (h:∀ v,Tl (K v) (f v)):Tl (.need (okN x m) (K (QL x m σ))) ((ZI m σ x).bind f):=by
 unfold ZI;cases okN x m with
 | false=>exact Tl.none
 | true=>intro y hy;exact h _ y hy
theorem Tl.last {o:Option PU}:Tl (.need (os1 o) (.leaf (eU,ov1 pU0 o))) o:=by
 cases o with
 | none=>exact Tl.none
 | some v=>exact Tl.leaf
theorem Tl.plast {m:Nat} {σ:Val} {x:PU}:Tl (.need (okN x m) (.leaf (eU,QL x m σ))) (ZI m σ x):=by
 unfold ZI;exact Tl.nd id Tl.leaf
abbrev UP:=List A1->PU->Tree (AV × PU)
theorem mT {H:Hd} (hH:HdOk Tryz.prog H) {X:HdP} (hX:XOk Tryz.prog X) (f:Nat) {u:UP} (h:∀ rest x z,(u rest x).sel=some z->(Jn ClP Tryz.prog H X 10 f rest x).sel=some z):js Tryz.prog f (qd ClP u) :=
 jiY jcL hH hX 10 f fun rest x z hz=>⟨z,h rest x z hz,leA.refl,fun _ _ _ hm=>hm⟩
theorem jcP {α β:Type} {t:Tree α} {f:α->Tree β} {a:α} (h:t.sel=some a):(t.bind f).sel=(f a).sel:=by
 induction t with
 | leaf x=>cases h;rfl
 | fail=>cases h
 | need c t ih =>
   cases c with
  | false=>cases h
  | true=>exact ih h
 | br c t e ih1 ih2 =>
   cases c with
  | false=>exact ih2 h
  | true=>exact ih1 h
theorem VT {u : UP} {args : List A1} {mem : Mem} {y : AV × Mem} (hs : (qd ClP u args mem).sel = some y) :
  ∃ rest x z,(u rest x).sel=some z∧∀ u':UP,(u' rest x).sel=some z->(qd ClP u' args mem).sel=some y:=by
 unfold qd at hs;split at hs
 rotate_left
 ·cases hs
 rename_i ht;unfold clG at hs;split at hs
 rotate_left
 ·cases hs
 rename_i b rest;split at hs
 rotate_left
 ·cases hs
 rename_i hc;simp only at hs;split at hs
 rotate_left
 ·cases hs
 rename_i x hx;obtain ⟨z,hz,h2⟩:=jh hs;refine ⟨_,x,z,hz,fun u' hu => ?_⟩;unfold qd;rw [if_pos ht];unfold clG;simp only;rw [if_pos hc,hx];simp only;rw [jcP hu];exact h2
theorem jhO {P:Program} {f:Nat} {u uA uB:UP} (hA:js P f (qd ClP uA)) (hB:js P f (qd ClP uB)) (h:∀ rest x z,(u rest x).sel=some z->(uA rest x).sel=some z∨(uB rest x).sel=some z):js P f (qd ClP u):=by
 intro args mem r mem' hs;obtain ⟨rest,x,z,hz,hk⟩:=VT hs;rcases h rest x z hz with h1 | h1
 ·exact hA _ _ _ _ (hk uA h1)
 ·exact hB _ _ _ _ (hk uB h1)
noncomputable abbrev HE0:Hd:=⟨[],[],[],[]⟩
def u23:UP:=fun rest x=>match rest with
 | [.c (.sl [.str] m σ)]=>.need (okN x m) (.leaf (eU,QL x m σ))
 | _=>.fail
theorem jmT (m:Nat) (σ:Val) (x:PU):JI ClP Tryz.prog HE0 X3 10 23 [.c (.sl [.str] m σ)] x=.need (okN x m) (.leaf (eU,QL x m σ)):=by kernel_rfl
theorem m23:js Tryz.prog 23 (clG ClP u23):=FJ jcL (H:=HE0) HdOk.nil x3 10 23 fun rest x z hz=>by
 unfold u23 at hz;split at hz
 rotate_left
 ·cases hz
 exact ⟨z,by rw [jmT];exact hz,leA.refl,fun _ _ _ hm=>hm⟩
abbrev OE:=RX->PU->Option PU
def uE (O:OE):UP:=fun rest x=>match rest with
 | [.agg [.str o,.int .i64 v,.sl es n ρ]]=>if shEq.shsEq es (jl 0) then .need (os1 (O ⟨o,v,n,ρ⟩ x)) (.leaf (eU,ov1 pU0 (O ⟨o,v,n,ρ⟩ x))) else .fail
 | _=>.fail
theorem LN {O:OE} {rest:List A1} {x:PU} {z:AV × PU} (h:(uE O rest x).sel=some z):∃ e:RX,rest=[.agg e.cells]∧∃ y,O e x=some y∧z=(eU,y):=by
 unfold uE at h;split at h
 ·split at h
  ·rename_i o v es n ρ hs;refine ⟨⟨o,v,n,ρ⟩,by rw [jm hs];rfl,?_⟩
   cases hO:O ⟨o,v,n,ρ⟩ x with
   | none=>rw [hO] at h;cases h
   | some y=>rw [hO] at h;cases h;exact ⟨y,rfl,rfl⟩
  ·cases h
 ·cases h
theorem jdc {O:OE} {e:RX} {x y:PU} (h:O e x=some y):(uE O [.agg e.cells] x).sel=some (eU,y):=by
 show (if shEq.shsEq (jl 0) (jl 0) then Tree.need (os1 (O e x)) (.leaf (eU,ov1 pU0 (O e x))) else .fail).sel=_
 rw [if_pos (by kernel_rfl),h]
 rfl
theorem ji7 {f:Nat}:js Tryz.prog f (qd ClP (uE fun _ _=>none)):=by
 intro args mem r mem' hs;obtain ⟨rest,x,z,hz,_⟩:=VT hs;obtain ⟨e,_,y,h,_⟩:=LN hz;cases h
theorem mE {H:Hd} (hH:HdOk Tryz.prog H) {X:HdP} (hX:XOk Tryz.prog X) (f:Nat) {O:OE} {T:RX->PU->Tree (AV × PU)} (ht:∀ (e:RX) x,(∃ y,O e x=some y)->(Jn ClP Tryz.prog H X 10 f [.agg e.cells] x).sel=(T e x).sel) (h:∀ e x,Tl (T e x) (O e x)):js Tryz.prog f (qd ClP (uE O)) :=
 mT hH hX f fun rest x z hz=>by
  obtain ⟨e,rfl,y,hy,rfl⟩:=LN hz;rw [ht e x ⟨y,hy⟩];exact h e x y hy
noncomputable abbrev jmS (O:OE):Hd:=⟨[],[],[],[(76,qd ClP (uE O)),(23,clG ClP u23)]⟩
theorem joO {O:OE} (hO:js Tryz.prog 76 (qd ClP (uE O))):HdOk Tryz.prog (jmS O):=(HdOk.nil.mcCons m23).mcCons hO
def jbE (O:OE) (e:RX) (x:PU):Tree (AV × PU) :=
 .br (ja e.n==0) (.need (os1 (O e x)) (.leaf (eU,ov1 pU0 (O e x)))) (.need (okN x 1) (.need (os1 (O e (zV qK x))) (.need (okN (ov1 pU0 (O e (zV qK x))) 1) (.leaf (eU,zV zr (ov1 pU0 (O e (zV qK x))))))))
theorem jhV (O:OE) (o:ByteArray) (v:Int) (n:Nat) (ρ:Val) (x:PU):Jn ClP Tryz.prog (jmS O) X3 10 102 [.agg [.str o,.int .i64 v,.sl (jl 0) n ρ]] x=jbE O ⟨o,v,n,ρ⟩ x:=by kernel_rfl
def K5 (O:OE):OE:=fun e x=>bif ja e.n==0 then O e x else (yy qK x).bind fun x1=>(O e x1).bind fun y=>yy zr y
theorem jf2 (O:OE) (e:RX) (x:PU):Tl (jbE O e x) (K5 O e x):=by
 unfold jbE K5;refine Tl.br (fun _=>Tl.last) fun _ => ?_;exact Tl.put (K:=fun x1=>.need (os1 (O e x1)) (.need (okN (ov1 pU0 (O e x1)) 1) (.leaf (eU,zV zr (ov1 pU0 (O e x1)))))) fun x1=>Tl.bind (K:=fun y=>.need (okN y 1) (.leaf (eU,zV zr y))) fun y=>Tl.plast
theorem jpN {O:OE} (hO:js Tryz.prog 76 (qd ClP (uE O))):js Tryz.prog 102 (qd ClP (uE (K5 O))) :=
 mE (joO hO) x3 102 (T:=jbE O) (fun e x _=>congrArg Tree.sel (jhV O e.op e.v e.n e.ρ x)) (jf2 O)
noncomputable abbrev H76 (O:OE):Hd:=⟨[(101,nG jdO)],[],[],[(102,qd ClP (uE O)),(23,clG ClP u23)]⟩
theorem h76 {O:OE} (hO:js Tryz.prog 102 (qd ClP (uE O))):HdOk Tryz.prog (H76 O):=((HdOk.nil.mcCons m23).mcCons hO).tcCons jpG
noncomputable abbrev jlf (O:OE):Hd:=⟨[],[],[],[(102,qd ClP (uE O)),(23,clG ClP u23),(101,jae)]⟩
theorem jo9 {O:OE} (hO:js Tryz.prog 102 (qd ClP (uE O))):HdOk Tryz.prog (jlf O):=((HdOk.nil.mcCons jpy).mcCons m23).mcCons hO
def jm8 (O:OE) (e:RX) (x:PU):Tree (AV × PU) :=
 .need (jc 0 e.n) (.need (os1 (O (jR e.ρ 0) x)) (.need (okN (ov1 pU0 (O (jR e.ρ 0) x)) 1) (.need (jc 1 e.n)
  (.need (os1 (O (jR e.ρ 1) (zV e.op (ov1 pU0 (O (jR e.ρ 0) x))))) (.leaf (eU,ov1 pU0 (O (jR e.ρ 1) (zV e.op (ov1 pU0 (O (jR e.ρ 0) x))))))))))
def jky (e:RX) (x:PU):Tree (AV × PU):=.need (le 0 e.v&&lt e.v 100) (.need (Nat.ble ((bs [115]).size+(jj e.v).size) 9223372036854775807) (.need (okN x 2) (.leaf (eU,QL x 2 (row2 e.op (zh (bs [115]) (jj e.v)))))))
def K52 (O:OE) (e:RX) (x:PU) (b:Bool):Tree (AV × PU):=.br b (jky e x) (jm8 O e x)
def K31 (O:OE) (e:RX) (x:PU) (b:Bool):Tree (AV × PU):=.br b (.need (okN x 1) (.leaf (eU,zV e.op x)))
 (.br (jb e.op jO) (.need (okN x 1) (.need (jc 0 e.n) (.need (os1 (O (jR e.ρ 0) (zV e.op x))) (.leaf (eU,ov1 pU0 (O (jR e.ρ 0) (zV e.op x)))))))
 (.br (jb e.op qS) (K52 O e x (jb e.op qS)) (.br (jb e.op qe) (K52 O e x (jb e.op qe)) (.br (jb e.op zI) (K52 O e x (jb e.op zI)) (.br (jb e.op qU) (K52 O e x (jb e.op qU)) (K52 O e x (jb e.op qq)))))))
def R9 (c:Bool) (e:RX) (x:PU):Tree (AV × PU):=.need c (.need (okN x 1) (.leaf (eU,zV (jj e.v) x)))
def t76 (O:OE) (e:RX) (x:PU):Tree (AV × PU) :=
 .br (jb e.op j8) (R9 (le 0 e.v&&lt e.v 100) e x) (.br (jb e.op jW) (K31 O e x (jb e.op jW)) (K31 O e x (jb e.op zg)))
theorem jnd (O:OE) (o:ByteArray) (v:Int) (n:Nat) (ρ:Val) (x:PU):Jn ClP Tryz.prog (H76 O) X3 10 76 [.agg [.str o,.int .i64 v,.sl (jl 0) n ρ]] x=t76 O ⟨o,v,n,ρ⟩ x:=by kernel_rfl
theorem jh2 (O:OE) (v:Int) (n:Nat) (ρ:Val) (x:PU):(Jn ClP Tryz.prog (jlf O) X3 10 76 [.agg [.str j8,.int .i64 v,.sl (jl 0) n ρ]] x).sel=(R9 (le 0 v&&le v 1073741824) ⟨j8,v,n,ρ⟩ x).sel:=by kernel_rfl
def LP (e:RX) (x:PU):Option PU:=nd (le 0 e.v&&le e.v 1073741824) (yy (jj e.v) x)
def UI (w:ByteArray):Bool:=bif jb w qS then true else bif jb w qe then true else bif jb w zI then true else bif jb w qU then true else jb w qq
def Ze (O:OE) (e:RX) (x:PU):Option PU :=
 bif (bif jb e.op jW then true else jb e.op zg) then yy e.op x
 else bif jb e.op jO then (yy e.op x).bind fun x1=>nd (jc 0 e.n) (O (jR e.ρ 0) x1)
 else bif UI e.op then nd (le 0 e.v&&lt e.v 100) (nd (Nat.ble ((bs [115]).size+(jj e.v).size) 9223372036854775807) (ZI 2 (row2 e.op (zh (bs [115]) (jj e.v))) x))
 else nd (jc 0 e.n) ((O (jR e.ρ 0) x).bind fun y=>(yy e.op y).bind fun x1=>nd (jc 1 e.n) (O (jR e.ρ 1) x1))
def Hs (O:OE):OE:=fun e x=>bif jb e.op j8 then LP e x else Ze O e x
def O2 (O:OE):OE:=fun e x=>bif jb e.op j8 then none else Ze O e x
def Re:OE:=fun e x=>bif jb e.op j8 then LP e x else none
theorem X9 (O : OE) (e : RX) (x : PU) (b : Bool) : Tl (K52 O e x b) (bif b then nd (le 0 e.v && lt e.v 100) (nd (Nat.ble ((bs [115]).size + (jj e.v).size) 9223372036854775807) (ZI 2 (row2 e.op (zh (bs [115]) (jj e.v))) x))
  else nd (jc 0 e.n) ((O (jR e.ρ 0) x).bind fun y=>(yy e.op y).bind fun x1=>nd (jc 1 e.n) (O (jR e.ρ 1) x1))):=by
 unfold K52 jky jm8;refine Tl.br (fun _=>Tl.nd id (Tl.nd id Tl.plast)) fun _=>Tl.nd id ?_
 exact Tl.bind (K:=fun y=>.need (okN y 1) (.need (jc 1 e.n) (.need (os1 (O (jR e.ρ 1) (zV e.op y))) (.leaf (eU,ov1 pU0 (O (jR e.ρ 1) (zV e.op y))))))) fun y =>
  Tl.put (K:=fun x1=>.need (jc 1 e.n) (.need (os1 (O (jR e.ρ 1) x1)) (.leaf (eU,ov1 pU0 (O (jR e.ρ 1) x1))))) fun x1=>Tl.nd id Tl.last
theorem I7 (O:OE) (e:RX) (x:PU) (b:Bool):Tl (K31 O e x b) (bif b then yy e.op x
 else bif jb e.op jO then (yy e.op x).bind fun x1=>nd (jc 0 e.n) (O (jR e.ρ 0) x1)
 else bif UI e.op then nd (le 0 e.v&&lt e.v 100) (nd (Nat.ble ((bs [115]).size+(jj e.v).size) 9223372036854775807) (ZI 2 (row2 e.op (zh (bs [115]) (jj e.v))) x))
 else nd (jc 0 e.n) ((O (jR e.ρ 0) x).bind fun y=>(yy e.op y).bind fun x1=>nd (jc 1 e.n) (O (jR e.ρ 1) x1))):=by
 unfold K31;refine Tl.br (fun _=>Tl.plast) fun _=>Tl.br (fun _ => ?_) fun _ => ?_
 ·exact Tl.put (K:=fun x1=>.need (jc 0 e.n) (.need (os1 (O (jR e.ρ 0) x1)) (.leaf (eU,ov1 pU0 (O (jR e.ρ 0) x1))))) fun x1=>Tl.nd id Tl.last
 ·unfold UI;cases h1:jb e.op qS with
  | true=>exact Tl.br1 rfl (X9 O e x true)
  | false =>
  cases h2:jb e.op qe with
  | true=>exact Tl.br0 rfl (Tl.br1 rfl (X9 O e x true))
  | false =>
  cases h3:jb e.op zI with
  | true=>exact Tl.br0 rfl (Tl.br0 rfl (Tl.br1 rfl (X9 O e x true)))
  | false =>
  cases h4:jb e.op qU with
  | true=>exact Tl.br0 rfl (Tl.br0 rfl (Tl.br0 rfl (Tl.br1 rfl (X9 O e x true))))
  | false=>exact Tl.br0 rfl (Tl.br0 rfl (Tl.br0 rfl (Tl.br0 rfl (X9 O e x _))))
theorem jiL (O:OE) (e:RX) (x:PU):Tl (t76 O e x) (O2 O e x):=by
 unfold t76 O2 Ze;cases h0:jb e.op j8 with
 | true=>exact Tl.none
 | false =>
   refine Tl.br0 rfl ?_;cases h1:jb e.op jW with
  | true=>exact Tl.br1 rfl (I7 O e x true)
  | false=>exact Tl.br0 rfl (I7 O e x _)
theorem jpA {O:OE} (hO:js Tryz.prog 102 (qd ClP (uE O))):js Tryz.prog 76 (qd ClP (uE (O2 O))) :=
 mE (h76 hO) x3 76 (T:=t76 O) (fun e x _=>congrArg Tree.sel (jnd O e.op e.v e.n e.ρ x)) (jiL O)
theorem jpp {O:OE} (hO:js Tryz.prog 102 (qd ClP (uE O))):js Tryz.prog 76 (qd ClP (uE Re)) :=
 mE (jo9 hO) x3 76 (T:=fun e x=>R9 (le 0 e.v&&le e.v 1073741824) e x) (fun e x ⟨y,hy⟩=>by
  unfold Re at hy;cases h0:jb e.op j8 with
  | false=>rw [h0] at hy;cases hy
  | true =>
    have:=qW h0
    obtain ⟨o,v,n,ρ⟩:=e;obtain rfl:o=j8:=this;exact jh2 O v n ρ x) fun e x=>by
  unfold Re;cases jb e.op j8 with
  | false=>exact Tl.none
  | true =>
    show Tl (R9 (le 0 e.v&&le e.v 1073741824) e x) (LP e x);unfold LP R9;exact Tl.nd id Tl.plast
theorem m76 {O:OE} (hO:js Tryz.prog 102 (qd ClP (uE O))):js Tryz.prog 76 (qd ClP (uE (Hs O))) :=
 jhO (jpA hO) (jpp hO) fun rest x z hz=>by
  obtain ⟨e,rfl,y,hy,rfl⟩:=LN hz;unfold Hs at hy;cases h0:jb e.op j8 with
  | false=>rw [h0] at hy;exact .inl (jdc (by unfold O2;rw [h0];exact hy))
  | true=>rw [h0] at hy;exact .inr (jdc (by unfold Re;rw [h0];exact hy))
def prF:Nat->OE
 | 0=>fun _ _=>none
 | k+1=>Hs (K5 (prF k))
theorem jj6:∀ k,js Tryz.prog 76 (qd ClP (uE (prF k)))
 | 0=>ji7
 | k+1=>m76 (jpN (jj6 k))
abbrev SE':=RS->PU->Option PU
def uSt (S:SE'):UP:=fun rest x=>match rest with
 | [a]=>(match NG a with
  | some s=>.need (os1 (S s x)) (.leaf (eU,ov1 pU0 (S s x)))
  | none=>.fail)
 | _=>.fail
theorem jdE {S:SE'} {rest:List A1} {x:PU} {z:AV × PU} (h:(uSt S rest x).sel=some z):∃ s:RS,rest=[.agg s.cells]∧∃ y,S s x=some y∧z=(eU,y):=by
 unfold uSt at h;split at h
 ·split at h
  ·rename_i s hs;refine ⟨s,by rw [K6 hs],?_⟩
   cases hO:S s x with
   | none=>rw [hO] at h;cases h
   | some y=>rw [hO] at h;cases h;exact ⟨y,rfl,rfl⟩
  ·cases h
 ·cases h
abbrev BE':=Nat->Val->PU->Option PU
def uBk (B:BE'):UP:=fun rest x=>match rest with
 | [.c (.sl es n ρ)]=>if shEq.shsEq es (jl 1) then .need (os1 (B n ρ x)) (.leaf (eU,ov1 pU0 (B n ρ x))) else .fail
 | _=>.fail
theorem TI {B:BE'} {rest:List A1} {x:PU} {z:AV × PU} (h:(uBk B rest x).sel=some z):∃ n ρ,rest=[.c (.sl (jl 1) n ρ)]∧∃ y,B n ρ x=some y∧z=(eU,y):=by
 unfold uBk at h;split at h
 ·split at h
  ·rename_i es n ρ hs;refine ⟨n,ρ,by rw [jm hs],?_⟩
   cases hO:B n ρ x with
   | none=>rw [hO] at h;cases h
   | some y=>rw [hO] at h;cases h;exact ⟨y,rfl,rfl⟩
  ·cases h
 ·cases h
theorem jhZ {f:Nat}:js Tryz.prog f (qd ClP (uBk fun _ _ _=>none)):=by
 intro args mem r mem' hs;obtain ⟨rest,x,z,hz,_⟩:=VT hs;obtain ⟨e,_,_,y,h,_⟩:=TI hz;cases h
def jgH (x:PU):Mem:=[some (59,[.os 3 1]),none,LB,some (9,[.row false [.str] x.n x.ρ])]
def O1:Mem->Option PU
 | [some (59,[.os 3 1]),none,some (0,[.lp 0 0 .tab]),some (9,[.row false [.str] n ρ])]=>some ⟨n,ρ⟩
 | _=>none
theorem Hg {m:Mem} {x:PU} (h:O1 m=some x):m=jgH x:=by
 unfold O1 at h;split at h
 ·cases h;rfl
 ·cases h
structure CPr where
 n:Nat
 ρ:Val
 l:Int
 i:Int
 x:PU
def SBl (c:CPr):St:=mkS 22 [(0,.one (.c (.ptr 0 0))),(9,.one (.c (.sl (jl 1) c.n c.ρ))),(10,.one (.c (.int .i64 c.l))),(11,.one (.c (.int .i64 c.i)))] (jgH c.x)
def MS (l:List (Nat × AV)) (m:Mem):Option CPr:=match l with
 | [(0, .one (.c (.ptr 0 0))), (9, .one (.c (.sl es n ρ))), (10, .one (.c (.int .i64 l))), (11, .one (.c (.int .i64 i)))] =>
   if shEq.shsEq es (jl 1) then (match O1 m with
    | some x=>some ⟨n,ρ,l,i,x⟩
    | none=>none) else none
 | _=>none
theorem jf3:∀ l m c,MS l m=some c->mkS 22 l m=SBl c:=by
 intro l m c h;unfold MS at h;split at h
 ·split at h
  ·rename_i hs;rw [jm hs];split at h
   ·rename_i hx;cases h;rw [Hg hx];rfl
   ·cases h
  ·cases h
 ·cases h
def EBl (x:PU):St:=mkS 22 [(0,.one (.c (.ptr 0 0)))] (jgH x)
def R8 (l:List (Nat × AV)) (m:Mem):Option PU:=match l with
 | [(0,.one (.c (.ptr 0 0)))]=>O1 m
 | _=>none
theorem jdt:∀ l m c,R8 l m=some c->mkS 22 l m=EBl c:=by
 intro l m c h;unfold R8 at h;split at h
 ·rw [Hg h];rfl
 ·cases h
def ABl:Sx.Frame CPr PU:=⟨3,22,[0,9,10,11],MS,SBl,[0],R8,EBl⟩
theorem aBl:ABl.Ok:=.of_eq jf3 jdt
noncomputable abbrev H24 (S:SE'):Hd:=⟨[],[],[],[(44,qd ClP (uSt S)),(23,clG ClP u23)]⟩
theorem h24 {S:SE'} (hS:js Tryz.prog 44 (qd ClP (uSt S))):HdOk Tryz.prog (H24 S):=(HdOk.nil.mcCons m23).mcCons hS
def rBl (S:SE') (g:CPr->Tree (XP × PU)) (c:CPr):Tree (XP × PU) :=
 .br (lt c.i c.l) (.need (jc c.i c.n) (.need (os1 (S (jg c.ρ c.i.toNat) c.x)) (g { c with i:=IntKind.wrap .i64 (c.i+1),x:=ov1 pU0 (S (jg c.ρ c.i.toNat) c.x) }))) (.leaf (.exit 0,c.x))
theorem jkb (S:SE') (g:CPr->Tree (XP × PU)) (n:Nat) (ρ:Val) (l i:Int) (x:PU):jQ ABl Tryz.prog (H24 S) X3 10 24 0 g ⟨n,ρ,l,i,x⟩=rBl S g ⟨n,ρ,l,i,x⟩:=by kernel_rfl
def Qn (S:SE') (n:Nat) (ρ:Val) (l:Int):Nat->Int->PU->Option PU
 | 0,_,_=>none
 | k+1,i,x=>bif lt i l then nd (jc i n) ((S (jg ρ i.toNat) x).bind fun y=>Qn S n ρ l k (IntKind.wrap .i64 (i+1)) y) else some x
def gBl (S:SE') (k:Nat) (c:CPr):Tree (XP × PU) :=
 .need (os1 (Qn S c.n c.ρ c.l k c.i c.x)) (.leaf (.exit 0,ov1 pU0 (Qn S c.n c.ρ c.l k c.i c.x)))
theorem IK (S:SE') (k:Nat) (c:CPr):(gBl S k c).sel=(Qn S c.n c.ρ c.l k c.i c.x).map fun y=>(.exit 0,y):=by
 unfold gBl;cases Qn S c.n c.ρ c.l k c.i c.x<;>rfl
theorem jm7 (S:SE') (k:Nat) (c:CPr) (x:XP × PU) (h:(gBl S (k+1) c).sel=some x):(jQ ABl Tryz.prog (H24 S) X3 10 24 0 (gBl S k) c).sel=some x:=by
 obtain ⟨n,ρ,l,i,y⟩:=c;rw [jkb];rw [IK] at h;unfold Qn at h;unfold rBl;simp only [qg,jG,j0,IK];revert h;cases lt i l with
 | false=>exact fun h=>h
 | true =>
 cases jc i n with
 | false=>exact fun h=>h
 | true =>
 simp only [nd,cond_true];cases S (jg ρ i.toNat) y with
 | none=>exact fun h=>h
 | some z=>exact fun h=>h
theorem jkp {S:SE'} (hS:js Tryz.prog 44 (qd ClP (uSt S))):∀ k,CoreOk Tryz.prog 24 0 3 SBl EBl (gBl S k) :=
 CoreOk.fuel (A:=ABl) aBl (h24 hS) x3 10 (fun _=>rfl) (jm7 S)
def jln (S:SE') (c:CPr):Tree (XP × PU):=gBl S (c.n+1) c
def X24 (S:SE'):HdP:=⟨[],[],[],[((24,0),qZ ABl (jln S))],[],0,[]⟩
theorem x24 {S:SE'} (hS:js Tryz.prog 44 (qd ClP (uSt S))):XOk Tryz.prog (X24 S) :=
 XOk.lxCons XOk.nil (CoreOk.lx (g:=jln S) aBl fun fn c b h1 h2 h3 c0 x hx=>jkp hS _ fn c b h1 h2 h3 c0 x hx)
def U5 (S:SE'):BE':=fun n ρ x=>(yy JR x).bind fun x1=>(Qn S n ρ (ja n) (n+1) 0 x1).bind fun y=>yy yD y
def t24 (S:SE') (n:Nat) (ρ:Val) (x:PU):Tree (AV × PU) :=
 .need (okN x 1) (.need (os1 (Qn S n ρ (ja n) (n+1) 0 (zV JR x))) (.need (okN (ov1 pU0 (Qn S n ρ (ja n) (n+1) 0 (zV JR x))) 1) (.leaf (eU,zV yD (ov1 pU0 (Qn S n ρ (ja n) (n+1) 0 (zV JR x)))))))
theorem jkY (S:SE') (n:Nat) (ρ:Val) (x:PU):Jn ClP Tryz.prog (H24 S) (X24 S) 10 24 [.c (.sl (jl 1) n ρ)] x=t24 S n ρ x:=by kernel_rfl
theorem jh0 (S:SE') (n:Nat) (ρ:Val) (x:PU):Tl (t24 S n ρ x) (U5 S n ρ x):=by
 unfold t24 U5
 exact Tl.put (K:=fun x1=>.need (os1 (Qn S n ρ (ja n) (n+1) 0 x1)) (.need (okN (ov1 pU0 (Qn S n ρ (ja n) (n+1) 0 x1)) 1) (.leaf (eU,zV yD (ov1 pU0 (Qn S n ρ (ja n) (n+1) 0 x1)))))) fun x1 =>
  Tl.bind (K:=fun y=>.need (okN y 1) (.leaf (eU,zV yD y))) fun y=>Tl.plast
theorem m24 {S:SE'} (hS:js Tryz.prog 44 (qd ClP (uSt S))):js Tryz.prog 24 (qd ClP (uBk (U5 S))) :=
 mT (h24 hS) (x24 hS) 24 fun rest x z hz=>by
  obtain ⟨n,ρ,rfl,y,hy,rfl⟩:=TI hz;rw [jkY];exact jh0 S n ρ x y hy
def uOp (B:BE') (w:ByteArray) (n:Nat) (ρ:Val) (x:PU):Option PU:=bif lt 0 (ja n) then (yy w x).bind fun y=>B n ρ y else some x
abbrev OB:=ByteArray->Nat->Val->PU->Option PU
def u77 (O:OB):UP:=fun rest x=>match rest with
 | [.c (.str w),.c (.sl es n ρ)]=>if shEq.shsEq es (jl 1) then .need (os1 (O w n ρ x)) (.leaf (eU,ov1 pU0 (O w n ρ x))) else .fail
 | _=>.fail
noncomputable abbrev H77 (B:BE'):Hd:=⟨[],[],[],[(24,qd ClP (uBk B)),(23,clG ClP u23)]⟩
theorem h77 {B:BE'} (hB:js Tryz.prog 24 (qd ClP (uBk B))):HdOk Tryz.prog (H77 B):=(HdOk.nil.mcCons m23).mcCons hB
def t77 (B:BE') (w:ByteArray) (n:Nat) (ρ:Val) (x:PU):Tree (AV × PU) :=
 .br (lt 0 (ja n)) (.need (okN x 1) (.need (os1 (B n ρ (zV w x))) (.leaf (eU,ov1 pU0 (B n ρ (zV w x)))))) (.leaf (eU,x))
theorem jmg (B:BE') (w:ByteArray) (n:Nat) (ρ:Val) (x:PU):Jn ClP Tryz.prog (H77 B) X3 10 77 [.c (.str w),.c (.sl (jl 1) n ρ)] x=t77 B w n ρ x:=by kernel_rfl
theorem jjI (B:BE') (w:ByteArray) (n:Nat) (ρ:Val) (x:PU):Tl (t77 B w n ρ x) (uOp B w n ρ x):=by
 unfold t77 uOp;exact Tl.br (fun _=>Tl.put (K:=fun y=>.need (os1 (B n ρ y)) (.leaf (eU,ov1 pU0 (B n ρ y)))) fun y=>Tl.last) fun _=>Tl.leaf
theorem m77 {B:BE'} (hB:js Tryz.prog 24 (qd ClP (uBk B))):js Tryz.prog 77 (qd ClP (u77 (uOp B))) :=
 mT (h77 hB) x3 77 fun rest x z hz=>by
  unfold u77 at hz;split at hz
  rotate_left
  ·cases hz
  rename_i w es n ρ;split at hz
  rotate_left
  ·cases hz
  rename_i hs;rw [jm hs,jmg];cases hO:uOp B w n ρ x with
  | none=>rw [hO] at hz;cases hz
  | some y=>rw [hO] at hz;cases hz;exact jjI B w n ρ x y hO
noncomputable abbrev H44 (O:OE) (B:BE') (Op:OB):Hd:=⟨[(67,oG Tf)],[],[],[(76,qd ClP (uE O)),(24,qd ClP (uBk B)),(77,qd ClP (u77 Op)),(23,clG ClP u23)]⟩
theorem h44 {O:OE} {B:BE'} {Op:OB} (hO:js Tryz.prog 76 (qd ClP (uE O))) (hB:js Tryz.prog 24 (qd ClP (uBk B))) (hOp:js Tryz.prog 77 (qd ClP (u77 Op))):HdOk Tryz.prog (H44 O B Op) :=
 ((((HdOk.nil.mcCons m23).mcCons hOp).mcCons hB).mcCons hO).pcCons jeg
def Zh (B:BE') (Op:OB) (s:RS) (x:PU):Tree (AV × PU) :=
 .br (jb s.kind wDo) (.need (os1 (Op ar s.bn s.bρ x)) (.need (okN (ov1 pU0 (Op ar s.bn s.bρ x)) 1) (.leaf (eU,zV ql (ov1 pU0 (Op ar s.bn s.bρ x))))))
 (.br (jb s.kind wIf) (.need (os1 (B s.bn s.bρ x)) (.need (os1 (Op yc s.en s.eρ (ov1 pU0 (B s.bn s.bρ x)))) (.leaf (eU,ov1 pU0 (Op yc s.en s.eρ (ov1 pU0 (B s.bn s.bρ x)))))))
 (.br (jb s.kind jK) (.need (os1 (B s.bn s.bρ x)) (.leaf (eU,ov1 pU0 (B s.bn s.bρ x)))) (.need (okN x 1) (.leaf (eU,zV ql x)))))
def t44 (O:OE) (B:BE') (Op:OB) (s:RS) (x:PU):Tree (AV × PU) :=
 .need (okN x 1) (.need (okN (zV s.kind x) s.wn) (.br (ze s.kind) (.need (os1 (O s.cond (QL (zV s.kind x) s.wn s.wρ))) (Zh B Op s (ov1 pU0 (O s.cond (QL (zV s.kind x) s.wn s.wρ))))) (Zh B Op s (QL (zV s.kind x) s.wn s.wρ))))
theorem jkS (O:OE) (B:BE') (Op:OB) (s:RS) (x:PU):Jn ClP Tryz.prog (H44 O B Op) X3 10 44 [.agg s.cells] x=t44 O B Op s x:=by kernel_rfl
def UQ (B:BE') (Op:OB) (s:RS) (x:PU):Option PU :=
 bif jb s.kind wDo then (Op ar s.bn s.bρ x).bind fun y=>yy ql y
 else bif jb s.kind wIf then (B s.bn s.bρ x).bind fun y=>Op yc s.en s.eρ y
 else bif jb s.kind jK then B s.bn s.bρ x else yy ql x
def XK (O:OE) (B:BE'):SE':=fun s x=>(yy s.kind x).bind fun x1=>(ZI s.wn s.wρ x1).bind fun x2 =>
 bif ze s.kind then (O s.cond x2).bind fun y=>UQ B (uOp B) s y else UQ B (uOp B) s x2
theorem Hq (B:BE') (s:RS) (x:PU):Tl (Zh B (uOp B) s x) (UQ B (uOp B) s x):=by
 unfold Zh UQ;refine Tl.br (fun _ => ?_) fun _=>Tl.br (fun _ => ?_) fun _=>Tl.br (fun _=>Tl.last) fun _=>Tl.plast
 ·exact Tl.bind (K:=fun y=>.need (okN y 1) (.leaf (eU,zV ql y))) fun y=>Tl.plast
 ·exact Tl.bind (K:=fun y=>.need (os1 (uOp B yc s.en s.eρ y)) (.leaf (eU,ov1 pU0 (uOp B yc s.en s.eρ y)))) fun y=>Tl.last
theorem jis (O:OE) (B:BE') (s:RS) (x:PU):Tl (t44 O B (uOp B) s x) (XK O B s x):=by
 unfold t44 XK;refine Tl.put (K:=fun x1=>.need (okN x1 s.wn) (.br (ze s.kind) (.need (os1 (O s.cond (QL x1 s.wn s.wρ))) (Zh B (uOp B) s (ov1 pU0 (O s.cond (QL x1 s.wn s.wρ))))) (Zh B (uOp B) s (QL x1 s.wn s.wρ)))) fun x1 => ?_;refine Tl.put (K:=fun x2=>.br (ze s.kind) (.need (os1 (O s.cond x2)) (Zh B (uOp B) s (ov1 pU0 (O s.cond x2)))) (Zh B (uOp B) s x2)) fun x2 => ?_;exact Tl.br (fun _=>Tl.bind (K:=fun y=>Zh B (uOp B) s y) fun y=>Hq B s y) fun _=>Hq B s x2
theorem m44 {O:OE} {B:BE'} (hO:js Tryz.prog 76 (qd ClP (uE O))) (hB:js Tryz.prog 24 (qd ClP (uBk B))):js Tryz.prog 44 (qd ClP (uSt (XK O B))) :=
 mT (h44 hO hB (m77 hB)) x3 44 fun rest x z hz=>by
  obtain ⟨s,rfl,y,hy,rfl⟩:=jdE hz;rw [jkS];exact jis O B s x y hy
def bpF (O:OE):Nat->BE'
 | 0=>fun _ _ _=>none
 | d+1=>U5 (XK O (bpF O d))
theorem jmX (k:Nat):∀ d,js Tryz.prog 24 (qd ClP (uBk (bpF (prF k) d)))
 | 0=>jhZ
 | d+1=>m24 (m44 (jj6 k) (jmX k d))
def Bf (x:ByteArray × Int):AV:=.tup [.c (.str x.1),.c (.int .i64 x.2)]
def pr0:ByteArray × Int:=(bs [],0)
def GF (y:PU):Option (ByteArray × Int):=nd (J1 y.n y.ρ spc) (some (bif lt 8192 (ja (Jh y.n y.ρ spc).size) then (bs [],5) else (Jh y.n y.ρ spc,0)))
def Yx (f d:Nat) (B:BE') (nm:ByteArray) (n:Nat) (ρ:Val):Option (ByteArray × Int) :=
 nd (opD (jz f d nm n ρ)) (bif opN (jz f d nm n ρ) != 0 then some (bs [],opN (jz f d nm n ρ)) else (ZI 2 (row2 kB nm) pU0).bind fun x=>(B n ρ x).bind GF)
abbrev PrF:=ByteArray->Nat->Val->Option (ByteArray × Int)
def u7p (p:PrF):List A1->Tree AV
 | [.agg [.str nm,.sl es n ρ]]=>if shEq.shsEq es (jl 1) then .need (os1 (p nm n ρ)) (.leaf (Bf (ov1 pr0 (p nm n ρ)))) else .fail
 | _=>.fail
noncomputable abbrev H7p (f d:Nat) (B:BE'):Hd:=⟨[],[(22,nG (G37 f d)),(25,nG G18)],[],[(24,qd ClP (uBk B)),(23,clG ClP u23)]⟩
theorem h7p (f d:Nat) {B:BE'} (hB:js Tryz.prog 24 (qd ClP (uBk B))):HdOk Tryz.prog (H7p f d B):=(((HdOk.nil.mcCons m23).mcCons hB).ucCons p18).ucCons (p37 f d)
def x02 (nm:ByteArray):PU:=QL pU0 2 (row2 kB nm)
def t7 (f d:Nat) (B:BE') (nm:ByteArray) (n:Nat) (ρ:Val):Tree AV :=
 .need (opD (jz f d nm n ρ)) (.br (opN (jz f d nm n ρ) != 0) (.leaf (Bf (bs [],opN (jz f d nm n ρ)))) (.need (okN pU0 2) (.need (os1 (B n ρ (x02 nm)))
  (.need (J1 (ov1 pU0 (B n ρ (x02 nm))).n (ov1 pU0 (B n ρ (x02 nm))).ρ spc) (.br (lt 8192 (ja (Jh (ov1 pU0 (B n ρ (x02 nm))).n (ov1 pU0 (B n ρ (x02 nm))).ρ spc).size)) (.leaf (Bf (bs [],5)))
   (.leaf (Bf (Jh (ov1 pU0 (B n ρ (x02 nm))).n (ov1 pU0 (B n ρ (x02 nm))).ρ spc,0))))))))
theorem jnA (f d:Nat) (B:BE') (nm:ByteArray) (n:Nat) (ρ:Val):HY Tryz.prog (H7p f d B) X3 10 7 [.agg [.str nm,.sl (jl 1) n ρ]]=t7 f d B nm n ρ:=by kernel_rfl
theorem jmM (f d:Nat) (B:BE') (nm:ByteArray) (n:Nat) (ρ:Val) {x:ByteArray × Int} (h:Yx f d B nm n ρ=some x):(t7 f d B nm n ρ).sel=some (Bf x):=by
 unfold Yx at h;unfold t7;simp only [jG,qg,j0];cases h1:opD (jz f d nm n ρ) with
 | false=>rw [h1] at h;cases h
 | true =>
 rw [h1] at h;simp only [nd,cond_true] at h ⊢;cases h2:(opN (jz f d nm n ρ) != 0) with
 | true =>
   rw [h2] at h;simp only [cond_true,sIq] at h ⊢;rw [h]
 | false =>
 rw [h2] at h;simp only [cond_false] at h ⊢;unfold ZI at h;cases h3:okN pU0 2 with
 | false=>rw [h3] at h;cases h
 | true =>
 rw [h3] at h;simp only [nd,cond_true,Option.bind] at h ⊢;have e:QL pU0 2 (row2 kB nm)=x02 nm:=rfl;rw [e] at h;cases hB:B n ρ (x02 nm) with
 | none=>rw [hB] at h;cases h
 | some y =>
 rw [hB] at h;simp only [os1,ov1,cond_true] at h ⊢;unfold GF at h;cases h4:J1 y.n y.ρ spc with
 | false=>rw [h4] at h;cases h
 | true =>
 rw [h4] at h;simp only [nd,cond_true,sIq] at h ⊢;rw [← h];cases lt 8192 (ja (Jh y.n y.ρ spc).size)<;>rfl
theorem jfu {p:PrF} {args:List A1} {r:AV} (h:(u7p p args).sel=some r):∃ nm n ρ x,args=[.agg [.str nm,.sl (jl 1) n ρ]]∧p nm n ρ=some x∧r=Bf x:=by
 unfold u7p at h;split at h
 ·split at h
  ·rename_i nm es n ρ hs;cases hp:p nm n ρ with
   | none=>rw [hp] at h;cases h
   | some x=>rw [hp] at h;cases h;exact ⟨nm,n,ρ,x,by rw [jm hs],hp,rfl⟩
  ·cases h
 ·cases h
theorem m7 (f d:Nat) {B:BE'} (hB:js Tryz.prog 24 (qd ClP (uBk B))):js Tryz.prog 7 (jbY (u7p (Yx f d B))) :=
 jiH (h7p f d hB) x3 10 7 fun args r h=>by
  obtain ⟨nm,n,ρ,x,rfl,hp,rfl⟩:=jfu h;rw [jnA];exact ⟨_,jmM f d B nm n ρ hp,leA.refl⟩
abbrev RF:=RX->Int->Option Int
def G40 (R:RF):List A1->Option (Bool × AV)
 | [.agg [.str o,.int .i64 v,.sl es n ρ],.c (.int .i64 d)]=>if shEq.shsEq es (jl 0) then some (os1 (R ⟨o,v,n,ρ⟩ d),encI (ov1 0 (R ⟨o,v,n,ρ⟩ d))) else none
 | _=>none
structure C40 where
 x:RX
 d:Int
 i:Int
def S40 (c:C40):St:=mkS 27 [(1,.one (.c (.int .i64 c.d))),(2,.one (.c (.ptr 0 0))),(5,.one (.c (.int .i64 c.i)))] [some (94,c.x.cells)]
def MX (l:List (Nat × AV)) (m:Mem):Option C40:=match l,m with
 | [(1, .one (.c (.int .i64 d))), (2, .one (.c (.ptr 0 0))), (5, .one (.c (.int .i64 i)))], [some (94, [.str o, .int .i64 v, .sl es n ρ])] =>
   if shEq.shsEq es (jl 0) then some ⟨⟨o,v,n,ρ⟩,d,i⟩ else none
 | _,_=>none
theorem jfL:∀ l m c,MX l m=some c->mkS 27 l m=S40 c:=by
 intro l m c h;unfold MX at h;split at h
 ·split at h
  ·rename_i hs;cases h;rw [jm hs];rfl
  ·cases h
 ·cases h
def E40 (d:Int):St:=mkS 27 [(1,.one (.c (.int .i64 d)))] []
def De (l:List (Nat × AV)) (m:Mem):Option Int:=match l,m with
 | [(1,.one (.c (.int .i64 d)))],[]=>some d
 | _,_=>none
theorem jdo:∀ l m c,De l m=some c->mkS 27 l m=E40 c:=by
 intro l m c h;unfold De at h;split at h
 ·cases h;rfl
 ·cases h
def A40:Sx.Frame C40 Int:=⟨0,27,[1,2,5],MX,S40,[1],De,E40⟩
theorem a40:A40.Ok:=.of_eq jfL jdo
noncomputable abbrev jeC (R:RF):Hd:=⟨[(40,nG (G40 R))],[],[],[]⟩
theorem joL {R:RF} (hR:TcOne Tryz.prog 40 (nG (G40 R))):HdOk Tryz.prog (jeC R):=HdOk.nil.tcCons hR
def YD (n:Nat) (d i:Int):Bool:=bif lt i (ja n) then le 0 d else false
def r40 (R:RF) (g:C40->Tree (XE × Int)) (c:C40):Tree (XE × Int) :=
 .br (YD c.x.n c.d c.i) (.need (jc c.i c.x.n) (.need (os1 (R (jR c.x.ρ c.i.toNat) c.d)) (g { c with d:=ov1 0 (R (jR c.x.ρ c.i.toNat) c.d),i:=IntKind.wrap .i64 (c.i+1) }))) (.leaf (.exit 0,c.d))
theorem jnh (R:RF) (g:C40->Tree (XE × Int)) (c:C40):yV A40 Tryz.prog (jeC R) 10 40 0 g c=r40 R g c:=by kernel_rfl
def Xn (R:RF) (n:Nat) (ρ:Val):Nat->Int->Int->Option Int
 | 0,_,_=>none
 | k+1,d,i=>bif YD n d i then nd (jc i n) ((R (jR ρ i.toNat) d).bind fun m=>Xn R n ρ k m (IntKind.wrap .i64 (i+1))) else some d
def g40 (R:RF) (k:Nat) (c:C40):Tree (XE × Int):=.need (os1 (Xn R c.x.n c.x.ρ k c.d c.i)) (.leaf (.exit 0,ov1 0 (Xn R c.x.n c.x.ρ k c.d c.i)))
theorem IT (R:RF) (k:Nat) (c:C40):(g40 R k c).sel=(Xn R c.x.n c.x.ρ k c.d c.i).map fun d=>(.exit 0,d):=by
 unfold g40;cases Xn R c.x.n c.x.ρ k c.d c.i<;>rfl
theorem jkm (R:RF) (k:Nat) (c:C40) (x:XE × Int) (h:(g40 R (k+1) c).sel=some x):(yV A40 Tryz.prog (jeC R) 10 40 0 (g40 R k) c).sel=some x:=by
 rw [jnh];rw [IT] at h;unfold Xn at h;unfold r40;simp only [qg,jG,j0,IT];revert h;cases YD c.x.n c.d c.i with
 | false=>exact fun h=>h
 | true =>
 cases jc c.i c.x.n with
 | false=>exact fun h=>h
 | true =>
 simp only [nd,cond_true];cases R (jR c.x.ρ c.i.toNat) c.d with
 | none=>exact fun h=>h
 | some b=>exact fun h=>h
theorem jkA {R:RF} (hR:TcOne Tryz.prog 40 (nG (G40 R))):∀ k,LCore Tryz.prog 40 0 0 S40 E40 (g40 R k):=LCore.fuel (A:=A40) a40 (joL hR) 10 (fun _=>rfl) (jkm R)
def jpm (R:RF) (c:C40):Tree (XE × Int):=g40 R (c.x.n+1) c
noncomputable abbrev H40 (R:RF):Hd:=⟨[],[],[((40,0),K4 A40 (jpm R))],[]⟩
theorem h40 {R:RF} (hR:TcOne Tryz.prog 40 (nG (G40 R))):HdOk Tryz.prog (H40 R):=HdOk.lhCons HdOk.nil fun fn c b h1 h2 h3=>LCore.ok (A:=A40) a40 (fun fn c b h1 h2 h3 c0 x hx=>jkA hR (c0.x.n+1) fn c b h1 h2 h3 c0 x hx) fn c b h1 h2 h3
def Lv (R:RF):RF:=fun x d=>Xn R x.n x.ρ (x.n+1) (IntKind.wrap .i64 (d - 1)) 0
def t40 (R:RF) (x:RX) (d:Int):Tree AV:=.need (os1 (Lv R x d)) (.leaf (encI (ov1 0 (Lv R x d))))
theorem jl9 (R : RF) (o : ByteArray) (v : Int) (n : Nat) (ρ : Val) (d : Int) :
  (jZ Tryz.prog (H40 R) 10 40 [.agg [.str o,.int .i64 v,.sl (jl 0) n ρ],.c (.int .i64 d)] []).vals=t40 R ⟨o,v,n,ρ⟩ d:=by kernel_rfl
theorem jiP {R:RF} {x:RX} {d:Int} (h:os1 (Lv R x d)=true):(t40 R x d).All (fun z=>z=encI (ov1 0 (Lv R x d))):=by
 unfold t40;rw [h];exact jn rfl rfl
theorem jpO {R:RF} (hR:TcOne Tryz.prog 40 (nG (G40 R))):TcOne Tryz.prog 40 (nG (G40 (Lv R))):=qv (h40 hR) 10 40 fun args r h=>by
 unfold G40 at h;split at h
 ·rename_i o v es n ρ d;split at h
  ·rename_i hs;rw [jm hs];simp only [sIq,pIq] at h;obtain ⟨h1,rfl⟩:=h;exact ⟨rfl,_,jl9 R o v n ρ d,jiP h1⟩
  ·cases h
 ·cases h
def V9:Nat->RF
 | 0=>fun _ _=>none
 | f+1=>Lv (V9 f)
theorem p40:∀ f,TcOne Tryz.prog 40 (nG (G40 (V9 f)))
 | 0 => by
   intro args r h;have h:=zG h;unfold G40 at h;split at h
   ·split at h
    ·simp only [sIq,pIq] at h;cases h.1
    ·cases h
   ·cases h
 | f+1=>jpO (p40 f)
abbrev RFB:=Nat->Val->Int->Int->Option Int
def G17 (R:RFB):List A1->Option (Bool × AV)
 | [.c (.sl es n ρ),.c (.int .i64 d),.c (.int .i64 e)]=>if shEq.shsEq es (jl 1) then some (os1 (R n ρ d e),encI (ov1 0 (R n ρ d e))) else none
 | _=>none
structure C17 where
 n:Nat
 ρ:Val
 d:Int
 e:Int
 r:Int
 i:Int
structure K17 where
 o:C17
 k:Int
def jlP (c:C17):List (Nat × AV):=[(0,.one (.c (.sl (jl 1) c.n c.ρ))),(1,.one (.c (.int .i64 c.d))),(2,.one (.c (.int .i64 c.e))),(6,.one (.c (.int .i64 c.r))),(7,.one (.c (.int .i64 c.i)))]
def S17 (c:C17):St:=mkS 81 (jlP c) []
def jd1 (c:K17):St:=mkS 81 (jlP c.o++[(8,.one (.c (.int .i64 c.k)))]) []
def Rk (l:List (Nat × AV)) (m:Mem):Option C17:=match l,m with
 | [(0,.one (.c (.sl es n ρ))),(1,.one (.c (.int .i64 d))),(2,.one (.c (.int .i64 e))),(6,.one (.c (.int .i64 r))),(7,.one (.c (.int .i64 i)))],[]=>if shEq.shsEq es (jl 1) then some ⟨n,ρ,d,e,r,i⟩ else none
 | _,_=>none
def Tp (l:List (Nat × AV)) (m:Mem):Option K17:=match l,m with
 | [(0,.one (.c (.sl es n ρ))),(1,.one (.c (.int .i64 d))),(2,.one (.c (.int .i64 e))),(6,.one (.c (.int .i64 r))),(7,.one (.c (.int .i64 i))),(8,.one (.c (.int .i64 k)))],[]=>if shEq.shsEq es (jl 1) then some ⟨⟨n,ρ,d,e,r,i⟩,k⟩ else none
 | _,_=>none
theorem D8:∀ l m c,Rk l m=some c->mkS 81 l m=S17 c:=by
 intro l m c h;unfold Rk at h;split at h
 ·split at h
  ·rename_i hs;cases h;rw [jm hs];rfl
  ·cases h
 ·cases h
theorem jc1:∀ l m c,Tp l m=some c->mkS 81 l m=jd1 c:=by
 intro l m c h;unfold Tp at h;split at h
 ·split at h
  ·rename_i hs;cases h;rw [jm hs];rfl
  ·cases h
 ·cases h
def E17 (c:Int × Int):St:=mkS 81 [(1,.one (.c (.int .i64 c.1))),(6,.one (.c (.int .i64 c.2)))] []
def Fh (l:List (Nat × AV)) (m:Mem):Option (Int × Int):=match l,m with
 | [(1,.one (.c (.int .i64 d))),(6,.one (.c (.int .i64 r)))],[]=>some (d,r)
 | _,_=>none
theorem jcT:∀ l m c,Fh l m=some c->mkS 81 l m=E17 c:=by
 intro l m c h;unfold Fh at h;split at h
 ·cases h;rfl
 ·cases h
def AK17:Sx.Frame K17 C17:=⟨0,81,[0,1,2,6,7,8],Tp,jd1,[0,1,2,6,7],Rk,S17⟩
theorem jm0:AK17.Ok:=.of_eq jc1 D8
def AO17:Sx.Frame C17 (Int × Int):=⟨0,81,[0,1,2,6,7],Rk,S17,[1,6],Fh,E17⟩
theorem jme:AO17.Ok:=.of_eq D8 jcT
noncomputable abbrev jey (X:RF) (R:RFB):Hd:=⟨[(40,nG (G40 X))],[(17,nG (G17 R))],[],[]⟩
theorem jmt {X:RF} {R:RFB} (hX:TcOne Tryz.prog 40 (nG (G40 X))) (hR:jo Tryz.prog 17 (nG (G17 R))):HdOk Tryz.prog (jey X R):=(HdOk.nil.ucCons hR).tcCons hX
def wsz (s:RS) (k:Int):Int:=ja (wAt s.wρ k.toNat).size
def goW (s:RS) (k:Int):Bool:=bif lt k (ja s.wn) then lt k 300 else false
def jk5 (g:K17->Tree (XE × C17)) (c:K17):Tree (XE × C17) :=
 let s:=jg c.o.ρ c.o.i.toNat
 .need (jc c.o.i c.o.n) (.br (goW s c.k) (.need (jc c.o.i c.o.n) (.need (jc c.k s.wn) (.br (lt 60 (wsz s c.k)) (.leaf (.ret,{ c.o with r:=-1 })) (g { c with k:=IntKind.wrap .i64 (c.k+1) })))) (.leaf (.exit 2,c.o)))
theorem jjA (X:RF) (R:RFB) (g:K17->Tree (XE × C17)) (c:K17):yV AK17 Tryz.prog (jey X R) 10 17 1 g c=jk5 g c:=by kernel_rfl
def Zc (n:Nat) (i:Int) (s:RS):Nat->Int->Option Bool
 | 0,_=>none
 | f+1,k=>nd (jc i n) (bif goW s k then nd (jc i n) (nd (jc k s.wn) (bif lt 60 (wsz s k) then some false else Zc n i s f (IntKind.wrap .i64 (k+1)))) else some true)
def Nv (f:Nat) (c:K17):Tree (XE × C17) :=
 .need (os1 (Zc c.o.n c.o.i (jg c.o.ρ c.o.i.toNat) f c.k)) (.br (ov1 false (Zc c.o.n c.o.i (jg c.o.ρ c.o.i.toNat) f c.k)) (.leaf (.exit 2,c.o)) (.leaf (.ret,{ c.o with r:=-1 })))
def joq (c:C17):Option Bool->Option (XE × C17)
 | some true=>some (.exit 2,c)
 | some false=>some (.ret,{ c with r:=-1 })
 | none=>none
theorem DD (f:Nat) (c:K17):(Nv f c).sel=joq c.o (Zc c.o.n c.o.i (jg c.o.ρ c.o.i.toNat) f c.k):=by
 unfold Nv;cases Zc c.o.n c.o.i (jg c.o.ρ c.o.i.toNat) f c.k with
 | none=>rfl
 | some b=>cases b<;>rfl
theorem jjJ (X:RF) (R:RFB) (f:Nat) (c:K17) (x:XE × C17) (h:(Nv (f+1) c).sel=some x):(yV AK17 Tryz.prog (jey X R) 10 17 1 (Nv f) c).sel=some x:=by
 rw [jjA];rw [DD] at h;unfold Zc at h;unfold jk5;simp only [qg,jG,j0,DD];revert h;cases jc c.o.i c.o.n with
 | false=>exact fun h=>h
 | true =>
 simp only [nd,cond_true];cases goW (jg c.o.ρ c.o.i.toNat) c.k with
 | false=>exact fun h=>h
 | true =>
 simp only [cond_true];cases jc c.k (jg c.o.ρ c.o.i.toNat).wn with
 | false=>exact fun h=>h
 | true =>
 simp only [cond_true];cases lt 60 (wsz (jg c.o.ρ c.o.i.toNat) c.k)<;>exact fun h=>h
theorem jjl {X:RF} {R:RFB} (hX:TcOne Tryz.prog 40 (nG (G40 X))) (hR:jo Tryz.prog 17 (nG (G17 R))):∀ f,LCore Tryz.prog 17 1 0 jd1 S17 (Nv f):=LCore.fuel (A:=AK17) jm0 (jmt hX hR) 10 (fun _=>rfl) (jjJ X R)
def jnC (c:K17):Tree (XE × C17):=Nv ((jg c.o.ρ c.o.i.toNat).wn+1) c
noncomputable abbrev H17 (X:RF) (R:RFB):Hd:=⟨[(40,nG (G40 X))],[(17,nG (G17 R))],[((17,1),K4 AK17 jnC)],[]⟩
theorem h17 {X:RF} {R:RFB} (hX:TcOne Tryz.prog 40 (nG (G40 X))) (hR:jo Tryz.prog 17 (nG (G17 R))):HdOk Tryz.prog (H17 X R):=HdOk.lhCons (jmt hX hR) fun fn c b h1 h2 h3=>LCore.ok (A:=AK17) jm0 (fun fn c b h1 h2 h3 c0 x hx=>jjl hX hR ((jg c0.o.ρ c0.o.i.toNat).wn+1) fn c b h1 h2 h3 c0 x hx) fn c b h1 h2 h3
def d1 (s:RS) (d:Int):Int:=IntKind.wrap .i64 (IntKind.wrap .i64 (d - 1) - ja s.wn)
def w17 (n:Nat) (i:Int) (s:RS):Option Bool:=Zc n i s (s.wn+1) 0
def jmh (X:RF) (R:RFB) (g:C17->Tree (XE × (Int × Int))) (c:C17):Tree (XE × (Int × Int)) :=
 let s:=jg c.ρ c.i.toNat
 let a:=ov1 0 (X s.cond (d1 s c.d))
 let b:=ov1 0 (R s.bn s.bρ a (IntKind.wrap .i64 (c.e+1)))
 .br (YD c.n c.d c.i) (.need (jc c.i c.n) (.need (jc c.i c.n) (.need (os1 (X s.cond (d1 s c.d))) (.need (os1 (w17 c.n c.i s)) (.br (ov1 false (w17 c.n c.i s))
  (.need (jc c.i c.n) (.need (os1 (R s.bn s.bρ a (IntKind.wrap .i64 (c.e+1)))) (.br (le 0 b) (.need (jc c.i c.n) (.need (os1 (R s.en s.eρ b (IntKind.wrap .i64 (c.e+1)))) (g { c with d:=ov1 0 (R s.en s.eρ b (IntKind.wrap .i64 (c.e+1))),i:=IntKind.wrap .i64 (c.i+1) })))
   (g { c with d:=b,i:=IntKind.wrap .i64 (c.i+1) }))))
  (.leaf (.ret,(a,-1)))))))) (.leaf (.exit 0,(c.d,c.r)))
theorem jiB (X:RF) (R:RFB) (g:C17->Tree (XE × (Int × Int))) (c:C17):yV AO17 Tryz.prog (H17 X R) 10 17 0 g c=jmh X R g c:=by kernel_rfl
def Jj (X:RF) (R:RFB) (n:Nat) (ρ:Val) (e:Int):Nat->Int->Int->Option (Bool × Int)
 | 0,_,_=>none
 | f + 1, d, i => bif YD n d i then nd (jc i n) ((X (jg ρ i.toNat).cond (d1 (jg ρ i.toNat) d)).bind fun a => (w17 n i (jg ρ i.toNat)).bind fun ok => bif ok then
   (R (jg ρ i.toNat).bn (jg ρ i.toNat).bρ a (IntKind.wrap .i64 (e+1))).bind fun b=>bif le 0 b then (R (jg ρ i.toNat).en (jg ρ i.toNat).eρ b (IntKind.wrap .i64 (e+1))).bind fun m=>Jj X R n ρ e f m (IntKind.wrap .i64 (i+1))
    else Jj X R n ρ e f b (IntKind.wrap .i64 (i+1))
   else some (false,a)) else some (true,d)
def Ns (X:RF) (R:RFB) (f:Nat) (c:C17):Tree (XE × (Int × Int)) :=
 let o:=Jj X R c.n c.ρ c.e f c.d c.i
 .need (os1 o) (.br (ov1 (false,0) o).1 (.leaf (.exit 0,((ov1 (false,0) o).2,c.r))) (.leaf (.ret,((ov1 (false,0) o).2,-1))))
def jmW (r:Int):Option (Bool × Int)->Option (XE × (Int × Int))
 | some (true,d)=>some (.exit 0,(d,r))
 | some (false,d)=>some (.ret,(d,-1))
 | none=>none
theorem RB (X:RF) (R:RFB) (f:Nat) (c:C17):(Ns X R f c).sel=jmW c.r (Jj X R c.n c.ρ c.e f c.d c.i):=by
 unfold Ns;cases Jj X R c.n c.ρ c.e f c.d c.i with
 | none=>rfl
 | some y =>
   obtain ⟨b,d⟩:=y;cases b<;>rfl
theorem jjm (X:RF) (R:RFB) (f:Nat) (c:C17) (x:XE × (Int × Int)) (h:(Ns X R (f+1) c).sel=some x):(yV AO17 Tryz.prog (H17 X R) 10 17 0 (Ns X R f) c).sel=some x:=by
 rw [jiB];rw [RB] at h;unfold Jj at h;unfold jmh;simp only [qg,jG,j0,RB];revert h;cases YD c.n c.d c.i with
 | false=>exact fun h=>h
 | true =>
 cases jc c.i c.n with
 | false=>exact fun h=>h
 | true =>
 simp only [nd,cond_true];cases X (jg c.ρ c.i.toNat).cond (d1 (jg c.ρ c.i.toNat) c.d) with
 | none=>exact fun h=>h
 | some a =>
 simp only [os1,ov1,cond_true,Option.bind];cases w17 c.n c.i (jg c.ρ c.i.toNat) with
 | none=>exact fun h=>h
 | some ok =>
 simp only [cond_true];cases ok with
 | false=>exact fun h=>h
 | true =>
 simp only [cond_true];cases R (jg c.ρ c.i.toNat).bn (jg c.ρ c.i.toNat).bρ a (IntKind.wrap .i64 (c.e+1)) with
 | none=>exact fun h=>h
 | some b =>
 simp only [cond_true];cases le 0 b with
 | false=>exact fun h=>h
 | true =>
 simp only [cond_true];cases R (jg c.ρ c.i.toNat).en (jg c.ρ c.i.toNat).eρ b (IntKind.wrap .i64 (c.e+1)) with
 | none=>exact fun h=>h
 | some m=>exact fun h=>h
theorem jjM {X:RF} {R:RFB} (hX:TcOne Tryz.prog 40 (nG (G40 X))) (hR:jo Tryz.prog 17 (nG (G17 R))):∀ f,LCore Tryz.prog 17 0 0 S17 E17 (Ns X R f):=LCore.fuel (A:=AO17) jme (h17 hX hR) 10 (fun _=>rfl) (jjm X R)
def jnG (X:RF) (R:RFB) (c:C17):Tree (XE × (Int × Int)):=Ns X R (c.n+1) c
noncomputable abbrev jbK (X:RF) (R:RFB):Hd:=⟨[],[],[((17,0),K4 AO17 (jnG X R))],[]⟩
theorem joF {X:RF} {R:RFB} (hX:TcOne Tryz.prog 40 (nG (G40 X))) (hR:jo Tryz.prog 17 (nG (G17 R))):HdOk Tryz.prog (jbK X R):=HdOk.lhCons HdOk.nil fun fn c b h1 h2 h3=>LCore.ok (A:=AO17) jme (fun fn c b h1 h2 h3 c0 x hx=>jjM hX hR (c0.n+1) fn c b h1 h2 h3 c0 x hx) fn c b h1 h2 h3
def fbV:Option (Bool × Int)->Option Int
 | some (true,d)=>some d
 | some (false,_)=>some (-1)
 | none=>none
def fbG (X:RF) (R:RFB):RFB:=fun n ρ d e=>bif lt 30 e then some (-1) else fbV (Jj X R n ρ e (n+1) d 0)
def t17 (X:RF) (R:RFB) (n:Nat) (ρ:Val) (d e:Int):Tree AV :=
 let o:=Jj X R n ρ e (n+1) d 0
 .br (lt 30 e) (.leaf (encI (-1))) (.need (os1 o) (.br (ov1 (false,0) o).1 (.leaf (encI (ov1 (false,0) o).2)) (.leaf (encI (-1)))))
theorem jk4 (X:RF) (R:RFB) (n:Nat) (ρ:Val) (d e:Int):qf Tryz.prog (jbK X R) 10 17 [.c (.sl (jl 1) n ρ),.c (.int .i64 d),.c (.int .i64 e)]=t17 X R n ρ d e:=by kernel_rfl
theorem jjq {X:RF} {R:RFB} {n:Nat} {ρ:Val} {d e:Int} (h:os1 (fbG X R n ρ d e)=true):(t17 X R n ρ d e).All (fun z=>leA z (encI (ov1 0 (fbG X R n ρ d e)))):=by
 unfold t17;unfold fbG at h ⊢;revert h;cases lt 30 e with
 | true=>exact fun _=>jn rfl leA.refl
 | false =>
   simp only [cond_false];intro h;cases ho:Jj X R n ρ e (n+1) d 0 with
  | none=>rw [ho] at h;cases h
  | some y =>
    obtain ⟨b,m⟩:=y;cases b<;>exact jn rfl leA.refl
theorem jgq {R:RFB} {args:List A1} {r:AV} (h:G17 R args=some (true,r)):∃ n ρ d e,args=[.c (.sl (jl 1) n ρ),.c (.int .i64 d),.c (.int .i64 e)]∧os1 (R n ρ d e)=true∧r=encI (ov1 0 (R n ρ d e)):=by
 unfold G17 at h;split at h
 ·rename_i es n ρ d e;split at h
  ·rename_i hs;simp only [sIq,pIq] at h;exact ⟨n,ρ,d,e,by rw [jm hs],h.1,h.2.symm⟩
  ·cases h
 ·cases h
theorem u17 {X:RF} {R:RFB} {args:List A1} {r:AV} (h:G17 (fbG X R) args=some (true,r)):(qf Tryz.prog (jbK X R) 10 17 args).All (fun x=>leA x r):=by
 obtain ⟨n,ρ,d,e,e1,h1,e2⟩:=jgq h;rw [e1,e2,jk4];exact jjq h1
theorem jog {X:RF} {R:RFB} (hX:TcOne Tryz.prog 40 (nG (G40 X))) (hR:jo Tryz.prog 17 (nG (G17 R))):jo Tryz.prog 17 (nG (G17 (fbG X R))):=by
 refine zF (H:=jbK X R) (joF hX hR) 10 17 ?_;intro args r h;exact u17 h
def fbF (f:Nat):Nat->RFB
 | 0=>fun _ _ _ _=>none
 | d+1=>fbG (V9 f) (fbF f d)
theorem p17 (f:Nat):∀ d,jo Tryz.prog 17 (nG (G17 (fbF f d)))
 | 0 => by
   intro args r h;have h:=zG h;unfold G17 at h;split at h
   ·split at h
    ·simp only [sIq,pIq] at h;cases h.1
    ·cases h
   ·cases h
 | d+1=>jog (p40 f) (p17 f d)
def Xf (nm:ByteArray):Bool:=le (ja nm.size) 60
def G5 (R:RFB):List A1->Option (Bool × AV)
 | [.agg [.str nm,.sl es n ρ]]=>if shEq.shsEq es (jl 1) then some (!((Xf nm==true)&&true)||os1 (R n ρ 300 0),jI (bif Xf nm then le 0 (ov1 0 (R n ρ 300 0)) else false)) else none
 | _=>none
noncomputable abbrev H5 (R:RFB):Hd:=⟨[],[(17,nG (G17 R))],[],[]⟩
theorem h5 {R:RFB} (hR:jo Tryz.prog 17 (nG (G17 R))):HdOk Tryz.prog (H5 R):=HdOk.nil.ucCons hR
theorem jn3 (R:RFB) (nm:ByteArray) (n:Nat) (ρ:Val):qf Tryz.prog (H5 R) 10 5 [.agg [.str nm,.sl (jl 1) n ρ]]=.need (!((Xf nm==true)&&true)||os1 (R n ρ 300 0)) (.leaf (jI (bif Xf nm then le 0 (ov1 0 (R n ρ 300 0)) else false))):=by kernel_rfl
theorem jhB {R:RFB} {args:List A1} {r:AV} (h:G5 R args=some (true,r)):∃ nm n ρ,args=[.agg [.str nm,.sl (jl 1) n ρ]]∧(!((Xf nm==true)&&true)||os1 (R n ρ 300 0))=true∧r=jI (bif Xf nm then le 0 (ov1 0 (R n ρ 300 0)) else false):=by
 unfold G5 at h;split at h
 ·rename_i nm es n ρ;split at h
  ·rename_i hs;simp only [sIq,pIq] at h;exact ⟨nm,n,ρ,by rw [jm hs],h.1,h.2.symm⟩
  ·cases h
 ·cases h
theorem u5 {R:RFB} {args:List A1} {r:AV} (h:G5 R args=some (true,r)):(qf Tryz.prog (H5 R) 10 5 args).All (fun x=>leA x r):=by
 obtain ⟨nm,n,ρ,e1,h1,e2⟩:=jhB h;rw [e1,e2,jn3,h1];exact ⟨rfl,leA.refl⟩
theorem p5 {R:RFB} (hR:jo Tryz.prog 17 (nG (G17 R))):jo Tryz.prog 5 (nG (G5 R)):=by
 refine zF (H:=H5 R) (h5 hR) 10 5 ?_;intro args r h;exact u5 h
end Go.Proofs.YtiefjlcakpdfeaaGreatDoor
namespace Go.Sx
open Go Go.RowKit
def Tree.follow {α:Type}:List Bool->Tree α->Option (List (Bool × Bool) × α)
 | [],.leaf a=>some ([],a)
 | p,.need c t=>match t.follow p with
  | some y=>some ((c,true)::y.1,y.2)
  | none=>none
 | d::p,.br c t e=>match (bif d then t.follow p else e.follow p) with
  | some y=>some ((c,d)::y.1,y.2)
  | none=>none
 | _,_=>none
theorem Jg {α:Type}:∀ {t:Tree α} {p:List Bool} {cs:List (Bool × Bool)} {a:α},t.follow p=some (cs,a)->(∀ x ∈ cs,x.1=x.2)->t.sel=some a
 | .leaf b, p, cs, a, h, _ => by
   cases p with
  | nil =>
    simp only [Tree.follow,sIq,pIq] at h;simp only [Tree.sel,h.2]
  | cons d p=>simp [Tree.follow] at h
 | .need c t, p, cs, a, h, hc => by
   have h':(match t.follow p with | some y=>some ((c,true)::y.1,y.2) | none=>none)=some (cs,a):=by
    cases p<;>exact h
   split at h'
   ·rename_i y hy;simp only [sIq,pIq] at h';obtain ⟨rfl,rfl⟩:=h';have h1:c=true:=hc (c,true) (by simp)
    subst h1;simp only [Tree.sel,cond_true];exact Jg (cs:=y.1) hy (fun x hx=>hc x (by simp [hx]))
   ·cases h'
 | .br c t e, p, cs, a, h, hc => by
   cases p with
  | nil=>simp [Tree.follow] at h
  | cons d p =>
    simp only [Tree.follow] at h;split at h
    ·rename_i y hy;simp only [sIq,pIq] at h;obtain ⟨rfl,rfl⟩:=h;have h1:c=d:=hc (c,d) (by simp)
     subst h1;simp only [Tree.sel];cases c
     ·exact Jg (cs:=y.1) hy (fun x hx=>hc x (by simp [hx]))
     ·exact Jg (cs:=y.1) hy (fun x hx=>hc x (by simp [hx]))
    ·cases h
 | .fail,p,cs,a,h,_=>by cases p<;>simp [Tree.follow] at h
def okB (cs:List (Bool × Bool)):Bool:=cs.all fun x=>x.1==x.2
theorem HH {cs:List (Bool × Bool)} (h:okB cs=true):∀ x ∈ cs,x.1=x.2:=fun x hx=>by
 have:=List.all_eq_true.1 h x hx
 simpa using this
end Go.Sx
namespace Go.Proofs.YtiefjlcakpdfeaaGreatDoor
open Go Go.Sx Go.RowKit Rb
set_option maxRecDepth 100000
def Vh (a b:Bool):Bool:=bif a then b else false
abbrev PaF:=ByteArray->Option Kj
def G8p (Q:PaF):List A1->Option (Bool × AV)
 | [.c (.str s)]=>some (oB (Q s),TV (oV (Q s)))
 | _=>none
noncomputable abbrev H3t (R:RFB) (p:PrF) (Q:PaF) (S:RBB):Hd:=⟨[],[(5,nG (G5 R)),(6,nG G7),(8,nG (G8p Q)),(9,nG (G10 S))],[],[(7,jbY (u7p p))]⟩
noncomputable abbrev v3 (R:RFB) (p:PrF) (Q:PaF) (S:RBB) (nm:ByteArray) (n:Nat) (ρ:Val):Tree AV:=HY Tryz.prog (H3t R p Q S) X3 10 3 [.agg [.str nm,.sl (jl 1) n ρ]]
def B6 (R:RFB) (nm:ByteArray) (n:Nat) (ρ:Val):Bool:=bif Xf nm then le 0 (ov1 0 (R n ρ 300 0)) else false
def Wp (R:RFB) (nm:ByteArray) (n:Nat) (ρ:Val):Bool:=!((Xf nm==true)&&true)||os1 (R n ρ 300 0)
theorem jde (R : RFB) (p : PrF) (Q : PaF) (S : RBB) (nm : ByteArray) (n : Nat) (ρ : Val) :
  (v3 R p Q S nm n ρ).follow [true]=some ([(Wp R nm n ρ,true),(!B6 R nm n ρ,true),(true,true)],jI true):=by kernel_rfl
theorem jmH (R : RFB) (p : PrF) (Q : PaF) (S : RBB) (nm : ByteArray) (n : Nat) (ρ : Val) :
  (v3 R p Q S nm n ρ).follow [false,true]=let y:=ov1 pr0 (p nm n ρ);some ([(Wp R nm n ρ,true),(!B6 R nm n ρ,false),(os1 (p nm n ρ),true),(y.2 != 0,true),(!((jb y.1 (bs [])==true)&&true)||true,true)],jI (Vh (jb y.1 (bs [])) true)):=by kernel_rfl
def jbO (S:RBB) (x:Kj) (nm:ByteArray) (n:Nat) (ρ:Val):Bool:=Vh (jb x.1 nm) (ov1 false (S x.2.1.length (jN x.2.1) n ρ))
def jhl (S:RBB) (x:Kj) (nm:ByteArray) (n:Nat) (ρ:Val):Bool:=!((jb x.1 nm==true)&&true)||os1 (S x.2.1.length (jN x.2.1) n ρ)
theorem jkc (R : RFB) (p : PrF) (Q : PaF) (S : RBB) (nm : ByteArray) (n : Nat) (ρ : Val) :
  (v3 R p Q S nm n ρ).follow [false,false]=let y:=ov1 pr0 (p nm n ρ);let x:=oV (Q y.1);let z:=ov1 pr0 (p x.1 x.2.1.length (jN x.2.1));let e:=Vh (x.2.2.2==0) (z.2==0)
   some ([(Wp R nm n ρ,true),(!B6 R nm n ρ,false),(os1 (p nm n ρ),true),(y.2 != 0,false),(oB (Q y.1),true),(os1 (p x.1 x.2.1.length (jN x.2.1)),true),(!((e==true)&&true)||jhl S x nm n ρ,true),
    (!((Vh (Vh e (jbO S x nm n ρ)) (jb z.1 y.1)==true)&&true)||true,true)],jI (Vh (Vh (Vh e (jbO S x nm n ρ)) (jb z.1 y.1)) true)):=by kernel_rfl
end Go.Proofs.YtiefjlcakpdfeaaGreatDoor