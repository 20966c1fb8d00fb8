/-
 Part TpX of the proof: RbQ RcD RbU RbV RbW RbY RbZ RbZa.
-/
import Derived.Test.YtiefjlcakpdfeaaGreatDoorTpW
import Derived.Test.YtiefjlcakpdfeaaGreatDoorTpV
namespace Go.Proofs.YtiefjlcakpdfeaaGreatDoor
open Go Go.Sx Go.RowKit Rb
set_option maxRecDepth 100000
theorem zB {es:List Sh} {ρ:Val}:leC .nils (.sl es 0 ρ):=fun _ _ _ h=>by cases h;exact .slnil
theorem Ic:∀ (l:List ByteArray) (l0:List ByteArray) (ρ:Val),RowIs ρ l0->RowIs (U2 l0.length ρ l) (l0++l)
 | [],l0,ρ,h=>by rw [List.append_nil];exact h
 | w :: l, l0, ρ, h => by
   have:=Ic l (l0++[w]) (Val.cat l0.length ρ (yA w)) (h.snoc w)
   rw [List.length_append,List.append_assoc] at this;exact this
theorem RowIs.leC {σ:Val} {l:List ByteArray} (h:RowIs σ l):leC (.sl [.str] l.length σ) (.sl [.str] l.length (zj l)):=Nm fun i f s hi hs=>by
 obtain ⟨w,hw⟩:=qV l i hi;cases f with
 | zero =>
   simp only [nth,sIq] at hs;subst hs;have h2:=h i w hw;have h3:=JW l i w hw;rw [h3];show CV.str _=CV.str _;rw [h2];rfl
 | succ f=>simp [nth] at hs
theorem Iu (w:ByteArray) (l:List ByteArray):leC (.sl [.str] (1+l.length) (U2 1 (yA w) l)) (.sl [.str] (w::l).length (zj (w::l))):=by
 have h1:RowIs (yA w) [w]:=by
  intro i x hx
  match i,hx with
  | 0,hx=>exact Option.some.inj hx
  | i+1,hx=>simp [nth] at hx
 have:=(Ic l [w] (yA w) h1).leC
 have e:([w]++l).length=1+l.length:=by simp;omega
 rw [e] at this;have e2:(w::l).length=1+l.length:=by simp;omega
 rw [e2];exact this
theorem le8 {a1 a2 a3 a4 a5 a6 a7 a8 b1 b2 b3 b4 b5 b6 b7 b8 : CV} (h1 : leC a1 b1) (h2 : leC a2 b2) (h3 : leC a3 b3) (h4 : leC a4 b4) (h5 : leC a5 b5) (h6 : leC a6 b6) (h7 : leC a7 b7) (h8 : leC a8 b8) :
  LeL [a1,a2,a3,a4,a5,a6,a7,a8] [b1,b2,b3,b4,b5,b6,b7,b8]:=.cons h1 (.cons h2 (.cons h3 (.cons h4 (.cons h5 (.cons h6 (.cons h7 (.cons h8 .nil)))))))
theorem JM {cs:List CV} {s:ByteArray} {p:PS} {x:RS} (h:LeL cs x.cells):Tells (lfS cs s p) encR s (.ret x p):=⟨_,rfl,.ret (Y6 (.agg h)) LeL.refl rfl⟩
abbrev jna (E:ByteArray->PS->PR PS RX) (B:ByteArray->PS->PR PS (List RS)) (k:Nat) (s:ByteArray) (p:PS):PR PS RS:=qO (MP s) AR (E s) (B s) k p
theorem jpa {E : ByteArray -> PS -> PR PS RX} {B : ByteArray -> PS -> PR PS (List RS)} (hE : jw Tryz.prog 83 (localG 70 (UO E))) (hB : jw Tryz.prog 31 (localG 70 (UBk B))) (k : Nat) (hk : k + 1 <= y3) :
  jw Tryz.prog 55 (localG 70 (uOf dS encR (spU (jna E B k)))):=V5 h88 (jo2 hE hB k) 10 55 fun s n t a=>by
 rw [jkT];unfold t88 jna qO;refine Tells.cond ?_ (Tells.cond ?_ (Tells.cond ?_ (Tells.cond ?_ (Tells.cond ?_ Tells.pan))))
 ·refine Tells.bind fun _ p1=>Tells.bind fun w p2=>Tells.bind fun c p3=>Tells.cond (Tells.bind fun l p4=>Tells.bind fun _ p5=>JM ?_) (Tells.bind fun _ p4=>JM ?_)
  ·exact le8 leC.refl leC.refl leC.refl leC.refl zB leC.refl zB leC.refl
  ·exact le8 leC.refl leC.refl leC.refl leC.refl zB zB zB leC.refl
 ·refine Tells.bind fun _ p1=>Tells.bind fun e p2=>Tells.bind fun l p3=>Tells.bind fun c p4=>Tells.cond (Tells.bind fun r p5=>JM ?_) (JM ?_)
  ·exact le8 leC.refl zB leC.refl leC.refl leC.refl leC.refl leC.refl leC.refl
  ·exact le8 leC.refl zB leC.refl leC.refl leC.refl leC.refl zB leC.refl
 ·refine Tells.bind fun _ p1=>Tells.bind fun n p2=>Tells.bind fun l p3=>JM ?_;exact le8 leC.refl zB leC.refl leC.refl zB leC.refl zB leC.refl
 ·refine Tells.bind fun _ p1=>Tells.bind fun e p2=>Tells.bind fun _ p3=>JM ?_;exact le8 leC.refl zB leC.refl leC.refl leC.refl zB zB leC.refl
 ·refine Tells.bind fun _ p1 => ?_;have hpl:kT (MP s) p1=match jF p1.tx with | none=>(PR.stuck:PR PS ByteArray) | some c=>qD (MP s) c p1:=rfl
  show Tells _ _ _ ((kT (MP s) p1).bind _);rw [hpl];cases jF p1.tx with
  | none=>exact trivial
  | some ok =>
    refine Tells.nd rfl (Tells.bind fun w p2=>Tells.nd (Nat.ble_eq.mpr (by omega)) (Tells.bind fun l p3=>JM ?_))
    exact le8 leC.refl (Iu w l) leC.refl leC.refl zB zB zB leC.refl
abbrev stK (K d:Nat) (s:ByteArray) (p:PS):PR PS RS:=(sts (MP s) AR K d).1 p
abbrev blK (K d:Nat) (s:ByteArray) (p:PS):PR PS (List RS):=(sts (MP s) AR K d).2 p
theorem jk7 (k:Nat) (hk:k+2<=y3):∀ d,jw Tryz.prog 55 (localG 70 (uOf dS encR (spU (stK (k+1) d))))∧jw Tryz.prog 31 (localG 70 (UBk (blK (k+1) d)))
 | 0=>⟨W6 55,W6 31⟩
 | d + 1 => by
   obtain ⟨_,h2⟩:=jk7 k hk d;have hE:=(jk3 k (k+1)).2;have hs:jw Tryz.prog 55 (localG 70 (uOf dS encR (spU (stK (k+1) (d+1))))):=jpa hE h2 (k+1) (by omega)
   exact ⟨hs,joU hs (k+1) (by omega)⟩
def Xb (ρ:Val):Nat->List ByteArray
 | 0=>[]
 | n+1=>Xb ρ n++[wd ρ n]
theorem ki (ρ:Val):∀ n,(Xb ρ n).length=n
 | 0=>rfl
 | n+1=>by simp [Xb,ki ρ n]
theorem Gp (ρ:Val):∀ (n i:Nat),i<n->(Xb ρ n)[i]? = some (wd ρ i)
 | 0,_,h=>by omega
 | n + 1, i, h => by
   unfold Xb;rcases Nat.lt_or_ge i n with h1 | h1
   ·rw [List.getElem?_append_left (by rw [ki];exact h1)]
    exact Gp ρ n i h1
   ·obtain rfl:i=n:=by omega
    rw [List.getElem?_append_right (by rw [ki];omega),ki]
    simp
def joinL (n:Nat) (ρ:Val) (sep:ByteArray):List UInt8:=Lib.join ((Xb ρ n).map (·.data.toList)) sep.data.toList
def Jh (n:Nat) (ρ:Val) (sep:ByteArray):ByteArray:=⟨(joinL n ρ sep).toArray⟩
def J1 (n:Nat) (ρ:Val) (sep:ByteArray):Bool:=Nat.ble n 140737488355328&&Nat.ble (joinL n ρ sep).length 140737488355328
def G18:List A1->Option (Bool × AV)
 | [.c (.sl [.str] n ρ),.c (.str sep)]=>some (J1 n ρ sep,.one (.c (.str (Jh n ρ sep))))
 | _=>none
theorem p18:jo Tryz.prog 25 (nG G18):=by
 intro args r hG hcl F w vs hargs;have h:=zG hG;unfold G18 at h;split at h
 ·rename_i n ρ sep;simp only [sIq,pIq] at h;obtain ⟨h1,rfl⟩:=h;unfold J1 at h1;rw [aTq] at h1;have hn:=Nat.le_of_ble_eq_true h1.1;have hl:=Nat.le_of_ble_eq_true h1.2
  have zero:∀ a c,n=0->Calls Tryz.prog 25 #[.slice a 0 c,.string sep] w fun e w2=>∃ v,e=.returned v∧Below w.heap.size w w2∧AV.Rel (fun p=>F p∧p<w.heap.size) w2 [] (.one (.c (.str (Jh n ρ sep)))) v:=by
   intro a c h0;subst h0;refine (Tryz.strings_Join_none a c sep w).mono fun e w2 ⟨he,hw⟩ => ?_;subst hw;exact ⟨_,he,Below.refl _ _,CV.Rel.str _⟩
  cases hargs with
  | cons a1 a2=>cases a2 with
   | cons a2 a3 =>
     cases a3;cases a2;cases a1 with
    | slnil=>exact zero _ _ rfl
    | sl val hc h0 hcell hr =>
      rename_i cap a;rcases Nat.eq_zero_or_pos n with hz | hp
      ·subst hz;exact zero _ _ rfl
      ·obtain ⟨e1,e2,_⟩:=h0 hp;have ha:a=⟨a.block,a.off,none⟩:=by rw [← e1]
       rw [ha]
       have key:=Tryz.strings_Join a.block a.off cap (Xb ρ n) sep w (fun j x hj=>by
        have hjn:j<n:=by
         have:=(List.getElem?_eq_some_iff.1 hj).1
         rwa [ki] at this
        rw [Gp ρ n j hjn] at hj;obtain rfl:=Option.some.inj hj
        have:=hcell j 0 hjn (by simp)
        have e:a.off+(j*[Sh.str].length+0)=a.off+j:=by simp
        rw [e] at this;rw [this];have h3:=hr j 0 .str hjn rfl;generalize val j 0=z at h3;cases h3;rfl) e2 (by rw [ki];exact hn) (by rw [ki];exact hc) hl
       rw [ki] at key;refine key.mono fun e w2 ⟨he,hw⟩ => ?_;exact ⟨_,he,hw,CV.Rel.str _⟩
 ·cases h
def j7 (w:ByteArray):Nat :=
 bif jb w j8 then 1 else bif (jb w qS||(jb w qe||(jb w zI||(jb w qU||jb w qq)))) then 2
  else bif (jb w jW||jb w zg) then 3 else bif jb w jO then 4
   else bif (jb w wOr||(jb w z8||(jb w wEq||(jb w wLt||(jb w wGt||(jb w zZ||jb w qJ)))))) then 5 else 0
def KO:Nat->Int
 | 4=>1
 | 5=>2
 | _=>0
def Bd:Nat->Int
 | 1=>1073741824
 | 2=>9
 | _=>0
def jgY (c:Nat):AV:=.tup [.c (.int .i64 (KO c)),.c (.int .i64 (Bd c)),.c (.bool (!(Nat.beq c 0)))]
def jbn:List A1->Option AV
 | [.c (.str w)]=>some (jgY (j7 w))
 | _=>none
def jfS (w:ByteArray):Tree AV :=
 let L:=fun (a b:Int) (c:Bool)=>Tree.leaf (AV.tup [.c (.int .i64 a),.c (.int .i64 b),.c (.bool c)])
 let Z:=L 0 0 false
 let A5:=L 2 0 true
 let R5:=.br (jb w wOr) (.br (jb w wOr) A5 Z) (.br (jb w z8) (.br (jb w z8) A5 Z) (.br (jb w wEq) (.br (jb w wEq) A5 Z) (.br (jb w wLt) (.br (jb w wLt) A5 Z)
  (.br (jb w wGt) (.br (jb w wGt) A5 Z) (.br (jb w zZ) (.br (jb w zZ) A5 Z) (.br (jb w qJ) A5 Z))))))
 let R4:=.br (jb w jO) (L 1 0 true) R5
 let R3:=.br (jb w jW) (.br (jb w jW) (L 0 0 true) R4) (.br (jb w zg) (L 0 0 true) R4)
 let B:=L 0 9 true
 let R2:=.br (jb w qS) (.br (jb w qS) B R3) (.br (jb w qe) (.br (jb w qe) B R3) (.br (jb w zI) (.br (jb w zI) B R3) (.br (jb w qU) (.br (jb w qU) B R3) (.br (jb w qq) B R3))))
 .br (jb w j8) (L 0 1073741824 true) R2
theorem jir (w:ByteArray):(jZ Tryz.prog h00 10 93 [.c (.str w)] []).vals=jfS w:=by kernel_rfl
theorem jgn (w:ByteArray):(jfS w).All (fun z=>z=jgY (j7 w)):=by
 unfold jfS j7;cases jb w j8 with
 | true=>exact jn rfl rfl
 | false =>
 cases jb w qS with
 | true=>exact jn rfl rfl
 | false =>
 cases jb w qe with
 | true=>exact jn rfl rfl
 | false =>
 cases jb w zI with
 | true=>exact jn rfl rfl
 | false =>
 cases jb w qU with
 | true=>exact jn rfl rfl
 | false =>
 cases jb w qq with
 | true=>exact jn rfl rfl
 | false =>
 cases jb w jW with
 | true=>exact jn rfl rfl
 | false =>
 cases jb w zg with
 | true=>exact jn rfl rfl
 | false =>
 cases jb w jO with
 | true=>exact jn rfl rfl
 | false =>
 cases jb w wOr with
 | true=>exact jn rfl rfl
 | false =>
 cases jb w z8 with
 | true=>exact jn rfl rfl
 | false =>
 cases jb w wEq with
 | true=>exact jn rfl rfl
 | false =>
 cases jb w wLt with
 | true=>exact jn rfl rfl
 | false =>
 cases jb w wGt with
 | true=>exact jn rfl rfl
 | false =>
 cases jb w zZ with
 | true=>exact jn rfl rfl
 | false =>
 cases jb w qJ with
 | true=>exact jn rfl rfl
 | false=>exact jn rfl rfl
theorem jlW:PcOne Tryz.prog 93 jbn:=Ji (H:=h00) HdOk.nil 10 93 fun args r h=>by
 unfold jbn at h;split at h
 ·rename_i w;have hr:=Option.some.inj h;refine ⟨by rw [← hr];rfl,_,jir w,?_⟩
  rw [← hr];exact jgn w
 ·cases h
def jR (ρ:Val) (i:Nat):RX:=⟨((ρ.at i).at 0).S [],((ρ.at i).at 1).N [],((ρ.at i).at 2).L [],(ρ.at i).at 2⟩
abbrev RE:=RX->Int->Option Int
def YC (R:RE):List A1->Option (Bool × AV)
 | [.agg [.str o,.int .i64 v,.sl es n ρ],.c (.int .i64 d)]=>if shEq.shsEq es (jl 0) then some (opD (R ⟨o,v,n,ρ⟩ d),.one (.c (.int .i64 (opN (R ⟨o,v,n,ρ⟩ d))))) else none
 | _=>none
abbrev Xi:=Int × Int × (Nat × Val) × Int × Int
def jeW (c:Xi):St:=mkS 57 [(1,.one (.c (.int .i64 c.1))),(4,.one (.c (.int .i64 c.2.1))),(43,.one (.c (.sl (jl 0) c.2.2.1.1 c.2.2.1.2))),(44,.one (.c (.int .i64 c.2.2.2.1))),(45,.one (.c (.int .i64 c.2.2.2.2)))] []
def Dn:List (Nat × AV)->Mem->Option Xi
 | [(1,.one (.c (.int .i64 d))),(4,.one (.c (.int .i64 r))),(43,.one (.c (.sl es n ρ))),(44,.one (.c (.int .i64 l))),(45,.one (.c (.int .i64 i)))],[]=>if shEq.shsEq es (jl 0) then some (d,r,(n,ρ),l,i) else none
 | _,_=>none
theorem jc2:∀ l m c,Dn l m=some c->mkS 57 l m=jeW c:=by
 intro l m c h;unfold Dn at h;split at h
 ·split at h
  ·rename_i hs;cases h;rw [jm hs];rfl
  ·cases h
 ·cases h
def jfe (v:Int):St:=mkS 57 [(4,.one (.c (.int .i64 v)))] []
def Lx:List (Nat × AV)->Mem->Option Int
 | [(4,.one (.c (.int .i64 v)))],[]=>some v
 | _,_=>none
theorem jau:∀ l m c,Lx l m=some c->mkS 57 l m=jfe c:=by
 intro l m c h;unfold Lx at h;split at h
 ·cases h;rfl
 ·cases h
def A135:Sx.Frame Xi Int:=⟨0,57,[1,4,43,44,45],Dn,jeW,[4],Lx,jfe⟩
theorem jml:A135.Ok:=.of_eq jc2 jau
noncomputable abbrev LY (R:RE):Hd:=⟨[(93,oG jbn)],[(75,nG (YC R))],[],[]⟩
theorem jlA {R:RE} (hR:jo Tryz.prog 75 (nG (YC R))):HdOk Tryz.prog (LY R):=(HdOk.nil.ucCons hR).pcCons jlW
def jm9 (R:RE) (g:Xi->Tree (XP × Int)) (c:Xi):Tree (XP × Int) :=
 let x:=R (jR c.2.2.1.2 c.2.2.2.2.toNat) (IntKind.wrap .i64 (c.1+1))
 .br (lt c.2.2.2.2 c.2.2.2.1) (.need (jc c.2.2.2.2 c.2.2.1.1) (.need (opD x) (.br (opN x != 0) (.leaf (.ret,opN x)) (g (c.1,c.2.1,c.2.2.1,c.2.2.2.1,IntKind.wrap .i64 (c.2.2.2.2+1)))))) (.leaf (.exit 1,c.2.1))
theorem jjS (R:RE) (g:Xi->Tree (XP × Int)) (d r:Int) (n:Nat) (ρ:Val) (l i:Int):jQ A135 Tryz.prog (LY R) X0 10 75 0 g (d,r,(n,ρ),l,i)=jm9 R g (d,r,(n,ρ),l,i):=by kernel_rfl
def YG (R:RE) (n:Nat) (ρ:Val) (l d:Int):Nat->Int->Option Int
 | 0,_=>none
 | k + 1, i => bif lt i l then (bif jc i n then (match R (jR ρ i.toNat) (IntKind.wrap .i64 (d + 1)) with
   | some x=>bif x != 0 then some x else YG R n ρ l d k (IntKind.wrap .i64 (i+1))
   | none=>none) else none) else some 0
def NF (R:RE) (k:Nat) (c:Xi):Tree (XP × Int) :=
 let x:=YG R c.2.2.1.1 c.2.2.1.2 c.2.2.2.1 c.1 k c.2.2.2.2
 .need (opD x) (.br (opN x != 0) (.leaf (.ret,opN x)) (.leaf (.exit 1,c.2.1)))
theorem FA (R : RE) (k : Nat) (c : Xi) : (NF R k c).sel = match YG R c.2.2.1.1 c.2.2.1.2 c.2.2.2.1 c.1 k c.2.2.2.2 with
  | some x=>some (bif x != 0 then (.ret,x) else (.exit 1,c.2.1))
  | none=>none:=by
 unfold NF;cases YG R c.2.2.1.1 c.2.2.1.2 c.2.2.2.1 c.1 k c.2.2.2.2 with
 | none=>rfl
 | some x =>
   show (bif true then (bif x != 0 then some _ else some _) else none)=_;simp only;cases (x != 0)<;>rfl
theorem jhI (R:RE) (k:Nat) (c:Xi) (x:XP × Int) (h:(NF R (k+1) c).sel=some x):(jQ A135 Tryz.prog (LY R) X0 10 75 0 (NF R k) c).sel=some x:=by
 obtain ⟨d,r,⟨n,ρ⟩,l,i⟩:=c;rw [jjS];rw [FA] at h;unfold YG at h;unfold jm9;simp only [qg,jG,j0,FA];revert h;cases lt i l with
 | false=>exact fun h=>h
 | true =>
   cases jc i n with
  | false=>exact fun h=>h
  | true =>
    cases R (jR ρ i.toNat) (IntKind.wrap .i64 (d+1)) with
   | none=>exact fun h=>h
   | some y =>
     simp only [cond_true,opD,opN];cases hy:(y != 0) with
    | true=>simp only [cond_true,hy];exact fun h=>h
    | false=>simp only [cond_false];exact fun h=>h
theorem jjt {R:RE} (hR:jo Tryz.prog 75 (nG (YC R))):∀ k,CoreOk Tryz.prog 75 0 0 jeW jfe (NF R k) :=
 CoreOk.fuel (A:=A135) jml (jlA hR) x0 10 (fun _=>rfl) (jhI R)
def jhe (R:RE) (c:Xi):Tree (XP × Int):=NF R (c.2.2.1.1+1) c
def jbp (R:RE):HdP:=⟨[],[],[],[((75,0),qZ A135 (jhe R))],[],0,[]⟩
theorem jpk {R:RE} (hR:jo Tryz.prog 75 (nG (YC R))):XOk Tryz.prog (jbp R):=XOk.nil.lxCons (CoreOk.lx (g:=jhe R) jml fun fn c b h1 h2 h3 c0 x hx=>jjt hR _ fn c b h1 h2 h3 c0 x hx)
def B3 (e:RX):Bool :=
 let c:=j7 e.op
 bif bif bif !(!(Nat.beq c 0)) then true else ja e.n != KO c then true else lt e.v 0 then true else lt (Bd c) e.v
def Xx (R:RE) (e:RX) (d:Int):Option Int:=bif B3 e then some 3 else bif lt 32 d then some 28 else YG R e.n e.ρ (ja e.n) d (e.n+1) 0
def jgm (R:RE) (e:RX) (d:Int):Tree AV :=
 let x:=YG R e.n e.ρ (ja e.n) d (e.n+1) 0
 .br (B3 e) (.leaf (.one (.c (.int .i64 3)))) (.br (lt 32 d) (.leaf (.one (.c (.int .i64 28)))) (.need (opD x) (.br (opN x != 0) (.leaf (.one (.c (.int .i64 (opN x))))) (.leaf (.one (.c (.int .i64 0)))))))
theorem jiR (R:RE) (o:ByteArray) (v:Int) (n:Nat) (ρ:Val) (d:Int):qj Tryz.prog (LY R) (jbp R) 10 75 [.agg [.str o,.int .i64 v,.sl (jl 0) n ρ],.c (.int .i64 d)]=jgm R ⟨o,v,n,ρ⟩ d:=by kernel_rfl
theorem N7 {R:RE} {args:List A1} {r:AV} (h:YC R args=some (true,r)):∃ o v n ρ d,args=[.agg [.str o,.int .i64 v,.sl (jl 0) n ρ],.c (.int .i64 d)]∧opD (R ⟨o,v,n,ρ⟩ d)=true∧r=.one (.c (.int .i64 (opN (R ⟨o,v,n,ρ⟩ d)))):=by
 unfold YC at h;split at h
 ·split at h
  ·rename_i o v es n ρ d hs;simp only [sIq,pIq] at h;exact ⟨o,v,n,ρ,d,by rw [jm hs],h.1,h.2.symm⟩
  ·cases h
 ·cases h
theorem jgI (R:RE) (e:RX) (d:Int) (h:opD (Xx R e d)=true):(jgm R e d).All (fun x=>leA x (.one (.c (.int .i64 (opN (Xx R e d)))))):=by
 unfold jgm;unfold Xx at h ⊢;revert h;cases B3 e with
 | true=>exact fun _=>jn rfl leA.refl
 | false =>
   cases lt 32 d with
  | true=>exact fun _=>jn rfl leA.refl
  | false =>
    simp only [cond_false];cases YG R e.n e.ρ (ja e.n) d (e.n+1) 0 with
   | none=>exact fun h=>by cases h
   | some x =>
     intro _;refine ⟨fun h=>(by cases h),fun _=>⟨fun h=>(by cases h),fun _=>⟨rfl,?_⟩⟩⟩
     show Tree.All _ (Tree.br (x != 0) (.leaf (AV.one (.c (.int .i64 x)))) (.leaf (AV.one (.c (.int .i64 0)))));refine ⟨fun _=>leA.refl,fun h => ?_⟩
     have:x=0:=by simpa using h
     subst this;exact leA.refl
theorem joC {R:RE} {args:List A1} {r:AV} (h:YC (Xx R) args=some (true,r)):(qj Tryz.prog (LY R) (jbp R) 10 75 args).All (fun x=>leA x r):=by
 obtain ⟨o,v,n,ρ,d,e1,h1,e2⟩:=N7 h;rw [e1,e2,jiR];exact jgI R ⟨o,v,n,ρ⟩ d h1
theorem jnT {R:RE} (hR:jo Tryz.prog 75 (nG (YC R))):jo Tryz.prog 75 (nG (YC (Xx R))):=by
 refine j3 (H:=LY R) (X:=jbp R) (jlA hR) (jpk hR) 10 75 ?_;intro args r h;exact joC h
def Jb:Nat->RE
 | 0=>fun _ _=>none
 | f+1=>Xx (Jb f)
theorem jf1:∀ f,jo Tryz.prog 75 (nG (YC (Jb f)))
 | 0 => by
   intro args r h;obtain ⟨o,v,n,ρ,d,_,h1,_⟩:=N7 (zG h);cases h1
 | f+1=>jnT (jf1 f)
abbrev RC:=Nat->Val->Option (Int × Int)
def cD:Option (Int × Int)->Bool | some _=>true | none=>false
def cA:Option (Int × Int)->Int | some (a,_)=>a | none=>0
def cB:Option (Int × Int)->Int | some (_,b)=>b | none=>0
def G89 (R:RC):List A1->Option (Bool × AV)
 | [.c (.sl es n ρ)]=>if shEq.shsEq es (jl 1) then some (cD (R n ρ),.tup [.c (.int .i64 (cA (R n ρ))),.c (.int .i64 (cB (R n ρ)))]) else none
 | _=>none
theorem FR {R:RC} {args:List A1} {r:AV} (h:G89 R args=some (true,r)):∃ n ρ,args=[.c (.sl (jl 1) n ρ)]∧cD (R n ρ)=true∧r=.tup [.c (.int .i64 (cA (R n ρ))),.c (.int .i64 (cB (R n ρ)))]:=by
 unfold G89 at h;split at h
 ·split at h
  ·rename_i es n ρ hs;simp only [sIq,pIq] at h;exact ⟨n,ρ,by rw [jm hs],h.1,h.2.symm⟩
  ·cases h
 ·cases h
abbrev C89:=Int × Int × (Nat × Val) × Int × Int
def S89 (c:C89):St:=mkS 45 [(4,.one (.c (.int .i64 c.1))),(5,.one (.c (.int .i64 c.2.1))),(12,.one (.c (.sl (jl 1) c.2.2.1.1 c.2.2.1.2))),(13,.one (.c (.int .i64 c.2.2.2.1))),(14,.one (.c (.int .i64 c.2.2.2.2)))] []
def jak:List (Nat × AV)->Mem->Option C89
 | [(4,.one (.c (.int .i64 a))),(5,.one (.c (.int .i64 b))),(12,.one (.c (.sl es n ρ))),(13,.one (.c (.int .i64 l))),(14,.one (.c (.int .i64 i)))],[]=>if shEq.shsEq es (jl 1) then some (a,b,(n,ρ),l,i) else none
 | _,_=>none
theorem jex:∀ l m c,jak l m=some c->mkS 45 l m=S89 c:=by
 intro l m c h;unfold jak at h;split at h
 ·split at h
  ·rename_i hs;cases h;rw [jm hs];rfl
  ·cases h
 ·cases h
def E89 (v:Int × Int):St:=mkS 45 [(4,.one (.c (.int .i64 v.1))),(5,.one (.c (.int .i64 v.2)))] []
def Di:List (Nat × AV)->Mem->Option (Int × Int)
 | [(4,.one (.c (.int .i64 v))),(5,.one (.c (.int .i64 u)))],[]=>some (v,u)
 | _,_=>none
theorem jdz:∀ l m c,Di l m=some c->mkS 45 l m=E89 c:=by
 intro l m c h;unfold Di at h;split at h
 ·cases h;rfl
 ·cases h
def A89:Sx.Frame C89 (Int × Int):=⟨0,45,[4,5,12,13,14],jak,S89,[4,5],Di,E89⟩
theorem a89:A89.Ok:=.of_eq jex jdz
noncomputable abbrev H89 (R:RC):Hd:=⟨[],[(42,nG (G89 R))],[],[]⟩
theorem h89 {R:RC} (hR:jo Tryz.prog 42 (nG (G89 R))):HdOk Tryz.prog (H89 R):=HdOk.nil.ucCons hR
def Wn (ρ:Val) (i:Nat):Nat:=((ρ.at i).at 5).L []
def WI (ρ:Val) (i:Nat):Val:=(ρ.at i).at 5
def Wo (ρ:Val) (i:Nat):Nat:=((ρ.at i).at 6).L []
def WE (ρ:Val) (i:Nat):Val:=(ρ.at i).at 6
def jli (a a1 b1:Int):Int:=IntKind.wrap .i64 (IntKind.wrap .i64 (IntKind.wrap .i64 (a+1)+a1)+b1)
def jlZ (b x y:Int):Int:=jab b (IntKind.wrap .i64 (1+jab x y))
def r89 (R:RC) (g:C89->Tree (XP × (Int × Int))) (c:C89):Tree (XP × (Int × Int)) :=
 let ρ:=c.2.2.1.2
 let i:=c.2.2.2.2
 let u:=R (Wn ρ i.toNat) (WI ρ i.toNat)
 let v:=R (Wo ρ i.toNat) (WE ρ i.toNat)
 .br (lt i c.2.2.2.1) (.need (jc i c.2.2.1.1) (.need (cD u) (.need (cD v) (g (jli c.1 (cA u) (cA v),jlZ c.2.1 (cB u) (cB v),c.2.2.1,c.2.2.2.1,IntKind.wrap .i64 (i+1)))))) (.leaf (.exit 0,(c.1,c.2.1)))
theorem jmo (R:RC) (g:C89->Tree (XP × (Int × Int))) (a b:Int) (n:Nat) (ρ:Val) (l i:Int):jQ A89 Tryz.prog (H89 R) X0 10 42 0 g (a,b,(n,ρ),l,i)=r89 R g (a,b,(n,ρ),l,i):=by kernel_rfl
def ZP (R:RC) (n:Nat) (ρ:Val) (l:Int):Nat->Int->Int->Int->Option (Int × Int)
 | 0,_,_,_=>none
 | k + 1, i, a, b => bif lt i l then (bif jc i n then (match R (Wn ρ i.toNat) (WI ρ i.toNat), R (Wo ρ i.toNat) (WE ρ i.toNat) with
   | some (a1,x),some (b1,y)=>ZP R n ρ l k (IntKind.wrap .i64 (i+1)) (jli a a1 b1) (jlZ b x y)
   | _,_=>none) else none) else some (a,b)
def g89 (R:RC) (k:Nat) (c:C89):Tree (XP × (Int × Int)) :=
 let x:=ZP R c.2.2.1.1 c.2.2.1.2 c.2.2.2.1 k c.2.2.2.2 c.1 c.2.1
 .need (cD x) (.leaf (.exit 0,(cA x,cB x)))
theorem I9 (R : RC) (k : Nat) (c : C89) : (g89 R k c).sel = match ZP R c.2.2.1.1 c.2.2.1.2 c.2.2.2.1 k c.2.2.2.2 c.1 c.2.1 with
  | some (a,b)=>some (.exit 0,(a,b))
  | none=>none:=by
 unfold g89;cases ZP R c.2.2.1.1 c.2.2.1.2 c.2.2.2.1 k c.2.2.2.2 c.1 c.2.1 with
 | none=>rfl
 | some x=>obtain ⟨a,b⟩:=x;rfl
theorem jkX (R:RC) (k:Nat) (c:C89) (x:XP × (Int × Int)) (h:(g89 R (k+1) c).sel=some x):(jQ A89 Tryz.prog (H89 R) X0 10 42 0 (g89 R k) c).sel=some x:=by
 obtain ⟨a,b,⟨n,ρ⟩,l,i⟩:=c;rw [jmo];rw [I9] at h;unfold ZP at h;unfold r89;simp only [qg,jG,j0,I9];revert h;cases lt i l with
 | false=>exact fun h=>h
 | true =>
   cases jc i n with
  | false=>exact fun h=>h
  | true =>
    simp only;cases R (Wn ρ i.toNat) (WI ρ i.toNat) with
   | none=>exact fun h=>h
   | some u =>
     cases R (Wo ρ i.toNat) (WE ρ i.toNat) with
    | none=>exact fun h=>h
    | some v=>exact fun h=>h
theorem jkZ {R:RC} (hR:jo Tryz.prog 42 (nG (G89 R))):∀ k,CoreOk Tryz.prog 42 0 0 S89 E89 (g89 R k) :=
 CoreOk.fuel (A:=A89) a89 (h89 hR) x0 10 (fun _=>rfl) (jkX R)
def jlH (R:RC) (c:C89):Tree (XP × (Int × Int)):=g89 R (c.2.2.1.1+1) c
def X89 (R:RC):HdP:=⟨[],[],[],[((42,0),qZ A89 (jlH R))],[],0,[]⟩
theorem x89 {R:RC} (hR:jo Tryz.prog 42 (nG (G89 R))):XOk Tryz.prog (X89 R):=XOk.nil.lxCons (CoreOk.lx (g:=jlH R) a89 fun fn c b h1 h2 h3 c0 x hx=>jkZ hR _ fn c b h1 h2 h3 c0 x hx)
def NH (R:RC) (n:Nat) (ρ:Val):Option (Int × Int):=ZP R n ρ (ja n) (n+1) 0 0 0
def t89 (R:RC) (n:Nat) (ρ:Val):Tree AV:=.need (cD (NH R n ρ)) (.leaf (.tup [.c (.int .i64 (cA (NH R n ρ))),.c (.int .i64 (cB (NH R n ρ)))]))
theorem jmj (R:RC) (n:Nat) (ρ:Val):qj Tryz.prog (H89 R) (X89 R) 10 42 [.c (.sl (jl 1) n ρ)]=t89 R n ρ:=by kernel_rfl
theorem u89 {R:RC} {args:List A1} {r:AV} (h:G89 (NH R) args=some (true,r)):(qj Tryz.prog (H89 R) (X89 R) 10 42 args).All (fun x=>leA x r):=by
 obtain ⟨n,ρ,e1,h1,e2⟩:=FR h;rw [e1,e2,jmj];exact ⟨h1,leA.refl⟩
theorem jpM {R:RC} (hR:jo Tryz.prog 42 (nG (G89 R))):jo Tryz.prog 42 (nG (G89 (NH R))):=by
 refine j3 (H:=H89 R) (X:=X89 R) (h89 hR) (x89 hR) 10 42 ?_;intro args r h;exact u89 h
def cntF:Nat->RC
 | 0=>fun _ _=>none
 | f+1=>NH (cntF f)
theorem p89:∀ f,jo Tryz.prog 42 (nG (G89 (cntF f)))
 | 0 => by
   intro args r h;obtain ⟨n,ρ,_,h1,_⟩:=FR (zG h);cases h1
 | f+1=>jpM (p89 f)
def wAt (ρ:Val) (i:Nat):ByteArray:=((ρ.at i).at 0).S []
def nAt (ρ:Val) (i:Nat):Int:=((ρ.at i).at 0).N []
abbrev Xd:=(Nat × Val) × Int × Int × Int
def jeK (c:Xd):St:=mkS 19 [(0,.one (.c (.sl [.str] c.1.1 c.1.2))),(1,.one (.c (.fn (.func 100) [] []))),(4,.one (.c (.int .i64 c.2.1))),(7,.one (.c (.int .i64 c.2.2.1))),(8,.one (.c (.int .i64 c.2.2.2)))] []
def DL:List (Nat × AV)->Mem->Option Xd
 | [(0,.one (.c (.sl [.str] n ρ))),(1,.one (.c (.fn (.func 100) [] []))),(4,.one (.c (.int .i64 r))),(7,.one (.c (.int .i64 l))),(8,.one (.c (.int .i64 i)))],[]=>some ((n,ρ),r,l,i)
 | _,_=>none
theorem jb7:∀ l m c,DL l m=some c->mkS 19 l m=jeK c:=by
 intro l m c h;unfold DL at h;split at h
 ·cases h;rfl
 ·cases h
def jd0 (v:Int):St:=mkS 19 [(4,.one (.c (.int .i64 v)))] []
def Nw:List (Nat × AV)->Mem->Option Int
 | [(4,.one (.c (.int .i64 v)))],[]=>some v
 | _,_=>none
theorem jbU:∀ l m c,Nw l m=some c->mkS 19 l m=jd0 c:=by
 intro l m c h;unfold Nw at h;split at h
 ·cases h;rfl
 ·cases h
def A154:Sx.Frame Xd Int:=⟨0,19,[0,1,4,7,8],DL,jeK,[4],Nw,jd0⟩
theorem jk2:A154.Ok:=.of_eq jb7 jbU
noncomputable abbrev aj:Hd:=⟨[pF 92],[(54,nG G87)],[],[]⟩
theorem jmd:HdOk Tryz.prog aj:=(HdOk.nil.ucCons p87).pF 92
def jkq (g:Xd->Tree (XP × Int)) (c:Xd):Tree (XP × Int) :=
 let i:=c.2.2.2
 let x:=jF (wAt c.1.2 i.toNat)
 .br (lt i c.2.2.1) (.need (jc i c.1.1) (.need (obD x) (.br (!obV x) (.leaf (.ret,i)) (g (c.1,c.2.1,c.2.2.1,IntKind.wrap .i64 (i+1)))))) (.leaf (.exit 0,c.2.1))
theorem jjw (g:Xd->Tree (XP × Int)) (n:Nat) (ρ:Val) (r l i:Int):jQ A154 Tryz.prog aj X0 10 92 0 g ((n,ρ),r,l,i)=jkq g ((n,ρ),r,l,i):=by kernel_rfl
def Kk (n:Nat) (ρ:Val) (l:Int):Nat->Int->Option (Option Int)
 | 0,_=>none
 | k + 1, i => bif lt i l then (bif jc i n then (match jF (wAt ρ i.toNat) with
   | some b=>bif !b then some (some i) else Kk n ρ l k (IntKind.wrap .i64 (i+1))
   | none=>none) else none) else some none
def ooD:Option (Option Int)->Bool | some _=>true | none=>false
def ooB:Option (Option Int)->Bool | some (some _)=>true | _=>false
def ooV:Option (Option Int)->Int | some (some i)=>i | _=>0
def NM (k:Nat) (c:Xd):Tree (XP × Int) :=
 let x:=Kk c.1.1 c.1.2 c.2.2.1 k c.2.2.2
 .need (ooD x) (.br (ooB x) (.leaf (.ret,ooV x)) (.leaf (.exit 0,c.2.1)))
theorem Dh (k : Nat) (c : Xd) : (NM k c).sel = match Kk c.1.1 c.1.2 c.2.2.1 k c.2.2.2 with
  | some (some i)=>some (.ret,i)
  | some none=>some (.exit 0,c.2.1)
  | none=>none:=by
 unfold NM;cases Kk c.1.1 c.1.2 c.2.2.1 k c.2.2.2 with
 | none=>rfl
 | some x=>cases x<;>rfl
theorem jhE (k:Nat) (c:Xd) (x:XP × Int) (h:(NM (k+1) c).sel=some x):(jQ A154 Tryz.prog aj X0 10 92 0 (NM k) c).sel=some x:=by
 obtain ⟨⟨n,ρ⟩,r,l,i⟩:=c;rw [jjw];rw [Dh] at h;unfold Kk at h;unfold jkq;simp only [qg,jG,j0,Dh];revert h;cases lt i l with
 | false=>exact fun h=>h
 | true =>
   cases jc i n with
  | false=>exact fun h=>h
  | true =>
    simp only;cases jF (wAt ρ i.toNat) with
   | none=>exact fun h=>h
   | some b=>cases b<;>exact fun h=>h
theorem jiU:∀ k,CoreOk Tryz.prog 92 0 0 jeK jd0 (NM k) :=
 CoreOk.fuel (A:=A154) jk2 jmd x0 10 (fun _=>rfl) jhE
def jhf (c:Xd):Tree (XP × Int):=NM (c.1.1+1) c
def ML:HdP:=⟨[],[],[],[((92,0),qZ A154 jhf)],[],0,[]⟩
theorem joz:XOk Tryz.prog ML:=XOk.nil.lxCons (CoreOk.lx (g:=jhf) jk2 fun fn c b h1 h2 h3 c0 x hx=>jiU _ fn c b h1 h2 h3 c0 x hx)
def Zw (n:Nat) (ρ:Val):Option (Option Int):=Kk n ρ (ja n) (n+1) 0
def Wl (x:Option (Option Int)):Bool:=bif ooB x then le 0 (ooV x) else false
def jaM:List A1->Option (Bool × AV)
 | [.c (.sl [.str] n ρ),.c (.fn (.func 100) [] [])]=>some (ooD (Zw n ρ),.one (.c (.bool (Wl (Zw n ρ)))))
 | _=>none
def t127 (n:Nat) (ρ:Val):Tree AV:=.need (ooD (Zw n ρ)) (.br (ooB (Zw n ρ)) (.leaf (.one (.c (.bool (le 0 (ooV (Zw n ρ))))))) (.leaf (.one (.c (.bool (le 0 (-1)))))))
theorem jht (n:Nat) (ρ:Val):qj Tryz.prog aj ML 10 65 [.c (.sl [.str] n ρ),.c (.fn (.func 100) [] [])]=t127 n ρ:=by kernel_rfl
theorem jpw {args:List A1} {r:AV} (h:jaM args=some (true,r)):(qj Tryz.prog aj ML 10 65 args).All (fun x=>leA x r):=by
 unfold jaM at h;split at h
 ·rename_i n ρ;rw [jht];simp only [sIq,pIq] at h;obtain ⟨h1,h2⟩:=h;rw [← h2];unfold t127 Wl;refine ⟨h1,?_⟩;cases ooB (Zw n ρ)<;>exact jn rfl leA.refl
 ·cases h
theorem jop:jo Tryz.prog 65 (nG jaM):=by
 refine j3 (H:=aj) (X:=ML) jmd joz 10 65 ?_;intro args r h;exact jpw h
abbrev Xg:=((Nat × Val) × (Nat × Val)) × Bool × Int × Int
def jf6 (c:Xg):St:=mkS 32 [(1,.one (.c (.sl [.str] c.1.2.1 c.1.2.2))),(2,.one (.c (.fn (.func 110) [] []))),(6,.one (.c (.bool c.2.1))),(15,.one (.c (.sl [.int .i64] c.1.1.1 c.1.1.2))),(16,.one (.c (.int .i64 c.2.2.1))),(17,.one (.c (.int .i64 c.2.2.2)))] []
def TP:List (Nat × AV)->Mem->Option Xg
 | [(1,.one (.c (.sl [.str] n ρ))),(2,.one (.c (.fn (.func 110) [] []))),(6,.one (.c (.bool b))),(15,.one (.c (.sl [.int .i64] m κ))),(16,.one (.c (.int .i64 l))),(17,.one (.c (.int .i64 i)))],[]=>some (((m,κ),(n,ρ)),b,l,i)
 | _,_=>none
theorem jcH:∀ l m c,TP l m=some c->mkS 32 l m=jf6 c:=by
 intro l m c h;unfold TP at h;split at h
 ·cases h;rfl
 ·cases h
def jfo (v:Bool):St:=mkS 32 [(6,.one (.c (.bool v)))] []
def L8:List (Nat × AV)->Mem->Option Bool
 | [(6,.one (.c (.bool v)))],[]=>some v
 | _,_=>none
theorem jaB:∀ l m c,L8 l m=some c->mkS 32 l m=jfo c:=by
 intro l m c h;unfold L8 at h;split at h
 ·cases h;rfl
 ·cases h
def A182:Sx.Frame Xg Bool:=⟨0,32,[1,2,6,15,16,17],TP,jf6,[6],L8,jfo⟩
theorem jl3:A182.Ok:=.of_eq jcH jaB
noncomputable abbrev Ly:Hd:=⟨[],[(110,nG jaI)],[],[]⟩
theorem jlu:HdOk Tryz.prog Ly:=HdOk.nil.ucCons jl0
def jkI (g:Xg->Tree (XP × Bool)) (c:Xg):Tree (XP × Bool) :=
 let i:=c.2.2.2
 let w:=wAt c.1.2.2 i.toNat
 .br (lt i c.2.2.1) (.need (jc i c.1.1.1) (.need (jc i c.1.2.1) (.need (nmD (jt w)) (.br (!qn (nAt c.1.1.2 i.toNat) w) (.leaf (.ret,false)) (g (c.1,c.2.1,c.2.2.1,IntKind.wrap .i64 (i+1))))))) (.leaf (.exit 0,c.2.1))
theorem jhr (g:Xg->Tree (XP × Bool)) (m:Nat) (κ:Val) (n:Nat) (ρ:Val) (b:Bool) (l i:Int):jQ A182 Tryz.prog Ly X0 10 120 0 g (((m,κ),(n,ρ)),b,l,i)=jkI g (((m,κ),(n,ρ)),b,l,i):=by kernel_rfl
def eqL (m:Nat) (κ:Val) (n:Nat) (ρ:Val) (l:Int):Nat->Int->Option Bool
 | 0,_=>none
 | k+1,i=>bif lt i l then (bif jc i m then (bif jc i n then (bif nmD (jt (wAt ρ i.toNat)) then (bif !qn (nAt κ i.toNat) (wAt ρ i.toNat) then some false else eqL m κ n ρ l k (IntKind.wrap .i64 (i+1))) else none) else none) else none) else some true
def Ni (k:Nat) (c:Xg):Tree (XP × Bool) :=
 let x:=eqL c.1.1.1 c.1.1.2 c.1.2.1 c.1.2.2 c.2.2.1 k c.2.2.2
 .need (obD x) (.br (obV x) (.leaf (.exit 0,c.2.1)) (.leaf (.ret,false)))
theorem Dz (k : Nat) (c : Xg) : (Ni k c).sel = match eqL c.1.1.1 c.1.1.2 c.1.2.1 c.1.2.2 c.2.2.1 k c.2.2.2 with
  | some true=>some (.exit 0,c.2.1)
  | some false=>some (.ret,false)
  | none=>none:=by
 unfold Ni;cases eqL c.1.1.1 c.1.1.2 c.1.2.1 c.1.2.2 c.2.2.1 k c.2.2.2 with
 | none=>rfl
 | some x=>cases x<;>rfl
theorem jhy (k:Nat) (c:Xg) (x:XP × Bool) (h:(Ni (k+1) c).sel=some x):(jQ A182 Tryz.prog Ly X0 10 120 0 (Ni k) c).sel=some x:=by
 obtain ⟨⟨⟨m,κ⟩,⟨n,ρ⟩⟩,b,l,i⟩:=c;rw [jhr];rw [Dz] at h;unfold eqL at h;unfold jkI;simp only [qg,jG,j0,Dz];revert h;cases lt i l with
 | false=>exact fun h=>h
 | true =>
   cases jc i m with
  | false=>exact fun h=>h
  | true =>
    cases jc i n with
   | false=>exact fun h=>h
   | true =>
     cases nmD (jt (wAt ρ i.toNat)) with
    | false=>exact fun h=>h
    | true=>cases qn (nAt κ i.toNat) (wAt ρ i.toNat)<;>exact fun h=>h
theorem jhw:∀ k,CoreOk Tryz.prog 120 0 0 jf6 jfo (Ni k) :=
 CoreOk.fuel (A:=A182) jl3 jlu x0 10 (fun _=>rfl) jhy
def jg5 (c:Xg):Tree (XP × Bool):=Ni (c.1.1.1+1) c
def jaV:HdP:=⟨[],[],[],[((120,0),qZ A182 jg5)],[],0,[]⟩
theorem jom:XOk Tryz.prog jaV:=XOk.nil.lxCons (CoreOk.lx (g:=jg5) jl3 fun fn c b h1 h2 h3 c0 x hx=>jhw _ fn c b h1 h2 h3 c0 x hx)
def eqS (m:Nat) (κ:Val) (n:Nat) (ρ:Val):Option Bool:=bif ja m != ja n then some false else eqL m κ n ρ (ja m) (m+1) 0
def jbZ:List A1->Option (Bool × AV)
 | [.c (.sl [.int .i64] m κ),.c (.sl [.str] n ρ),.c (.fn (.func 110) [] [])]=>some (obD (eqS m κ n ρ),.one (.c (.bool (obV (eqS m κ n ρ)))))
 | _=>none
def jft (m:Nat) (κ:Val) (n:Nat) (ρ:Val):Tree AV :=
 let x:=eqL m κ n ρ (ja m) (m+1) 0
 .br (ja m != ja n) (.leaf (.one (.c (.bool false)))) (.need (obD x) (.br (obV x) (.leaf (.one (.c (.bool true)))) (.leaf (.one (.c (.bool false))))))
theorem ji0 (m:Nat) (κ:Val) (n:Nat) (ρ:Val):qj Tryz.prog Ly jaV 10 120 [.c (.sl [.int .i64] m κ),.c (.sl [.str] n ρ),.c (.fn (.func 110) [] [])]=jft m κ n ρ:=by kernel_rfl
theorem jfz (m:Nat) (κ:Val) (n:Nat) (ρ:Val) (h:obD (eqS m κ n ρ)=true):(jft m κ n ρ).All (fun x=>leA x (.one (.c (.bool (obV (eqS m κ n ρ)))))):=by
 unfold jft;unfold eqS at h ⊢;revert h;cases (ja m != ja n) with
 | true=>exact fun _=>jn rfl leA.refl
 | false =>
   simp only [cond_false];cases eqL m κ n ρ (ja m) (m+1) 0 with
  | none=>exact fun h=>by cases h
  | some b=>cases b<;>exact fun _=>jn rfl leA.refl
theorem joH {args:List A1} {r:AV} (h:jbZ args=some (true,r)):(qj Tryz.prog Ly jaV 10 120 args).All (fun x=>leA x r):=by
 unfold jbZ at h;split at h
 ·rename_i m κ n ρ;rw [ji0];simp only [sIq,pIq] at h;obtain ⟨h1,h2⟩:=h;rw [← h2];exact jfz m κ n ρ h1
 ·cases h
theorem jpr:jo Tryz.prog 120 (nG jbZ):=by
 refine j3 (H:=Ly) (X:=jaV) jlu jom 10 120 ?_;intro args r h;exact joH h
noncomputable abbrev jal:Hd:=⟨[],[(109,nG jbh),(120,nG jbZ)],[],[]⟩
theorem jpR:HdOk Tryz.prog jal:=(HdOk.nil.ucCons jpr).ucCons jnc
def BU (n:Nat) (ρ:Val):Option Bool:=eqS (qu (qx (wAt ρ 0))).length (Zg (qu (qx (wAt ρ 0)))) (n - 1) (ρ.from 1)
def WU (ρ:Val):Bool:=!(Nat.beq (qx (wAt ρ 0)) 0)
def J0 (n:Nat) (ρ:Val):Option Bool:=bif ja n==0 then some false else bif WU ρ then BU n ρ else some false
def jan:List A1->Option (Bool × AV)
 | [.c (.sl [.str] n ρ)]=>some (obD (J0 n ρ),.one (.c (.bool (obV (J0 n ρ)))))
 | _=>none
def t164 (n:Nat) (ρ:Val):Tree AV :=
 .br (ja n==0) (.leaf (.one (.c (.bool false)))) (.need (jc 0 n) (.need true (.br (WU ρ==true)
  (.need (le 0 1&&le 1 (ja n)) (.need (!((WU ρ==true)&&true)||obD (BU n ρ)) (.leaf (.one (.c (.bool (bif WU ρ then obV (BU n ρ) else false)))))))
  (.need (!((WU ρ==true)&&true)) (.leaf (.one (.c (.bool (bif WU ρ then false else false)))))))))
theorem jjy (n:Nat) (ρ:Val):qf Tryz.prog jal 10 99 [.c (.sl [.str] n ρ)]=t164 n ρ:=by kernel_rfl
theorem jdS (n:Nat) (ρ:Val) (h:obD (J0 n ρ)=true):(t164 n ρ).All (fun x=>leA x (.one (.c (.bool (obV (J0 n ρ)))))):=by
 unfold t164;unfold J0 at h ⊢;revert h;cases hz:(ja n==0) with
 | true=>exact fun _=>jn rfl leA.refl
 | false =>
   have hn:0<n:=by
    rcases Nat.eq_zero_or_pos n with rfl | h
    ·cases hz
    ·exact h
   have h1:jc 0 n=true:=by unfold jc le lt ja;simp;omega
   have h2:(le 0 1&&le 1 (ja n))=true:=by unfold le ja;simp;omega
   rw [h1,h2];simp only [cond_false];cases WU ρ with
  | false=>exact fun _=>jn rfl leA.refl
  | true =>
    simp only [cond_true];intro h;refine ⟨(fun h=>by cases h),fun _=>⟨rfl,rfl,(fun _=>⟨rfl,?_,leA.refl⟩),(fun h=>by cases h)⟩⟩
    rw [h];rfl
theorem joE {args:List A1} {r:AV} (h:jan args=some (true,r)):(qf Tryz.prog jal 10 99 args).All (fun x=>leA x r):=by
 unfold jan at h;split at h
 ·rename_i n ρ;rw [jjy];simp only [sIq,pIq] at h;obtain ⟨h1,h2⟩:=h;rw [← h2];exact jdS n ρ h1
 ·cases h
theorem jow:jo Tryz.prog 99 (nG jan):=by
 refine zF (H:=jal) jpR 10 99 ?_;intro args r h;exact joE h
def Tf:List A1->Option AV
 | [.c (.str w)]=>some (.one (.c (.bool (bif bif jb w wIf then true else jb w jK then true else jb w jT))))
 | _=>none
theorem jeg:PcOne Tryz.prog 67 Tf:=Ji (H:=h00) HdOk.nil 10 67 fun args r h=>by
 unfold Tf at h;split at h
 ·rename_i w;have hr:=Option.some.inj h;refine ⟨by rw [← hr];rfl,.leaf (.one (.c (.bool (bif bif jb w wIf then true else jb w jK then true else jb w jT)))),by kernel_rfl,?_⟩
  rw [← hr];exact rfl
 ·cases h
abbrev X01:HdP:=⟨[],[],[],[],[],1,[]⟩
noncomputable def jbq (n:Nat) (ρ:Val):Tree AV:=qj Tryz.prog h00 X01 10 85 [.c (.sl (jl 0) n ρ),.c .nils,.c (.fn (.func 60) [] [])]
theorem jkf (ρ:Val):(jbq 0 ρ).sel=some (.one (.c (.bool true))):=by kernel_rfl
theorem jnf (n:Nat) (ρ:Val):(jbq (n+1) ρ).sel=some (.one (.c (.bool false))):=by kernel_rfl
def Ts:List A1->Option (Bool × AV)
 | [.c (.sl es n _),.c .nils,.c (.fn (.func 60) [] [])]=>if shEq.shsEq es (jl 0) then some (true,.one (.c (.bool (Nat.beq n 0)))) else none
 | _=>none
theorem jcW {args:List A1} {r:AV} (h:Ts args=some (true,r)):∃ n ρ,args=[.c (.sl (jl 0) n ρ),.c .nils,.c (.fn (.func 60) [] [])]∧r=.one (.c (.bool (Nat.beq n 0))):=by
 unfold Ts at h;split at h
 ·rename_i es n ρ;split at h
  ·rename_i hs;simp only [sIq,pIq,true_and] at h;exact ⟨n,ρ,by rw [jm hs],h.symm⟩
  ·cases h
 ·cases h
theorem jgx (n:Nat) (ρ:Val):(jbq n ρ).sel=some (.one (.c (.bool (Nat.beq n 0)))):=by
 cases n with
 | zero=>exact jkf ρ
 | succ n=>exact jnf n ρ
theorem jpt {args:List A1} {r:AV} (h:Ts args=some (true,r)):(qj Tryz.prog h00 X01 10 85 args).All (fun x=>leA x r):=by
 obtain ⟨n,ρ,e1,e2⟩:=jcW h;have hs:=jgx n ρ;unfold jbq at hs;rw [← e1,← e2] at hs;exact jn hs leA.refl
theorem jo4:jo Tryz.prog 85 (nG Ts):=by
 refine j3 (H:=h00) (X:=X01) HdOk.nil XOk.nil 10 85 ?_;intro args r h;exact jpt h
def Zk (e:RX):Bool:=bif bif jb e.op (bs []) then e.v==0 else false then Nat.beq e.n 0 else false
noncomputable abbrev MJ:Hd:=⟨[],[(85,nG Ts)],[],[]⟩
theorem jpT:HdOk Tryz.prog MJ:=HdOk.nil.ucCons jo4
def Ie:List A1->Option (Bool × AV)
 | [.agg cs,.agg ds]=>match Fv cs,ds with
  | some e,[.str z,.int .i64 zz,.nils]=>if jb z (bs [])&&decide (zz=0) then some (true,.one (.c (.bool (Zk e)))) else none
  | _,_=>none
 | _=>none
def joI (e:RX):Tree AV :=
 let c:=bif jb e.op (bs []) then e.v==0 else false
 .need (!((c==true)&&true)||true) (.leaf (.one (.c (.bool (Zk e)))))
theorem jhQ (e:RX):qf Tryz.prog MJ 10 60 [.agg e.cells,.agg [.str (bs []),.int .i64 0,.nils]]=joI e:=by kernel_rfl
theorem jdm {args:List A1} {r:AV} (h:Ie args=some (true,r)):∃ e:RX,args=[.agg e.cells,.agg [.str (bs []),.int .i64 0,.nils]]∧r=.one (.c (.bool (Zk e))):=by
 unfold Ie at h;split at h
 ·split at h
  ·rename_i cs ds e z zz he;split at h
   ·rename_i hc;simp only [aTq,decide_eq_true_eq] at hc;simp only [sIq,pIq,true_and] at h;rw [Vx he,QP hc.1,hc.2];exact ⟨e,rfl,h.symm⟩
   ·cases h
  ·cases h
 ·cases h
theorem jpH {args:List A1} {r:AV} (h:Ie args=some (true,r)):(qf Tryz.prog MJ 10 60 args).All (fun x=>leA x r):=by
 obtain ⟨e,e1,e2⟩:=jdm h;rw [e1,e2,jhQ];refine ⟨?_,leA.refl⟩
 simp
theorem joN:jo Tryz.prog 60 (nG Ie):=by
 refine zF (H:=MJ) jpT 10 60 ?_;intro args r h;exact jpH h
def jfU:List CV->Option RS
 | [.str kd, .sl [.str] wn wr, .str o, .int .i64 v, .sl es n ρ, .sl es1 bn br, .sl es2 en er, .int .i64 a] =>
   if shEq.shsEq es (jl 0)&&shEq.shsEq es1 (jl 1)&&shEq.shsEq es2 (jl 1) then some ⟨kd,wn,wr,⟨o,v,n,ρ⟩,bn,br,en,er,a⟩ else none
 | _=>none
theorem jck {cs:List CV} {s:RS} (h:jfU cs=some s):cs=s.cells:=by
 unfold jfU at h;split at h
 ·split at h
  ·rename_i hc;simp only [aTq] at hc;cases h;rw [jm hc.1.1,jm hc.1.2,jm hc.2];rfl
  ·cases h
 ·cases h
noncomputable abbrev MU:Hd:=⟨[],[(60,nG Ie),(99,nG jan),(65,nG jaM)],[],[]⟩
theorem jpB:HdOk Tryz.prog MU:=((HdOk.nil.ucCons jop).ucCons jow).ucCons joN
def QT (s:RS):Bool :=
 bif jb s.kind wDo then obD (J0 s.wn s.wρ) else bif jb s.kind wIf then true else bif jb s.kind jK then true else bif jb s.kind jT then true
  else bif jb s.kind z6 then (!((lt 0 (ja s.wn)==true)&&true)||ooD (Zw s.wn s.wρ)) else true
def Jy (s:RS):Bool :=
 bif jb s.kind wDo then (bif bif obV (J0 s.wn s.wρ) then Zk s.cond else false then ja s.en==0 else false)
 else bif jb s.kind wIf then ja s.wn==0
 else bif jb s.kind jK then (bif bif bif ja s.wn==0 then ja s.en==0 else false then jb s.cond.op j8 else false then le s.cond.v 99 else false)
 else bif jb s.kind jT then (bif bif ja s.wn==0 then ja s.bn==0 else false then ja s.en==0 else false)
 else bif jb s.kind z6 then (bif bif bif bif lt 0 (ja s.wn) then !Wl (Zw s.wn s.wρ) else false then Zk s.cond else false then ja s.bn==0 else false then ja s.en==0 else false)
 else false
def R7:List A1->Option (Bool × AV)
 | [.agg cs]=>match jfU cs with
  | some s=>some (QT s,.one (.c (.bool (Jy s))))
  | none=>none
 | _=>none
def jfJ (s:RS):Tree AV :=
 let L:=fun b:Bool=>Tree.leaf (AV.one (.c (.bool b)))
 .need true (.br (jb s.kind wDo) (.need (obD (J0 s.wn s.wρ)) (L (bif bif obV (J0 s.wn s.wρ) then Zk s.cond else false then ja s.en==0 else false)))
  (.br (jb s.kind wIf) (L (ja s.wn==0))
  (.br (jb s.kind jK) (L (bif bif bif ja s.wn==0 then ja s.en==0 else false then jb s.cond.op j8 else false then le s.cond.v 99 else false))
  (.br (jb s.kind jT) (L (bif bif ja s.wn==0 then ja s.bn==0 else false then ja s.en==0 else false))
  (.br (jb s.kind z6) (.need (!((lt 0 (ja s.wn)==true)&&true)||ooD (Zw s.wn s.wρ)) (L (bif bif bif bif lt 0 (ja s.wn) then !Wl (Zw s.wn s.wρ) else false then Zk s.cond else false then ja s.bn==0 else false then ja s.en==0 else false)))
  (L false))))))
theorem jip (s:RS):qf Tryz.prog MU 10 74 [.agg s.cells]=jfJ s:=by kernel_rfl
theorem jdJ (s:RS) (h:QT s=true):(jfJ s).All (fun x=>leA x (.one (.c (.bool (Jy s))))):=by
 unfold jfJ;unfold QT at h;unfold Jy;revert h;cases jb s.kind wDo with
 | true=>exact fun h=>⟨rfl,(fun _=>⟨h,leA.refl⟩),(fun h=>by cases h)⟩
 | false =>
 cases jb s.kind wIf with
 | true=>exact fun _=>jn rfl leA.refl
 | false =>
 cases jb s.kind jK with
 | true=>exact fun _=>jn rfl leA.refl
 | false =>
 cases jb s.kind jT with
 | true=>exact fun _=>jn rfl leA.refl
 | false =>
 cases jb s.kind z6 with
 | true=>exact fun h=>⟨rfl,(fun h=>by cases h),fun _=>⟨(fun h=>by cases h),fun _=>⟨(fun h=>by cases h),fun _=>⟨(fun h=>by cases h),fun _=>⟨(fun _=>⟨h,leA.refl⟩),(fun h=>by cases h)⟩⟩⟩⟩⟩
 | false=>exact fun _=>jn rfl leA.refl
theorem jcl {args:List A1} {r:AV} (h:R7 args=some (true,r)):∃ s:RS,args=[.agg s.cells]∧QT s=true∧r=.one (.c (.bool (Jy s))):=by
 unfold R7 at h;split at h
 ·split at h
  ·rename_i cs s hs;simp only [sIq,pIq] at h;exact ⟨s,by rw [jck hs],h.1,h.2.symm⟩
  ·cases h
 ·cases h
theorem jpi {args:List A1} {r:AV} (h:R7 args=some (true,r)):(qf Tryz.prog MU 10 74 args).All (fun x=>leA x r):=by
 obtain ⟨s,e1,h1,e2⟩:=jcl h;rw [e1,e2,jip];exact jdJ s h1
theorem joA:jo Tryz.prog 74 (nG R7):=by
 refine zF (H:=MU) jpB 10 74 ?_;intro args r h;exact jpi h
end Go.Proofs.YtiefjlcakpdfeaaGreatDoor