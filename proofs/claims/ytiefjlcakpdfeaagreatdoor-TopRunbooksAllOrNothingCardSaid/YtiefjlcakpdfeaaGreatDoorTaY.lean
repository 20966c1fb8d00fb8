/-
 Part TaY of the proof: RbQ RcD RbU RbV RbW RbY RbZ RbZa.
-/
import Derived.Test.YtiefjlcakpdfeaaGreatDoorTaX
import Derived.Test.YtiefjlcakpdfeaaGreatDoorTaW
namespace Go.Proofs.YtiefjlcakpdfeaaGreatDoor
open Go Go.Sx Go.RowKit Rb
set_option maxRecDepth 100000
theorem zi {es:List Sh} {ρ:Val}:leC .nils (.sl es 0 ρ):=fun _ _ _ h=>by cases h;exact .slnil
theorem TJ:∀ (l:List ByteArray) (l0:List ByteArray) (ρ:Val),RowIs ρ l0->RowIs (BD l0.length ρ l) (l0++l)
 | [],l0,ρ,h=>by rw [List.append_nil];exact h
 | w :: l, l0, ρ, h => by
   have:=TJ l (l0++[w]) (Val.cat l0.length ρ (qT w)) (h.snoc w)
   rw [lAq,List.append_assoc] at this;exact this
theorem RowIs.leC {σ:Val} {l:List ByteArray} (h:RowIs σ l):leC (.sl [.str] l.length σ) (.sl [.str] l.length (za l)):=Br fun i f s hi hs=>by
 obtain ⟨w,hw⟩:=qX l i hi;cases f with
 | zero =>
   simp only [nth,sIq] at hs;subst hs;have h2:=h i w hw;have h3:=QR l i w hw;rw [h3];show CV.str _=CV.str _;rw [h2];rfl
 | succ f=>simp [nth] at hs
theorem IH (w:ByteArray) (l:List ByteArray):leC (.sl [.str] (1+l.length) (BD 1 (qT w) l)) (.sl [.str] (w::l).length (za (w::l))):=by
 have h1:RowIs (qT w) [w]:=by
  intro i x hx
  match i,hx with
  | 0,hx=>exact Option.some.inj hx
  | i+1,hx=>simp [nth] at hx
 have:=(TJ l [w] (qT w) h1).leC
 have e:([w]++l).length=1+l.length:=by simp;omega
 rw [e] at this;have e2:(w::l).length=1+l.length:=by simp;omega
 rw [e2];exact this
theorem le8 {a1 a2 a3 a4 a5 a6 a7 a8 b1 b2 b3 b4 b5 b6 b7 b8 : CV} (h1 : leC a1 b1) (h2 : leC a2 b2) (h3 : leC a3 b3) (h4 : leC a4 b4) (h5 : leC a5 b5) (h6 : leC a6 b6) (h7 : leC a7 b7) (h8 : leC a8 b8) :
  LeL [a1,a2,a3,a4,a5,a6,a7,a8] [b1,b2,b3,b4,b5,b6,b7,b8]:=.cons h1 (.cons h2 (.cons h3 (.cons h4 (.cons h5 (.cons h6 (.cons h7 (.cons h8 .nil)))))))
theorem JH {cs:List CV} {s:ByteArray} {p:PS} {x:RS} (h:LeL cs x.cells):Tells (lfS cs s p) encR s (.ret x p):=⟨_,rfl,.ret (YQ (.agg h)) LeL.refl rfl⟩
abbrev jlS (E:ByteArray->PS->PR PS RX) (B:ByteArray->PS->PR PS (List RS)) (k:Nat) (s:ByteArray) (p:PS):PR PS RS:=yD (MP s) AR (E s) (B s) k p
theorem jrf {E : ByteArray -> PS -> PR PS RX} {B : ByteArray -> PS -> PR PS (List RS)} (hE : ju Tryz.prog 83 (localG 70 (UO E))) (hB : ju Tryz.prog 31 (localG 70 (UBk B))) (k : Nat) (hk : k + 1 <= yR) :
  ju Tryz.prog 55 (localG 70 (uOf dS encR (spU (jlS E B k)))):=Uu h88 (jqD hE hB k) 10 55 fun s n t a=>by
 rw [jng];unfold t88 jlS yD;refine Tells.cond ?_ (Tells.cond ?_ (Tells.cond ?_ (Tells.cond ?_ (Tells.cond ?_ Tells.pan))))
 ·refine Tells.bind fun _ p1=>Tells.bind fun w p2=>Tells.bind fun c p3=>Tells.cond (Tells.bind fun l p4=>Tells.bind fun _ p5=>JH ?_) (Tells.bind fun _ p4=>JH ?_)
  ·exact le8 leC.refl leC.refl leC.refl leC.refl zi leC.refl zi leC.refl
  ·exact le8 leC.refl leC.refl leC.refl leC.refl zi zi zi leC.refl
 ·refine Tells.bind fun _ p1=>Tells.bind fun e p2=>Tells.bind fun l p3=>Tells.bind fun c p4=>Tells.cond (Tells.bind fun r p5=>JH ?_) (JH ?_)
  ·exact le8 leC.refl zi leC.refl leC.refl leC.refl leC.refl leC.refl leC.refl
  ·exact le8 leC.refl zi leC.refl leC.refl leC.refl leC.refl zi leC.refl
 ·refine Tells.bind fun _ p1=>Tells.bind fun n p2=>Tells.bind fun l p3=>JH ?_;exact le8 leC.refl zi leC.refl leC.refl zi leC.refl zi leC.refl
 ·refine Tells.bind fun _ p1=>Tells.bind fun e p2=>Tells.bind fun _ p3=>JH ?_;exact le8 leC.refl zi leC.refl leC.refl leC.refl zi zi leC.refl
 ·refine Tells.bind fun _ p1 => ?_;have hpl:JN (MP s) p1=match jV p1.tx with | none=>(PR.stuck:PR PS ByteArray) | some c=>qC (MP s) c p1:=rfl
  show Tells _ _ _ ((JN (MP s) p1).bind _);rw [hpl];cases jV p1.tx with
  | none=>exact trivial
  | some ok =>
    refine Tells.nd rfl (Tells.bind fun w p2=>Tells.nd (Nat.ble_eq.mpr (by omega)) (Tells.bind fun l p3=>JH ?_))
    exact le8 leC.refl (IH w l) leC.refl leC.refl zi zi zi leC.refl
abbrev stK (K d:Nat) (s:ByteArray) (p:PS):PR PS RS:=(sts (MP s) AR K d).1 p
abbrev blK (K d:Nat) (s:ByteArray) (p:PS):PR PS (List RS):=(sts (MP s) AR K d).2 p
theorem jnQ (k:Nat) (hk:k+2<=yR):∀ d,ju Tryz.prog 55 (localG 70 (uOf dS encR (spU (stK (k+1) d))))∧ju Tryz.prog 31 (localG 70 (UBk (blK (k+1) d)))
 | 0=>⟨WG 55,WG 31⟩
 | d + 1 => by
   obtain ⟨_,h2⟩:=jnQ k hk d;have hE:=(joo k (k+1)).2;have hs:ju Tryz.prog 55 (localG 70 (uOf dS encR (spU (stK (k+1) (d+1))))):=jrf hE h2 (k+1) (by omega)
   exact ⟨hs,jrj hs (k+1) (by omega)⟩
def KC (ρ:Val):Nat->List ByteArray
 | 0=>[]
 | n+1=>KC ρ n++[wd ρ n]
theorem y3 (ρ:Val):∀ n,(KC ρ n).length=n
 | 0=>rfl
 | n+1=>by simp [KC,y3 ρ n]
theorem GD (ρ:Val):∀ (n i:Nat),i<n->(KC ρ n)[i]? = some (wd ρ i)
 | 0,_,h=>by omega
 | n + 1, i, h => by
   unfold KC;rcases lOq i n with h1 | h1
   ·rw [List.getElem?_append_left (by rw [y3];exact h1)]
    exact GD ρ n i h1
   ·obtain rfl:i=n:=by omega
    rw [List.getElem?_append_right (by rw [y3];omega),y3]
    simp
def joinL (n:Nat) (ρ:Val) (sep:ByteArray):List UInt8:=Lib.join ((KC ρ n).map (·.data.toList)) sep.data.toList
def yZ (n:Nat) (ρ:Val) (sep:ByteArray):ByteArray:=⟨(joinL n ρ sep).toArray⟩
def kS (n:Nat) (ρ:Val) (sep:ByteArray):Bool:=Nat.ble n 140737488355328&&Nat.ble (joinL n ρ sep).length 140737488355328
def G18:List A1->Option (Bool × AV)
 | [.c (.sl [.str] n ρ),.c (.str sep)]=>some (kS n ρ sep,.one (.c (.str (yZ n ρ sep))))
 | _=>none
theorem p18:UcOne Tryz.prog 25 (nG G18):=by
 intro args r hG hcl F w vs hargs;have h:=zA hG;unfold G18 at h;split at h
 ·rename_i n ρ sep;simp only [sIq,pIq] at h;obtain ⟨h1,rfl⟩:=h;unfold kS at h1;rw [aTq] at h1;have hn:=Nat.le_of_ble_eq_true h1.1;have hl:=Nat.le_of_ble_eq_true h1.2
  have zero:∀ a c,n=0->Calls Tryz.prog 25 #[.slice a 0 c,.string sep] w fun e w2=>∃ v,e=.returned v∧Below w.heap.size w w2∧AV.Rel (fun p=>F p∧p<w.heap.size) w2 [] (.one (.c (.str (yZ n ρ sep)))) v:=by
   intro a c h0;subst h0;refine (Tryz.strings_Join_none a c sep w).mono fun e w2 ⟨he,hw⟩ => ?_;subst hw;exact ⟨_,he,Below.refl _ _,CV.Rel.str _⟩
  cases hargs with
  | cons a1 a2=>cases a2 with
   | cons a2 a3 =>
     cases a3;cases a2;cases a1 with
    | slnil=>exact zero _ _ rfl
    | sl val hc h0 hcell hr =>
      rename_i cap a;rcases Nat.eq_zero_or_pos n with hz | hp
      ·subst hz;exact zero _ _ rfl
      ·obtain ⟨e1,e2,_⟩:=h0 hp;have ha:a=⟨a.block,a.off,none⟩:=by rw [← e1]
       rw [ha]
       have key:=Tryz.strings_Join a.block a.off cap (KC ρ n) sep w (fun j x hj=>by
        have hjn:j<n:=by
         have:=(List.getElem?_eq_some_iff.1 hj).1
         rwa [y3] at this
        rw [GD ρ n j hjn] at hj;obtain rfl:=Option.some.inj hj
        have:=hcell j 0 hjn (by simp)
        have e:a.off+(j*[Sh.str].length+0)=a.off+j:=by simp
        rw [e] at this;rw [this];have h3:=hr j 0 .str hjn rfl;generalize val j 0=z at h3;cases h3;rfl) e2 (by rw [y3];exact hn) (by rw [y3];exact hc) hl
       rw [y3] at key;refine key.mono fun e w2 ⟨he,hw⟩ => ?_;exact ⟨_,he,hw,CV.Rel.str _⟩
 ·cases h
def zo (w:ByteArray):Nat :=
 bif jb w qy then 1 else bif (jb w zy||(jb w qv||(jb w ym||(jb w zu||jb w q7)))) then 2
  else bif (jb w qj||jb w zC) then 3 else bif jb w zf then 4
   else bif (jb w wOr||(jb w JG||(jb w wEq||(jb w wLt||(jb w wGt||(jb w ZP||jb w kg)))))) then 5 else 0
def U1:Nat->Int
 | 4=>1
 | 5=>2
 | _=>0
def Rq:Nat->Int
 | 1=>1073741824
 | 2=>9
 | _=>0
def jid (c:Nat):AV:=.tup [.c (.int .i64 (U1 c)),.c (.int .i64 (Rq c)),.c (.bool (!(Nat.beq c 0)))]
def jav:List A1->Option AV
 | [.c (.str w)]=>some (jid (zo w))
 | _=>none
def jgV (w:ByteArray):Tree AV :=
 let L:=fun (a b:Int) (c:Bool)=>Tree.leaf (AV.tup [.c (.int .i64 a),.c (.int .i64 b),.c (.bool c)])
 let Z:=L 0 0 false
 let A5:=L 2 0 true
 let R5:=.br (jb w wOr) (.br (jb w wOr) A5 Z) (.br (jb w JG) (.br (jb w JG) A5 Z) (.br (jb w wEq) (.br (jb w wEq) A5 Z) (.br (jb w wLt) (.br (jb w wLt) A5 Z)
  (.br (jb w wGt) (.br (jb w wGt) A5 Z) (.br (jb w ZP) (.br (jb w ZP) A5 Z) (.br (jb w kg) A5 Z))))))
 let R4:=.br (jb w zf) (L 1 0 true) R5
 let R3:=.br (jb w qj) (.br (jb w qj) (L 0 0 true) R4) (.br (jb w zC) (L 0 0 true) R4)
 let B:=L 0 9 true
 let R2:=.br (jb w zy) (.br (jb w zy) B R3) (.br (jb w qv) (.br (jb w qv) B R3) (.br (jb w ym) (.br (jb w ym) B R3) (.br (jb w zu) (.br (jb w zu) B R3) (.br (jb w q7) B R3))))
 .br (jb w qy) (L 0 1073741824 true) R2
theorem jjc (w:ByteArray):(jU Tryz.prog h00 10 93 [.c (.str w)] []).vals=jgV w:=by kernel_rfl
theorem jfu (w:ByteArray):(jgV w).All (fun z=>z=jid (zo w)):=by
 unfold jgV zo;cases jb w qy with
 | true=>exact jl rfl rfl
 | false =>
 cases jb w zy with
 | true=>exact jl rfl rfl
 | false =>
 cases jb w qv with
 | true=>exact jl rfl rfl
 | false =>
 cases jb w ym with
 | true=>exact jl rfl rfl
 | false =>
 cases jb w zu with
 | true=>exact jl rfl rfl
 | false =>
 cases jb w q7 with
 | true=>exact jl rfl rfl
 | false =>
 cases jb w qj with
 | true=>exact jl rfl rfl
 | false =>
 cases jb w zC with
 | true=>exact jl rfl rfl
 | false =>
 cases jb w zf with
 | true=>exact jl rfl rfl
 | false =>
 cases jb w wOr with
 | true=>exact jl rfl rfl
 | false =>
 cases jb w JG with
 | true=>exact jl rfl rfl
 | false =>
 cases jb w wEq with
 | true=>exact jl rfl rfl
 | false =>
 cases jb w wLt with
 | true=>exact jl rfl rfl
 | false =>
 cases jb w wGt with
 | true=>exact jl rfl rfl
 | false =>
 cases jb w ZP with
 | true=>exact jl rfl rfl
 | false =>
 cases jb w kg with
 | true=>exact jl rfl rfl
 | false=>exact jl rfl rfl
theorem jmA:PcOne Tryz.prog 93 jav:=kY (H:=h00) HdOk.nil 10 93 fun args r h=>by
 unfold jav at h;split at h
 ·rename_i w;have hr:=Option.some.inj h;refine ⟨by rw [← hr];rfl,_,jjc w,?_⟩
  rw [← hr];exact jfu w
 ·cases h
def jW (ρ:Val) (i:Nat):RX:=⟨((ρ.at i).at 0).S [],((ρ.at i).at 1).N [],((ρ.at i).at 2).L [],(ρ.at i).at 2⟩
abbrev RE:=RX->Int->Option Int
def Yg (R:RE):List A1->Option (Bool × AV)
 | [.agg [.str o,.int .i64 v,.sl es n ρ],.c (.int .i64 d)]=>if shEq.shsEq es (jm 0) then some (opD (R ⟨o,v,n,ρ⟩ d),.one (.c (.int .i64 (opN (R ⟨o,v,n,ρ⟩ d))))) else none
 | _=>none
abbrev K8:=Int × Int × (Nat × Val) × Int × Int
def jfr (c:K8):St:=mkS 57 [(1,.one (.c (.int .i64 c.1))),(4,.one (.c (.int .i64 c.2.1))),(43,.one (.c (.sl (jm 0) c.2.2.1.1 c.2.2.1.2))),(44,.one (.c (.int .i64 c.2.2.2.1))),(45,.one (.c (.int .i64 c.2.2.2.2)))] []
def Tq:List (Nat × AV)->Mem->Option K8
 | [(1,.one (.c (.int .i64 d))),(4,.one (.c (.int .i64 r))),(43,.one (.c (.sl es n ρ))),(44,.one (.c (.int .i64 l))),(45,.one (.c (.int .i64 i)))],[]=>if shEq.shsEq es (jm 0) then some (d,r,(n,ρ),l,i) else none
 | _,_=>none
theorem jdC:∀ l m c,Tq l m=some c->mkS 57 l m=jfr c:=by
 intro l m c h;unfold Tq at h;split at h
 ·split at h
  ·rename_i hs;cases h;rw [jj hs];rfl
  ·cases h
 ·cases h
def jhg (v:Int):St:=mkS 57 [(4,.one (.c (.int .i64 v)))] []
def Ni:List (Nat × AV)->Mem->Option Int
 | [(4,.one (.c (.int .i64 v)))],[]=>some v
 | _,_=>none
theorem jad:∀ l m c,Ni l m=some c->mkS 57 l m=jhg c:=by
 intro l m c h;unfold Ni at h;split at h
 ·cases h;rfl
 ·cases h
def A135:Sx.Frame K8 Int:=⟨0,57,[1,4,43,44,45],Tq,jfr,[4],Ni,jhg⟩
theorem jm2:A135.Ok:=.of_eq jdC jad
noncomputable abbrev Nj (R:RE):Hd:=⟨[(93,oG jav)],[(75,nG (Yg R))],[],[]⟩
theorem jnb {R:RE} (hR:UcOne Tryz.prog 75 (nG (Yg R))):HdOk Tryz.prog (Nj R):=(HdOk.nil.ucCons hR).pcCons jmA
def jnJ (R:RE) (g:K8->Tree (XP × Int)) (c:K8):Tree (XP × Int) :=
 let x:=R (jW c.2.2.1.2 c.2.2.2.2.toNat) (IntKind.wrap .i64 (c.1+1))
 .br (lt c.2.2.2.2 c.2.2.2.1) (.need (jc c.2.2.2.2 c.2.2.1.1) (.need (opD x) (.br (opN x != 0) (.leaf (.ret,opN x)) (g (c.1,c.2.1,c.2.2.1,c.2.2.2.1,IntKind.wrap .i64 (c.2.2.2.2+1)))))) (.leaf (.exit 1,c.2.1))
theorem jiI (R:RE) (g:K8->Tree (XP × Int)) (d r:Int) (n:Nat) (ρ:Val) (l i:Int):jD A135 Tryz.prog (Nj R) X0 10 75 0 g (d,r,(n,ρ),l,i)=jnJ R g (d,r,(n,ρ),l,i):=by kernel_rfl
def KY (R:RE) (n:Nat) (ρ:Val) (l d:Int):Nat->Int->Option Int
 | 0,_=>none
 | k + 1, i => bif lt i l then (bif jc i n then (match R (jW ρ i.toNat) (IntKind.wrap .i64 (d + 1)) with
   | some x=>bif x != 0 then some x else KY R n ρ l d k (IntKind.wrap .i64 (i+1))
   | none=>none) else none) else some 0
def NF (R:RE) (k:Nat) (c:K8):Tree (XP × Int) :=
 let x:=KY R c.2.2.1.1 c.2.2.1.2 c.2.2.2.1 c.1 k c.2.2.2.2
 .need (opD x) (.br (opN x != 0) (.leaf (.ret,opN x)) (.leaf (.exit 1,c.2.1)))
theorem D3 (R : RE) (k : Nat) (c : K8) : (NF R k c).sel = match KY R c.2.2.1.1 c.2.2.1.2 c.2.2.2.1 c.1 k c.2.2.2.2 with
  | some x=>some (bif x != 0 then (.ret,x) else (.exit 1,c.2.1))
  | none=>none:=by
 unfold NF;cases KY R c.2.2.1.1 c.2.2.1.2 c.2.2.2.1 c.1 k c.2.2.2.2 with
 | none=>rfl
 | some x =>
   show (bif true then (bif x != 0 then some _ else some _) else none)=_;simp only;cases (x != 0)<;>rfl
theorem jkr (R:RE) (k:Nat) (c:K8) (x:XP × Int) (h:(NF R (k+1) c).sel=some x):(jD A135 Tryz.prog (Nj R) X0 10 75 0 (NF R k) c).sel=some x:=by
 obtain ⟨d,r,⟨n,ρ⟩,l,i⟩:=c;rw [jiI];rw [D3] at h;unfold KY at h;unfold jnJ;simp only [j9,jG,j3,D3];revert h;cases lt i l with
 | false=>exact fun h=>h
 | true =>
   cases jc i n with
  | false=>exact fun h=>h
  | true =>
    cases R (jW ρ i.toNat) (IntKind.wrap .i64 (d+1)) with
   | none=>exact fun h=>h
   | some y =>
     simp only [cond_true,opD,opN];cases hy:(y != 0) with
    | true=>simp only [cond_true,hy];exact fun h=>h
    | false=>simp only [cond_false];exact fun h=>h
theorem jkW {R:RE} (hR:UcOne Tryz.prog 75 (nG (Yg R))):∀ k,CoreOk Tryz.prog 75 0 0 jfr jhg (NF R k) :=
 CoreOk.fuel (A:=A135) jm2 (jnb hR) x0 10 (fun _=>rfl) (jkr R)
def jiC (R:RE) (c:K8):Tree (XP × Int):=NF R (c.2.2.1.1+1) c
def jbm (R:RE):HdP:=⟨[],[],[],[((75,0),qz A135 (jiC R))],[],0,[]⟩
theorem jqL {R:RE} (hR:UcOne Tryz.prog 75 (nG (Yg R))):XOk Tryz.prog (jbm R):=XOk.nil.lxCons (CoreOk.lx (g:=jiC R) jm2 fun fn c b h1 h2 h3 c0 x hx=>jkW hR _ fn c b h1 h2 h3 c0 x hx)
def DG (e:RX):Bool :=
 let c:=zo e.op
 bif bif bif !(!(Nat.beq c 0)) then true else ja e.n != U1 c then true else lt e.v 0 then true else lt (Rq c) e.v
def V2 (R:RE) (e:RX) (d:Int):Option Int:=bif DG e then some 3 else bif lt 32 d then some 28 else KY R e.n e.ρ (ja e.n) d (e.n+1) 0
def jhF (R:RE) (e:RX) (d:Int):Tree AV :=
 let x:=KY R e.n e.ρ (ja e.n) d (e.n+1) 0
 .br (DG e) (.leaf (.one (.c (.int .i64 3)))) (.br (lt 32 d) (.leaf (.one (.c (.int .i64 28)))) (.need (opD x) (.br (opN x != 0) (.leaf (.one (.c (.int .i64 (opN x))))) (.leaf (.one (.c (.int .i64 0)))))))
theorem jkx (R:RE) (o:ByteArray) (v:Int) (n:Nat) (ρ:Val) (d:Int):qf Tryz.prog (Nj R) (jbm R) 10 75 [.agg [.str o,.int .i64 v,.sl (jm 0) n ρ],.c (.int .i64 d)]=jhF R ⟨o,v,n,ρ⟩ d:=by kernel_rfl
theorem OF {R:RE} {args:List A1} {r:AV} (h:Yg R args=some (true,r)):∃ o v n ρ d,args=[.agg [.str o,.int .i64 v,.sl (jm 0) n ρ],.c (.int .i64 d)]∧opD (R ⟨o,v,n,ρ⟩ d)=true∧r=.one (.c (.int .i64 (opN (R ⟨o,v,n,ρ⟩ d)))):=by
 unfold Yg at h;split at h
 ·split at h
  ·rename_i o v es n ρ d hs;simp only [sIq,pIq] at h;exact ⟨o,v,n,ρ,d,by rw [jj hs],h.1,h.2.symm⟩
  ·cases h
 ·cases h
theorem jfZ (R:RE) (e:RX) (d:Int) (h:opD (V2 R e d)=true):(jhF R e d).All (fun x=>leA x (.one (.c (.int .i64 (opN (V2 R e d)))))):=by
 unfold jhF;unfold V2 at h ⊢;revert h;cases DG e with
 | true=>exact fun _=>jl rfl leA.refl
 | false =>
   cases lt 32 d with
  | true=>exact fun _=>jl rfl leA.refl
  | false =>
    simp only [cond_false];cases KY R e.n e.ρ (ja e.n) d (e.n+1) 0 with
   | none=>exact fun h=>by cases h
   | some x =>
     intro _;refine ⟨fun h=>(by cases h),fun _=>⟨fun h=>(by cases h),fun _=>⟨rfl,?_⟩⟩⟩
     show Tree.All _ (Tree.br (x != 0) (.leaf (AV.one (.c (.int .i64 x)))) (.leaf (AV.one (.c (.int .i64 0)))));refine ⟨fun _=>leA.refl,fun h => ?_⟩
     have:x=0:=by simpa using h
     subst this;exact leA.refl
theorem jq3 {R:RE} {args:List A1} {r:AV} (h:Yg (V2 R) args=some (true,r)):(qf Tryz.prog (Nj R) (jbm R) 10 75 args).All (fun x=>leA x r):=by
 obtain ⟨o,v,n,ρ,d,e1,h1,e2⟩:=OF h;rw [e1,e2,jkx];exact jfZ R ⟨o,v,n,ρ⟩ d h1
theorem jp3 {R:RE} (hR:UcOne Tryz.prog 75 (nG (Yg R))):UcOne Tryz.prog 75 (nG (Yg (V2 R))):=by
 refine jR (H:=Nj R) (X:=jbm R) (jnb hR) (jqL hR) 10 75 ?_;intro args r h;exact jq3 h
def QD:Nat->RE
 | 0=>fun _ _=>none
 | f+1=>V2 (QD f)
theorem jfK:∀ f,UcOne Tryz.prog 75 (nG (Yg (QD f)))
 | 0 => by
   intro args r h;obtain ⟨o,v,n,ρ,d,_,h1,_⟩:=OF (zA h);cases h1
 | f+1=>jp3 (jfK f)
abbrev RC:=Nat->Val->Option (Int × Int)
def cD:Option (Int × Int)->Bool | some _=>true | none=>false
def cA:Option (Int × Int)->Int | some (a,_)=>a | none=>0
def cB:Option (Int × Int)->Int | some (_,b)=>b | none=>0
def G89 (R:RC):List A1->Option (Bool × AV)
 | [.c (.sl es n ρ)]=>if shEq.shsEq es (jm 1) then some (cD (R n ρ),.tup [.c (.int .i64 (cA (R n ρ))),.c (.int .i64 (cB (R n ρ)))]) else none
 | _=>none
theorem Tf {R:RC} {args:List A1} {r:AV} (h:G89 R args=some (true,r)):∃ n ρ,args=[.c (.sl (jm 1) n ρ)]∧cD (R n ρ)=true∧r=.tup [.c (.int .i64 (cA (R n ρ))),.c (.int .i64 (cB (R n ρ)))]:=by
 unfold G89 at h;split at h
 ·split at h
  ·rename_i es n ρ hs;simp only [sIq,pIq] at h;exact ⟨n,ρ,by rw [jj hs],h.1,h.2.symm⟩
  ·cases h
 ·cases h
abbrev C89:=Int × Int × (Nat × Val) × Int × Int
def S89 (c:C89):St:=mkS 45 [(4,.one (.c (.int .i64 c.1))),(5,.one (.c (.int .i64 c.2.1))),(12,.one (.c (.sl (jm 1) c.2.2.1.1 c.2.2.1.2))),(13,.one (.c (.int .i64 c.2.2.2.1))),(14,.one (.c (.int .i64 c.2.2.2.2)))] []
def M8:List (Nat × AV)->Mem->Option C89
 | [(4,.one (.c (.int .i64 a))),(5,.one (.c (.int .i64 b))),(12,.one (.c (.sl es n ρ))),(13,.one (.c (.int .i64 l))),(14,.one (.c (.int .i64 i)))],[]=>if shEq.shsEq es (jm 1) then some (a,b,(n,ρ),l,i) else none
 | _,_=>none
theorem jeS:∀ l m c,M8 l m=some c->mkS 45 l m=S89 c:=by
 intro l m c h;unfold M8 at h;split at h
 ·split at h
  ·rename_i hs;cases h;rw [jj hs];rfl
  ·cases h
 ·cases h
def E89 (v:Int × Int):St:=mkS 45 [(4,.one (.c (.int .i64 v.1))),(5,.one (.c (.int .i64 v.2)))] []
def F5:List (Nat × AV)->Mem->Option (Int × Int)
 | [(4,.one (.c (.int .i64 v))),(5,.one (.c (.int .i64 u)))],[]=>some (v,u)
 | _,_=>none
theorem jdT:∀ l m c,F5 l m=some c->mkS 45 l m=E89 c:=by
 intro l m c h;unfold F5 at h;split at h
 ·cases h;rfl
 ·cases h
def A89:Sx.Frame C89 (Int × Int):=⟨0,45,[4,5,12,13,14],M8,S89,[4,5],F5,E89⟩
theorem a89:A89.Ok:=.of_eq jeS jdT
noncomputable abbrev H89 (R:RC):Hd:=⟨[],[(42,nG (G89 R))],[],[]⟩
theorem h89 {R:RC} (hR:UcOne Tryz.prog 42 (nG (G89 R))):HdOk Tryz.prog (H89 R):=HdOk.nil.ucCons hR
def K7 (ρ:Val) (i:Nat):Nat:=((ρ.at i).at 5).L []
def KU (ρ:Val) (i:Nat):Val:=(ρ.at i).at 5
def Xb (ρ:Val) (i:Nat):Nat:=((ρ.at i).at 6).L []
def Xh (ρ:Val) (i:Nat):Val:=(ρ.at i).at 6
def jbT (a a1 b1:Int):Int:=IntKind.wrap .i64 (IntKind.wrap .i64 (IntKind.wrap .i64 (a+1)+a1)+b1)
def DC (b x y:Int):Int:=Xg b (IntKind.wrap .i64 (1+Xg x y))
def r89 (R:RC) (g:C89->Tree (XP × (Int × Int))) (c:C89):Tree (XP × (Int × Int)) :=
 let ρ:=c.2.2.1.2
 let i:=c.2.2.2.2
 let u:=R (K7 ρ i.toNat) (KU ρ i.toNat)
 let v:=R (Xb ρ i.toNat) (Xh ρ i.toNat)
 .br (lt i c.2.2.2.1) (.need (jc i c.2.2.1.1) (.need (cD u) (.need (cD v) (g (jbT c.1 (cA u) (cA v),DC c.2.1 (cB u) (cB v),c.2.2.1,c.2.2.2.1,IntKind.wrap .i64 (i+1)))))) (.leaf (.exit 0,(c.1,c.2.1)))
theorem jn9 (R:RC) (g:C89->Tree (XP × (Int × Int))) (a b:Int) (n:Nat) (ρ:Val) (l i:Int):jD A89 Tryz.prog (H89 R) X0 10 42 0 g (a,b,(n,ρ),l,i)=r89 R g (a,b,(n,ρ),l,i):=by kernel_rfl
def Qx (R:RC) (n:Nat) (ρ:Val) (l:Int):Nat->Int->Int->Int->Option (Int × Int)
 | 0,_,_,_=>none
 | k + 1, i, a, b => bif lt i l then (bif jc i n then (match R (K7 ρ i.toNat) (KU ρ i.toNat), R (Xb ρ i.toNat) (Xh ρ i.toNat) with
   | some (a1,x),some (b1,y)=>Qx R n ρ l k (IntKind.wrap .i64 (i+1)) (jbT a a1 b1) (DC b x y)
   | _,_=>none) else none) else some (a,b)
def g89 (R:RC) (k:Nat) (c:C89):Tree (XP × (Int × Int)) :=
 let x:=Qx R c.2.2.1.1 c.2.2.1.2 c.2.2.2.1 k c.2.2.2.2 c.1 c.2.1
 .need (cD x) (.leaf (.exit 0,(cA x,cB x)))
theorem Md (R : RC) (k : Nat) (c : C89) : (g89 R k c).sel = match Qx R c.2.2.1.1 c.2.2.1.2 c.2.2.2.1 k c.2.2.2.2 c.1 c.2.1 with
  | some (a,b)=>some (.exit 0,(a,b))
  | none=>none:=by
 unfold g89;cases Qx R c.2.2.1.1 c.2.2.1.2 c.2.2.2.1 k c.2.2.2.2 c.1 c.2.1 with
 | none=>rfl
 | some x=>obtain ⟨a,b⟩:=x;rfl
theorem jlW (R:RC) (k:Nat) (c:C89) (x:XP × (Int × Int)) (h:(g89 R (k+1) c).sel=some x):(jD A89 Tryz.prog (H89 R) X0 10 42 0 (g89 R k) c).sel=some x:=by
 obtain ⟨a,b,⟨n,ρ⟩,l,i⟩:=c;rw [jn9];rw [Md] at h;unfold Qx at h;unfold r89;simp only [j9,jG,j3,Md];revert h;cases lt i l with
 | false=>exact fun h=>h
 | true =>
   cases jc i n with
  | false=>exact fun h=>h
  | true =>
    simp only;cases R (K7 ρ i.toNat) (KU ρ i.toNat) with
   | none=>exact fun h=>h
   | some u =>
     cases R (Xb ρ i.toNat) (Xh ρ i.toNat) with
    | none=>exact fun h=>h
    | some v=>exact fun h=>h
theorem jos {R:RC} (hR:UcOne Tryz.prog 42 (nG (G89 R))):∀ k,CoreOk Tryz.prog 42 0 0 S89 E89 (g89 R k) :=
 CoreOk.fuel (A:=A89) a89 (h89 hR) x0 10 (fun _=>rfl) (jlW R)
def jnF (R:RC) (c:C89):Tree (XP × (Int × Int)):=g89 R (c.2.2.1.1+1) c
def X89 (R:RC):HdP:=⟨[],[],[],[((42,0),qz A89 (jnF R))],[],0,[]⟩
theorem x89 {R:RC} (hR:UcOne Tryz.prog 42 (nG (G89 R))):XOk Tryz.prog (X89 R):=XOk.nil.lxCons (CoreOk.lx (g:=jnF R) a89 fun fn c b h1 h2 h3 c0 x hx=>jos hR _ fn c b h1 h2 h3 c0 x hx)
def NC (R:RC) (n:Nat) (ρ:Val):Option (Int × Int):=Qx R n ρ (ja n) (n+1) 0 0 0
def t89 (R:RC) (n:Nat) (ρ:Val):Tree AV:=.need (cD (NC R n ρ)) (.leaf (.tup [.c (.int .i64 (cA (NC R n ρ))),.c (.int .i64 (cB (NC R n ρ)))]))
theorem jlV (R:RC) (n:Nat) (ρ:Val):qf Tryz.prog (H89 R) (X89 R) 10 42 [.c (.sl (jm 1) n ρ)]=t89 R n ρ:=by kernel_rfl
theorem u89 {R:RC} {args:List A1} {r:AV} (h:G89 (NC R) args=some (true,r)):(qf Tryz.prog (H89 R) (X89 R) 10 42 args).All (fun x=>leA x r):=by
 obtain ⟨n,ρ,e1,h1,e2⟩:=Tf h;rw [e1,e2,jlV];exact ⟨h1,leA.refl⟩
theorem jqH {R:RC} (hR:UcOne Tryz.prog 42 (nG (G89 R))):UcOne Tryz.prog 42 (nG (G89 (NC R))):=by
 refine jR (H:=H89 R) (X:=X89 R) (h89 hR) (x89 hR) 10 42 ?_;intro args r h;exact u89 h
def cntF:Nat->RC
 | 0=>fun _ _=>none
 | f+1=>NC (cntF f)
theorem p89:∀ f,UcOne Tryz.prog 42 (nG (G89 (cntF f)))
 | 0 => by
   intro args r h;obtain ⟨n,ρ,_,h1,_⟩:=Tf (zA h);cases h1
 | f+1=>jqH (p89 f)
def wAt (ρ:Val) (i:Nat):ByteArray:=((ρ.at i).at 0).S []
def nAt (ρ:Val) (i:Nat):Int:=((ρ.at i).at 0).N []
abbrev K5:=(Nat × Val) × Int × Int × Int
def jhq (c:K5):St:=mkS 19 [(0,.one (.c (.sl [.str] c.1.1 c.1.2))),(1,.one (.c (.fn (.func 100) [] []))),(4,.one (.c (.int .i64 c.2.1))),(7,.one (.c (.int .i64 c.2.2.1))),(8,.one (.c (.int .i64 c.2.2.2)))] []
def T9:List (Nat × AV)->Mem->Option K5
 | [(0,.one (.c (.sl [.str] n ρ))),(1,.one (.c (.fn (.func 100) [] []))),(4,.one (.c (.int .i64 r))),(7,.one (.c (.int .i64 l))),(8,.one (.c (.int .i64 i)))],[]=>some ((n,ρ),r,l,i)
 | _,_=>none
theorem jdV:∀ l m c,T9 l m=some c->mkS 19 l m=jhq c:=by
 intro l m c h;unfold T9 at h;split at h
 ·cases h;rfl
 ·cases h
def jfO (v:Int):St:=mkS 19 [(4,.one (.c (.int .i64 v)))] []
def LD:List (Nat × AV)->Mem->Option Int
 | [(4,.one (.c (.int .i64 v)))],[]=>some v
 | _,_=>none
theorem ja4:∀ l m c,LD l m=some c->mkS 19 l m=jfO c:=by
 intro l m c h;unfold LD at h;split at h
 ·cases h;rfl
 ·cases h
def A154:Sx.Frame K5 Int:=⟨0,19,[0,1,4,7,8],T9,jhq,[4],LD,jfO⟩
theorem jnT:A154.Ok:=.of_eq jdV ja4
noncomputable abbrev NA:Hd:=⟨[pF 92],[(54,nG G87)],[],[]⟩
theorem joK:HdOk Tryz.prog NA:=(HdOk.nil.ucCons p87).pF 92
def joN (g:K5->Tree (XP × Int)) (c:K5):Tree (XP × Int) :=
 let i:=c.2.2.2
 let x:=jV (wAt c.1.2 i.toNat)
 .br (lt i c.2.2.1) (.need (jc i c.1.1) (.need (obD x) (.br (!obV x) (.leaf (.ret,i)) (g (c.1,c.2.1,c.2.2.1,IntKind.wrap .i64 (i+1)))))) (.leaf (.exit 0,c.2.1))
theorem jkM (g:K5->Tree (XP × Int)) (n:Nat) (ρ:Val) (r l i:Int):jD A154 Tryz.prog NA X0 10 92 0 g ((n,ρ),r,l,i)=joN g ((n,ρ),r,l,i):=by kernel_rfl
def Uv (n:Nat) (ρ:Val) (l:Int):Nat->Int->Option (Option Int)
 | 0,_=>none
 | k + 1, i => bif lt i l then (bif jc i n then (match jV (wAt ρ i.toNat) with
   | some b=>bif !b then some (some i) else Uv n ρ l k (IntKind.wrap .i64 (i+1))
   | none=>none) else none) else some none
def ooD:Option (Option Int)->Bool | some _=>true | none=>false
def ooB:Option (Option Int)->Bool | some (some _)=>true | _=>false
def ooV:Option (Option Int)->Int | some (some i)=>i | _=>0
def Nf (k:Nat) (c:K5):Tree (XP × Int) :=
 let x:=Uv c.1.1 c.1.2 c.2.2.1 k c.2.2.2
 .need (ooD x) (.br (ooB x) (.leaf (.ret,ooV x)) (.leaf (.exit 0,c.2.1)))
theorem RG (k : Nat) (c : K5) : (Nf k c).sel = match Uv c.1.1 c.1.2 c.2.2.1 k c.2.2.2 with
  | some (some i)=>some (.ret,i)
  | some none=>some (.exit 0,c.2.1)
  | none=>none:=by
 unfold Nf;cases Uv c.1.1 c.1.2 c.2.2.1 k c.2.2.2 with
 | none=>rfl
 | some x=>cases x<;>rfl
theorem jiU (k:Nat) (c:K5) (x:XP × Int) (h:(Nf (k+1) c).sel=some x):(jD A154 Tryz.prog NA X0 10 92 0 (Nf k) c).sel=some x:=by
 obtain ⟨⟨n,ρ⟩,r,l,i⟩:=c;rw [jkM];rw [RG] at h;unfold Uv at h;unfold joN;simp only [j9,jG,j3,RG];revert h;cases lt i l with
 | false=>exact fun h=>h
 | true =>
   cases jc i n with
  | false=>exact fun h=>h
  | true =>
    simp only;cases jV (wAt ρ i.toNat) with
   | none=>exact fun h=>h
   | some b=>cases b<;>exact fun h=>h
theorem jkC:∀ k,CoreOk Tryz.prog 92 0 0 jhq jfO (Nf k) :=
 CoreOk.fuel (A:=A154) jnT joK x0 10 (fun _=>rfl) jiU
def jiu (c:K5):Tree (XP × Int):=Nf (c.1.1+1) c
def ja7:HdP:=⟨[],[],[],[((92,0),qz A154 jiu)],[],0,[]⟩
theorem jqG:XOk Tryz.prog ja7:=XOk.nil.lxCons (CoreOk.lx (g:=jiu) jnT fun fn c b h1 h2 h3 c0 x hx=>jkC _ fn c b h1 h2 h3 c0 x hx)
def Y9 (n:Nat) (ρ:Val):Option (Option Int):=Uv n ρ (ja n) (n+1) 0
def jcD (x:Option (Option Int)):Bool:=bif ooB x then le 0 (ooV x) else false
def jba:List A1->Option (Bool × AV)
 | [.c (.sl [.str] n ρ),.c (.fn (.func 100) [] [])]=>some (ooD (Y9 n ρ),.one (.c (.bool (jcD (Y9 n ρ)))))
 | _=>none
def t127 (n:Nat) (ρ:Val):Tree AV:=.need (ooD (Y9 n ρ)) (.br (ooB (Y9 n ρ)) (.leaf (.one (.c (.bool (le 0 (ooV (Y9 n ρ))))))) (.leaf (.one (.c (.bool (le 0 (-1)))))))
theorem jjA (n:Nat) (ρ:Val):qf Tryz.prog NA ja7 10 65 [.c (.sl [.str] n ρ),.c (.fn (.func 100) [] [])]=t127 n ρ:=by kernel_rfl
theorem jrO {args:List A1} {r:AV} (h:jba args=some (true,r)):(qf Tryz.prog NA ja7 10 65 args).All (fun x=>leA x r):=by
 unfold jba at h;split at h
 ·rename_i n ρ;rw [jjA];simp only [sIq,pIq] at h;obtain ⟨h1,h2⟩:=h;rw [← h2];unfold t127 jcD;refine ⟨h1,?_⟩;cases ooB (Y9 n ρ)<;>exact jl rfl leA.refl
 ·cases h
theorem jrw:UcOne Tryz.prog 65 (nG jba):=by
 refine jR (H:=NA) (X:=ja7) joK jqG 10 65 ?_;intro args r h;exact jrO h
abbrev K3:=((Nat × Val) × (Nat × Val)) × Bool × Int × Int
def jgB (c:K3):St:=mkS 32 [(1,.one (.c (.sl [.str] c.1.2.1 c.1.2.2))),(2,.one (.c (.fn (.func 110) [] []))),(6,.one (.c (.bool c.2.1))),(15,.one (.c (.sl [.int .i64] c.1.1.1 c.1.1.2))),(16,.one (.c (.int .i64 c.2.2.1))),(17,.one (.c (.int .i64 c.2.2.2)))] []
def FO:List (Nat × AV)->Mem->Option K3
 | [(1,.one (.c (.sl [.str] n ρ))),(2,.one (.c (.fn (.func 110) [] []))),(6,.one (.c (.bool b))),(15,.one (.c (.sl [.int .i64] m κ))),(16,.one (.c (.int .i64 l))),(17,.one (.c (.int .i64 i)))],[]=>some (((m,κ),(n,ρ)),b,l,i)
 | _,_=>none
theorem jeo:∀ l m c,FO l m=some c->mkS 32 l m=jgB c:=by
 intro l m c h;unfold FO at h;split at h
 ·cases h;rfl
 ·cases h
def Gy (v:Bool):St:=mkS 32 [(6,.one (.c (.bool v)))] []
def XM:List (Nat × AV)->Mem->Option Bool
 | [(6,.one (.c (.bool v)))],[]=>some v
 | _,_=>none
theorem Vn:∀ l m c,XM l m=some c->mkS 32 l m=Gy c:=by
 intro l m c h;unfold XM at h;split at h
 ·cases h;rfl
 ·cases h
def A182:Sx.Frame K3 Bool:=⟨0,32,[1,2,6,15,16,17],FO,jgB,[6],XM,Gy⟩
theorem jnZ:A182.Ok:=.of_eq jeo Vn
noncomputable abbrev Nk:Hd:=⟨[],[(110,nG jb9)],[],[]⟩
theorem jlI:HdOk Tryz.prog Nk:=HdOk.nil.ucCons jmP
def jna (g:K3->Tree (XP × Bool)) (c:K3):Tree (XP × Bool) :=
 let i:=c.2.2.2
 let w:=wAt c.1.2.2 i.toNat
 .br (lt i c.2.2.1) (.need (jc i c.1.1.1) (.need (jc i c.1.2.1) (.need (nmD (jE w)) (.br (!zc (nAt c.1.1.2 i.toNat) w) (.leaf (.ret,false)) (g (c.1,c.2.1,c.2.2.1,IntKind.wrap .i64 (i+1))))))) (.leaf (.exit 0,c.2.1))
theorem jjh (g:K3->Tree (XP × Bool)) (m:Nat) (κ:Val) (n:Nat) (ρ:Val) (b:Bool) (l i:Int):jD A182 Tryz.prog Nk X0 10 120 0 g (((m,κ),(n,ρ)),b,l,i)=jna g (((m,κ),(n,ρ)),b,l,i):=by kernel_rfl
def eqL (m:Nat) (κ:Val) (n:Nat) (ρ:Val) (l:Int):Nat->Int->Option Bool
 | 0,_=>none
 | k+1,i=>bif lt i l then (bif jc i m then (bif jc i n then (bif nmD (jE (wAt ρ i.toNat)) then (bif !zc (nAt κ i.toNat) (wAt ρ i.toNat) then some false else eqL m κ n ρ l k (IntKind.wrap .i64 (i+1))) else none) else none) else none) else some true
def aj (k:Nat) (c:K3):Tree (XP × Bool) :=
 let x:=eqL c.1.1.1 c.1.1.2 c.1.2.1 c.1.2.2 c.2.2.1 k c.2.2.2
 .need (obD x) (.br (obV x) (.leaf (.exit 0,c.2.1)) (.leaf (.ret,false)))
theorem RH (k : Nat) (c : K3) : (aj k c).sel = match eqL c.1.1.1 c.1.1.2 c.1.2.1 c.1.2.2 c.2.2.1 k c.2.2.2 with
  | some true=>some (.exit 0,c.2.1)
  | some false=>some (.ret,false)
  | none=>none:=by
 unfold aj;cases eqL c.1.1.1 c.1.1.2 c.1.2.1 c.1.2.2 c.2.2.1 k c.2.2.2 with
 | none=>rfl
 | some x=>cases x<;>rfl
theorem jiP (k:Nat) (c:K3) (x:XP × Bool) (h:(aj (k+1) c).sel=some x):(jD A182 Tryz.prog Nk X0 10 120 0 (aj k) c).sel=some x:=by
 obtain ⟨⟨⟨m,κ⟩,⟨n,ρ⟩⟩,b,l,i⟩:=c;rw [jjh];rw [RH] at h;unfold eqL at h;unfold jna;simp only [j9,jG,j3,RH];revert h;cases lt i l with
 | false=>exact fun h=>h
 | true =>
   cases jc i m with
  | false=>exact fun h=>h
  | true =>
    cases jc i n with
   | false=>exact fun h=>h
   | true =>
     cases nmD (jE (wAt ρ i.toNat)) with
    | false=>exact fun h=>h
    | true=>cases zc (nAt κ i.toNat) (wAt ρ i.toNat)<;>exact fun h=>h
theorem jkw:∀ k,CoreOk Tryz.prog 120 0 0 jgB Gy (aj k) :=
 CoreOk.fuel (A:=A182) jnZ jlI x0 10 (fun _=>rfl) jiP
def jiz (c:K3):Tree (XP × Bool):=aj (c.1.1.1+1) c
def jar:HdP:=⟨[],[],[],[((120,0),qz A182 jiz)],[],0,[]⟩
theorem jqP:XOk Tryz.prog jar:=XOk.nil.lxCons (CoreOk.lx (g:=jiz) jnZ fun fn c b h1 h2 h3 c0 x hx=>jkw _ fn c b h1 h2 h3 c0 x hx)
def eqS (m:Nat) (κ:Val) (n:Nat) (ρ:Val):Option Bool:=bif ja m != ja n then some false else eqL m κ n ρ (ja m) (m+1) 0
def jcz:List A1->Option (Bool × AV)
 | [.c (.sl [.int .i64] m κ),.c (.sl [.str] n ρ),.c (.fn (.func 110) [] [])]=>some (obD (eqS m κ n ρ),.one (.c (.bool (obV (eqS m κ n ρ)))))
 | _=>none
def jfz (m:Nat) (κ:Val) (n:Nat) (ρ:Val):Tree AV :=
 let x:=eqL m κ n ρ (ja m) (m+1) 0
 .br (ja m != ja n) (.leaf (.one (.c (.bool false)))) (.need (obD x) (.br (obV x) (.leaf (.one (.c (.bool true)))) (.leaf (.one (.c (.bool false))))))
theorem jiQ (m:Nat) (κ:Val) (n:Nat) (ρ:Val):qf Tryz.prog Nk jar 10 120 [.c (.sl [.int .i64] m κ),.c (.sl [.str] n ρ),.c (.fn (.func 110) [] [])]=jfz m κ n ρ:=by kernel_rfl
theorem jhS (m:Nat) (κ:Val) (n:Nat) (ρ:Val) (h:obD (eqS m κ n ρ)=true):(jfz m κ n ρ).All (fun x=>leA x (.one (.c (.bool (obV (eqS m κ n ρ)))))):=by
 unfold jfz;unfold eqS at h ⊢;revert h;cases (ja m != ja n) with
 | true=>exact fun _=>jl rfl leA.refl
 | false =>
   simp only [cond_false];cases eqL m κ n ρ (ja m) (m+1) 0 with
  | none=>exact fun h=>by cases h
  | some b=>cases b<;>exact fun _=>jl rfl leA.refl
theorem jqt {args:List A1} {r:AV} (h:jcz args=some (true,r)):(qf Tryz.prog Nk jar 10 120 args).All (fun x=>leA x r):=by
 unfold jcz at h;split at h
 ·rename_i m κ n ρ;rw [jiQ];simp only [sIq,pIq] at h;obtain ⟨h1,h2⟩:=h;rw [← h2];exact jhS m κ n ρ h1
 ·cases h
theorem jqs:UcOne Tryz.prog 120 (nG jcz):=by
 refine jR (H:=Nk) (X:=jar) jlI jqP 10 120 ?_;intro args r h;exact jqt h
noncomputable abbrev jbd:Hd:=⟨[],[(109,nG jac),(120,nG jcz)],[],[]⟩
theorem jrI:HdOk Tryz.prog jbd:=(HdOk.nil.ucCons jqs).ucCons jnS
def TW (n:Nat) (ρ:Val):Option Bool:=eqS (zZ (zL (wAt ρ 0))).length (Yt (zZ (zL (wAt ρ 0)))) (n - 1) (ρ.from 1)
def Uw (ρ:Val):Bool:=!(Nat.beq (zL (wAt ρ 0)) 0)
def QX (n:Nat) (ρ:Val):Option Bool:=bif ja n==0 then some false else bif Uw ρ then TW n ρ else some false
def jbA:List A1->Option (Bool × AV)
 | [.c (.sl [.str] n ρ)]=>some (obD (QX n ρ),.one (.c (.bool (obV (QX n ρ)))))
 | _=>none
def t164 (n:Nat) (ρ:Val):Tree AV :=
 .br (ja n==0) (.leaf (.one (.c (.bool false)))) (.need (jc 0 n) (.need true (.br (Uw ρ==true)
  (.need (le 0 1&&le 1 (ja n)) (.need (!((Uw ρ==true)&&true)||obD (TW n ρ)) (.leaf (.one (.c (.bool (bif Uw ρ then obV (TW n ρ) else false)))))))
  (.need (!((Uw ρ==true)&&true)) (.leaf (.one (.c (.bool (bif Uw ρ then false else false)))))))))
theorem jkU (n:Nat) (ρ:Val):j5 Tryz.prog jbd 10 99 [.c (.sl [.str] n ρ)]=t164 n ρ:=by kernel_rfl
theorem jgf (n:Nat) (ρ:Val) (h:obD (QX n ρ)=true):(t164 n ρ).All (fun x=>leA x (.one (.c (.bool (obV (QX n ρ)))))):=by
 unfold t164;unfold QX at h ⊢;revert h;cases hz:(ja n==0) with
 | true=>exact fun _=>jl rfl leA.refl
 | false =>
   have hn:0<n:=by
    rcases Nat.eq_zero_or_pos n with rfl | h
    ·cases hz
    ·exact h
   have h1:jc 0 n=true:=by unfold jc le lt ja;simp;omega
   have h2:(le 0 1&&le 1 (ja n))=true:=by unfold le ja;simp;omega
   rw [h1,h2];simp only [cond_false];cases Uw ρ with
  | false=>exact fun _=>jl rfl leA.refl
  | true =>
    simp only [cond_true];intro h;refine ⟨(fun h=>by cases h),fun _=>⟨rfl,rfl,(fun _=>⟨rfl,?_,leA.refl⟩),(fun h=>by cases h)⟩⟩
    rw [h];rfl
theorem jrS {args:List A1} {r:AV} (h:jbA args=some (true,r)):(j5 Tryz.prog jbd 10 99 args).All (fun x=>leA x r):=by
 unfold jbA at h;split at h
 ·rename_i n ρ;rw [jkU];simp only [sIq,pIq] at h;obtain ⟨h1,h2⟩:=h;rw [← h2];exact jgf n ρ h1
 ·cases h
theorem jqT:UcOne Tryz.prog 99 (nG jbA):=by
 refine zm (H:=jbd) jrI 10 99 ?_;intro args r h;exact jrS h
def TN:List A1->Option AV
 | [.c (.str w)]=>some (.one (.c (.bool (bif bif jb w wIf then true else jb w qc then true else jb w zN))))
 | _=>none
theorem je7:PcOne Tryz.prog 67 TN:=kY (H:=h00) HdOk.nil 10 67 fun args r h=>by
 unfold TN at h;split at h
 ·rename_i w;have hr:=Option.some.inj h;refine ⟨by rw [← hr];rfl,.leaf (.one (.c (.bool (bif bif jb w wIf then true else jb w qc then true else jb w zN)))),by kernel_rfl,?_⟩
  rw [← hr];exact rfl
 ·cases h
abbrev X01:HdP:=⟨[],[],[],[],[],1,[]⟩
noncomputable def jb0 (n:Nat) (ρ:Val):Tree AV:=qf Tryz.prog h00 X01 10 85 [.c (.sl (jm 0) n ρ),.c .nils,.c (.fn (.func 60) [] [])]
theorem jmM (ρ:Val):(jb0 0 ρ).sel=some (.one (.c (.bool true))):=by kernel_rfl
theorem jnR (n:Nat) (ρ:Val):(jb0 (n+1) ρ).sel=some (.one (.c (.bool false))):=by kernel_rfl
def Fp:List A1->Option (Bool × AV)
 | [.c (.sl es n _),.c .nils,.c (.fn (.func 60) [] [])]=>if shEq.shsEq es (jm 0) then some (true,.one (.c (.bool (Nat.beq n 0)))) else none
 | _=>none
theorem jdr {args:List A1} {r:AV} (h:Fp args=some (true,r)):∃ n ρ,args=[.c (.sl (jm 0) n ρ),.c .nils,.c (.fn (.func 60) [] [])]∧r=.one (.c (.bool (Nat.beq n 0))):=by
 unfold Fp at h;split at h
 ·rename_i es n ρ;split at h
  ·rename_i hs;simp only [sIq,pIq,true_and] at h;exact ⟨n,ρ,by rw [jj hs],h.symm⟩
  ·cases h
 ·cases h
theorem jhC (n:Nat) (ρ:Val):(jb0 n ρ).sel=some (.one (.c (.bool (Nat.beq n 0)))):=by
 cases n with
 | zero=>exact jmM ρ
 | succ n=>exact jnR n ρ
theorem jrk {args:List A1} {r:AV} (h:Fp args=some (true,r)):(qf Tryz.prog h00 X01 10 85 args).All (fun x=>leA x r):=by
 obtain ⟨n,ρ,e1,e2⟩:=jdr h;have hs:=jhC n ρ;unfold jb0 at hs;rw [← e1,← e2] at hs;exact jl hs leA.refl
theorem jq9:UcOne Tryz.prog 85 (nG Fp):=by
 refine jR (H:=h00) (X:=X01) HdOk.nil XOk.nil 10 85 ?_;intro args r h;exact jrk h
def Y8 (e:RX):Bool:=bif bif jb e.op (bs []) then e.v==0 else false then Nat.beq e.n 0 else false
noncomputable abbrev jbw:Hd:=⟨[],[(85,nG Fp)],[],[]⟩
theorem jqZ:HdOk Tryz.prog jbw:=HdOk.nil.ucCons jq9
def Ty:List A1->Option (Bool × AV)
 | [.agg cs,.agg ds]=>match Dh cs,ds with
  | some e,[.str z,.int .i64 zz,.nils]=>if jb z (bs [])&&decide (zz=0) then some (true,.one (.c (.bool (Y8 e)))) else none
  | _,_=>none
 | _=>none
def jrT (e:RX):Tree AV :=
 let c:=bif jb e.op (bs []) then e.v==0 else false
 .need (!((c==true)&&true)||true) (.leaf (.one (.c (.bool (Y8 e)))))
theorem jkT (e:RX):j5 Tryz.prog jbw 10 60 [.agg e.cells,.agg [.str (bs []),.int .i64 0,.nils]]=jrT e:=by kernel_rfl
theorem jdv {args:List A1} {r:AV} (h:Ty args=some (true,r)):∃ e:RX,args=[.agg e.cells,.agg [.str (bs []),.int .i64 0,.nils]]∧r=.one (.c (.bool (Y8 e))):=by
 unfold Ty at h;split at h
 ·split at h
  ·rename_i cs ds e z zz he;split at h
   ·rename_i hc;simp only [aTq,decide_eq_true_eq] at hc;simp only [sIq,pIq,true_and] at h;rw [VO he,Jq hc.1,hc.2];exact ⟨e,rfl,h.symm⟩
   ·cases h
  ·cases h
 ·cases h
theorem jry {args:List A1} {r:AV} (h:Ty args=some (true,r)):(j5 Tryz.prog jbw 10 60 args).All (fun x=>leA x r):=by
 obtain ⟨e,e1,e2⟩:=jdv h;rw [e1,e2,jkT];refine ⟨?_,leA.refl⟩
 simp
theorem jrK:UcOne Tryz.prog 60 (nG Ty):=by
 refine zm (H:=jbw) jqZ 10 60 ?_;intro args r h;exact jry h
def jgY:List CV->Option RS
 | [.str kd, .sl [.str] wn wr, .str o, .int .i64 v, .sl es n ρ, .sl es1 bn br, .sl es2 en er, .int .i64 a] =>
   if shEq.shsEq es (jm 0)&&shEq.shsEq es1 (jm 1)&&shEq.shsEq es2 (jm 1) then some ⟨kd,wn,wr,⟨o,v,n,ρ⟩,bn,br,en,er,a⟩ else none
 | _=>none
theorem jcM {cs:List CV} {s:RS} (h:jgY cs=some s):cs=s.cells:=by
 unfold jgY at h;split at h
 ·split at h
  ·rename_i hc;simp only [aTq] at hc;cases h;rw [jj hc.1.1,jj hc.1.2,jj hc.2];rfl
  ·cases h
 ·cases h
noncomputable abbrev jap:Hd:=⟨[],[(60,nG Ty),(99,nG jbA),(65,nG jba)],[],[]⟩
theorem jqg:HdOk Tryz.prog jap:=((HdOk.nil.ucCons jrw).ucCons jqT).ucCons jrK
def Ye (s:RS):Bool :=
 bif jb s.kind wDo then obD (QX s.wn s.wρ) else bif jb s.kind wIf then true else bif jb s.kind qc then true else bif jb s.kind zN then true
  else bif jb s.kind kj then (!((lt 0 (ja s.wn)==true)&&true)||ooD (Y9 s.wn s.wρ)) else true
def Q1 (s:RS):Bool :=
 bif jb s.kind wDo then (bif bif obV (QX s.wn s.wρ) then Y8 s.cond else false then ja s.en==0 else false)
 else bif jb s.kind wIf then ja s.wn==0
 else bif jb s.kind qc then (bif bif bif ja s.wn==0 then ja s.en==0 else false then jb s.cond.op qy else false then le s.cond.v 99 else false)
 else bif jb s.kind zN then (bif bif ja s.wn==0 then ja s.bn==0 else false then ja s.en==0 else false)
 else bif jb s.kind kj then (bif bif bif bif lt 0 (ja s.wn) then !jcD (Y9 s.wn s.wρ) else false then Y8 s.cond else false then ja s.bn==0 else false then ja s.en==0 else false)
 else false
def TF:List A1->Option (Bool × AV)
 | [.agg cs]=>match jgY cs with
  | some s=>some (Ye s,.one (.c (.bool (Q1 s))))
  | none=>none
 | _=>none
def jeZ (s:RS):Tree AV :=
 let L:=fun b:Bool=>Tree.leaf (AV.one (.c (.bool b)))
 .need true (.br (jb s.kind wDo) (.need (obD (QX s.wn s.wρ)) (L (bif bif obV (QX s.wn s.wρ) then Y8 s.cond else false then ja s.en==0 else false)))
  (.br (jb s.kind wIf) (L (ja s.wn==0))
  (.br (jb s.kind qc) (L (bif bif bif ja s.wn==0 then ja s.en==0 else false then jb s.cond.op qy else false then le s.cond.v 99 else false))
  (.br (jb s.kind zN) (L (bif bif ja s.wn==0 then ja s.bn==0 else false then ja s.en==0 else false))
  (.br (jb s.kind kj) (.need (!((lt 0 (ja s.wn)==true)&&true)||ooD (Y9 s.wn s.wρ)) (L (bif bif bif bif lt 0 (ja s.wn) then !jcD (Y9 s.wn s.wρ) else false then Y8 s.cond else false then ja s.bn==0 else false then ja s.en==0 else false)))
  (L false))))))
theorem jkV (s:RS):j5 Tryz.prog jap 10 74 [.agg s.cells]=jeZ s:=by kernel_rfl
theorem jhw (s:RS) (h:Ye s=true):(jeZ s).All (fun x=>leA x (.one (.c (.bool (Q1 s))))):=by
 unfold jeZ;unfold Ye at h;unfold Q1;revert h;cases jb s.kind wDo with
 | true=>exact fun h=>⟨rfl,(fun _=>⟨h,leA.refl⟩),(fun h=>by cases h)⟩
 | false =>
 cases jb s.kind wIf with
 | true=>exact fun _=>jl rfl leA.refl
 | false =>
 cases jb s.kind qc with
 | true=>exact fun _=>jl rfl leA.refl
 | false =>
 cases jb s.kind zN with
 | true=>exact fun _=>jl rfl leA.refl
 | false =>
 cases jb s.kind kj with
 | true=>exact fun h=>⟨rfl,(fun h=>by cases h),fun _=>⟨(fun h=>by cases h),fun _=>⟨(fun h=>by cases h),fun _=>⟨(fun h=>by cases h),fun _=>⟨(fun _=>⟨h,leA.refl⟩),(fun h=>by cases h)⟩⟩⟩⟩⟩
 | false=>exact fun _=>jl rfl leA.refl
theorem jd0 {args:List A1} {r:AV} (h:TF args=some (true,r)):∃ s:RS,args=[.agg s.cells]∧Ye s=true∧r=.one (.c (.bool (Q1 s))):=by
 unfold TF at h;split at h
 ·split at h
  ·rename_i cs s hs;simp only [sIq,pIq] at h;exact ⟨s,by rw [jcM hs],h.1,h.2.symm⟩
  ·cases h
 ·cases h
theorem jro {args:List A1} {r:AV} (h:TF args=some (true,r)):(j5 Tryz.prog jap 10 74 args).All (fun x=>leA x r):=by
 obtain ⟨s,e1,h1,e2⟩:=jd0 h;rw [e1,e2,jkV];exact jhw s h1
theorem jrA:UcOne Tryz.prog 74 (nG TF):=by
 refine zm (H:=jap) jqg 10 74 ?_;intro args r h;exact jro h
end Go.Proofs.YtiefjlcakpdfeaaGreatDoor