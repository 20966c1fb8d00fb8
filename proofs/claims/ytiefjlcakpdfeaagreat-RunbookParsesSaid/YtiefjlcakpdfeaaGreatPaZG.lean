/-
 Part PaZG of the proof: RqQ RpG RpH RpI RpJ RdL RpL RpN RpO RqR.
-/
import Derived.Test.YtiefjlcakpdfeaaGreatPaZF
import Derived.Test.YtiefjlcakpdfeaaGreatPaZD
import Derived.Test.YtiefjlcakpdfeaaGreatPaZE
namespace Go.Proofs.YtiefjlcakpdfeaaGreat
open Go Go.Sx Go.RowKit Rb
set_option maxRecDepth 100000
noncomputable abbrev H9 (f d:Nat):Hd:=⟨[pF 38,pF 39,pF 41,pF 92,pF 138],[(40,nG G34),(42,nG (G42 f d))],[],[]⟩
theorem h9 (f d:Nat):HdOk Tryz.prog (H9 f d):=((((((HdOk.nil.ucCons (p42 f d)).ucCons p40).pF 138).pF 92).pF 41).pF 39).pF 38
abbrev X9 (B:ByteArray->QS->PR QS (List RS)):HdP:=⟨(41,localG 89 (UBq B))::Xx,[],[],[],[],0,41::[138,39,92,38]⟩
theorem x9 {B:ByteArray->QS->PR QS (List RS)} (hB:jn Tryz.prog 41 (localG 89 (UBq B))):XOk Tryz.prog (X9 B):=(Ka 0).loCons hB (LocFn.localG _ _)
def WT {τ:Type} (nx:QS->PR QS Unit) (blk:QS->PR QS (List τ)) (N:Int) (p0:QS):PR QS (ByteArray × List τ) :=
 (nx p0).bind fun _ p1=>(jN nx ZD p1).bind fun _ p2=>bif yg p2.tx then
  (bif !qk p2.tx then PR.ret () (jW p2) else .ret () p2).bind fun _ p3=>(bif !p3.bad then nx p3 else .ret () p3).bind fun _ p4 =>
   (blk p4).bind fun l p5=>.ret (p2.tx,l) (bif (bif !p5.bad then lt p5.pos N else false) then jW p5 else p5) else .stuck
def W9 (f d:Nat):PR QS (ByteArray × List RS)->Option Qq
 | .ret x p=>bif p.bad then some (bs [],[],p.pos,4) else match JC f d x.1 x.2.length (jR x.2) with
  | none=>none
  | some e=>bif e != 0 then some (bs [],[],0,e) else some (x.1,x.2,0,0)
 | _=>none
def Yq (f d:Nat) (B:ByteArray->QS->PR QS (List RS)) (s:ByteArray):Option Qq :=
 bif lt 8192 (ja s.size) then some (bs [],[],0,5) else W9 f d (WT (jo s) (B s) (ja s.size) ⟨bs [],0,0,false⟩)
def G9 (f d:Nat) (B:ByteArray->QS->PR QS (List RS)):List A1->Option (Bool × AV)
 | [.c (.str s)]=>some (oB (Yq f d B s),BZ (oV (Yq f d B s)))
 | _=>none
def t9C (f d:Nat) (w:ByteArray) (l:List RS) (p:QS):Tree AV :=
 .br p.bad (.leaf (QH p.pos 4)) (.need (opD (JC f d w l.length (jR l))) (.br (opN (JC f d w l.length (jR l)) != 0) (.leaf (QH 0 (opN (JC f d w l.length (jR l))))) (.leaf (KQ w l.length (jR l) 0 0))))
def t9B (f d:Nat) (B:ByteArray->QS->PR QS (List RS)) (s w:ByteArray) (p:QS):Tree AV :=
 nxQ [] (B s p) fun l p5=>.br (bif !p5.bad then lt p5.pos (ja s.size) else false) (t9C f d w l (jW p5)) (t9C f d w l p5)
def t9A (f d:Nat) (B:ByteArray->QS->PR QS (List RS)) (s w:ByteArray) (p:QS):Tree AV :=
 .br (!p.bad) (nxQ () (jo s p) fun _ p4=>t9B f d B s w p4) (t9B f d B s w p)
def t9 (f d:Nat) (B:ByteArray->QS->PR QS (List RS)) (s:ByteArray):Tree AV :=
 .br (lt 8192 (ja s.size)) (.leaf (QH 0 5)) (nxQ () (jo s ⟨bs [],0,0,false⟩) fun _ p1=>nxQ () (jN (jo s) ZD p1) fun _ p2 =>
  .need (yg p2.tx) (.br (!qk p2.tx) (t9A f d B s p2.tx (jW p2)) (t9A f d B s p2.tx p2)))
theorem jp9 (f d:Nat) (B:ByteArray->QS->PR QS (List RS)) (s:ByteArray):jI Tryz.prog (H9 f d) (X9 B) 10 9 [.c (.str s)]=t9 f d B s:=by kernel_rfl
theorem Says.need {c:Bool} {T:Tree AV} {o:Option Qq} (hc:c=true) (h:Says T o):Says (.need c T) o:=by
 cases o with
 | none=>exact trivial
 | some x=>exact ⟨hc,h⟩
theorem Says.br {c:Bool} {A B:Tree AV} {x y:Option Qq} (h1:c=true->Says A x) (h2:c=false->Says B y):Says (.br c A B) (bif c then x else y):=by
 cases c with
 | true =>
   have:=h1 rfl
   cases x with
  | none=>exact trivial
  | some z=>exact ⟨fun _=>this,fun h=>by cases h⟩
 | false =>
   have:=h2 rfl
   cases y with
  | none=>exact trivial
  | some z=>exact ⟨fun h=>(by cases h),fun _=>this⟩
theorem Says.bindQ {f d:Nat} {α:Type} {v0:α} {x:PR QS α} {K:α->QS->Tree AV} {F:α->QS->PR QS (ByteArray × List RS)} (h:∀ v p,Says (K v p) (W9 f d (F v p))):Says (nxQ v0 x K) (W9 f d (x.bind F)):=by
 cases x with
 | stuck=>exact trivial
 | pan a=>exact trivial
 | ret v p=>exact Says.need rfl (h v p)
theorem TV (f d:Nat) (w:ByteArray) (l:List RS) (p:QS):Says (t9C f d w l p) (W9 f d (.ret (w,l) p)):=by
 unfold t9C W9;refine Says.br (fun _=>ZK) fun _ => ?_;cases JC f d w l.length (jR l) with
 | none=>exact trivial
 | some e =>
   refine Says.need rfl ?_;exact Says.br (fun _=>ZK) fun _=>leA.refl
theorem TR (f d : Nat) (B : ByteArray -> QS -> PR QS (List RS)) (s w : ByteArray) (p : QS) :
  Says (t9B f d B s w p) (W9 f d ((B s p).bind fun l p5=>.ret (w,l) (bif (bif !p5.bad then lt p5.pos (ja s.size) else false) then jW p5 else p5))):=by
 refine Says.bindQ fun l p5 => ?_;cases (bif !p5.bad then lt p5.pos (ja s.size) else false) with
 | true=>exact Says.br (c:=true) (y:=none) (fun _=>TV f d w l (jW p5)) fun h=>by cases h
 | false=>exact Says.br (c:=false) (x:=none) (fun h=>by cases h) fun _=>TV f d w l p5
theorem D4 (f d : Nat) (B : ByteArray -> QS -> PR QS (List RS)) (s w : ByteArray) (p : QS) :
  Says (t9A f d B s w p) (W9 f d ((bif !p.bad then jo s p else .ret () p).bind fun _ p4=>(B s p4).bind fun l p5=>.ret (w,l) (bif (bif !p5.bad then lt p5.pos (ja s.size) else false) then jW p5 else p5))):=by
 unfold t9A;cases (!p.bad) with
 | true=>exact Says.br (c:=true) (y:=none) (fun _=>Says.bindQ fun _ p4=>TR f d B s w p4) fun h=>by cases h
 | false=>exact Says.br (c:=false) (x:=none) (fun h=>by cases h) fun _=>TR f d B s w p
theorem jjm (f d:Nat) (B:ByteArray->QS->PR QS (List RS)) (s:ByteArray):Says (t9 f d B s) (Yq f d B s):=by
 unfold t9 Yq WT;refine Says.br (fun _=>ZK) fun _=>Says.bindQ fun _ p1=>Says.bindQ fun _ p2 => ?_;cases hn:yg p2.tx with
 | false=>exact trivial
 | true =>
   refine Says.need rfl ?_;cases (!qk p2.tx) with
  | true=>exact Says.br (c:=true) (y:=none) (fun _=>D4 f d B s p2.tx (jW p2)) fun h=>by cases h
  | false=>exact Says.br (c:=false) (x:=none) (fun h=>by cases h) fun _=>D4 f d B s p2.tx p2
theorem u9 {f d:Nat} {B:ByteArray->QS->PR QS (List RS)} {args:List A1} {r:AV} (h:G9 f d B args=some (true,r)):(jI Tryz.prog (H9 f d) (X9 B) 10 9 args).All (fun x=>leA x r):=by
 unfold G9 at h;split at h
 ·rename_i s;rw [jp9];simp only [sIq,pIq] at h;obtain ⟨h1,h2⟩:=h;rw [← h2]
  have:=jjm f d B s
  cases hp:Yq f d B s with
  | none=>rw [hp] at h1;cases h1
  | some x=>rw [hp] at this;exact this
 ·cases h
theorem p9 (f d:Nat) {B:ByteArray->QS->PR QS (List RS)} (hB:jn Tryz.prog 41 (localG 89 (UBq B))):jj Tryz.prog 9 (nG (G9 f d B)):=by
 refine jz (H:=H9 f d) (X:=X9 B) (h9 f d) (x9 hB) 10 9 ?_;intro args r h;exact u9 h
abbrev Rl:=ByteArray × List AstS × Int × Int
def Jk (x:Rl):Qq:=(x.1,AstS.dens x.2.1,x.2.2)
def B9 (x:ByteArray × List AstS):Int:=opN (jX 40 10001 x.1 x.2.length (jR (AstS.dens x.2)))
def jbV:PR LS (ByteArray × List AstS)->Rl
 | .stuck=>(bs [],[],0,0)
 | .pan a=>(bs [],[],a,4)
 | .ret x _=>bif B9 x != 0 then (bs [],[],0,B9 x) else (x.1,x.2,0,0)
def kU (s:ByteArray):Rl:=bif lt 8192 (ja s.size) then (bs [],[],0,5) else jbV (Y1 s.size (lst s))
theorem jf4 (s:ByteArray) (hs:s.size<=9000):ZB 40 10001 (blK 10000 10000) s=some (Jk (kU s)):=by
 unfold ZB kU;cases lt 8192 (ja s.size) with
 | true=>rfl
 | false =>
   simp only [cond_false];have h1:=jdN hs;have h2:=B3 s.size (l:=lst s) hs;show ye 40 10001 (yY (MP s) (sts (MP s) AR 10000 10000).2 ⟨0,bs [],0⟩)=_;cases hb:Y1 s.size (lst s) with
  | stuck=>rw [hb] at h2;exact h2.elim
  | pan a =>
    rw [hb] at h1;cases hp:yY (MP s) (sts (MP s) AR 10000 10000).2 ⟨0,bs [],0⟩ with
   | stuck=>rw [hp] at h1;cases h1
   | pan a'=>rw [hp] at h1;cases h1 with | pan h=>subst h;rfl
   | ret v s'=>rw [hp] at h1;cases h1
  | ret x q =>
    rw [hb] at h1 h2;obtain ⟨w1,w2,w3⟩:=h2;cases hp:yY (MP s) (sts (MP s) AR 10000 10000).2 ⟨0,bs [],0⟩ with
   | stuck=>rw [hp] at h1;cases h1
   | pan a'=>rw [hp] at h1;cases h1
   | ret v s' =>
     rw [hp] at h1;cases h1 with
    | ret hv hs' =>
     obtain ⟨v1,v2⟩:=v;obtain ⟨x1,x2⟩:=x;obtain ⟨rfl,hl⟩:=hv;have hl:=Vv hl;simp only at hl;subst hl;have hf:=(HM (f:=40) (d:=10001) (k:=10000) (lRq _) (by omega) (lRq _) w1 (SR.reflL x2) w2 w3).2
     unfold ye jbV B9;simp only [QN];cases he:jX 40 10001 v1 x2.length (jR (AstS.dens x2)) with
    | none=>rw [he] at hf;cases hf
    | some e =>
      simp only [opN];cases e != 0<;>rfl
structure C98 where
 n:Nat
 ρ:Val
 m:Nat
 σ:Val
 r:Bool
 i:Int
def S98 (c:C98):St:=mkS 26 [(0,.one (.c (.sl [.str] c.n c.ρ))),(1,.one (.c (.sl [.str] c.m c.σ))),(4,.one (.c (.bool c.r))),(5,.one (.c (.int .i64 c.i)))] []
def jbp (l:List (Nat × AV)) (m:Mem):Option C98:=match l,m with
 | [(0,.one (.c (.sl [.str] n ρ))),(1,.one (.c (.sl [.str] k σ))),(4,.one (.c (.bool r))),(5,.one (.c (.int .i64 i)))],[]=>some ⟨n,ρ,k,σ,r,i⟩
 | _,_=>none
theorem jeA:∀ l m c,jbp l m=some c->mkS 26 l m=S98 c:=by
 intro l m c h;unfold jbp at h;split at h
 ·cases h;rfl
 ·cases h
def E98 (n:Nat) (b:Bool):St:=mkS n [(4,.one (.c (.bool b)))] []
def VV (l:List (Nat × AV)) (m:Mem):Option Bool:=match l,m with
 | [(4,.one (.c (.bool b)))],[]=>some b
 | _,_=>none
theorem V9 (n:Nat):∀ l m c,VV l m=some c->mkS n l m=E98 n c:=by
 intro l m c h;unfold VV at h;split at h
 ·cases h;rfl
 ·cases h
def A98:Sx.Frame C98 Bool:=⟨0,26,[0,1,4,5],jbp,S98,[4],VV,E98 26⟩
theorem a98:A98.Ok:=.of_eq jeA (V9 26)
noncomputable abbrev H00:Hd:=⟨[],[],[],[]⟩
def r98 (g:C98->Tree (XE × Bool)) (c:C98):Tree (XE × Bool) :=
 .br (lt c.i (ja c.n)) (.need (jc c.i c.n) (.need (jc c.i c.m) (.br (!jb (wd c.ρ c.i.toNat) (wd c.σ c.i.toNat)) (.leaf (.ret,false)) (g { c with i:=IntKind.wrap .i64 (c.i+1) })))) (.leaf (.exit 0,c.r))
theorem jm0 (g:C98->Tree (XE × Bool)) (c:C98):Zl A98 Tryz.prog H00 10 98 0 g c=r98 g c:=by kernel_rfl
def g98 (k:Nat) (c:C98):Tree (XE × Bool) :=
 let o:=Qn c.n c.ρ c.m c.σ (ja c.n) k c.i
 .need (os1 o) (.br (ov1 false o) (.leaf (.exit 0,c.r)) (.leaf (.ret,false)))
def jh6 (r:Bool):Option Bool->Option (XE × Bool)
 | some b=>some (bif b then (.exit 0,r) else (.ret,false))
 | none=>none
theorem jaj (k:Nat) (c:C98):(g98 k c).sel=jh6 c.r (Qn c.n c.ρ c.m c.σ (ja c.n) k c.i):=by
 unfold g98;cases Qn c.n c.ρ c.m c.σ (ja c.n) k c.i with
 | none=>rfl
 | some b=>cases b<;>rfl
theorem jlN (k:Nat) (c:C98) (x:XE × Bool) (h:(g98 (k+1) c).sel=some x):(Zl A98 Tryz.prog H00 10 98 0 (g98 k) c).sel=some x:=by
 rw [jm0];rw [jaj] at h;unfold Qn at h;unfold r98;simp only [jK,jt,jE,jaj];revert h;cases lt c.i (ja c.n) with
 | false=>exact fun h=>h
 | true =>
 cases jc c.i c.n with
 | false=>exact fun h=>h
 | true =>
 cases jc c.i c.m with
 | false=>exact fun h=>h
 | true =>
 cases !jb (wd c.ρ c.i.toNat) (wd c.σ c.i.toNat)<;>exact fun h=>h
theorem jnP:∀ k,LCore Tryz.prog 98 0 0 S98 (E98 26) (g98 k):=LCore.fuel (A:=A98) a98 HdOk.nil 10 (fun _=>rfl) jlN
def jqq (c:C98):Tree (XE × Bool):=g98 (c.n+1) c
noncomputable abbrev H98:Hd:=⟨[],[],[((98,0),Hb A98 jqq)],[]⟩
theorem h98:HdOk Tryz.prog H98:=HdOk.lhCons HdOk.nil fun fn c b h1 h2 h3=>LCore.ok (A:=A98) a98 (fun fn c b h1 h2 h3 c0 x hx=>jnP (c0.n+1) fn c b h1 h2 h3 c0 x hx) fn c b h1 h2 h3
def t98 (n:Nat) (ρ:Val) (m:Nat) (σ:Val):Tree AV :=
 let o:=Qn n ρ m σ (ja n) (n+1) 0
 .br (ja n != ja m) (.leaf (jF false)) (.need (os1 o) (.br (ov1 false o) (.leaf (jF true)) (.leaf (jF false))))
theorem jnL (n:Nat) (ρ:Val) (m:Nat) (σ:Val):(jU Tryz.prog H98 10 98 [.c (.sl [.str] n ρ),.c (.sl [.str] m σ)] []).vals=t98 n ρ m σ:=by kernel_rfl
theorem jk1 {n:Nat} {ρ:Val} {m:Nat} {σ:Val} (h:os1 (ZT n ρ m σ)=true):(t98 n ρ m σ).All (fun z=>z=jF (ov1 false (ZT n ρ m σ))):=by
 unfold t98;unfold ZT at h ⊢;revert h;cases (ja n != ja m) with
 | true=>exact fun _=>jk rfl rfl
 | false =>
   simp only [cond_false];intro h;cases ho:Qn n ρ m σ (ja n) (n+1) 0 with
  | none=>rw [ho] at h;cases h
  | some b=>cases b<;>exact jk rfl rfl
theorem p98:TcOne Tryz.prog 98 (nG G16):=qC h98 10 98 fun args r h=>by
 unfold G16 at h;split at h
 ·rename_i n ρ m σ;simp only [sIq,pIq] at h;obtain ⟨h1,rfl⟩:=h;refine ⟨rfl,_,jnL n ρ m σ,?_⟩;exact jk1 h1
 ·cases h
abbrev RXX:=RX->RX->Option Bool
def G99 (R:RXX):List A1->Option (Bool × AV)
 | [.agg [.str o,.int .i64 v,.sl es n ρ],.agg [.str o',.int .i64 v',.sl es' m σ]]=>if shEq.shsEq es (aw 0)&&shEq.shsEq es' (aw 0) then some (os1 (R ⟨o,v,n,ρ⟩ ⟨o',v',m,σ⟩),jF (ov1 false (R ⟨o,v,n,ρ⟩ ⟨o',v',m,σ⟩))) else none
 | _=>none
structure C99 where
 x:RX
 y:RX
 r:Bool
 i:Int
def S99 (c:C99):St:=mkS 46 [(2,.one (.c (.ptr 0 0))),(3,.one (.c (.ptr 1 0))),(4,.one (.c (.bool c.r))),(5,.one (.c (.int .i64 c.i)))] [some (50,c.x.cells),some (50,c.y.cells)]
def jcS (l:List (Nat × AV)) (m:Mem):Option C99:=match l,m with
 | [(2, .one (.c (.ptr 0 0))), (3, .one (.c (.ptr 1 0))), (4, .one (.c (.bool r))), (5, .one (.c (.int .i64 i)))], [some (50, [.str o, .int .i64 v, .sl es n ρ]), some (50, [.str o', .int .i64 v', .sl es' k σ])] =>
   if shEq.shsEq es (aw 0)&&shEq.shsEq es' (aw 0) then some ⟨⟨o,v,n,ρ⟩,⟨o',v',k,σ⟩,r,i⟩ else none
 | _,_=>none
theorem jhk:∀ l m c,jcS l m=some c->mkS 46 l m=S99 c:=by
 intro l m c h;unfold jcS at h;split at h
 ·split at h
  ·rename_i hs;rw [aTq] at hs;cases h;rw [jm hs.1,jm hs.2];rfl
  ·cases h
 ·cases h
def A99:Sx.Frame C99 Bool:=⟨0,46,[2,3,4,5],jcS,S99,[4],VV,E98 46⟩
theorem a99:A99.Ok:=.of_eq jhk (V9 46)
noncomputable abbrev jh0 (R:RXX):Hd:=⟨[(99,nG (G99 R))],[],[],[]⟩
theorem jrj {R:RXX} (hR:TcOne Tryz.prog 99 (nG (G99 R))):HdOk Tryz.prog (jh0 R):=HdOk.nil.tcCons hR
def r99 (R:RXX) (g:C99->Tree (XE × Bool)) (c:C99):Tree (XE × Bool) :=
 let o:=R (yd c.x.ρ c.i.toNat) (yd c.y.ρ c.i.toNat)
 .br (lt c.i (ja c.x.n)) (.need (jc c.i c.x.n) (.need (jc c.i c.y.n) (.need (os1 o) (.br (!ov1 false o) (.leaf (.ret,false)) (g { c with i:=IntKind.wrap .i64 (c.i+1) }))))) (.leaf (.exit 0,c.r))
theorem jmQ (R:RXX) (g:C99->Tree (XE × Bool)) (c:C99):Zl A99 Tryz.prog (jh0 R) 10 99 0 g c=r99 R g c:=by kernel_rfl
def Yg (R:RXX) (x y:RX) (l:Int):Nat->Int->Option Bool
 | 0,_=>none
 | k+1,i=>bif lt i l then nd (jc i x.n) (nd (jc i y.n) ((R (yd x.ρ i.toNat) (yd y.ρ i.toNat)).bind fun b=>bif !b then some false else Yg R x y l k (IntKind.wrap .i64 (i+1)))) else some true
def g99 (R:RXX) (k:Nat) (c:C99):Tree (XE × Bool) :=
 let o:=Yg R c.x c.y (ja c.x.n) k c.i
 .need (os1 o) (.br (ov1 false o) (.leaf (.exit 0,c.r)) (.leaf (.ret,false)))
theorem I4 (R:RXX) (k:Nat) (c:C99):(g99 R k c).sel=jh6 c.r (Yg R c.x c.y (ja c.x.n) k c.i):=by
 unfold g99;cases Yg R c.x c.y (ja c.x.n) k c.i with
 | none=>rfl
 | some b=>cases b<;>rfl
theorem jo7 (R:RXX) (k:Nat) (c:C99) (x:XE × Bool) (h:(g99 R (k+1) c).sel=some x):(Zl A99 Tryz.prog (jh0 R) 10 99 0 (g99 R k) c).sel=some x:=by
 rw [jmQ];rw [I4] at h;unfold Yg at h;unfold r99;simp only [jK,jt,jE,I4];revert h;cases lt c.i (ja c.x.n) with
 | false=>exact fun h=>h
 | true =>
 cases jc c.i c.x.n with
 | false=>exact fun h=>h
 | true =>
 cases jc c.i c.y.n with
 | false=>exact fun h=>h
 | true =>
 simp only [nd,cond_true];cases R (yd c.x.ρ c.i.toNat) (yd c.y.ρ c.i.toNat) with
 | none=>exact fun h=>h
 | some b=>cases b<;>exact fun h=>h
theorem jmL {R:RXX} (hR:TcOne Tryz.prog 99 (nG (G99 R))):∀ k,LCore Tryz.prog 99 0 0 S99 (E98 46) (g99 R k):=LCore.fuel (A:=A99) a99 (jrj hR) 10 (fun _=>rfl) (jo7 R)
def jrw (R:RXX) (c:C99):Tree (XE × Bool):=g99 R (c.x.n+1) c
noncomputable abbrev H99 (R:RXX):Hd:=⟨[],[],[((99,0),Hb A99 (jrw R))],[]⟩
theorem h99 {R:RXX} (hR:TcOne Tryz.prog 99 (nG (G99 R))):HdOk Tryz.prog (H99 R):=HdOk.lhCons HdOk.nil fun fn c b h1 h2 h3=>LCore.ok (A:=A99) a99 (fun fn c b h1 h2 h3 c0 x hx=>jmL hR (c0.x.n+1) fn c b h1 h2 h3 c0 x hx) fn c b h1 h2 h3
def Dv (x y:RX):Bool:=bif (bif !jb x.op y.op then true else x.v != y.v) then true else ja x.n != ja y.n
def Vw (R:RXX):RXX:=fun x y=>bif Dv x y then some false else Yg R x y (ja x.n) (x.n+1) 0
def t99 (R:RXX) (x y:RX):Tree AV :=
 let o:=Yg R x y (ja x.n) (x.n+1) 0
 .br (Dv x y) (.leaf (jF false)) (.need (os1 o) (.br (ov1 false o) (.leaf (jF true)) (.leaf (jF false))))
theorem jmr (R : RXX) (o : ByteArray) (v : Int) (n : Nat) (ρ : Val) (o' : ByteArray) (v' : Int) (m : Nat) (σ : Val) :
  (jU Tryz.prog (H99 R) 10 99 [.agg [.str o,.int .i64 v,.sl (aw 0) n ρ],.agg [.str o',.int .i64 v',.sl (aw 0) m σ]] []).vals=t99 R ⟨o,v,n,ρ⟩ ⟨o',v',m,σ⟩:=by kernel_rfl
theorem jlj {R:RXX} {x y:RX} (h:os1 (Vw R x y)=true):(t99 R x y).All (fun z=>z=jF (ov1 false (Vw R x y))):=by
 unfold t99;unfold Vw at h ⊢;revert h;cases Dv x y with
 | true=>exact fun _=>jk rfl rfl
 | false =>
   simp only [cond_false];intro h;cases ho:Yg R x y (ja x.n) (x.n+1) 0 with
  | none=>rw [ho] at h;cases h
  | some b=>cases b<;>exact jk rfl rfl
theorem jrx {R:RXX} (hR:TcOne Tryz.prog 99 (nG (G99 R))):TcOne Tryz.prog 99 (nG (G99 (Vw R))):=qC (h99 hR) 10 99 fun args r h=>by
 unfold G99 at h;split at h
 ·rename_i o v es n ρ o' v' es' m σ;split at h
  ·rename_i hs;rw [aTq] at hs;rw [jm hs.1,jm hs.2];simp only [sIq,pIq] at h;obtain ⟨h1,rfl⟩:=h;exact ⟨rfl,_,jmr R o v n ρ o' v' m σ,jlj h1⟩
  ·cases h
 ·cases h
def U5:Nat->RXX
 | 0=>fun _ _=>none
 | f+1=>Vw (U5 f)
theorem p99:∀ f,TcOne Tryz.prog 99 (nG (G99 (U5 f)))
 | 0 => by
   intro args r h;have h:=zn h;unfold G99 at h;split at h
   ·split at h
    ·simp only [sIq,pIq] at h;have h1:os1 (none:Option Bool)=true:=h.1;cases h1
    ·cases h
   ·cases h
 | f+1=>jrx (p99 f)
abbrev RBB:=Nat->Val->Nat->Val->Option Bool
def G43 (R:RBB):List A1->Option (Bool × AV)
 | [.c (.sl es n ρ),.c (.sl es' m σ)]=>if shEq.shsEq es (aw 1)&&shEq.shsEq es' (aw 1) then some (os1 (R n ρ m σ),jF (ov1 false (R n ρ m σ))) else none
 | _=>none
def S43 (c:C98):St:=mkS 64 [(0,.one (.c (.sl (aw 1) c.n c.ρ))),(1,.one (.c (.sl (aw 1) c.m c.σ))),(4,.one (.c (.bool c.r))),(5,.one (.c (.int .i64 c.i)))] []
def jaQ (l:List (Nat × AV)) (m:Mem):Option C98:=match l,m with
 | [(0,.one (.c (.sl es n ρ))),(1,.one (.c (.sl es' k σ))),(4,.one (.c (.bool r))),(5,.one (.c (.int .i64 i)))],[]=>if shEq.shsEq es (aw 1)&&shEq.shsEq es' (aw 1) then some ⟨n,ρ,k,σ,r,i⟩ else none
 | _,_=>none
theorem jeT:∀ l m c,jaQ l m=some c->mkS 64 l m=S43 c:=by
 intro l m c h;unfold jaQ at h;split at h
 ·split at h
  ·rename_i hs;rw [aTq] at hs;cases h;rw [jm hs.1,jm hs.2];rfl
  ·cases h
 ·cases h
def A43:Sx.Frame C98 Bool:=⟨0,64,[0,1,4,5],jaQ,S43,[4],VV,E98 64⟩
theorem a43:A43.Ok:=.of_eq jeT (V9 64)
noncomputable abbrev LP (X:RXX) (R:RBB):Hd:=⟨[(98,nG G16),(99,nG (G99 X))],[(43,nG (G43 R))],[],[]⟩
theorem jnR {X:RXX} (hX:TcOne Tryz.prog 99 (nG (G99 X))) {R:RBB} (hR:jj Tryz.prog 43 (nG (G43 R))):HdOk Tryz.prog (LP X R):=((HdOk.nil.ucCons hR).tcCons hX).tcCons p98
def jhO (s t:RS):Bool:=!jb s.kind t.kind
def jhN (s t:RS):Bool:=bif jhO s t then true else !ov1 false (ZT s.wn s.wρ t.wn t.wρ)
def jhb (X:RXX) (s t:RS):Bool:=bif jhN s t then true else !ov1 false (X s.cond t.cond)
def je5 (X:RXX) (R:RBB) (s t:RS):Bool:=bif jhb X s t then true else !ov1 false (R s.bn s.bρ t.bn t.bρ)
def jbU (X:RXX) (R:RBB) (s t:RS):Bool:=bif je5 X R s t then true else !ov1 false (R s.en s.eρ t.en t.eρ)
def jbI (s t:RS):Bool:=!((jhO s t==false)&&true)||os1 (ZT s.wn s.wρ t.wn t.wρ)
def jcL (X:RXX) (s t:RS):Bool:=!((jhN s t==false)&&true)||os1 (X s.cond t.cond)
def jbx (X:RXX) (R:RBB) (s t:RS):Bool:=!((jhb X s t==false)&&true)||os1 (R s.bn s.bρ t.bn t.bρ)
def jcG (X:RXX) (R:RBB) (s t:RS):Bool:=!((je5 X R s t==false)&&true)||os1 (R s.en s.eρ t.en t.eρ)
def Tu (X:RXX) (R:RBB) (s t:RS):Option Bool:=nd (jbI s t) (nd (jcL X s t) (nd (jbx X R s t) (nd (jcG X R s t) (some (jbU X R s t)))))
def r43 (X:RXX) (R:RBB) (g:C98->Tree (XP × Bool)) (c:C98):Tree (XP × Bool) :=
 let s:=jg c.ρ c.i.toNat
 let t:=jg c.σ c.i.toNat
 .br (lt c.i (ja c.n)) (.need (jc c.i c.n) (.need (jc c.i c.m) (.need (jbI s t) (.need (jcL X s t) (.need (jbx X R s t) (.need (jcG X R s t)
   (.br (jbU X R s t) (.leaf (.ret,false)) (g { c with i:=IntKind.wrap .i64 (c.i+1) })))))))) (.leaf (.exit 0,c.r))
theorem jnd (X:RXX) (R:RBB) (g:C98->Tree (XP × Bool)) (c:C98):ju A43 Tryz.prog (LP X R) X0 10 43 0 g c=r43 X R g c:=by kernel_rfl
def Z9 (X:RXX) (R:RBB) (n:Nat) (ρ:Val) (m:Nat) (σ:Val) (l:Int):Nat->Int->Option Bool
 | 0,_=>none
 | k+1,i=>bif lt i l then nd (jc i n) (nd (jc i m) ((Tu X R (jg ρ i.toNat) (jg σ i.toNat)).bind fun c=>bif c then some false else Z9 X R n ρ m σ l k (IntKind.wrap .i64 (i+1)))) else some true
def g43 (X:RXX) (R:RBB) (k:Nat) (c:C98):Tree (XP × Bool) :=
 let o:=Z9 X R c.n c.ρ c.m c.σ (ja c.n) k c.i
 .need (os1 o) (.br (ov1 false o) (.leaf (.exit 0,c.r)) (.leaf (.ret,false)))
def jpN (r:Bool):Option Bool->Option (XP × Bool)
 | some b=>some (bif b then (.exit 0,r) else (.ret,false))
 | none=>none
theorem ML (X:RXX) (R:RBB) (k:Nat) (c:C98):(g43 X R k c).sel=jpN c.r (Z9 X R c.n c.ρ c.m c.σ (ja c.n) k c.i):=by
 unfold g43;cases Z9 X R c.n c.ρ c.m c.σ (ja c.n) k c.i with
 | none=>rfl
 | some b=>cases b<;>rfl
theorem jnq (X:RXX) (R:RBB) (k:Nat) (c:C98) (x:XP × Bool) (h:(g43 X R (k+1) c).sel=some x):(ju A43 Tryz.prog (LP X R) X0 10 43 0 (g43 X R k) c).sel=some x:=by
 rw [jnd];rw [ML] at h;unfold Z9 Tu at h;unfold r43;simp only [jK,jt,jE,ML];revert h;cases lt c.i (ja c.n) with
 | false=>exact fun h=>h
 | true =>
 cases jc c.i c.n with
 | false=>exact fun h=>h
 | true =>
 cases jc c.i c.m with
 | false=>exact fun h=>h
 | true =>
 cases jbI (jg c.ρ c.i.toNat) (jg c.σ c.i.toNat) with
 | false=>exact fun h=>h
 | true =>
 cases jcL X (jg c.ρ c.i.toNat) (jg c.σ c.i.toNat) with
 | false=>exact fun h=>h
 | true =>
 cases jbx X R (jg c.ρ c.i.toNat) (jg c.σ c.i.toNat) with
 | false=>exact fun h=>h
 | true =>
 cases jcG X R (jg c.ρ c.i.toNat) (jg c.σ c.i.toNat) with
 | false=>exact fun h=>h
 | true =>
 cases jbU X R (jg c.ρ c.i.toNat) (jg c.σ c.i.toNat)<;>exact fun h=>h
theorem jpn {X:RXX} (hX:TcOne Tryz.prog 99 (nG (G99 X))) {R:RBB} (hR:jj Tryz.prog 43 (nG (G43 R))):∀ k,CoreOk Tryz.prog 43 0 0 S43 (E98 64) (g43 X R k) :=
 CoreOk.fuel (A:=A43) a43 (jnR hX hR) x0 10 (fun _=>rfl) (jnq X R)
def jnN (X:RXX) (R:RBB) (c:C98):Tree (XP × Bool):=g43 X R (c.n+1) c
abbrev X43 (X:RXX) (R:RBB):HdP:=⟨[],[],[],[((43,0),j4 A43 (jnN X R))],[],0,[]⟩
theorem x43 {X:RXX} (hX:TcOne Tryz.prog 99 (nG (G99 X))) {R:RBB} (hR:jj Tryz.prog 43 (nG (G43 R))):XOk Tryz.prog (X43 X R) :=
 XOk.lxCons XOk.nil (CoreOk.lx (g:=jnN X R) a43 fun fn c b h1 h2 h3 c0 x hx=>jpn hX hR _ fn c b h1 h2 h3 c0 x hx)
def KX (X:RXX) (R:RBB):RBB:=fun n ρ m σ=>bif ja n != ja m then some false else Z9 X R n ρ m σ (ja n) (n+1) 0
def t43 (X:RXX) (R:RBB) (n:Nat) (ρ:Val) (m:Nat) (σ:Val):Tree AV :=
 let o:=Z9 X R n ρ m σ (ja n) (n+1) 0
 .br (ja n != ja m) (.leaf (jF false)) (.need (os1 o) (.br (ov1 false o) (.leaf (jF true)) (.leaf (jF false))))
theorem jox (X:RXX) (R:RBB) (n:Nat) (ρ:Val) (m:Nat) (σ:Val):jI Tryz.prog (LP X R) (X43 X R) 10 43 [.c (.sl (aw 1) n ρ),.c (.sl (aw 1) m σ)]=t43 X R n ρ m σ:=by kernel_rfl
theorem jkB {X:RXX} {R:RBB} {n:Nat} {ρ:Val} {m:Nat} {σ:Val} (h:os1 (KX X R n ρ m σ)=true):(t43 X R n ρ m σ).All (fun z=>leA z (jF (ov1 false (KX X R n ρ m σ)))):=by
 unfold t43;unfold KX at h ⊢;revert h;cases (ja n != ja m) with
 | true=>exact fun _=>jk rfl leA.refl
 | false =>
   simp only [cond_false];intro h;cases ho:Z9 X R n ρ m σ (ja n) (n+1) 0 with
  | none=>rw [ho] at h;cases h
  | some b=>cases b<;>exact jk rfl leA.refl
theorem TC {R:RBB} {args:List A1} {r:AV} (h:G43 R args=some (true,r)):∃ n ρ m σ,args=[.c (.sl (aw 1) n ρ),.c (.sl (aw 1) m σ)]∧os1 (R n ρ m σ)=true∧r=jF (ov1 false (R n ρ m σ)):=by
 unfold G43 at h;split at h
 ·rename_i es n ρ es' m σ;split at h
  ·rename_i hs;rw [aTq] at hs;rw [jm hs.1,jm hs.2];simp only [sIq,pIq] at h;exact ⟨n,ρ,m,σ,rfl,h.1,h.2.symm⟩
  ·cases h
 ·cases h
theorem u43 {X:RXX} {R:RBB} {args:List A1} {r:AV} (h:G43 (KX X R) args=some (true,r)):(jI Tryz.prog (LP X R) (X43 X R) 10 43 args).All (fun x=>leA x r):=by
 obtain ⟨n,ρ,m,σ,e1,h1,e2⟩:=TC h;rw [e1,e2,jox];exact jkB h1
theorem jqA {X:RXX} (hX:TcOne Tryz.prog 99 (nG (G99 X))) {R:RBB} (hR:jj Tryz.prog 43 (nG (G43 R))):jj Tryz.prog 43 (nG (G43 (KX X R))):=by
 refine jz (H:=LP X R) (X:=X43 X R) (jnR hX hR) (x43 hX hR) 10 43 ?_;intro args r h;exact u43 h
def Ho (f:Nat):Nat->RBB
 | 0=>fun _ _ _ _=>none
 | d+1=>KX (U5 f) (Ho f d)
theorem p43 (f:Nat):∀ d,jj Tryz.prog 43 (nG (G43 (Ho f d)))
 | 0 => by
   intro args r h;obtain ⟨n,ρ,m,σ,_,h1,_⟩:=TC (zn h);cases h1
 | d+1=>jqA (p99 f) (p43 f d)
end Go.Proofs.YtiefjlcakpdfeaaGreat
namespace Go.Proofs.YtiefjlcakpdfeaaGreat
open Go Go.Sx Go.RowKit Rb
set_option maxRecDepth 100000
variable {n m:Nat} {ρ σ:Val}
theorem Mb {ρ σ:Val} (hn:n<=100000) (h:∀ j,j<n->wd ρ j=wd σ j):∀ f (i:Nat),n+1<=f+i->i<=n->Qn n ρ n σ (ja n) f (i:Int)=some true
 | 0,i,h1,h2=>by omega
 | f + 1, i, h1, h2 => by
   unfold Qn;rcases Nat.lt_or_ge i n with hi | hi
   ·have e1:lt (i:Int) (ja n)=true:=by unfold lt ja;simp;exact hi
    have e4:IntKind.wrap .i64 ((i:Int)+1)=((i+1:Nat):Int):=by rw [Ro.w64_id (by omega) (by omega)];omega
    have e5:jb (wd ρ i) (wd σ i)=true:=(zr _ _).2 (h i hi);rw [e1,inR hi,e4];simp only [nd,cond_true,Int.toNat_natCast,e5,Bool.not_true,cond_false];exact Mb hn h f (i+1) (by omega) (by omega)
   ·have e1:lt (i:Int) (ja n)=false:=by unfold lt ja;simp;omega
    rw [e1];rfl
theorem jiF {a b:Nat} {ρ σ:Val} (hab:a=b) (hn:a<=100000) (h:∀ j,j<a->wd ρ j=wd σ j):ZT a ρ b σ=some true:=by
 subst hab;unfold ZT;have e:(ja a != ja a)=false:=by simp
 rw [e];exact Mb hn h (a+1) 0 (by omega) (by omega)
end Go.Proofs.YtiefjlcakpdfeaaGreat
namespace Go.Proofs.YtiefjlcakpdfeaaGreat
open Go Go.Sx Go.RowKit Rb
set_option maxRecDepth 100000
def G10 (R:RBB):List A1->Option (Bool × AV)
 | [.agg [.str a,.sl es n ρ],.agg [.str b,.sl es' m σ]]=>if shEq.shsEq es (aw 1)&&shEq.shsEq es' (aw 1) then some (!((jb a b==true)&&true)||os1 (R n ρ m σ),jF (bif jb a b then ov1 false (R n ρ m σ) else false)) else none
 | _=>none
noncomputable abbrev H10 (R:RBB):Hd:=⟨[],[(43,nG (G43 R))],[],[]⟩
theorem h10 {R:RBB} (hR:jj Tryz.prog 43 (nG (G43 R))):HdOk Tryz.prog (H10 R):=HdOk.nil.ucCons hR
theorem jmj (R : RBB) (a : ByteArray) (n : Nat) (ρ : Val) (b : ByteArray) (m : Nat) (σ : Val) :
  jT Tryz.prog (H10 R) 10 10 [.agg [.str a,.sl (aw 1) n ρ],.agg [.str b,.sl (aw 1) m σ]]=.need (!((jb a b==true)&&true)||os1 (R n ρ m σ)) (.leaf (jF (bif jb a b then ov1 false (R n ρ m σ) else false))):=by kernel_rfl
theorem jhG {R:RBB} {args:List A1} {r:AV} (h:G10 R args=some (true,r)):∃ a n ρ b m σ,args=[.agg [.str a,.sl (aw 1) n ρ],.agg [.str b,.sl (aw 1) m σ]]∧(!((jb a b==true)&&true)||os1 (R n ρ m σ))=true∧r=jF (bif jb a b then ov1 false (R n ρ m σ) else false):=by
 unfold G10 at h;split at h
 ·rename_i a es n ρ b es' m σ;split at h
  ·rename_i hs;rw [aTq] at hs;rw [jm hs.1,jm hs.2];simp only [sIq,pIq] at h;exact ⟨a,n,ρ,b,m,σ,rfl,h.1,h.2.symm⟩
  ·cases h
 ·cases h
theorem p10 {R:RBB} (hR:jj Tryz.prog 43 (nG (G43 R))):jj Tryz.prog 10 (nG (G10 R)):=by
 refine qO (H:=H10 R) (h10 hR) 10 10 ?_;intro args r h;obtain ⟨a,n,ρ,b,m,σ,e1,h1,e2⟩:=jhG h;rw [e1,e2,jmj,h1];exact ⟨rfl,leA.refl⟩
theorem UC:∀ l:List AstX,(AstX.dens l).length=l.length
 | []=>rfl
 | a::r=>by show (AstX.dens r).length+1=r.length+1;rw [UC r]
theorem OG:∀ (l:List AstX) (i:Nat),nth (AstX.dens l) i=(nth l i).map AstX.den
 | [],i=>by simp [AstX.dens,nth]
 | a::r,0=>rfl
 | a::r,i+1=>OG r i
theorem jdp:∀ (l:List RX) (i:Nat) (t:RX),nth l i=some t->∀ f,f<3->nth (l.flatMap RX.cells) (i*3+f)=nth t.cells f
 | [],i,t,h,_,_=>by simp [nth] at h
 | a :: r, 0, t, h, f, hf => by
   have:a=t:=by simpa [nth] using h
   subst this;rw [List.flatMap_cons,jd,jd,Nat.zero_mul,Nat.zero_add,List.getElem?_append_left (by show f<3;exact hf)]
 | a :: r, i + 1, t, h, f, hf => by
   have h:nth r i=some t:=h;have hl:(RX.cells a).length=3:=rfl;rw [List.flatMap_cons,jd,List.getElem?_append_right (by rw [hl];omega),hl,← jd]
   have:(i+1)*3+f - 3=i*3+f:=by omega
   rw [this];exact jdp r i t h f hf
theorem Ih {l:List RX} {i:Nat} {t:RX} (h:nth l i=some t) {f:Nat} (hf:f<3):((Val.ofFlat 3 (l.flatMap RX.cells)).at i).at f=match nth t.cells f with | some x=>.ofC x | none=>.zero:=by
 show (match nth (l.flatMap RX.cells) (i*3+f) with | some x=>Val.ofC x | none=>.zero)=_
 rw [jdp l i t h f hf]
def jcw (e:AstX) (x:RX):Prop:=x.op=e.den.op∧x.v=e.den.v∧x.n=e.den.n∧∀ i,x.ρ.at i=e.den.ρ.at i
theorem jae {op:ByteArray} {v:Int} {l:List AstX} {x:RX} (h:jcw (.mk op v l) x) {i:Nat} {e:AstX} (hi:nth l i=some e):jcw e (yd x.ρ i):=by
 have hn:nth (AstX.dens l) i=some e.den:=by rw [OG,hi];rfl
 have h0:=Ih hn (f:=0) (by omega)
 have h1:=Ih hn (f:=1) (by omega)
 have h2:=Ih hn (f:=2) (by omega)
 have e0:x.ρ.at i=(Val.ofFlat 3 ((AstX.dens l).flatMap RX.cells)).at i:=h.2.2.2 i;unfold yd;rw [e0,h0,h1,h2];exact ⟨rfl,rfl,rfl,fun _=>rfl⟩
theorem FL {R:RXX} {x y:RX} {n:Nat} (hx:x.n=n) (hy:y.n=n) (hn:n<=2) (h:∀ i,i<n->R (yd x.ρ i) (yd y.ρ i)=some true):∀ f (k:Nat),k<=n->n+1<=f+k->Yg R x y (ja n) f (k:Int)=some true
 | 0,k,h1,h2=>by omega
 | f + 1, k, h1, h2 => by
   unfold Yg;rcases Nat.lt_or_ge k n with hk | hk
   ·have e1:lt (k:Int) (ja n)=true:=by unfold lt ja;simp;exact hk
    rw [e1,hx,hy,inR hk,Int.toNat_natCast,zF (by omega),h k hk]
    simp only [cond_true,nd,Option.bind,Bool.not_true,cond_false];exact FL hx hy hn h f (k+1) (by omega) (by omega)
   ·have e1:lt (k:Int) (ja n)=false:=by unfold lt ja;simp;omega
    rw [e1];rfl
theorem VL (a:ByteArray):jb a a=true:=(zr a a).2 rfl
theorem Mo:∀ (f k:Nat) (e:AstX) (x y:RX),k<=f->DX k e->jcw e x->jcw e y->U5 f x y=some true
 | 0, k, e, x, y, hk, hd, _, _ => by
   cases hd with
  | mk hl h=>omega
 | f + 1, k, e, x, y, hk, hd, hx, hy => by
   cases hd with
  | mk hl h =>
   rename_i k op v l;show Vw (U5 f) x y=some true;unfold Vw;have hn:x.n=l.length:=hx.2.2.1.trans (UC l);have hn':y.n=l.length:=hy.2.2.1.trans (UC l)
   have e1:Dv x y=false:=by
    unfold Dv;rw [hx.1,hy.1,hx.2.1,hy.2.1,hn,hn',VL]
    simp
   rw [e1,hn];simp only [cond_false];refine FL hn hn' hl (fun i hi => ?_) (l.length+1) 0 (by omega) (by omega)
   obtain ⟨a,ha⟩:=qF l i hi;exact Mo f k a _ _ (by omega) (h a (kG ha)) (jae hx ha) (jae hy ha)
theorem Dh {X:RXX} {R:RBB} {n:Nat} {ρ σ:Val} (hn:n<=10000) (h:∀ i,i<n->Tu X R (jg ρ i) (jg σ i)=some false):∀ f (k:Nat),k<=n->n+1<=f+k->Z9 X R n ρ n σ (ja n) f (k:Int)=some true
 | 0,k,h1,h2=>by omega
 | f + 1, k, h1, h2 => by
   unfold Z9;rcases Nat.lt_or_ge k n with hk | hk
   ·have e1:lt (k:Int) (ja n)=true:=by unfold lt ja;simp;exact hk
    rw [e1,inR hk,Int.toNat_natCast,zF (by omega),h k hk]
    simp only [cond_true,nd,Option.bind,cond_false];exact Dh hn h f (k+1) (by omega) (by omega)
   ·have e1:lt (k:Int) (ja n)=false:=by unfold lt ja;simp;omega
    rw [e1];rfl
theorem jln {X:RXX} {R:RBB} {s t:RS} (h1:s.kind=t.kind) (h2:ZT s.wn s.wρ t.wn t.wρ=some true) (h3:X s.cond t.cond=some true) (h4:R s.bn s.bρ t.bn t.bρ=some true) (h5:R s.en s.eρ t.en t.eρ=some true):Tu X R s t=some false:=by
 unfold Tu jbI jcL jbx jcG jbU je5 jhb jhN jhO;rw [h1,h2,h3,h4,h5,VL];rfl
theorem Nj {f:Nat} (hf:10000<=f):∀ (d k:Nat) (l l':List AstS) (ρ ρ':Val),k<d->All2 SR l l'->l.length<=10000->(∀ t ∈ l,DS k t)->k<=10000->LieL l ρ->LieL l' ρ'->Ho f d l.length ρ l'.length ρ'=some true
 | 0,k,_,_,_,_,h,_,_,_,_,_,_=>by omega
 | d + 1, k, l, l', ρ, ρ', hk, hr, hl, hd, hk1, h1, h2 => by
   have hll:l'.length=l.length:=hr.length.symm;rw [hll];show KX (U5 f) (Ho f d) l.length ρ l.length ρ'=some true;unfold KX;have e1:(ja l.length != ja l.length)=false:=by simp
   rw [e1];simp only [cond_false];refine Dh hl (fun i hi => ?_) (l.length+1) 0 (by omega) (by omega)
   obtain ⟨t,t',e1,e2,hs⟩:=ao hr hi;have hdt:=hd t (kG e1);cases hs with
  | mk hb hx =>
   cases hdt with
  | mk hw hu hb1 hb2 hx1 hx2 he =>
   obtain ⟨a1,a2,a3,a4,a5,a6,a7,a8,a9⟩:=JJ h1 e1;obtain ⟨b1,b2,b3,b4,b5,b6,b7,b8,b9⟩:=JJ h2 e2;refine jln (a1.trans b1.symm) ?_ ?_ ?_ ?_
   ·rw [a2,b2,a3,b3];exact jiF rfl (by omega) fun _ _=>rfl
   ·refine Mo f _ _ _ _ (by omega) he ?_ ?_
    ·rw [a4];exact ⟨rfl,rfl,rfl,fun _=>rfl⟩
    ·rw [b4];exact ⟨rfl,rfl,rfl,fun _=>rfl⟩
   ·rw [a5,b5];exact Nj hf d _ _ _ _ _ (by omega) hb (by omega) hb2 (by omega) a6 b6
   ·rw [a7,b7];exact Nj hf d _ _ _ _ _ (by omega) hx (by omega) hx2 (by omega) a8 b8
abbrev PaF:=ByteArray->Option Qq
def G8p (Q:PaF):List A1->Option (Bool × AV)
 | [.c (.str s)]=>some (oB (Q s),BZ (oV (Q s)))
 | _=>none
def Rv (R:RBB) (x y:Qq):Bool:=TM (jb x.1 y.1) (ov1 false (R x.2.1.length (jR x.2.1) y.2.1.length (jR y.2.1)))
def jaK (R:RBB) (x y:Qq):Bool:=!((jb x.1 y.1==true)&&true)||os1 (R x.2.1.length (jR x.2.1) y.2.1.length (jR y.2.1))
theorem Dt {P:Program} {f:Nat} {G G':List A1->Option (Bool × AV)} (h:jj P f (nG G)) (hg:∀ args r,G' args=some (true,r)->G args=some (true,r)):jj P f (nG G'):=by
 intro args r hs;refine h args r ?_
 have:=hg args r (zn hs)
 unfold nG;rw [this];rfl
def Q5:PaF:=ZB 40 10001 (blK 10000 10000)
theorem p8q:jj Tryz.prog 8 (nG (G8p Q5)):=Dt (p8F 9999 10000 40 10001 (by decide)) fun args r h=>by
 unfold G8p at h;split at h
 ·exact h
 ·cases h
def R5:RBB:=Ho 10000 10001
theorem jei {s:ByteArray} (hs:s.size<=9000):(kU s).2.1.length<=10000∧∀ t ∈ (kU s).2.1,DS 10000 t:=by
 unfold kU;cases lt 8192 (ja s.size) with
 | true=>exact ⟨Nat.zero_le _,fun t ht=>by cases ht⟩
 | false =>
   simp only [cond_false];have h:=B3 s.size (l:=lst s) hs;cases hb:Y1 s.size (lst s) with
  | stuck=>exact ⟨Nat.zero_le _,fun t ht=>by cases ht⟩
  | pan a=>exact ⟨Nat.zero_le _,fun t ht=>by cases ht⟩
  | ret x q =>
    rw [hb] at h;have e:jbV (.ret x q)=bif B9 x != 0 then (bs [],[],0,B9 x) else (x.1,x.2,0,0):=rfl;rw [e];cases B9 x != 0 with
   | true=>exact ⟨Nat.zero_le _,fun t ht=>by cases ht⟩
   | false=>exact h.2
theorem jpa {x y:Rl} (h1:x.1=y.1) (h2:All2 SR x.2.1 y.2.1) (hl:x.2.1.length<=10000) (hd:∀ t ∈ x.2.1,DS 10000 t):Rv R5 (Jk x) (Jk y)=true∧jaK R5 (Jk x) (Jk y)=true:=by
 have h:=Nj (f:=10000) (lRq _) 10001 10000 x.2.1 y.2.1 _ _ (by omega) h2 hl hd (lRq _) (fun _=>rfl) (fun _=>rfl)
 unfold Rv jaK Jk R5;simp only [QN,h,h1,VL];exact ⟨rfl,rfl⟩
abbrev RAt:=Nat->Val->Nat->Val->Option Bool
abbrev RAs:=RS->RS->Option Bool
def G11 (R:RAt):List A1->Option (Bool × AV)
 | [.c (.sl es n ρ),.c (.sl es' m σ)]=>if shEq.shsEq es (aw 1)&&shEq.shsEq es' (aw 1) then some (obD (R n ρ m σ),jF (obV (R n ρ m σ))) else none
 | _=>none
def G45 (T:RAs):List A1->Option (Bool × AV)
 | [.agg cs,.agg ds]=>match LK cs,LK ds with
  | some s,some t=>some (obD (T s t),jF (obV (T s t)))
  | _,_=>none
 | _=>none
theorem Iu {R:RAt} {args:List A1} {r:AV} (h:G11 R args=some (true,r)):∃ n ρ m σ,args=[.c (.sl (aw 1) n ρ),.c (.sl (aw 1) m σ)]∧obD (R n ρ m σ)=true∧r=jF (obV (R n ρ m σ)):=by
 unfold G11 at h;split at h
 ·split at h
  ·rename_i es n ρ es' m σ hs;simp only [aTq] at hs;simp only [sIq,pIq] at h;exact ⟨n,ρ,m,σ,by rw [jm hs.1,jm hs.2],h.1,h.2.symm⟩
  ·cases h
 ·cases h
theorem jgk {T:RAs} {args:List A1} {r:AV} (h:G45 T args=some (true,r)):∃ s t:RS,args=[.agg s.cells,.agg t.cells]∧obD (T s t)=true∧r=jF (obV (T s t)):=by
 unfold G45 at h;split at h
 ·split at h
  ·rename_i s t hs ht;simp only [sIq,pIq] at h;exact ⟨s,t,by rw [KI hs,KI ht],h.1,h.2.symm⟩
  ·cases h
 ·cases h
noncomputable abbrev H45 (R:RAt):Hd:=⟨[],[(11,nG (G11 R))],[],[]⟩
theorem h45 {R:RAt} (hR:jj Tryz.prog 11 (nG (G11 R))):HdOk Tryz.prog (H45 R):=HdOk.nil.ucCons hR
def atT (R:RAt) (s t:RS):Option Bool:=bif s.at_==t.at_ then (match R s.bn s.bρ t.bn t.bρ with
 | none=>none
 | some b=>bif b then R s.en s.eρ t.en t.eρ else some false) else some false
def t45 (R:RAt) (s t:RS):Tree AV :=
 let c1:=s.at_==t.at_
 let u:=R s.bn s.bρ t.bn t.bρ
 let v:=R s.en s.eρ t.en t.eρ
 let c2:=bif c1 then obV u else false
 .need (!((c1==true)&&true)||obD u) (.need (!((c2==true)&&true)||obD v) (.leaf (jF (bif c2 then obV v else false))))
theorem jnc (R:RAt) (s t:RS):jT Tryz.prog (H45 R) 10 45 [.agg s.cells,.agg t.cells]=t45 R s t:=by kernel_rfl
theorem jiI (R:RAt) (s t:RS) (h:obD (atT R s t)=true):(t45 R s t).sel=some (jF (obV (atT R s t))):=by
 unfold t45;unfold atT at h ⊢;simp only [jt,jE];revert h;cases (s.at_==t.at_) with
 | false=>exact fun _=>rfl
 | true =>
   simp only [cond_true];cases R s.bn s.bρ t.bn t.bρ with
  | none=>exact fun h=>by cases h
  | some b =>
    cases b with
   | false=>exact fun _=>rfl
   | true =>
     simp only [cond_true,obV,obD];cases R s.en s.eρ t.en t.eρ with
    | none=>exact fun h=>by cases h
    | some b=>exact fun _=>rfl
theorem u45 {R:RAt} {args:List A1} {r:AV} (h:G45 (atT R) args=some (true,r)):(jT Tryz.prog (H45 R) 10 45 args).All (fun x=>leA x r):=by
 obtain ⟨s,t,e1,h1,e2⟩:=jgk h;rw [e1,e2,jnc];exact jk (jiI R s t h1) leA.refl
theorem p45 {R:RAt} (hR:jj Tryz.prog 11 (nG (G11 R))):jj Tryz.prog 45 (nG (G45 (atT R))):=by
 refine qO (H:=H45 R) (h45 hR) 10 45 ?_;intro args r h;exact u45 h
abbrev C44:=((Nat × Val) × (Nat × Val)) × Bool × Int × Int
def S44 (c:C44):St:=mkS 32 [(1,.one (.c (.sl (aw 1) c.1.2.1 c.1.2.2))),(2,.one (.c (.fn (.func 45) [] []))),(6,.one (.c (.bool c.2.1))),(15,.one (.c (.sl (aw 1) c.1.1.1 c.1.1.2))),(16,.one (.c (.int .i64 c.2.2.1))),(17,.one (.c (.int .i64 c.2.2.2)))] []
def jaB:List (Nat × AV)->Mem->Option C44
 | [(1,.one (.c (.sl es n ρ))),(2,.one (.c (.fn (.func 45) [] []))),(6,.one (.c (.bool b))),(15,.one (.c (.sl es' m κ))),(16,.one (.c (.int .i64 l))),(17,.one (.c (.int .i64 i)))],[]=>if shEq.shsEq es (aw 1)&&shEq.shsEq es' (aw 1) then some (((m,κ),(n,ρ)),b,l,i) else none
 | _,_=>none
theorem jfR:∀ l m c,jaB l m=some c->mkS 32 l m=S44 c:=by
 intro l m c h;unfold jaB at h;split at h
 ·split at h
  ·rename_i hs;simp only [aTq] at hs;cases h;rw [jm hs.1,jm hs.2];rfl
  ·cases h
 ·cases h
def E44 (v:Bool):St:=mkS 32 [(6,.one (.c (.bool v)))] []
def Dn:List (Nat × AV)->Mem->Option Bool
 | [(6,.one (.c (.bool v)))],[]=>some v
 | _,_=>none
theorem jdy:∀ l m c,Dn l m=some c->mkS 32 l m=E44 c:=by
 intro l m c h;unfold Dn at h;split at h
 ·cases h;rfl
 ·cases h
def A44:Sx.Frame C44 Bool:=⟨0,32,[1,2,6,15,16,17],jaB,S44,[6],Dn,E44⟩
theorem a44:A44.Ok:=.of_eq jfR jdy
noncomputable abbrev H44 (T:RAs):Hd:=⟨[],[(45,nG (G45 T))],[],[]⟩
theorem h44 {T:RAs} (hT:jj Tryz.prog 45 (nG (G45 T))):HdOk Tryz.prog (H44 T):=HdOk.nil.ucCons hT
def r44 (T:RAs) (g:C44->Tree (XP × Bool)) (c:C44):Tree (XP × Bool) :=
 let i:=c.2.2.2
 let x:=T (jg c.1.1.2 i.toNat) (jg c.1.2.2 i.toNat)
 .br (lt i c.2.2.1) (.need (jc i c.1.1.1) (.need (jc i c.1.2.1) (.need (obD x) (.br (!obV x) (.leaf (.ret,false)) (g (c.1,c.2.1,c.2.2.1,IntKind.wrap .i64 (i+1))))))) (.leaf (.exit 0,c.2.1))
theorem jmN (T:RAs) (g:C44->Tree (XP × Bool)) (m:Nat) (κ:Val) (n:Nat) (ρ:Val) (b:Bool) (l i:Int):ju A44 Tryz.prog (H44 T) X0 10 44 0 g (((m,κ),(n,ρ)),b,l,i)=r44 T g (((m,κ),(n,ρ)),b,l,i):=by kernel_rfl
def atL (T:RAs) (m:Nat) (κ:Val) (n:Nat) (ρ:Val) (l:Int):Nat->Int->Option Bool
 | 0,_=>none
 | k + 1, i => bif lt i l then (bif jc i m then (bif jc i n then (match T (jg κ i.toNat) (jg ρ i.toNat) with
   | none=>none
   | some b=>bif !b then some false else atL T m κ n ρ l k (IntKind.wrap .i64 (i+1))) else none) else none) else some true
def g44 (T:RAs) (k:Nat) (c:C44):Tree (XP × Bool) :=
 let x:=atL T c.1.1.1 c.1.1.2 c.1.2.1 c.1.2.2 c.2.2.1 k c.2.2.2
 .need (obD x) (.br (obV x) (.leaf (.exit 0,c.2.1)) (.leaf (.ret,false)))
theorem I6 (T : RAs) (k : Nat) (c : C44) : (g44 T k c).sel = match atL T c.1.1.1 c.1.1.2 c.1.2.1 c.1.2.2 c.2.2.1 k c.2.2.2 with
  | some true=>some (.exit 0,c.2.1)
  | some false=>some (.ret,false)
  | none=>none:=by
 unfold g44;cases atL T c.1.1.1 c.1.1.2 c.1.2.1 c.1.2.2 c.2.2.1 k c.2.2.2 with
 | none=>rfl
 | some x=>cases x<;>rfl
theorem jn5 (T:RAs) (k:Nat) (c:C44) (x:XP × Bool) (h:(g44 T (k+1) c).sel=some x):(ju A44 Tryz.prog (H44 T) X0 10 44 0 (g44 T k) c).sel=some x:=by
 obtain ⟨⟨⟨m,κ⟩,⟨n,ρ⟩⟩,b,l,i⟩:=c;rw [jmN];rw [I6] at h;unfold atL at h;unfold r44;simp only [jK,jt,jE,I6];revert h;simp only;cases lt i l with
 | false=>exact fun h=>h
 | true =>
   cases jc i m with
  | false=>exact fun h=>by cases h
  | true =>
    cases jc i n with
   | false=>exact fun h=>by cases h
   | true =>
     simp only [cond_true];cases T (jg κ i.toNat) (jg ρ i.toNat) with
    | none=>exact fun h=>h
    | some b=>cases b<;>exact fun h=>h
theorem jmI {T:RAs} (hT:jj Tryz.prog 45 (nG (G45 T))):∀ k,CoreOk Tryz.prog 44 0 0 S44 E44 (g44 T k) :=
 CoreOk.fuel (A:=A44) a44 (h44 hT) x0 10 (fun _=>rfl) (jn5 T)
def jmy (T:RAs) (c:C44):Tree (XP × Bool):=g44 T (c.1.1.1+1) c
def X44 (T:RAs):HdP:=⟨[],[],[],[((44,0),j4 A44 (jmy T))],[],0,[]⟩
theorem x44 {T:RAs} (hT:jj Tryz.prog 45 (nG (G45 T))):XOk Tryz.prog (X44 T):=XOk.nil.lxCons (CoreOk.lx (g:=jmy T) a44 fun fn c b h1 h2 h3 c0 x hx=>jmI hT _ fn c b h1 h2 h3 c0 x hx)
def atG (T:RAs) (m:Nat) (κ:Val) (n:Nat) (ρ:Val):Option Bool:=bif ja m != ja n then some false else atL T m κ n ρ (ja m) (m+1) 0
def G44 (R:RAt):List A1->Option (Bool × AV)
 | [.c (.sl es n ρ),.c (.sl es' m σ),.c (.fn (.func 45) [] [])]=>if shEq.shsEq es (aw 1)&&shEq.shsEq es' (aw 1) then some (obD (R n ρ m σ),jF (obV (R n ρ m σ))) else none
 | _=>none
theorem je7 {R:RAt} {args:List A1} {r:AV} (h:G44 R args=some (true,r)):∃ n ρ m σ,args=[.c (.sl (aw 1) n ρ),.c (.sl (aw 1) m σ),.c (.fn (.func 45) [] [])]∧obD (R n ρ m σ)=true∧r=jF (obV (R n ρ m σ)):=by
 unfold G44 at h;split at h
 ·split at h
  ·rename_i es n ρ es' m σ hs;simp only [aTq] at hs;simp only [sIq,pIq] at h;exact ⟨n,ρ,m,σ,by rw [jm hs.1,jm hs.2],h.1,h.2.symm⟩
  ·cases h
 ·cases h
def t44 (T:RAs) (m:Nat) (κ:Val) (n:Nat) (ρ:Val):Tree AV :=
 let x:=atL T m κ n ρ (ja m) (m+1) 0
 .br (ja m != ja n) (.leaf (jF false)) (.need (obD x) (.br (obV x) (.leaf (jF true)) (.leaf (jF false))))
theorem joJ (T:RAs) (m:Nat) (κ:Val) (n:Nat) (ρ:Val):jI Tryz.prog (H44 T) (X44 T) 10 44 [.c (.sl (aw 1) m κ),.c (.sl (aw 1) n ρ),.c (.fn (.func 45) [] [])]=t44 T m κ n ρ:=by kernel_rfl
theorem jjc (T:RAs) (m:Nat) (κ:Val) (n:Nat) (ρ:Val) (h:obD (atG T m κ n ρ)=true):(t44 T m κ n ρ).sel=some (jF (obV (atG T m κ n ρ))):=by
 unfold t44;unfold atG at h ⊢;simp only [jK,jt,jE];revert h;cases (ja m != ja n) with
 | true=>exact fun _=>rfl
 | false =>
   simp only [cond_false];cases atL T m κ n ρ (ja m) (m+1) 0 with
  | none=>exact fun h=>by cases h
  | some b=>cases b<;>exact fun _=>rfl
theorem u44 {T:RAs} {args:List A1} {r:AV} (h:G44 (atG T) args=some (true,r)):(jI Tryz.prog (H44 T) (X44 T) 10 44 args).All (fun x=>leA x r):=by
 obtain ⟨n,ρ,m,σ,e1,h1,e2⟩:=je7 h;rw [e1,e2,joJ];exact jk (jjc T n ρ m σ h1) leA.refl
theorem p44 {T:RAs} (hT:jj Tryz.prog 45 (nG (G45 T))):jj Tryz.prog 44 (nG (G44 (atG T))):=by
 refine jz (H:=H44 T) (X:=X44 T) (h44 hT) (x44 hT) 10 44 ?_;intro args r h;exact u44 h
noncomputable abbrev H11 (R:RAt):Hd:=⟨[],[(44,nG (G44 R))],[],[]⟩
theorem h11 {R:RAt} (hR:jj Tryz.prog 44 (nG (G44 R))):HdOk Tryz.prog (H11 R):=HdOk.nil.ucCons hR
theorem jlP (R:RAt) (n:Nat) (ρ:Val) (m:Nat) (σ:Val):jT Tryz.prog (H11 R) 10 11 [.c (.sl (aw 1) n ρ),.c (.sl (aw 1) m σ)]=.need (obD (R n ρ m σ)) (.leaf (jF (obV (R n ρ m σ)))):=by kernel_rfl
theorem u11 {R:RAt} {args:List A1} {r:AV} (h:G11 R args=some (true,r)):(jT Tryz.prog (H11 R) 10 11 args).All (fun x=>leA x r):=by
 obtain ⟨n,ρ,m,σ,e1,h1,e2⟩:=Iu h;rw [e1,e2,jlP];exact ⟨h1,leA.refl⟩
theorem jrf {R:RAt} (hR:jj Tryz.prog 44 (nG (G44 R))):jj Tryz.prog 11 (nG (G11 R)):=by
 refine qO (H:=H11 R) (h11 hR) 10 11 ?_;intro args r h;exact u11 h
def atF:Nat->RAt
 | 0=>fun _ _ _ _=>none
 | d+1=>atG (atT (atF d))
theorem p11:∀ d,jj Tryz.prog 11 (nG (G11 (atF d)))
 | 0 => by
   intro args r h;obtain ⟨n,ρ,m,σ,_,h1,_⟩:=Iu (zn h);cases h1
 | d+1=>jrf (p44 (p45 (p11 d)))
def G9p (Q:PaF):List A1->Option (Bool × AV)
 | [.c (.str s)]=>some (oB (Q s),BZ (oV (Q s)))
 | _=>none
noncomputable abbrev H3s (Q Q':PaF) (R:RBB) (S:RAt):Hd:=⟨[],[(7,nG G7),(8,nG (G8p Q)),(9,nG (G9p Q')),(10,nG (G10 R)),(11,nG (G11 S))],[],[]⟩
noncomputable abbrev v3 (Q Q':PaF) (R:RBB) (S:RAt) (s:ByteArray):Tree AV:=(jU Tryz.prog (H3s Q Q' R S) 10 3 [.c (.str s)] []).vals
theorem jod (Q Q':PaF) (R:RBB) (S:RAt) (s:ByteArray):(v3 Q Q' R S s).follow [true]=some ([(lt 1000 (ja s.size),true),(true,true)],jF true):=by kernel_rfl
def at3 (S:RAt) (x y:Qq):Option Bool:=S x.2.1.length (jR x.2.1) y.2.1.length (jR y.2.1)
theorem jnS (Q Q' : PaF) (R : RBB) (S : RAt) (s : ByteArray) :
  (v3 Q Q' R S s).follow [false]=let x:=oV (Q s);let y:=oV (Q' s)
   let c1:=TM (Rv R x y) (obV (at3 S x y))
   let c2:=TM c1 (x.2.2.1==y.2.2.1)
   let c3:=TM c2 (x.2.2.2==y.2.2.2)
   some ([(lt 1000 (ja s.size),false),(oB (Q s),true),(oB (Q' s),true),(jaK R x y,true),(!((Rv R x y==true)&&true)||obD (at3 S x y),true),(!((c3==true)&&true)||true,true)],jF (TM c3 true)):=by kernel_rfl
end Go.Proofs.YtiefjlcakpdfeaaGreat