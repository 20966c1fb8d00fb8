/-
 Part PaZ of the proof: RolB RolC RolD RolE RolF RolG RolH RolK RolL RolZ RolZa RolZb.
-/
import Derived.Test.YtiefjlcakpdfeaaGreatPaY
import Derived.Test.YtiefjlcakpdfeaaGreatPaO
namespace Go.Proofs.YtiefjlcakpdfeaaGreat.Ro
open Go Go.Sx Classical
set_option maxRecDepth 100000
noncomputable abbrev H0:Hd:=⟨[jpA],[],[],[(75,ncG (X4 127 spSh 3 24))]⟩
theorem h0:HdOk Tryz.prog H0:=(HdOk.nil.mcCons n63.mc).tcCons jhm
theorem w64_id {x:Int} (h1 : -9223372036854775808<=x) (h2:x<9223372036854775808):IntKind.i64.wrap x=x:=by
 unfold IntKind.wrap IntKind.bits IntKind.signed;simp only [Bool.true_and];split<;>rename_i h<;>simp at h<;>omega
theorem inR {i n:Nat} (h:i<n):jc (i:Int) n=true:=yK.2 ⟨by omega,by omega⟩
theorem ltF {i n:Nat} (h:i<n):lt (i:Int) (ja n)=true:=(Jl _ _).2 (show (i:Int)<(n:Int) by omega)
theorem ltS {n:Nat}:lt (n:Int) (ja n)=false:=by
 rw [← Bool.not_eq_true,Jl];show ¬ (n:Int)<(n:Int);omega
def tim (a:Int):Bool:=le 0 a&&le a 1073741824
def G67:List A1->Option AV
 | [.c (.int .i64 a),.c (.int .i64 b)]=>some (.one (.c (.bool (le b a&&le a 1073741824))))
 | _=>none
theorem p67:PcOne Tryz.prog 184 G67:=Z4 h0 10 184 fun args r h=>by
 unfold G67 at h;split at h
 ·obtain rfl:=Option.some.inj h;exact ⟨rfl,by kernel_rfl,by kernel_rfl⟩
 ·cases h
noncomputable abbrev H1:Hd:=⟨(184,oG G67)::H0.pc,[],[],H0.mc⟩
theorem h1:HdOk Tryz.prog H1:=h0.pcCons p67
structure Sp where
 e:Int
 f:Int
 t:Int
def spn (ρ:Val) (i:Nat):Sp:=⟨((ρ.at i).at 0).N [],((ρ.at i).at 1).N [],((ρ.at i).at 2).N []⟩
def prv (ρ:Val):Nat->Sp
 | 0=>⟨0,0,0⟩
 | i+1=>spn ρ i
structure Ln where
 n:Nat
 ρ:Val
def Gp (p x:Sp):Bool:=(((x.f != IntKind.i64.wrap (p.t+1)||lt x.t x.f)||lt 1073741824 x.t)||!(le 1 x.e&&le x.e 1073741824))||le x.e p.e
def Un (l:Ln) (i:Nat):Bool:=Gp (prv l.ρ i) (spn l.ρ i)
structure C66 where
 l:Ln
 m:Int
structure V66 where
 p:Sp
 i:Int
def S66 (c:C66) (v:V66):St:=mkS 46 [(2,.one (.c (.bool false))),(3,.one (.c (.ptr 0 0))),(7,.one (.c (.sl spSh c.l.n c.l.ρ))),(8,.one (.c (I c.m))),(9,.one (.c (I v.i)))] [some (127,[I v.p.e,I v.p.f,I v.p.t])]
def jbC (c:C66) (v:V66):Tree (XE × V66) :=
 .br (lt v.i c.m) (.need (jc v.i c.l.n) (.br (Gp v.p (spn c.l.ρ v.i.toNat)) (.leaf (.ret,v)) (.leaf (.normal,⟨spn c.l.ρ v.i.toNat,IntKind.i64.wrap (v.i+1)⟩)))) (.leaf (.exit 0,v))
theorem t66 (c:C66) (v:V66):((jQ Tryz.prog H1 (jU Tryz.prog H1 10) 172 0 1 (qn Tryz.prog 172 0) (S66 c v)).bind fun y=>gcT [2,3,7,8,9] 0 y)=(jbC c v).bind fun y=>.leaf (y.1,S66 c y.2):=by kernel_rfl
def jcn (c:C66) (i:Nat):V66:=⟨prv c.l.ρ i,i⟩
def jb0 (c:C66) (v:V66):Nat:=(c.l.n - v.i).toNat
def fewN (n:Nat):Prop:=n<=4611686018427387904
theorem joN (c:C66) (hm:c.m=c.l.n) (hn:fewN c.l.n):Sq (jbC c) (jb0 c) (jcn c) (jcn c) c.l.n (Un c.l) .ret (.exit 0) where
 out:=by simp
 hit:=by simp
 meas i hi:=by unfold jb0 jcn;simp only;omega
 round i hi:=by
  unfold fewN at hn;have hl:lt (i:Int) c.m=true:=by rw [hm];exact ltF hi
  have hw:IntKind.i64.wrap ((i:Int)+1)=((i+1:Nat):Int):=by rw [w64_id (by omega) (by omega)];omega
  refine ⟨fun _=>⟨inR hi,fun hb => ?_,fun hb => ?_⟩,fun h => ?_⟩
  ·have:Un c.l i=true:=hb
   simp only [Tree.All,this,if_true]
  ·have:Un c.l i=false:=hb
   simp only [Tree.All,this,Bool.false_eq_true,if_false];show (XE.normal,(⟨_,IntKind.i64.wrap ((i:Int)+1)⟩ : V66))=_;rw [hw];rfl
  ·have:lt (i:Int) c.m=false:=h
   rw [hl] at this;cases this
 stop:=by
  have hl:lt (c.l.n:Int) c.m=false:=by rw [hm];exact ltS
  refine ⟨fun h => ?_,fun _=>rfl⟩
  have:lt (c.l.n:Int) c.m=true:=h
  rw [hl] at this;cases this
noncomputable def Hx (c:C66) (v:V66):Bool:=dec ((c.m=c.l.n∧fewN c.l.n)∧∃ i,i<=c.l.n∧v=jcn c i)
def O6 (c:C66) (v:V66):XE × V66:=fin (jbC c) (jb0 c) v
def ja8:List (Nat × AV)->Mem->Option (C66 × V66)
 | [(2,.one (.c (.bool false))),(3,.one (.c (.ptr 0 0))),(7,.one (.c (.sl [.int .i64,.int .i64,.int .i64] n ρ))),(8,.one (.c (.int .i64 m))),(9,.one (.c (.int .i64 i)))],[some (127,[.int .i64 a,.int .i64 b,.int .i64 c])]=>some (⟨⟨n,ρ⟩,m⟩,⟨⟨a,b,c⟩,i⟩)
 | _,_=>none
noncomputable def L66:Nat->St->Tree (XE × St):=Y5 [2,3,7,8,9] 0 46 ja8 Hx S66 O6 [.ret,.exit 0]
theorem Zb {C V:Type} {TX:C->V->Tree (XE × V)} {μ:C->V->Nat} {inv:C->V->Bool} {Q:C->XE × V->Prop} (h:∀ c v,inv c v=true->Wn (TX c) (fun v=>inv c v=true) (μ c) (Q c)) (c:C):Wn (TX c) (fun v=>inv c v=true) (μ c) (Q c) :=
 fun v hv=>h c v hv v hv
theorem l66 (fn:Func) (c b:Code) (hf:Tryz.prog.funcs[172]? = some fn) (hc:fn.body=some c) (hb:je c 0=some b):LoopOk Tryz.prog b L66 :=
 JS h1 10 172 0 hf hc hb [2,3,7,8,9] 0 46 S66 jbC t66 ja8 Hx jb0 [.ret,.exit 0]
  (fun l m c v h=>by unfold ja8 at h;split at h<;>simp at h;obtain ⟨rfl,rfl⟩:=h;rfl)
  (Zb fun c v hv=>by
   have h:=(jx.1 hv).1;exact (joN c h.1 h.2).rounds fun x=>by unfold Hx;rw [jx];exact ⟨fun h=>h.2,fun k=>⟨h,k⟩⟩)
noncomputable abbrev H66:Hd:=⟨H1.pc,[],[((172,0),L66)],H1.mc⟩
theorem h66:HdOk Tryz.prog H66:=HdOk.lhCons h1 l66
def ZY (l:Ln):Bool:=!(jY (Un l) l.n)
noncomputable def G66:List A1->Option (Bool × AV)
 | [.c (.sl [.int .i64,.int .i64,.int .i64] n ρ)]=>some (dec (fewN n),.one (.c (.bool (ZY ⟨n,ρ⟩))))
 | _=>none
theorem jpD (l : Ln) (hn : fewN l.n) : (Tree.need (Hx ⟨l, ja l.n⟩ ⟨⟨0, 0, 0⟩, 0⟩) (.br (Qr (O6 ⟨l, ja l.n⟩ ⟨⟨0, 0, 0⟩, 0⟩).1 .ret) (.leaf (AV.one (.c (.bool false))))
  (.need (Qr (O6 ⟨l,ja l.n⟩ ⟨⟨0,0,0⟩,0⟩).1 (.exit 0)) (.leaf (AV.one (.c (.bool true))))))).All (fun z=>z=.one (.c (.bool (ZY l)))):=by
 have h:=joN ⟨l,ja l.n⟩ rfl hn;have hi:Hx ⟨l,ja l.n⟩ ⟨⟨0,0,0⟩,0⟩=true:=jx.2 ⟨⟨rfl,hn⟩,0,Nat.zero_le _,rfl⟩;have hf:O6 ⟨l,ja l.n⟩ ⟨⟨0,0,0⟩,0⟩=_:=h.fin0;refine ⟨hi,?_⟩;rw [hf];unfold ZY;cases jY (Un l) l.n
 ·exact ⟨fun h=>(by cases h),fun _=>⟨rfl,rfl⟩⟩
 ·exact ⟨fun _=>rfl,fun h=>(by cases h)⟩
theorem p66:TcOne Tryz.prog 172 (nG G66):=qC h66 10 172 fun args r h=>by
 unfold G66 at h;split at h
 ·rename_i n ρ;obtain ⟨hp,rfl⟩:=Prod.mk.inj (Option.some.inj h);refine ⟨rfl,_,?_,jpD ⟨n,ρ⟩ (jx.1 hp)⟩
  kernel_rfl
 ·cases h
noncomputable abbrev H2:Hd:=⟨(172,nG G66)::H1.pc,[],[],H1.mc⟩
theorem h2:HdOk Tryz.prog H2:=h1.tcCons p66
structure C65 where
 a:Ln
 b:Ln
structure V65 where
 c:Int
 e:Int
 i:Int
def S65 (c:C65) (v:V65):St:=mkS 68 [(0,.one (.c (.sl spSh c.a.n c.a.ρ))),(1,.one (.c (.sl spSh c.b.n c.b.ρ))),(6,.one (.c (I v.c))),(7,.one (.c (I v.e))),(8,.one (.c (I v.i)))] []
def LX (c:C65) (v:V65):Tree (XE × V65) :=
 let g:=lt v.i (QX (ja c.a.n) (ja c.b.n))
 .need (!((g==true)&&true)||jc v.i c.a.n) (.need (!((g==true)&&true)||jc v.i c.b.n)
  (.br (g&&(spn c.a.ρ v.i.toNat).e==(spn c.b.ρ v.i.toNat).e)
   (.need (jc v.i c.a.n) (.need (jc v.i c.b.n) (.need (jc v.i c.a.n) (.need (jc v.i c.a.n) (.need (jc v.i c.b.n)
    (.br ((spn c.a.ρ v.i.toNat).t != (spn c.b.ρ v.i.toNat).t) (.leaf (.exit 0,⟨QX (spn c.a.ρ v.i.toNat).t (spn c.b.ρ v.i.toNat).t,(spn c.a.ρ v.i.toNat).e,v.i⟩))
     (.leaf (.normal,⟨QX (spn c.a.ρ v.i.toNat).t (spn c.b.ρ v.i.toNat).t,(spn c.a.ρ v.i.toNat).e,IntKind.i64.wrap (v.i+1)⟩))))))))
   (.leaf (.exit 0,v))))
theorem t65 (c:C65) (v:V65):((jQ Tryz.prog H2 (jU Tryz.prog H2 10) 142 0 1 (qn Tryz.prog 142 0) (S65 c v)).bind fun y=>gcT [0,1,6,7,8] 0 y)=(LX c v).bind fun y=>.leaf (y.1,S65 c y.2):=by kernel_rfl
def J8 (c:C65):Nat:=min c.a.n c.b.n
def Xd (c:C65) (i:Nat):Bool:=!((spn c.a.ρ i).e==(spn c.b.ρ i).e)||(spn c.a.ρ i).t != (spn c.b.ρ i).t
def Xn (c:C65):Nat->V65
 | 0=>⟨0,0,0⟩
 | i+1=>⟨QX (spn c.a.ρ i).t (spn c.b.ρ i).t,(spn c.a.ρ i).e,(i+1:Nat)⟩
def jhz (c:C65) (i:Nat):V65:=bif (spn c.a.ρ i).e==(spn c.b.ρ i).e then ⟨QX (spn c.a.ρ i).t (spn c.b.ρ i).t,(spn c.a.ρ i).e,i⟩ else Xn c i
theorem Yy (c:C65) (i:Nat):(Xn c i).i=i:=by cases i<;>rfl
def jav (c:C65) (v:V65):Nat:=(J8 c - v.i).toNat
theorem TA (a b:Nat):QX (ja a) (ja b)=((min a b:Nat):Int):=by
 unfold QX;cases h:lt (ja b) (ja a)
 ·have : ¬ (b : Int) < (a : Int) := fun hh => by
   have:lt (ja b) (ja a)=true:=(Jl _ _).2 hh
   rw [h] at this;cases this
  show (a:Int)=_;omega
 ·have:(b:Int)<(a:Int):=(Jl _ _).1 h
  show (b:Int)=_;omega
theorem jmG (c:C65) (ha:fewN c.a.n):Sq (LX c) (jav c) (Xn c) (jhz c) (J8 c) (Xd c) (.exit 0) (.exit 0) where
 out:=by simp
 hit:=by simp
 meas i hi:=by unfold jav;rw [Yy];omega
 round i hi:=by
  unfold fewN at ha;unfold J8 at hi
  have hg:lt ((Xn c i).i) (QX (ja c.a.n) (ja c.b.n))=true:=by
   rw [Yy,TA,Jl];omega
  have ra:jc (Xn c i).i c.a.n=true:=by rw [Yy];exact inR (by omega)
  have rb:jc (Xn c i).i c.b.n=true:=by rw [Yy];exact inR (by omega)
  have hw:IntKind.i64.wrap ((i:Int)+1)=((i+1:Nat):Int):=by rw [w64_id (by omega) (by omega)];omega
  have hin:((Xn c i).i).toNat=i:=by rw [Yy];omega
  unfold LX;simp only [hg,ra,rb,Tree.All,Bool.or_true,Bool.true_and,true_and,hin];unfold Xd jhz;cases he:((spn c.a.ρ i).e==(spn c.b.ρ i).e)
  ·simp
  ·cases ht:((spn c.a.ρ i).t != (spn c.b.ρ i).t)
   ·simp only [Bool.not_true,Bool.or_self,Bool.false_eq_true,if_false,false_implies,true_and,and_true,forall_const,reduceCtorEq];rw [Yy,hw];rfl
   ·simp only [Bool.not_true,Bool.false_or,if_true,false_implies,and_true,forall_const,reduceCtorEq,cond_true];rw [Yy]
 stop:=by
  have hg:lt ((Xn c (J8 c)).i) (QX (ja c.a.n) (ja c.b.n))=false:=by
   rw [Yy,TA,← Bool.not_eq_true,Jl];unfold J8;omega
  unfold LX;simp [hg,Tree.All]
noncomputable def af (c:C65) (v:V65):Bool:=dec (fewN c.a.n∧∃ i,i<=J8 c∧v=Xn c i)
def GQ (c:C65) (v:V65):XE × V65:=fin (LX c) (jav c) v
def jbq:List (Nat × AV)->Mem->Option (C65 × V65)
 | [(0,.one (.c (.sl [.int .i64,.int .i64,.int .i64] n ρ))),(1,.one (.c (.sl [.int .i64,.int .i64,.int .i64] m σ))),(6,.one (.c (.int .i64 c))),(7,.one (.c (.int .i64 e))),(8,.one (.c (.int .i64 i)))],[]=>some (⟨⟨n,ρ⟩,⟨m,σ⟩⟩,⟨c,e,i⟩)
 | _,_=>none
noncomputable def L65:Nat->St->Tree (XE × St):=Y5 [0,1,6,7,8] 0 68 jbq af S65 GQ [.exit 0]
theorem l65 (fn:Func) (c b:Code) (hf:Tryz.prog.funcs[142]? = some fn) (hc:fn.body=some c) (hb:je c 0=some b):LoopOk Tryz.prog b L65 :=
 JS h2 10 142 0 hf hc hb [0,1,6,7,8] 0 68 S65 LX t65 jbq af jav [.exit 0]
  (fun l m c v h=>by unfold jbq at h;split at h<;>simp at h;obtain ⟨rfl,rfl⟩:=h;rfl)
  (Zb fun c v hv=>by
   have h:=(jx.1 hv).1;exact (jmG c h).rounds fun x=>by unfold af;rw [jx];exact ⟨fun h=>h.2,fun k=>⟨h,k⟩⟩)
noncomputable abbrev H65:Hd:=⟨H2.pc,[],[((142,0),L65)],H2.mc⟩
theorem h65:HdOk Tryz.prog H65:=HdOk.lhCons h2 l65
def anc (a b:Ln):V65:=bif !(ZY a)||!(ZY b) then ⟨0,0,0⟩ else bif jY (Xd ⟨a,b⟩) (J8 ⟨a,b⟩) then jhz ⟨a,b⟩ (yn (Xd ⟨a,b⟩) (J8 ⟨a,b⟩)) else Xn ⟨a,b⟩ (J8 ⟨a,b⟩)
noncomputable def G65:List A1->Option (Bool × AV)
 | [.c (.sl [.int .i64,.int .i64,.int .i64] n ρ),.c (.sl [.int .i64,.int .i64,.int .i64] m σ)]=>some (dec (fewN n∧fewN m),.tup [.c (I (anc ⟨n,ρ⟩ ⟨m,σ⟩).c),.c (I (anc ⟨n,ρ⟩ ⟨m,σ⟩).e)])
 | _=>none
theorem jpS (a b : Ln) (ha : fewN a.n) (hb : fewN b.n) : (Tree.need (dec (fewN a.n)) (.need (!(((!(ZY a)) == false) && true) || dec (fewN b.n)) (.br (!(ZY a) || !(ZY b)) (.leaf (AV.tup [.c (I 0), .c (I 0)]))
  (.need (af ⟨a,b⟩ ⟨0,0,0⟩) (.need (Qr (GQ ⟨a,b⟩ ⟨0,0,0⟩).1 (.exit 0)) (.leaf (AV.tup [.c (I (GQ ⟨a,b⟩ ⟨0,0,0⟩).2.c),.c (I (GQ ⟨a,b⟩ ⟨0,0,0⟩).2.e)]))))))).All
   (fun z=>z=.tup [.c (I (anc a b).c),.c (I (anc a b).e)]):=by
 have h:=jmG ⟨a,b⟩ ha;have hi:af ⟨a,b⟩ ⟨0,0,0⟩=true:=jx.2 ⟨ha,0,Nat.zero_le _,rfl⟩;have hf:GQ ⟨a,b⟩ ⟨0,0,0⟩=_:=h.fin0;refine ⟨jx.2 ha,by rw [jx.2 hb,Bool.or_true],fun hc => ?_,fun hc=>⟨hi,?_⟩⟩
 ·unfold anc;rw [hc];rfl
 ·rw [hf];unfold anc;rw [hc];cases jY (Xd ⟨a,b⟩) (J8 ⟨a,b⟩)<;>exact ⟨rfl,rfl⟩
theorem p65:TcOne Tryz.prog 142 (nG G65):=qC h65 10 142 fun args r h=>by
 unfold G65 at h;split at h
 ·rename_i n ρ m σ;obtain ⟨hp,rfl⟩:=Prod.mk.inj (Option.some.inj h);have hp:=jx.1 hp;refine ⟨rfl,_,?_,jpS ⟨n,ρ⟩ ⟨m,σ⟩ hp.1 hp.2⟩
  kernel_rfl
 ·cases h
noncomputable abbrev H3:Hd:=⟨(142,nG G65)::H2.pc,[],[],H2.mc⟩
theorem h3:HdOk Tryz.prog H3:=h2.tcCons p65
theorem jnj {l:Ln} {i:Nat} (hp:∀ j,j<i->Un l j=false):0<=(prv l.ρ i).e∧(prv l.ρ i).e<=1073741824∧(prv l.ρ i).t<=1073741824∧(0<i->1<=(prv l.ρ i).t∧1<=(prv l.ρ i).e):=by
 induction i with
 | zero=>exact ⟨by simp [prv],by simp [prv],by simp [prv],fun h=>by omega⟩
 | succ i ih =>
   obtain ⟨i1,i2,i3,i4⟩:=ih fun j hj=>hp j (by omega)
   have h:=hp i (by omega)
   unfold Un Gp at h;simp only [Bool.or_eq_false_iff,Bool.not_eq_false',aTq,qz,bne_eq_false_iff_eq] at h;obtain ⟨⟨⟨⟨h1,h2⟩,h3⟩,h4⟩,h5⟩:=h;rw [← Bool.not_eq_true,Jl] at h2 h3
   have hge:0<=(prv l.ρ i).t:=by
    cases i with
    | zero=>simp [prv]
    | succ i=>have:=(i4 (by omega)).1;omega
   rw [w64_id (by omega) (by omega)] at h1
   show 0<=(spn l.ρ i).e∧(spn l.ρ i).e<=1073741824∧(spn l.ρ i).t<=1073741824∧(_->1<=(spn l.ρ i).t∧1<=(spn l.ρ i).e);exact ⟨by omega,h4.2,by omega,fun _=>⟨by omega,h4.1⟩⟩
def hd (l:Ln):Sp:=prv l.ρ l.n
theorem Mc {l:Ln} (hn:fewN l.n) (h0:(ja l.n==0)=false):jc (IntKind.i64.wrap (ja l.n - 1)) l.n=true∧spn l.ρ (IntKind.i64.wrap (ja l.n - 1)).toNat=hd l:=by
 unfold fewN at hn;have h0':¬ (l.n:Int)=0:=by simpa [ja] using h0
 obtain ⟨k,hk⟩ : ∃ k,l.n=k+1:=⟨l.n - 1,by omega⟩
 have e:IntKind.i64.wrap (ja l.n - 1)=(k:Int):=by
  show IntKind.i64.wrap ((l.n:Int) - 1)=_;rw [w64_id (by omega) (by omega)];omega
 rw [e];refine ⟨inR (by omega),?_⟩
 unfold hd;rw [hk];rfl
theorem jj1 {l:Ln} (h0:(ja l.n==0)=true):hd l=⟨0,0,0⟩:=by
 have h0':l.n=0:=by
  have:(l.n:Int)=0:=by simpa [ja] using h0
  omega
 unfold hd;rw [h0'];rfl
noncomputable def G50:List A1->Option (Bool × AV)
 | [.c (.sl [.int .i64,.int .i64,.int .i64] n ρ)]=>some (dec (fewN n),.one (.agg [I (hd ⟨n,ρ⟩).e,I (hd ⟨n,ρ⟩).f,I (hd ⟨n,ρ⟩).t]))
 | _=>none
theorem p50:TcOne Tryz.prog 102 (nG G50):=qC h3 10 102 fun args r h=>by
 unfold G50 at h;split at h
 ·rename_i n ρ;obtain ⟨hp,rfl⟩:=Prod.mk.inj (Option.some.inj h);have hp:=jx.1 hp
  refine ⟨rfl,.br (ja n==0) (.leaf (.one (.agg [I 0,I 0,I 0]))) (.need (jc (IntKind.i64.wrap (ja n - 1)) n)
   (.leaf (.one (.agg [I (spn ρ (IntKind.i64.wrap (ja n - 1)).toNat).e,I (spn ρ (IntKind.i64.wrap (ja n - 1)).toNat).f,I (spn ρ (IntKind.i64.wrap (ja n - 1)).toNat).t])))),by kernel_rfl,fun h0 => ?_,fun h0 => ?_⟩
  ·have:=jj1 (l:=⟨n,ρ⟩) h0
   rw [this];rfl
  ·obtain ⟨a,b⟩:=Mc (l:=⟨n,ρ⟩) hp h0;simp only at a b;exact ⟨a,by rw [b];rfl⟩
 ·cases h
theorem jhY {l:Ln} (h0:(ja l.n==0)=false):(((anc l l).c==(hd l).t&&(anc l l).e==(hd l).e)&&lt 0 (anc l l).c)=ZY l:=by
 have h0':¬ (l.n:Int)=0:=by simpa [ja] using h0
 obtain ⟨k,hk⟩ : ∃ k,l.n=k+1:=⟨l.n - 1,by omega⟩
 have hb:∀ i,Xd ⟨l,l⟩ i=false:=fun i=>by simp [Xd]
 have ha:jY (Xd ⟨l,l⟩) (J8 ⟨l,l⟩)=false:=Uf fun i _=>hb i;have hl:J8 ⟨l,l⟩=k+1:=by unfold J8;simp only;omega
 have him:∀ x:Int,QX x x=x:=fun x=>by unfold QX;cases lt x x<;>rfl
 unfold anc;cases hc:ZY l
 ·simp [lt]
 ·rw [ha,hl];simp only [Bool.not_true,Bool.or_self,cond_false];have e1:hd l=spn l.ρ k:=by unfold hd;rw [hk];rfl
  have hp:∀ j,j<k+1->Un l j=false:=fun j hj=>by
   rw [← Bool.not_eq_true];intro hh
   have:=QM.2 ⟨j,show j<l.n by omega,hh⟩
   unfold ZY at hc;rw [this] at hc;cases hc
  have ht:=(jnj hp).2.2.2 (by omega)
  show (((QX (spn l.ρ k).t (spn l.ρ k).t)==(hd l).t&&(spn l.ρ k).e==(hd l).e)&&lt 0 (QX (spn l.ρ k).t (spn l.ρ k).t))=true;rw [him,e1]
  have:lt 0 (spn l.ρ k).t=true:=(Jl _ _).2 (by
   have:1<=(spn l.ρ k).t:=ht.1
   omega)
  simp [this]
noncomputable abbrev H4:Hd:=⟨(102,nG G50)::H3.pc,[],[],H3.mc⟩
theorem h4:HdOk Tryz.prog H4:=h3.tcCons p50
theorem p54:TcOne Tryz.prog 101 (nG G66):=qC h4 10 101 fun args r h=>by
 unfold G66 at h;split at h
 ·rename_i n ρ;obtain ⟨hp,rfl⟩:=Prod.mk.inj (Option.some.inj h);have hp:=jx.1 hp
  refine ⟨rfl,.br (ja n==0) (.leaf (.one (.c (.bool true)))) (.need (dec (fewN n∧fewN n)) (.need (jc (IntKind.i64.wrap (ja n - 1)) n)
   (.leaf (.one (.c (.bool (((anc ⟨n,ρ⟩ ⟨n,ρ⟩).c==(spn ρ (IntKind.i64.wrap (ja n - 1)).toNat).t&&(anc ⟨n,ρ⟩ ⟨n,ρ⟩).e==(spn ρ (IntKind.i64.wrap (ja n - 1)).toNat).e)&&lt 0 (anc ⟨n,ρ⟩ ⟨n,ρ⟩).c))))))),by kernel_rfl,fun h0 => ?_,fun h0 => ?_⟩
  ·have h0' : n = 0 := by
    have:(n:Int)=0:=by simpa [ja] using h0
    omega
   subst h0';rfl
  ·obtain ⟨a,b⟩:=Mc (l:=⟨n,ρ⟩) hp h0;simp only at a b;refine ⟨jx.2 ⟨hp,hp⟩,a,?_⟩;rw [b]
   have:=jhY (l:=⟨n,ρ⟩) h0
   show AV.one (.c (.bool _))=_;rw [this]
 ·cases h
noncomputable abbrev H5:Hd:=⟨(101,nG G66)::H4.pc,[],[],H4.mc⟩
theorem h5:HdOk Tryz.prog H5:=h4.tcCons p54
def sit (a:Int):Bool:=le 0 a&&lt a 4
def rcv (r:Int):Bool:=r==2||r==4
def G47:List A1->Option AV
 | [.c (.int .i64 a),.c (.int .i64 b),.c (.int .i64 c)]=>some (.one (.c (.bool (le b a&&le a c))))
 | _=>none
theorem p47:PcOne Tryz.prog 100 G47:=Z4 h5 10 100 fun args r h=>by
 unfold G47 at h;split at h
 ·obtain rfl:=Option.some.inj h;exact ⟨rfl,by kernel_rfl,by kernel_rfl⟩
 ·cases h
def G55:List A1->Option AV
 | [.c (.int .i64 a)]=>some (.one (.c (.bool (rcv a))))
 | _=>none
theorem p55:PcOne Tryz.prog 103 G55:=Z4 h5 10 103 fun args r h=>by
 unfold G55 at h;split at h
 ·obtain rfl:=Option.some.inj h;exact ⟨rfl,by kernel_rfl,by kernel_rfl⟩
 ·cases h
noncomputable abbrev H6:Hd:=⟨(100,oG G47)::(103,oG G55)::H5.pc,[],[],H5.mc⟩
theorem h6:HdOk Tryz.prog H6:=(h5.pcCons p55).pcCons p47
def oth (m a:Int):Bool:=(le 0 m&&le m 3)&&m != a
def G44:List A1->Option AV
 | [.agg [.int .i64 a,.int .i64 _,.int .i64 _,.int .i64 _,.sl [.int .i64,.int .i64,.int .i64] _ _,.int .i64 _,.bool _,.bool _],.c (.int .i64 m)]=>some (.one (.c (.bool (oth m a))))
 | _=>none
theorem p44:PcOne Tryz.prog 104 G44:=Z4 h6 10 104 fun args r h=>by
 unfold G44 at h;split at h
 ·obtain rfl:=Option.some.inj h;exact ⟨rfl,by kernel_rfl,by kernel_rfl⟩
 ·cases h
noncomputable abbrev H7:Hd:=⟨(104,oG G44)::H6.pc,[],[],H6.mc⟩
theorem h7:HdOk Tryz.prog H7:=h6.pcCons p44
def chk (a r e p:Int) (l:Ln) (s:Int):Int :=
 bif !sit a then 2 else bif !(le 0 r&&le r 5) then 18 else bif (!tim e||!tim p)||(e==0&&r != 0) then 2 else bif !ZY l then 3 else bif lt e (hd l).e then 13 else bif (hd l).t != p then 22 else bif (rcv r&&!oth s a)||(!rcv r&&s != -1) then 1 else 0
theorem YS {α:Type} {r:α}:∀ {t:Tree α},t.sel=some r->t.All (fun z=>z=r)
 | .leaf a, h => by
   simp only [Tree.sel,sIq] at h;exact h
 | .br c t e,h=>⟨fun hc=>YS (by simpa [Tree.sel,hc] using h),fun hc=>YS (by simpa [Tree.sel,hc] using h)⟩
 | .need c t, h => by
   cases c
   ·simp [Tree.sel] at h
   ·exact ⟨rfl,YS (by simpa [Tree.sel] using h)⟩
 | .fail,h=>by simp [Tree.sel] at h
theorem jpw (q1 q2 te tp eo co he ht ra rb pre:Bool) (hp:pre=true):(Tree.br (!q1) (Tree.leaf (AV.one (A1.c (I 2))))
 (Tree.br (!q2) (Tree.leaf (AV.one (A1.c (I 18))))
  (Tree.br (!te)
   (Tree.br (!te) (Tree.leaf (AV.one (A1.c (I 2))))
    (Tree.need (pre)
     (Tree.br (!co) (Tree.leaf (AV.one (A1.c (I 3))))
      (Tree.need (pre)
       (Tree.br (he) (Tree.leaf (AV.one (A1.c (I 13))))
        (Tree.need (pre)
         (Tree.br (ht) (Tree.leaf (AV.one (A1.c (I 22))))
          (Tree.br (ra)
           (Tree.br (ra) (Tree.leaf (AV.one (A1.c (I 1))))
            (Tree.leaf (AV.one (A1.c (I 0)))))
           (Tree.br (rb) (Tree.leaf (AV.one (A1.c (I 1))))
            (Tree.leaf (AV.one (A1.c (I 0)))))))))))))
   (Tree.br (!tp)
    (Tree.br (!tp) (Tree.leaf (AV.one (A1.c (I 2))))
     (Tree.need (pre)
      (Tree.br (!co) (Tree.leaf (AV.one (A1.c (I 3))))
       (Tree.need (pre)
        (Tree.br (he) (Tree.leaf (AV.one (A1.c (I 13))))
         (Tree.need (pre)
          (Tree.br (ht) (Tree.leaf (AV.one (A1.c (I 22))))
           (Tree.br (ra)
            (Tree.br (ra) (Tree.leaf (AV.one (A1.c (I 1))))
             (Tree.leaf (AV.one (A1.c (I 0)))))
            (Tree.br (rb) (Tree.leaf (AV.one (A1.c (I 1))))
             (Tree.leaf (AV.one (A1.c (I 0)))))))))))))
    (Tree.br eo (Tree.leaf (AV.one (A1.c (I 2))))
     (Tree.need (pre)
      (Tree.br (!co) (Tree.leaf (AV.one (A1.c (I 3))))
       (Tree.need (pre)
        (Tree.br (he) (Tree.leaf (AV.one (A1.c (I 13))))
         (Tree.need (pre)
          (Tree.br (ht) (Tree.leaf (AV.one (A1.c (I 22))))
           (Tree.br (ra)
            (Tree.br (ra) (Tree.leaf (AV.one (A1.c (I 1))))
             (Tree.leaf (AV.one (A1.c (I 0)))))
            (Tree.br (rb) (Tree.leaf (AV.one (A1.c (I 1))))
             (Tree.leaf (AV.one (A1.c (I 0))))))))))))))))).sel=some (AV.one (.c (I (bif !q1 then 2 else bif !q2 then 18 else bif (!te||!tp)||eo then 2 else bif !co then 3 else bif he then 13 else bif ht then 22 else bif ra||rb then 1 else 0)))):=by
 subst hp;cases q1
 ·rfl
 cases q2
 ·rfl
 cases te
 ·rfl
 cases tp
 ·rfl
 cases eo
 ·cases co
  ·rfl
  cases he
  ·cases ht
   ·cases ra<;>cases rb<;>rfl
   ·rfl
  ·rfl
 ·rfl
noncomputable def jhl:List A1->Option (Bool × AV)
 | [.agg [.int .i64 a,.int .i64 r,.int .i64 e,.int .i64 p,.sl [.int .i64,.int .i64,.int .i64] n ρ,.int .i64 s,.bool _,.bool _]]=>some (dec (fewN n),.one (.c (I (chk a r e p ⟨n,ρ⟩ s))))
 | _=>none
theorem joC (a:Int):(le 0 a&&le a 3)=sit a:=by
 unfold sit;rw [Bool.eq_iff_iff];simp only [aTq,qz,Jl];omega
theorem p23:TcOne Tryz.prog 47 (nG jhl):=qC h7 10 47 fun args r h=>by
 unfold jhl at h;split at h
 ·rename_i a r e p n ρ s l c;obtain ⟨hp,rfl⟩:=Prod.mk.inj (Option.some.inj h);have ht:=jpw (le 0 a&&le a 3) (le 0 r&&le r 5) (tim e) (tim p) (e==0&&r != 0) (ZY ⟨n,ρ⟩) (lt e (hd ⟨n,ρ⟩).e) ((hd ⟨n,ρ⟩).t != p) (rcv r&&!oth s a) (!rcv r&&s != -1) (dec (fewN n)) hp;rw [joC] at ht;refine ⟨rfl,_,?_,YS ht⟩;rw [← joC]
  kernel_rfl
 ·cases h
noncomputable abbrev H8:Hd:=⟨(47,nG jhl)::H7.pc,[],[],H7.mc⟩
theorem h8:HdOk Tryz.prog H8:=h7.tcCons p23
structure LL where
 l:Ln
 m:Ln
def dif (ρ σ:Val) (i:Nat):Bool :=
 !(((ρ.at i).at 0).N []==((σ.at i).at 0).N []&&(((ρ.at i).at 1).N []==((σ.at i).at 1).N []&&(((ρ.at i).at 2).N []==((σ.at i).at 2).N []&&true)))
def Iy (c:LL) (i:Nat):Bool:=dif c.l.ρ c.m.ρ i
def eqL (c:LL):Bool:=bif c.l.n==c.m.n then !(jY (Iy c) c.l.n) else false
def TXe (c:LL) (i:Int):Tree (XE × Int) :=
 .br (lt i (ja c.l.n)) (.need (jc i c.l.n) (.need (jc i c.m.n) (.br (dif c.l.ρ c.m.ρ i.toNat) (.leaf (.ret,i)) (.leaf (.normal,IntKind.i64.wrap (i+1)))))) (.leaf (.exit 0,i))
theorem sqE (c:LL) (he:c.l.n=c.m.n) (hn:fewN c.l.n):Sq (TXe c) (fun i=>(c.l.n - i).toNat) (fun i=>(i:Int)) (fun i=>(i:Int)) c.l.n (Iy c) .ret (.exit 0) where
 out:=by simp
 hit:=by simp
 meas i hi:=by
  show ((c.l.n:Int) - (i:Int)).toNat=c.l.n - i;omega
 round i hi:=by
  unfold fewN at hn;have hl:lt (i:Int) (ja c.l.n)=true:=ltF hi;have hw:IntKind.i64.wrap ((i:Int)+1)=((i+1:Nat):Int):=by rw [w64_id (by omega) (by omega)];omega
  refine ⟨fun _=>⟨inR hi,inR (he▸hi),fun hb => ?_,fun hb => ?_⟩,fun h => ?_⟩
  ·have:Iy c i=true:=hb
   simp only [Tree.All,this,if_true]
  ·have:Iy c i=false:=hb
   simp only [Tree.All,this,Bool.false_eq_true,if_false];rw [hw]
  ·rw [hl] at h;cases h
 stop:=by
  refine ⟨fun h => ?_,fun _=>rfl⟩;rw [ltS] at h;cases h
noncomputable def FR (c:LL) (v:Int):Bool:=dec ((c.l.n=c.m.n∧fewN c.l.n)∧∃ i:Nat,i<=c.l.n∧v=(i:Int))
def jaw (c:LL) (v:Int):XE × Int:=fin (TXe c) (fun i=>(c.l.n - i).toNat) v
noncomputable def GE:List A1->Option (Bool × AV)
 | [.c (.sl [.int .i64,.int .i64,.int .i64] n ρ),.c (.sl [.int .i64,.int .i64,.int .i64] k σ)]=>some (dec (fewN n),.one (.c (.bool (eqL ⟨⟨n,ρ⟩,⟨k,σ⟩⟩))))
 | _=>none
theorem jq1 (c : LL) (hn : fewN c.l.n) : (Tree.br (ja c.l.n != ja c.m.n) (.leaf (AV.one (.c (.bool false)))) (.need (FR c 0) (.br (Qr (jaw c 0).1 .ret) (.leaf (AV.one (.c (.bool false))))
  (.need (Qr (jaw c 0).1 (.exit 0)) (.leaf (AV.one (.c (.bool true)))))))).All (fun z=>z=.one (.c (.bool (eqL c)))):=by
 refine ⟨fun h => ?_,fun h => ?_⟩
 ·have hne:c.l.n ≠ c.m.n:=fun e=>by rw [e] at h;simp at h
  show _=_;simp [eqL,hne]
 ·have he : c.l.n = c.m.n := by
   have h':(c.l.n:Int)=(c.m.n:Int):=by simp at h;exact h
   omega
  have hs:=sqE c he hn;have hi:FR c 0=true:=jx.2 ⟨⟨he,hn⟩,0,Nat.zero_le _,rfl⟩;have hf:jaw c 0=_:=hs.fin0;refine ⟨hi,?_⟩;rw [hf];have hb:(c.l.n==c.m.n)=true:=by simp [he]
  unfold eqL;rw [hb];cases jY (Iy c) c.l.n
  ·exact ⟨fun h=>(by cases h),fun _=>⟨rfl,rfl⟩⟩
  ·exact ⟨fun _=>rfl,fun h=>(by cases h)⟩
def S46 (c:LL) (i:Int):St:=mkS 26 [(0,.one (.c (.sl spSh c.l.n c.l.ρ))),(1,.one (.c (.sl spSh c.m.n c.m.ρ))),(4,.one (.c (.bool false))),(5,.one (.c (I i)))] []
theorem t46 (c:LL) (i:Int):((jQ Tryz.prog H8 (jU Tryz.prog H8 10) 57 0 1 (qn Tryz.prog 57 0) (S46 c i)).bind fun y=>gcT [0,1,4,5] 0 y)=(TXe c i).bind fun y=>.leaf (y.1,S46 c y.2):=by kernel_rfl
def jcK:List (Nat × AV)->Mem->Option (LL × Int)
 | [(0,.one (.c (.sl [.int .i64,.int .i64,.int .i64] n ρ))),(1,.one (.c (.sl [.int .i64,.int .i64,.int .i64] k σ))),(4,.one (.c (.bool false))),(5,.one (.c (.int .i64 i)))],[]=>some (⟨⟨n,ρ⟩,⟨k,σ⟩⟩,i)
 | _,_=>none
noncomputable def L46:Nat->St->Tree (XE × St):=Y5 [0,1,4,5] 0 26 jcK FR S46 jaw [.ret,.exit 0]
theorem l46 (fn:Func) (c b:Code) (hf:Tryz.prog.funcs[57]? = some fn) (hc:fn.body=some c) (hb:je c 0=some b):LoopOk Tryz.prog b L46 :=
 JS h8 10 57 0 hf hc hb [0,1,4,5] 0 26 S46 TXe t46 jcK FR (fun c i=>(c.l.n - i).toNat) [.ret,.exit 0]
  (fun l m c v h=>by unfold jcK at h;split at h<;>simp at h;obtain ⟨rfl,rfl⟩:=h;rfl)
  (Zb fun c v hv=>by
   have h:=(jx.1 hv).1;exact (sqE c h.1 h.2).rounds fun x=>by unfold FR;rw [jx];exact ⟨fun h=>h.2,fun k=>⟨h,k⟩⟩)
noncomputable abbrev H46:Hd:=⟨H8.pc,[],[((57,0),L46)],H8.mc⟩
theorem h46:HdOk Tryz.prog H46:=HdOk.lhCons h8 l46
theorem p46:TcOne Tryz.prog 57 (nG GE):=qC h46 10 57 fun args r h=>by
 unfold GE at h;split at h
 ·rename_i n ρ k σ;obtain ⟨hp,rfl⟩:=Prod.mk.inj (Option.some.inj h);refine ⟨rfl,_,?_,jq1 ⟨⟨n,ρ⟩,⟨k,σ⟩⟩ (jx.1 hp)⟩
  kernel_rfl
 ·cases h
noncomputable def G17:List A1->Option (Bool × AV)
 | [.agg [.int .i64 a,.int .i64 r,.int .i64 e,.int .i64 p,.sl [.int .i64,.int .i64,.int .i64] n ρ,.int .i64 s,.bool l,.bool c],.agg [.int .i64 a',.int .i64 r',.int .i64 e',.int .i64 p',.sl [.int .i64,.int .i64,.int .i64] k σ,.int .i64 s',.bool l',.bool c']]=>some (dec (fewN n),.one (.c (.bool (((((((a==a'&&r==r')&&e==e')&&p==p')&&eqL ⟨⟨n,ρ⟩,⟨k,σ⟩⟩)&&s==s')&&l==l')&&c==c'))))
 | _=>none
noncomputable abbrev H9:Hd:=⟨(57,nG GE)::H8.pc,[],[],H8.mc⟩
theorem h9:HdOk Tryz.prog H9:=h8.tcCons p46
theorem p17:TcOne Tryz.prog 20 (nG G17):=qC h9 10 20 fun args r h=>by
 unfold G17 at h;split at h
 ·rename_i a r e p n ρ s l c a' r' e' p' k σ s' l' c';obtain ⟨hp,rfl⟩:=Prod.mk.inj (Option.some.inj h);refine ⟨rfl,.need (!((((((a==a'&&r==r')&&e==e')&&p==p')==true)&&true))||dec (fewN n)) (.leaf (.one (.c (.bool (((((((a==a'&&r==r')&&e==e')&&p==p')&&eqL ⟨⟨n,ρ⟩,⟨k,σ⟩⟩)&&s==s')&&l==l')&&c==c'))))),?_,by rw [hp,Bool.or_true];exact ⟨rfl,rfl⟩⟩
  kernel_rfl
 ·cases h
noncomputable abbrev H10:Hd:=⟨(20,nG G17)::H9.pc,[],[],H9.mc⟩
theorem h10:HdOk Tryz.prog H10:=h9.tcCons p17
noncomputable abbrev H11:Hd:=H10
theorem h11:HdOk Tryz.prog H11:=h10
noncomputable abbrev H12:Hd:=H11
theorem h12:HdOk Tryz.prog H12:=h11
def dmd (ok:Bool) (x e:Int):Int:=bif !ok&&e==0 then x else e
def G40:List A1->Mem->Tree (AV × Mem)
 | [.c (.ptr 5 0),.c (.bool ok),.c (.int .i64 x)],m0::m1::m2::m3::m4::some (222,[.int .i64 c0,c1,c2,c3,c4,c5,c6,c7,.int .i64 e])::r=>.leaf (.tup [],m0::m1::m2::m3::m4::some (222,[.int .i64 c0,c1,c2,c3,c4,c5,c6,c7,.int .i64 (dmd ok x e)])::r)
 | [.c (.ptr 6 0),.c (.bool ok),.c (.int .i64 x)],m0::m1::m2::m3::m4::m5::some (222,[.int .i64 c0,c1,c2,c3,c4,c5,c6,c7,.int .i64 e])::r=>.leaf (.tup [],m0::m1::m2::m3::m4::m5::some (222,[.int .i64 c0,c1,c2,c3,c4,c5,c6,c7,.int .i64 (dmd ok x e)])::r)
 | _,_=>.fail
theorem q40:qH Tryz.prog 151 G40:=YK h12 10 151 fun args mem r mem' h=>by
 unfold G40 at h;split at h
 ·rename_i ok x m0 m1 m2 m3 m4 c0 c1 c2 c3 c4 c5 c6 c7 e rest;simp only [Tree.sel,sIq,pIq] at h;obtain ⟨rfl,rfl⟩:=h;refine ⟨.br (!ok&&e==0) (.leaf (.tup [],m0::m1::m2::m3::m4::some (222,[.int .i64 c0,c1,c2,c3,c4,c5,c6,c7,.int .i64 x])::rest)) (.leaf (.tup [],m0::m1::m2::m3::m4::some (222,[.int .i64 c0,c1,c2,c3,c4,c5,c6,c7,.int .i64 e])::rest)),by kernel_rfl,fun hc => ?_,fun hc => ?_⟩
  ·show _=_;unfold dmd;rw [hc];rfl
  ·show _=_;unfold dmd;rw [hc];rfl
 ·rename_i ok x m0 m1 m2 m3 m4 m5 c0 c1 c2 c3 c4 c5 c6 c7 e rest;simp only [Tree.sel,sIq,pIq] at h;obtain ⟨rfl,rfl⟩:=h;refine ⟨.br (!ok&&e==0) (.leaf (.tup [],m0::m1::m2::m3::m4::m5::some (222,[.int .i64 c0,c1,c2,c3,c4,c5,c6,c7,.int .i64 x])::rest)) (.leaf (.tup [],m0::m1::m2::m3::m4::m5::some (222,[.int .i64 c0,c1,c2,c3,c4,c5,c6,c7,.int .i64 e])::rest)),by kernel_rfl,fun hc => ?_,fun hc => ?_⟩
  ·show _=_;unfold dmd;rw [hc];rfl
  ·show _=_;unfold dmd;rw [hc];rfl
 ·simp [Tree.sel] at h
noncomputable abbrev H13:Hd:=⟨H12.pc,[],[],(151,G40)::H12.mc⟩
theorem h13:HdOk Tryz.prog H13:=h12.mcCons q40
structure Sit where
 a:Int
 r:Int
 e:Int
 p:Int
 n:Nat
 ρ:Val
 s:Int
 l:Bool
 c:Bool
def Sit.cv (x:Sit):A1:=.agg [I x.a,I x.r,I x.e,I x.p,.sl spSh x.n x.ρ,I x.s,.bool x.l,.bool x.c]
def Qj (x:Sit):Int:=chk x.a x.r x.e x.p ⟨x.n,x.ρ⟩ x.s
def Zr (k:Int):AV:=.tup [.agg [I 0,I 0,I 0,I 0,.nils,I 0,.bool false,.bool false],.c (I k)]
def Sok (x:Sit):AV:=.tup [x.cv,.c (I 0)]
def UF (k:Int) (x:Sit):AV:=.tup [.agg [I (bif k==0 then x.a else 0),I (bif k==0 then x.r else 0),I (bif k==0 then x.e else 0),I (bif k==0 then x.p else 0),.sl spSh (bif k==0 then x.n else 0) x.ρ,I (bif k==0 then x.s else 0),.bool (k==0&&x.l),.bool (k==0&&x.c)],.c (I k)]
theorem jgf {es:List Sh} {ρ:Val}:leC .nils (.sl es 0 ρ):=fun _ _ _ h=>by cases h;exact .slnil
theorem jbD {k j:Int} {x:Sit} (hj:j=k) (hk:(j==0)=false):leA (Zr j) (UF k x):=by
 subst hj;unfold Zr UF;rw [hk];refine ZV (.cons (.agg ?_) (.cons le1.refl .nil));exact .cons leC.refl (.cons leC.refl (.cons leC.refl (.cons leC.refl (.cons jgf (.cons leC.refl (.cons leC.refl (.cons leC.refl .nil)))))))
theorem Ug {k:Int} {x y:Sit} (hk:(k==0)=true) (hy:y=x):leA (Sok y) (UF k x):=by
 have hk0:k=0:=by simpa using hk
 subst hk0;subst hy;exact leA.refl
def small (n:Nat):Prop:=n<=100000
theorem KW {n:Nat} (h:small n):dec (fewN n)=true:=jx.2 (by unfold small at h;unfold fewN;omega)
theorem KJ {n:Nat} (h:small n):Nat.ble ((0+n)*24) 140737488355328=true:=Nat.ble_eq_true_of_le (by unfold small at h;omega)
theorem DJ {n:Nat} {k:Int} {x y:Sit} (hs:small n) (hy:y=x):(Tree.need (Nat.ble ((0+n)*24) 140737488355328) (.need (dec (fewN n)) (.br (k != 0) (.leaf (Zr k)) (.leaf (Sok y))))).All (fun z=>leA z (UF k x)):=by
 refine ⟨KJ hs,KW hs,fun h=>jbD rfl (by simpa [bne] using h),fun h=>Ug (by simpa [bne] using h) hy⟩
def chain (e:Int):List (Bool × Int)->Int
 | []=>e
 | (ok,k)::r=>chain (dmd ok k e) r
def pro (x:Sit) (y:Int):Sit:={ x with r:=1,e:=y,s:=-1 }
def proE (x:Sit) (y:Int):Int:=chain (Qj x) [(x.l,12),((x.r==0&&ja x.n==0)||x.r==2||x.r==3,18),(lt x.e y,13),(le y 1073741824,2)]
noncomputable def jhE:List A1->Option (Bool × AV)
 | [.agg [.int .i64 a,.int .i64 r,.int .i64 e,.int .i64 p,.sl [.int .i64,.int .i64,.int .i64] n ρ,.int .i64 s,.bool l,.bool c],.c (.int .i64 y)]=>some (dec (small n),UF (proE ⟨a,r,e,p,n,ρ,s,l,c⟩ y) (pro ⟨a,r,e,p,n,ρ,s,l,c⟩ y))
 | _=>none
theorem u13:jj Tryz.prog 124 (nG jhE):=jJ h13 12 124 fun args r h=>by
 unfold jhE at h;split at h
 ·rename_i a r e p n ρ s l c y;obtain ⟨hp,rfl⟩:=Prod.mk.inj (Option.some.inj h);exact ⟨_,by kernel_rfl,DJ (jx.1 hp) rfl⟩
 ·cases h
def demo (x:Sit) (y src:Int):Sit:={ x with r:=bif src==-1 then 5 else 2,e:=y,s:=src }
def demoE (x:Sit) (y src:Int):Int:=chain (Qj x) [(x.r==1,18),(le x.e y,13),(le y 1073741824,2),(src==-1||oth src x.a,1)]
noncomputable def jg8:List A1->Option (Bool × AV)
 | [.agg [.int .i64 a,.int .i64 r,.int .i64 e,.int .i64 p,.sl [.int .i64,.int .i64,.int .i64] n ρ,.int .i64 s,.bool l,.bool c],.c (.int .i64 y),.c (.int .i64 src)]=>some (dec (small n),UF (demoE ⟨a,r,e,p,n,ρ,s,l,c⟩ y src) (demo ⟨a,r,e,p,n,ρ,s,l,c⟩ y src))
 | _=>none
theorem MV {Q : AV -> Prop} {b : Bool} {k : Int} {x1 x2 : Sit} (h1 : k = 0 -> b = true -> Q (Sok x1)) (h2 : k = 0 -> b = false -> Q (Sok x2)) (h3 : (k == 0) = false -> Q (Zr k)) :
  (Tree.br b (.br (k != 0) (.leaf (Zr k)) (.leaf (Sok x1))) (.br (k != 0) (.leaf (Zr k)) (.leaf (Sok x2)))).All Q :=
 ⟨fun hb=>⟨fun hk=>h3 (by simpa [bne] using hk),fun hk=>h1 (by simpa [bne] using hk) hb⟩,fun hb=>⟨fun hk=>h3 (by simpa [bne] using hk),fun hk=>h2 (by simpa [bne] using hk) hb⟩⟩
theorem u15:jj Tryz.prog 122 (nG jg8):=jJ h13 12 122 fun args r h=>by
 unfold jg8 at h;split at h
 ·rename_i a r e p n ρ s l c y src;obtain ⟨hp,rfl⟩:=Prod.mk.inj (Option.some.inj h);have hp:=jx.1 hp;refine ⟨.need (Nat.ble ((0+n)*24) 140737488355328) (.need (dec (fewN n)) (Tree.br (src==-1) (.br (demoE ⟨a,r,e,p,n,ρ,s,l,c⟩ y src != 0) (.leaf (Zr (demoE ⟨a,r,e,p,n,ρ,s,l,c⟩ y src))) (.leaf (Sok ⟨a,5,y,p,n,ρ,src,l,c⟩))) (.br (demoE ⟨a,r,e,p,n,ρ,s,l,c⟩ y src != 0) (.leaf (Zr (demoE ⟨a,r,e,p,n,ρ,s,l,c⟩ y src))) (.leaf (Sok ⟨a,2,y,p,n,ρ,src,l,c⟩))))),by kernel_rfl,KJ hp,KW hp,MV (fun hk hb => ?_) (fun hk hb => ?_) (fun hk=>jbD rfl hk)⟩
  ·exact Ug (by rw [hk];rfl) (by unfold demo;rw [hb];rfl)
  ·exact Ug (by rw [hk];rfl) (by unfold demo;rw [hb];rfl)
 ·cases h
def iso (x:Sit):Sit:={ x with r:=3,s:=-1 }
def isoE (x:Sit):Int:=chain (Qj x) [(x.r==2,18)]
noncomputable def jeC:List A1->Option (Bool × AV)
 | [.agg [.int .i64 a,.int .i64 r,.int .i64 e,.int .i64 p,.sl [.int .i64,.int .i64,.int .i64] n ρ,.int .i64 s,.bool l,.bool c]]=>some (dec (small n),UF (isoE ⟨a,r,e,p,n,ρ,s,l,c⟩) (iso ⟨a,r,e,p,n,ρ,s,l,c⟩))
 | _=>none
theorem u24:jj Tryz.prog 125 (nG jeC):=jJ h13 12 125 fun args r h=>by
 unfold jeC at h;split at h
 ·rename_i a r e p n ρ s l c;obtain ⟨hp,rfl⟩:=Prod.mk.inj (Option.some.inj h);exact ⟨_,by kernel_rfl,DJ (k:=isoE ⟨a,r,e,p,n,ρ,s,l,c⟩) (y:=iso ⟨a,r,e,p,n,ρ,s,l,c⟩) (jx.1 hp) rfl⟩
 ·cases h
def rej (x:Sit) (y src:Int):Sit:={ x with r:=bif x.r==3&&y==x.e then 2 else 4,e:=y,s:=src }
def rejE (x:Sit) (y src:Int):Int:=chain (Qj x) [(x.r != 1&&x.r != 2,18),(le x.e y&&y != 0,13),(le y 1073741824,2),(oth src x.a,1)]
noncomputable def jgb:List A1->Option (Bool × AV)
 | [.agg [.int .i64 a,.int .i64 r,.int .i64 e,.int .i64 p,.sl [.int .i64,.int .i64,.int .i64] n ρ,.int .i64 s,.bool l,.bool c],.c (.int .i64 y),.c (.int .i64 src)]=>some (dec (small n),UF (rejE ⟨a,r,e,p,n,ρ,s,l,c⟩ y src) (rej ⟨a,r,e,p,n,ρ,s,l,c⟩ y src))
 | _=>none
theorem u26:jj Tryz.prog 126 (nG jgb):=jJ h13 12 126 fun args r h=>by
 unfold jgb at h;split at h
 ·rename_i a r e p n ρ s l c y src;obtain ⟨hp,rfl⟩:=Prod.mk.inj (Option.some.inj h);have hp:=jx.1 hp;refine ⟨.need (Nat.ble ((0+n)*24) 140737488355328) (.need (dec (fewN n)) (Tree.br (r==3&&y==e) (.br (rejE ⟨a,r,e,p,n,ρ,s,l,c⟩ y src != 0) (.leaf (Zr (rejE ⟨a,r,e,p,n,ρ,s,l,c⟩ y src))) (.leaf (Sok ⟨a,2,y,p,n,ρ,src,l,c⟩))) (.br (rejE ⟨a,r,e,p,n,ρ,s,l,c⟩ y src != 0) (.leaf (Zr (rejE ⟨a,r,e,p,n,ρ,s,l,c⟩ y src))) (.leaf (Sok ⟨a,4,y,p,n,ρ,src,l,c⟩))))),by kernel_rfl,KJ hp,KW hp,MV (fun hk hb => ?_) (fun hk hb => ?_) (fun hk=>jbD rfl hk)⟩
  ·exact Ug (by rw [hk];rfl) (by unfold rej;rw [hb];rfl)
  ·exact Ug (by rw [hk];rfl) (by unfold rej;rw [hb];rfl)
 ·cases h
noncomputable abbrev H14:Hd:=⟨H13.pc,[(124,nG jhE),(122,nG jg8),(125,nG jeC),(126,nG jgb)],[],H13.mc⟩
theorem h14:HdOk Tryz.prog H14:=(((h13.ucCons u26).ucCons u24).ucCons u15).ucCons u13
noncomputable abbrev H15:Hd:=H14
theorem h15:HdOk Tryz.prog H15:=h14
end Go.Proofs.YtiefjlcakpdfeaaGreat.Ro
namespace Go.Proofs.YtiefjlcakpdfeaaGreat.Ro
open Go Go.Sx Go.RowKit Classical
set_option maxRecDepth 100000
abbrev siSh:List Sh:=[.int .i64,.int .i64,.int .i64,.int .i64,.sl spSh,.int .i64,.bool,.bool]
structure Ses where
 n:Nat
 ρ:Val
def siAt (v:Val):Sit:=⟨(v.at 0).N [],(v.at 1).N [],(v.at 2).N [],(v.at 3).N [],(v.at 4).L [],v.at 4,(v.at 5).N [],(v.at 6).B [],(v.at 7).B []⟩
def Ses.at (l:Ses) (i:Nat):Sit:=siAt (l.ρ.at i)
structure VI where
 r:Int
 i:Int
def TXi (m:Int) (n:Nat) (bad:Nat->Bool) (v:VI):Tree (XE × VI) :=
 .br (lt v.i m) (.need (jc v.i n) (.br (bad v.i.toNat) (.leaf (.ret,⟨v.i,v.i⟩)) (.leaf (.normal,⟨v.r,IntKind.i64.wrap (v.i+1)⟩)))) (.leaf (.exit 0,v))
def stI (i:Nat):VI:=⟨0,i⟩
def sbI (i:Nat):VI:=⟨i,i⟩
def μI (n:Nat) (v:VI):Nat:=(n - v.i).toNat
theorem sqI {m:Int} {n:Nat} (bad:Nat->Bool) (hm:m=ja n) (hn:fewN n):Sq (TXi m n bad) (μI n) stI sbI n bad .ret (.exit 0) where
 out:=by simp
 hit:=by simp
 meas i hi:=by unfold μI stI;simp only;omega
 round i hi:=by
  unfold fewN at hn;have hw:IntKind.i64.wrap ((i:Int)+1)=((i+1:Nat):Int):=by rw [w64_id (by omega) (by omega)];omega
  refine ⟨fun _=>⟨inR hi,fun hb => ?_,fun hb => ?_⟩,fun h => ?_⟩
  ·have:bad i=true:=hb
   simp only [Tree.All,this,if_true];rfl
  ·have:bad i=false:=hb
   simp only [Tree.All,this,Bool.false_eq_true,if_false];show (XE.normal,(⟨0,IntKind.i64.wrap ((i:Int)+1)⟩ : VI))=_;rw [hw];rfl
  ·have:lt (i:Int) m=false:=h
   rw [hm,ltF hi] at this;cases this
 stop:=by
  refine ⟨fun h => ?_,fun _=>rfl⟩
  have:lt (n:Int) m=true:=h
  rw [hm,ltS] at this;cases this
def Zo (l:Ses) (y:Sit) (i:Nat):Bool:=(l.at i).a==y.a
def ZN (l:Ses) (y:Sit) (i:Nat):Bool:=(l.at i).r==y.r&&(l.at i).e==y.e
structure C56 where
 l:Ses
 m:Int
 y:Sit
def Be (y:Sit):Mem:=[some (56,[I y.a,I y.r,I y.e,I y.p,.sl spSh y.n y.ρ,I y.s,.bool y.l,.bool y.c])]
def jcH (c:C56) (v:VI):St:=mkS 19 [(0,.one (.c (.sl siSh c.l.n c.l.ρ))),(1,.one (.c (.fn (.func 49) [] [.ptr 0 0]))),(4,.one (.c (I v.r))),(7,.one (.c (I c.m))),(8,.one (.c (I v.i)))] (Be c.y)
def jbj (c:C56) (v:VI):St:=mkS 19 [(0,.one (.c (.sl siSh c.l.n c.l.ρ))),(1,.one (.c (.fn (.func 50) [] [.ptr 0 0]))),(4,.one (.c (I v.r))),(7,.one (.c (I c.m))),(8,.one (.c (I v.i)))] (Be c.y)
theorem jrQ (c:C56) (v:VI):((jQ Tryz.prog H15 (jU Tryz.prog H15 10) 105 1 1 (qn Tryz.prog 105 0) (jcH c v)).bind fun y=>gcT [0,1,4,7,8] 1 y)=(TXi c.m c.l.n (Zo c.l c.y) v).bind fun y=>.leaf (y.1,jcH c y.2):=by kernel_rfl
theorem jqO (c:C56) (v:VI):((jQ Tryz.prog H15 (jU Tryz.prog H15 10) 105 1 1 (qn Tryz.prog 105 0) (jbj c v)).bind fun y=>gcT [0,1,4,7,8] 1 y)=(TXi c.m c.l.n (ZN c.l c.y) v).bind fun y=>.leaf (y.1,jbj c y.2):=by kernel_rfl
noncomputable def Y9 (c:C56) (v:VI):Bool:=dec ((c.m=ja c.l.n∧fewN c.l.n)∧∃ i,i<=c.l.n∧v=stI i)
def Dd (c:C56) (v:VI):XE × VI:=fin (TXi c.m c.l.n (Zo c.l c.y)) (μI c.l.n) v
def T7 (c:C56) (v:VI):XE × VI:=fin (TXi c.m c.l.n (ZN c.l c.y)) (μI c.l.n) v
def Fx:List (Nat × AV)->Mem->Option (C56 × VI)
 | [(0, .one (.c (.sl [.int .i64, .int .i64, .int .i64, .int .i64, .sl [.int .i64, .int .i64, .int .i64], .int .i64, .bool, .bool] n ρ))), (1, .one (.c (.fn (.func 49) [] [.ptr 0 0]))), (4, .one (.c (.int .i64 r))), (7, .one (.c (.int .i64 m))), (8, .one (.c (.int .i64 i)))],
   [some (56,[.int .i64 a,.int .i64 ro,.int .i64 e,.int .i64 p,.sl [.int .i64,.int .i64,.int .i64] k σ,.int .i64 s,.bool l,.bool c])]=>some (⟨⟨n,ρ⟩,m,⟨a,ro,e,p,k,σ,s,l,c⟩⟩,⟨r,i⟩)
 | _,_=>none
def Di:List (Nat × AV)->Mem->Option (C56 × VI)
 | [(0, .one (.c (.sl [.int .i64, .int .i64, .int .i64, .int .i64, .sl [.int .i64, .int .i64, .int .i64], .int .i64, .bool, .bool] n ρ))), (1, .one (.c (.fn (.func 50) [] [.ptr 0 0]))), (4, .one (.c (.int .i64 r))), (7, .one (.c (.int .i64 m))), (8, .one (.c (.int .i64 i)))],
   [some (56,[.int .i64 a,.int .i64 ro,.int .i64 e,.int .i64 p,.sl [.int .i64,.int .i64,.int .i64] k σ,.int .i64 s,.bool l,.bool c])]=>some (⟨⟨n,ρ⟩,m,⟨a,ro,e,p,k,σ,s,l,c⟩⟩,⟨r,i⟩)
 | _,_=>none
noncomputable def jo8:Nat->St->Tree (XE × St):=Y5 [0,1,4,7,8] 1 19 Fx Y9 jcH Dd [.ret,.exit 0]
noncomputable def jpo:Nat->St->Tree (XE × St):=Y5 [0,1,4,7,8] 1 19 Di Y9 jbj T7 [.ret,.exit 0]
theorem jqv (fn:Func) (c b:Code) (hf:Tryz.prog.funcs[105]? = some fn) (hc:fn.body=some c) (hb:je c 0=some b):LoopOk Tryz.prog b jo8 :=
 JS h15 10 105 0 hf hc hb [0,1,4,7,8] 1 19 jcH (fun c=>TXi c.m c.l.n (Zo c.l c.y)) jrQ Fx Y9 (fun c=>μI c.l.n) [.ret,.exit 0]
  (fun l m c v h=>by unfold Fx at h;split at h<;>simp at h;obtain ⟨rfl,rfl⟩:=h;rfl)
  (Zb fun c v hv=>by
   have h:=(jx.1 hv).1;exact (sqI (Zo c.l c.y) h.1 h.2).rounds fun x=>by unfold Y9;rw [jx];exact ⟨fun h=>h.2,fun k=>⟨h,k⟩⟩)
theorem jrM (fn:Func) (c b:Code) (hf:Tryz.prog.funcs[105]? = some fn) (hc:fn.body=some c) (hb:je c 0=some b):LoopOk Tryz.prog b jpo :=
 JS h15 10 105 0 hf hc hb [0,1,4,7,8] 1 19 jbj (fun c=>TXi c.m c.l.n (ZN c.l c.y)) jqO Di Y9 (fun c=>μI c.l.n) [.ret,.exit 0]
  (fun l m c v h=>by unfold Di at h;split at h<;>simp at h;obtain ⟨rfl,rfl⟩:=h;rfl)
  (Zb fun c v hv=>by
   have h:=(jx.1 hv).1;exact (sqI (ZN c.l c.y) h.1 h.2).rounds fun x=>by unfold Y9;rw [jx];exact ⟨fun h=>h.2,fun k=>⟨h,k⟩⟩)
noncomputable abbrev HaB:Hd:=⟨H15.pc,H15.hc,[((105,0),jo8)],H15.mc⟩
theorem haB:HdOk Tryz.prog HaB:=HdOk.lhCons h15 jqv
noncomputable abbrev HaC:Hd:=⟨H15.pc,H15.hc,[((105,0),jpo)],H15.mc⟩
theorem haC:HdOk Tryz.prog HaC:=HdOk.lhCons h15 jrM
def T30 {α:Type} (iv:Bool) (x:XE × VI) (f:Bool->α):Tree α:=.need iv (.br (Qr x.1 .ret) (.leaf (f (le 0 x.2.r))) (.need (Qr x.1 (.exit 0)) (.leaf (f false))))
theorem M4 {α:Type} {iv:Bool} {x:XE × VI} {f:Bool->α} {n:Nat} {bad:Nat->Bool} (h:iv=true) (hx:x=bif jY bad n then (.ret,sbI (yn bad n)) else (.exit 0,stI n)):(T30 iv x f).All (fun z=>z=f (jY bad n)):=by
 subst h;refine ⟨rfl,fun h => ?_,fun h => ?_⟩
 ·cases hb:jY bad n
  ·rw [hb] at hx;subst hx;cases h
  ·rw [hb] at hx;subst hx
   have:le 0 ((yn bad n:Nat):Int)=true:=by rw [qz];omega
   show f (le 0 ((yn bad n:Nat):Int))=_;rw [this]
 ·cases hb:jY bad n
  ·rw [hb] at hx;subst hx;exact ⟨rfl,rfl⟩
  ·rw [hb] at hx;subst hx;cases h
theorem jm3 {c:C56} (hm:c.m=ja c.l.n) (hn:fewN c.l.n):Y9 c (stI 0)=true:=jx.2 ⟨⟨hm,hn⟩,0,Nat.zero_le _,rfl⟩
noncomputable def G30:List A1->Mem->Tree (AV × Mem)
 | [.c (.sl [.int .i64, .int .i64, .int .i64, .int .i64, .sl [.int .i64, .int .i64, .int .i64], .int .i64, .bool, .bool] n ρ), .c (.fn (.func 49) [] [.ptr 0 0])], [some (56, [.int .i64 a, .int .i64 ro, .int .i64 e, .int .i64 p, .sl [.int .i64, .int .i64, .int .i64] k σ, .int .i64 s, .bool l, .bool c])] =>
   .need (dec (fewN n)) (.leaf (.one (.c (.bool (jY (Zo ⟨n,ρ⟩ ⟨a,ro,e,p,k,σ,s,l,c⟩) n))),[some (56,[.int .i64 a,.int .i64 ro,.int .i64 e,.int .i64 p,.sl spSh k σ,.int .i64 s,.bool l,.bool c])]))
 | [.c (.sl [.int .i64, .int .i64, .int .i64, .int .i64, .sl [.int .i64, .int .i64, .int .i64], .int .i64, .bool, .bool] n ρ), .c (.fn (.func 50) [] [.ptr 0 0])], [some (56, [.int .i64 a, .int .i64 ro, .int .i64 e, .int .i64 p, .sl [.int .i64, .int .i64, .int .i64] k σ, .int .i64 s, .bool l, .bool c])] =>
   .need (dec (fewN n)) (.leaf (.one (.c (.bool (jY (ZN ⟨n,ρ⟩ ⟨a,ro,e,p,k,σ,s,l,c⟩) n))),[some (56,[.int .i64 a,.int .i64 ro,.int .i64 e,.int .i64 p,.sl spSh k σ,.int .i64 s,.bool l,.bool c])]))
 | _,_=>.fail
noncomputable def jpv:List A1->Mem->Tree (AV × Mem)
 | [.c (.sl [.int .i64, .int .i64, .int .i64, .int .i64, .sl [.int .i64, .int .i64, .int .i64], .int .i64, .bool, .bool] n ρ), .c (.fn (.func 49) [] [.ptr 0 0])], [some (56, [.int .i64 a, .int .i64 ro, .int .i64 e, .int .i64 p, .sl [.int .i64, .int .i64, .int .i64] k σ, .int .i64 s, .bool l, .bool c])] =>
   .need (dec (fewN n)) (.leaf (.one (.c (.bool (jY (Zo ⟨n,ρ⟩ ⟨a,ro,e,p,k,σ,s,l,c⟩) n))),[some (56,[.int .i64 a,.int .i64 ro,.int .i64 e,.int .i64 p,.sl spSh k σ,.int .i64 s,.bool l,.bool c])]))
 | _,_=>.fail
noncomputable def jl2:List A1->Mem->Tree (AV × Mem)
 | [.c (.sl [.int .i64, .int .i64, .int .i64, .int .i64, .sl [.int .i64, .int .i64, .int .i64], .int .i64, .bool, .bool] n ρ), .c (.fn (.func 50) [] [.ptr 0 0])], [some (56, [.int .i64 a, .int .i64 ro, .int .i64 e, .int .i64 p, .sl [.int .i64, .int .i64, .int .i64] k σ, .int .i64 s, .bool l, .bool c])] =>
   .need (dec (fewN n)) (.leaf (.one (.c (.bool (jY (ZN ⟨n,ρ⟩ ⟨a,ro,e,p,k,σ,s,l,c⟩) n))),[some (56,[.int .i64 a,.int .i64 ro,.int .i64 e,.int .i64 p,.sl spSh k σ,.int .i64 s,.bool l,.bool c])]))
 | _,_=>.fail
theorem jqu:qH Tryz.prog 48 jpv:=YK haB 10 48 fun args mem r mem' h=>by
 unfold jpv at h;split at h
 ·rename_i n ρ a ro e p k σ s l c;cases hp:dec (fewN n)
  ·rw [hp] at h;simp [Tree.sel] at h
  ·rw [hp] at h;simp only [Tree.sel,cond_true,sIq,pIq] at h;obtain ⟨rfl,rfl⟩:=h;have hf:=jx.1 hp;exact ⟨T30 (Y9 ⟨⟨n,ρ⟩,ja n,⟨a,ro,e,p,k,σ,s,l,c⟩⟩ (stI 0)) (Dd ⟨⟨n,ρ⟩,ja n,⟨a,ro,e,p,k,σ,s,l,c⟩⟩ (stI 0)) (fun b=>(.one (.c (.bool b)),Be ⟨a,ro,e,p,k,σ,s,l,c⟩)),by kernel_rfl,M4 (f:=fun b=>(AV.one (.c (.bool b)),Be ⟨a,ro,e,p,k,σ,s,l,c⟩)) (jm3 (c:=⟨⟨n,ρ⟩,ja n,⟨a,ro,e,p,k,σ,s,l,c⟩⟩) rfl hf) (show Dd ⟨⟨n,ρ⟩,ja n,⟨a,ro,e,p,k,σ,s,l,c⟩⟩ (stI 0)=_ from (sqI (Zo ⟨n,ρ⟩ ⟨a,ro,e,p,k,σ,s,l,c⟩) rfl hf).fin0)⟩
 ·simp [Tree.sel] at h
theorem jqY:qH Tryz.prog 48 jl2:=YK haC 10 48 fun args mem r mem' h=>by
 unfold jl2 at h;split at h
 ·rename_i n ρ a ro e p k σ s l c;cases hp:dec (fewN n)
  ·rw [hp] at h;simp [Tree.sel] at h
  ·rw [hp] at h;simp only [Tree.sel,cond_true,sIq,pIq] at h;obtain ⟨rfl,rfl⟩:=h;have hf:=jx.1 hp;exact ⟨T30 (Y9 ⟨⟨n,ρ⟩,ja n,⟨a,ro,e,p,k,σ,s,l,c⟩⟩ (stI 0)) (T7 ⟨⟨n,ρ⟩,ja n,⟨a,ro,e,p,k,σ,s,l,c⟩⟩ (stI 0)) (fun b=>(.one (.c (.bool b)),Be ⟨a,ro,e,p,k,σ,s,l,c⟩)),by kernel_rfl,M4 (f:=fun b=>(AV.one (.c (.bool b)),Be ⟨a,ro,e,p,k,σ,s,l,c⟩)) (jm3 (c:=⟨⟨n,ρ⟩,ja n,⟨a,ro,e,p,k,σ,s,l,c⟩⟩) rfl hf) (show T7 ⟨⟨n,ρ⟩,ja n,⟨a,ro,e,p,k,σ,s,l,c⟩⟩ (stI 0)=_ from (sqI (ZN ⟨n,ρ⟩ ⟨a,ro,e,p,k,σ,s,l,c⟩) rfl hf).fin0)⟩
 ·simp [Tree.sel] at h
theorem q30:qH Tryz.prog 48 G30:=fun args mem r mem' h=>by
 unfold G30 at h;split at h
 ·exact jqu _ _ _ _ h
 ·exact jqY _ _ _ _ h
 ·simp [Tree.sel] at h
noncomputable abbrev H30:Hd:=⟨H15.pc,H15.hc,[],(48,G30)::H15.mc⟩
theorem h30:HdOk Tryz.prog H30:=h15.mcCons q30
structure VJ where
 k:Int
 r:Int
 q:Int
def B1 (l:Ses) (y:Sit) (k:Nat):Bool:=((l.at k).r==1&&y.r==1)&&(l.at k).e==y.e
def stJ (k:Nat):VJ:=⟨k,0,0⟩
end Go.Proofs.YtiefjlcakpdfeaaGreat.Ro