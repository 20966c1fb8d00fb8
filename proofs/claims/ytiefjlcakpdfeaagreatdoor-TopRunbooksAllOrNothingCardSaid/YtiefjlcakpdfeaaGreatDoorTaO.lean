/-
 Part TaO of the proof: EngU EngMc RolB RolC RolD RolE RolF RolG RolH RolK RolL RolZ.
-/
import Derived.Test.YtiefjlcakpdfeaaGreatDoorTaN
namespace Go.Sx
open Go Go.RowKit
def yc (bad:Nat->Bool):Nat->Nat
 | 0=>0
 | n+1=>bif jQ bad n then yc bad n else n
theorem N3 {bad:Nat->Bool}:∀ {n:Nat},jQ bad n=true->yc bad n<n∧bad (yc bad n)=true∧∀ j,j<yc bad n->bad j=false
 | 0,h=>by simp [jQ] at h
 | n + 1, h => by
   unfold yc;cases hb:jQ bad n
   ·simp only [jQ,hb,Bool.false_or] at h;refine ⟨by simp,h,fun j hj => ?_⟩
    simp only [cond_false] at hj;rw [← Bool.not_eq_true];intro hh
    have:=Jx.2 ⟨j,hj,hh⟩
    rw [hb] at this;cases this
   ·obtain ⟨h1,h2,h3⟩:=N3 hb;exact ⟨by simp only [cond_true];omega,h2,h3⟩
theorem jdd {bad:Nat->Bool} {n i:Nat} (hi:i<n) (hb:bad i=true) (h:∀ j,j<i->bad j=false):jQ bad n=true∧yc bad n=i:=by
 have ha:jQ bad n=true:=Jx.2 ⟨i,hi,hb⟩;obtain ⟨h1,h2,h3⟩:=N3 ha;refine ⟨ha,?_⟩;rcases Nat.lt_trichotomy (yc bad n) i with hlt | heq | hgt
 ·rw [h _ hlt] at h2;cases h2
 ·exact heq
 ·rw [h3 _ hgt] at hb;cases hb
structure Sq {X:Type} (TX:X->Tree (XE × X)) (μ:X->Nat) (st sb:Nat->X) (n:Nat) (bad:Nat->Bool) (e1 e0:XE):Prop where
 out:e0 ≠ .normal
 hit:e1 ≠ .normal
 meas:∀ i,i<=n->μ (st i)=n - i
 round:∀ i,i<n->(TX (st i)).All fun y=>if bad i then y=(e1,sb i) else y=(.normal,st (i+1))
 stop:(TX (st n)).All fun y=>y=(e0,st n)
variable {X:Type} {TX:X->Tree (XE × X)} {μ:X->Nat} {st sb:Nat->X} {n:Nat} {bad:Nat->Bool} {e1 e0:XE}
theorem Sq.rounds (h:Sq TX μ st sb n bad e1 e0) {inv:X->Prop} (hinv:∀ x,inv x↔∃ i,i<=n∧x=st i):Xy TX inv μ (fun y=>(∃ i,i<n∧bad i=true∧y=(e1,sb i))∨y=(e0,st n)):=by
 intro x hx;obtain ⟨i,hi,rfl⟩:=(hinv x).1 hx;rcases Nat.lt_or_eq_of_le hi with hlt | rfl
 ·refine All.imp (fun y hy => ?_) (h.round i hlt);obtain ⟨e,z⟩:=y;cases hb:bad i
  ·rw [hb] at hy;simp only [Bool.false_eq_true,if_false,pIq] at hy;obtain ⟨rfl,rfl⟩:=hy;simp only;rw [h.meas i hi,h.meas (i+1) (by omega)]
   exact ⟨(hinv _).2 ⟨i+1,by omega,rfl⟩,by omega⟩
  ·rw [hb] at hy;simp only [if_true,pIq] at hy;obtain ⟨rfl,rfl⟩:=hy;cases hn:e with
   | normal=>exact (h.hit hn).elim
   | exit k=>subst hn;exact .inl ⟨i,hlt,hb,rfl⟩
   | ret=>subst hn;exact .inl ⟨i,hlt,hb,rfl⟩
 ·refine All.imp (fun y hy => ?_) h.stop;obtain ⟨e,z⟩:=y;simp only [pIq] at hy;obtain ⟨rfl,rfl⟩:=hy;cases hn:e with
  | normal=>exact (h.out hn).elim
  | exit k=>subst hn;exact .inr rfl
  | ret=>subst hn;exact .inr rfl
theorem Sq.fin_from (h:Sq TX μ st sb n bad e1 e0):∀ (d i:Nat),i+d=n->(∀ j,j<i->bad j=false)->fin TX μ (st i)=bif jQ bad n then (e1,sb (yc bad n)) else (e0,st n):=by
 have hr:=h.rounds (inv:=fun x=>∃ i,i<=n∧x=st i) (fun _=>Iff.rfl);intro d
 induction d with
 | zero =>
   intro i hi hb;have hi:i=n:=by omega
   subst hi;obtain ⟨y,hs,hy⟩:=yh (Gq hr (x:=st i) ⟨i,lRq _,rfl⟩);obtain ⟨y',hs',hy'⟩:=yh h.stop;rw [hs] at hs';simp at hs';subst hs';rw [V3 hb];rcases hy with ⟨hn,_⟩ | ⟨_,hf⟩
   ·rw [hy'] at hn;exact (h.out hn).elim
   ·rw [hf,hy'];rfl
 | succ d ih =>
   intro i hi hb;obtain ⟨y,hs,hy⟩:=yh (Gq hr (x:=st i) ⟨i,by omega,rfl⟩)
   obtain ⟨y',hs',hy'⟩:=yh (h.round i (by omega))
   rw [hs] at hs';simp at hs';subst hs';cases hbi:bad i
   ·rw [hbi] at hy';simp only [Bool.false_eq_true,if_false] at hy';rcases hy with ⟨_,_,_,hf⟩ | ⟨hn,_⟩
    ·rw [← hf,hy'];refine ih (i+1) (by omega) fun j hj => ?_
     rcases Nat.lt_or_eq_of_le (Nat.le_of_lt_succ hj) with h1 | rfl
     ·exact hb j h1
     ·exact hbi
    ·rw [hy'] at hn;exact (hn rfl).elim
   ·rw [hbi] at hy';simp only [if_true] at hy';obtain ⟨ha,hf1⟩:=jdd (show i<n by omega) hbi hb
    rw [ha,hf1];rcases hy with ⟨hn,_⟩ | ⟨_,hf⟩
    ·rw [hy'] at hn;exact (h.hit hn).elim
    ·rw [hf,hy'];rfl
theorem Sq.fin0 (h:Sq TX μ st sb n bad e1 e0):fin TX μ (st 0)=bif jQ bad n then (e1,sb (yc bad n)) else (e0,st n):=h.fin_from n 0 (by omega) fun j hj=>by omega
theorem jcb {b1 b2:Nat->Bool} {n:Nat} (h:∀ i,i<n->(∀ j,j<i->b1 j=false)->b1 i=b2 i):jQ b1 n=jQ b2 n:=by
 induction n with
 | zero=>rfl
 | succ n ih =>
   have ih:=ih fun i hi=>h i (by omega)
   simp only [jQ];cases hb:jQ b1 n
   ·rw [hb] at ih;rw [← ih];simp only [Bool.false_or];refine h n (by omega) fun j hj => ?_
    rw [← Bool.not_eq_true];intro hh
    have:=Jx.2 ⟨j,hj,hh⟩
    rw [hb] at this;cases this
   ·rw [hb] at ih;rw [← ih]
    simp
end Go.Sx
namespace Go.Sx
open Go Go.RowKit
variable {P:Program}
variable {D:List Deferred}
theorem TG {P : Program} {H : Hd} (hH : HdOk P H) (n f : Nat) {G : List A1 -> Mem -> Tree (AV × Mem)}
  (h:∀ args mem r mem',(G args mem).sel=some (r,mem')->(jU P H n f args mem).All (fun y=>WkR P mem.length y (r,mem'))) (hf:f<1000000000:=by decide):jr P f G:=by
 intro args mem r mem' hG F w bs vs hm hargs;obtain ⟨y,hsel,hw⟩:=yh (h args mem r mem' hG);refine ((qY hH n).fn f args mem y.1 y.2 hf hsel F w bs vs hm hargs).mono fun e w2 ⟨u,F',bs',he,hext,hm',hu⟩ => ?_;obtain ⟨F2,bs2,e2,m2,r2⟩:=hw F' w2 bs' u (by have:=hext.le;have:=hm.len;omega) hm' hu
 rw [← hm.len] at e2;exact ⟨u,F2,bs2,he,hext.trans e2 (lRq _),m2,r2⟩
theorem Yf {P : Program} {H : Hd} (hH : HdOk P H) (n f : Nat) {G : List A1 -> Mem -> Tree (AV × Mem)}
  (h:∀ args mem r mem',(G args mem).sel=some (r,mem')->∃ u,jU P H n f args mem=u∧u.All (fun y=>y=(r,mem'))) (hf:f<1000000000:=by decide):jr P f G :=
 TG hH n f (fun args mem r mem' hG=>by
  obtain ⟨u,hu,ha⟩:=h args mem r mem' hG;rw [hu];exact All.imp (fun _ h=>h▸WkR.refl) ha) hf
theorem Br {es:List Sh} {n:Nat} {ρ σ:Val} (h:∀ i f s,i<n->nth es f=some s->cellOf s ((ρ.at i).at f)=cellOf s ((σ.at i).at f)):leC (.sl es n ρ) (.sl es n σ):=fun F w v hv=>by
 cases hv with
 | slnil=>exact .slnil
 | sl val hn h0 hc hr=>exact .sl val hn h0 hc fun i f s hi hf=>h i f s hi hf▸hr i f s hi hf
end Go.Sx
namespace Go.Proofs.YtiefjlcakpdfeaaGreatDoor.Ro
open Go Go.Sx Classical
set_option maxRecDepth 100000
noncomputable abbrev H0:Hd:=⟨[jpI],[],[],[(70,ncG (Xv 78 spSh 3 24))]⟩
theorem h0:HdOk Tryz.prog H0:=(HdOk.nil.mcCons n63.mc).tcCons jfi
theorem w64_id {x:Int} (h1 : -9223372036854775808<=x) (h2:x<9223372036854775808):IntKind.i64.wrap x=x:=by
 unfold IntKind.wrap IntKind.bits IntKind.signed;simp only [Bool.true_and];split<;>rename_i h<;>simp at h<;>omega
theorem inR {i n:Nat} (h:i<n):jc (i:Int) n=true:=yF.2 ⟨by omega,by omega⟩
theorem ltF {i n:Nat} (h:i<n):lt (i:Int) (ja n)=true:=(k6 _ _).2 (show (i:Int)<(n:Int) by omega)
theorem ltS {n:Nat}:lt (n:Int) (ja n)=false:=by
 rw [← Bool.not_eq_true,k6];show ¬ (n:Int)<(n:Int);omega
def tim (a:Int):Bool:=le 0 a&&le a 1073741824
def G67:List A1->Option AV
 | [.c (.int .i64 a),.c (.int .i64 b)]=>some (.one (.c (.bool (le b a&&le a 1073741824))))
 | _=>none
theorem p67:PcOne Tryz.prog 139 G67:=ZG h0 10 139 fun args r h=>by
 unfold G67 at h;split at h
 ·obtain rfl:=Option.some.inj h;exact ⟨rfl,by kernel_rfl,by kernel_rfl⟩
 ·cases h
noncomputable abbrev H1:Hd:=⟨(139,oG G67)::H0.pc,[],[],H0.mc⟩
theorem h1:HdOk Tryz.prog H1:=h0.pcCons p67
structure Sp where
 e:Int
 f:Int
 t:Int
def spn (ρ:Val) (i:Nat):Sp:=⟨((ρ.at i).at 0).N [],((ρ.at i).at 1).N [],((ρ.at i).at 2).N []⟩
def prv (ρ:Val):Nat->Sp
 | 0=>⟨0,0,0⟩
 | i+1=>spn ρ i
structure Ln where
 n:Nat
 ρ:Val
def VC (p x:Sp):Bool:=(((x.f != IntKind.i64.wrap (p.t+1)||lt x.t x.f)||lt 1073741824 x.t)||!(le 1 x.e&&le x.e 1073741824))||le x.e p.e
def VQ (l:Ln) (i:Nat):Bool:=VC (prv l.ρ i) (spn l.ρ i)
structure C66 where
 l:Ln
 m:Int
structure V66 where
 p:Sp
 i:Int
def S66 (c:C66) (v:V66):St:=mkS 46 [(2,.one (.c (.bool false))),(3,.one (.c (.ptr 0 0))),(7,.one (.c (.sl spSh c.l.n c.l.ρ))),(8,.one (.c (I c.m))),(9,.one (.c (I v.i)))] [some (78,[I v.p.e,I v.p.f,I v.p.t])]
def jcB (c:C66) (v:V66):Tree (XE × V66) :=
 .br (lt v.i c.m) (.need (jc v.i c.l.n) (.br (VC v.p (spn c.l.ρ v.i.toNat)) (.leaf (.ret,v)) (.leaf (.normal,⟨spn c.l.ρ v.i.toNat,IntKind.i64.wrap (v.i+1)⟩)))) (.leaf (.exit 0,v))
theorem t66 (c:C66) (v:V66):((jI Tryz.prog H1 (jU Tryz.prog H1 10) 124 0 1 (qd Tryz.prog 124 0) (S66 c v)).bind fun y=>gcT [2,3,7,8,9] 0 y)=(jcB c v).bind fun y=>.leaf (y.1,S66 c y.2):=by kernel_rfl
def jao (c:C66) (i:Nat):V66:=⟨prv c.l.ρ i,i⟩
def jaY (c:C66) (v:V66):Nat:=(c.l.n - v.i).toNat
def fewN (n:Nat):Prop:=n<=4611686018427387904
theorem jlE (c:C66) (hm:c.m=c.l.n) (hn:fewN c.l.n):Sq (jcB c) (jaY c) (jao c) (jao c) c.l.n (VQ c.l) .ret (.exit 0) where
 out:=by simp
 hit:=by simp
 meas i hi:=by unfold jaY jao;simp only;omega
 round i hi:=by
  unfold fewN at hn;have hl:lt (i:Int) c.m=true:=by rw [hm];exact ltF hi
  have hw:IntKind.i64.wrap ((i:Int)+1)=((i+1:Nat):Int):=by rw [w64_id (by omega) (by omega)];omega
  refine ⟨fun _=>⟨inR hi,fun hb => ?_,fun hb => ?_⟩,fun h => ?_⟩
  ·have:VQ c.l i=true:=hb
   simp only [Tree.All,this,if_true]
  ·have:VQ c.l i=false:=hb
   simp only [Tree.All,this,Bool.false_eq_true,if_false];show (XE.normal,(⟨_,IntKind.i64.wrap ((i:Int)+1)⟩ : V66))=_;rw [hw];rfl
  ·have:lt (i:Int) c.m=false:=h
   rw [hl] at this;cases this
 stop:=by
  have hl:lt (c.l.n:Int) c.m=false:=by rw [hm];exact ltS
  refine ⟨fun h => ?_,fun _=>rfl⟩
  have:lt (c.l.n:Int) c.m=true:=h
  rw [hl] at this;cases this
noncomputable def GN (c:C66) (v:V66):Bool:=dec ((c.m=c.l.n∧fewN c.l.n)∧∃ i,i<=c.l.n∧v=jao c i)
def O5 (c:C66) (v:V66):XE × V66:=fin (jcB c) (jaY c) v
def jaI:List (Nat × AV)->Mem->Option (C66 × V66)
 | [(2,.one (.c (.bool false))),(3,.one (.c (.ptr 0 0))),(7,.one (.c (.sl [.int .i64,.int .i64,.int .i64] n ρ))),(8,.one (.c (.int .i64 m))),(9,.one (.c (.int .i64 i)))],[some (78,[.int .i64 a,.int .i64 b,.int .i64 c])]=>some (⟨⟨n,ρ⟩,m⟩,⟨⟨a,b,c⟩,i⟩)
 | _,_=>none
noncomputable def L66:Nat->St->Tree (XE × St):=YG [2,3,7,8,9] 0 46 jaI GN S66 O5 [.ret,.exit 0]
theorem QP {C V:Type} {TX:C->V->Tree (XE × V)} {μ:C->V->Nat} {inv:C->V->Bool} {Q:C->XE × V->Prop} (h:∀ c v,inv c v=true->Xy (TX c) (fun v=>inv c v=true) (μ c) (Q c)) (c:C):Xy (TX c) (fun v=>inv c v=true) (μ c) (Q c) :=
 fun v hv=>h c v hv v hv
theorem l66 (fn:Func) (c b:Code) (hf:Tryz.prog.funcs[124]? = some fn) (hc:fn.body=some c) (hb:jf c 0=some b):LoopOk Tryz.prog b L66 :=
 JI h1 10 124 0 hf hc hb [2,3,7,8,9] 0 46 S66 jcB t66 jaI GN jaY [.ret,.exit 0]
  (fun l m c v h=>by unfold jaI at h;split at h<;>simp at h;obtain ⟨rfl,rfl⟩:=h;rfl)
  (QP fun c v hv=>by
   have h:=(js.1 hv).1;exact (jlE c h.1 h.2).rounds fun x=>by unfold GN;rw [js];exact ⟨fun h=>h.2,fun k=>⟨h,k⟩⟩)
noncomputable abbrev H66:Hd:=⟨H1.pc,[],[((124,0),L66)],H1.mc⟩
theorem h66:HdOk Tryz.prog H66:=HdOk.lhCons h1 l66
def Zj (l:Ln):Bool:=!(jQ (VQ l) l.n)
noncomputable def G66:List A1->Option (Bool × AV)
 | [.c (.sl [.int .i64,.int .i64,.int .i64] n ρ)]=>some (dec (fewN n),.one (.c (.bool (Zj ⟨n,ρ⟩))))
 | _=>none
theorem jpv (l : Ln) (hn : fewN l.n) : (Tree.need (GN ⟨l, ja l.n⟩ ⟨⟨0, 0, 0⟩, 0⟩) (.br (J9 (O5 ⟨l, ja l.n⟩ ⟨⟨0, 0, 0⟩, 0⟩).1 .ret) (.leaf (AV.one (.c (.bool false))))
  (.need (J9 (O5 ⟨l,ja l.n⟩ ⟨⟨0,0,0⟩,0⟩).1 (.exit 0)) (.leaf (AV.one (.c (.bool true))))))).All (fun z=>z=.one (.c (.bool (Zj l)))):=by
 have h:=jlE ⟨l,ja l.n⟩ rfl hn;have hi:GN ⟨l,ja l.n⟩ ⟨⟨0,0,0⟩,0⟩=true:=js.2 ⟨⟨rfl,hn⟩,0,Nat.zero_le _,rfl⟩;have hf:O5 ⟨l,ja l.n⟩ ⟨⟨0,0,0⟩,0⟩=_:=h.fin0;refine ⟨hi,?_⟩;rw [hf];unfold Zj;cases jQ (VQ l) l.n
 ·exact ⟨fun h=>(by cases h),fun _=>⟨rfl,rfl⟩⟩
 ·exact ⟨fun _=>rfl,fun h=>(by cases h)⟩
theorem p66:TcOne Tryz.prog 124 (nG G66):=qE h66 10 124 fun args r h=>by
 unfold G66 at h;split at h
 ·rename_i n ρ;obtain ⟨hp,rfl⟩:=Prod.mk.inj (Option.some.inj h);refine ⟨rfl,_,?_,jpv ⟨n,ρ⟩ (js.1 hp)⟩
  kernel_rfl
 ·cases h
noncomputable abbrev H2:Hd:=⟨(124,nG G66)::H1.pc,[],[],H1.mc⟩
theorem h2:HdOk Tryz.prog H2:=h1.tcCons p66
structure C65 where
 a:Ln
 b:Ln
structure V65 where
 c:Int
 e:Int
 i:Int
def S65 (c:C65) (v:V65):St:=mkS 68 [(0,.one (.c (.sl spSh c.a.n c.a.ρ))),(1,.one (.c (.sl spSh c.b.n c.b.ρ))),(6,.one (.c (I v.c))),(7,.one (.c (I v.e))),(8,.one (.c (I v.i)))] []
def LV (c:C65) (v:V65):Tree (XE × V65) :=
 let g:=lt v.i (QB (ja c.a.n) (ja c.b.n))
 .need (!((g==true)&&true)||jc v.i c.a.n) (.need (!((g==true)&&true)||jc v.i c.b.n)
  (.br (g&&(spn c.a.ρ v.i.toNat).e==(spn c.b.ρ v.i.toNat).e)
   (.need (jc v.i c.a.n) (.need (jc v.i c.b.n) (.need (jc v.i c.a.n) (.need (jc v.i c.a.n) (.need (jc v.i c.b.n)
    (.br ((spn c.a.ρ v.i.toNat).t != (spn c.b.ρ v.i.toNat).t) (.leaf (.exit 0,⟨QB (spn c.a.ρ v.i.toNat).t (spn c.b.ρ v.i.toNat).t,(spn c.a.ρ v.i.toNat).e,v.i⟩))
     (.leaf (.normal,⟨QB (spn c.a.ρ v.i.toNat).t (spn c.b.ρ v.i.toNat).t,(spn c.a.ρ v.i.toNat).e,IntKind.i64.wrap (v.i+1)⟩))))))))
   (.leaf (.exit 0,v))))
theorem t65 (c:C65) (v:V65):((jI Tryz.prog H2 (jU Tryz.prog H2 10) 114 0 1 (qd Tryz.prog 114 0) (S65 c v)).bind fun y=>gcT [0,1,6,7,8] 0 y)=(LV c v).bind fun y=>.leaf (y.1,S65 c y.2):=by kernel_rfl
def JZ (c:C65):Nat:=min c.a.n c.b.n
def KE (c:C65) (i:Nat):Bool:=!((spn c.a.ρ i).e==(spn c.b.ρ i).e)||(spn c.a.ρ i).t != (spn c.b.ρ i).t
def KR (c:C65):Nat->V65
 | 0=>⟨0,0,0⟩
 | i+1=>⟨QB (spn c.a.ρ i).t (spn c.b.ρ i).t,(spn c.a.ρ i).e,(i+1:Nat)⟩
def jhW (c:C65) (i:Nat):V65:=bif (spn c.a.ρ i).e==(spn c.b.ρ i).e then ⟨QB (spn c.a.ρ i).t (spn c.b.ρ i).t,(spn c.a.ρ i).e,i⟩ else KR c i
theorem Z1 (c:C65) (i:Nat):(KR c i).i=i:=by cases i<;>rfl
def jcs (c:C65) (v:V65):Nat:=(JZ c - v.i).toNat
theorem Ir (a b:Nat):QB (ja a) (ja b)=((min a b:Nat):Int):=by
 unfold QB;cases h:lt (ja b) (ja a)
 ·have : ¬ (b : Int) < (a : Int) := fun hh => by
   have:lt (ja b) (ja a)=true:=(k6 _ _).2 hh
   rw [h] at this;cases this
  show (a:Int)=_;omega
 ·have:(b:Int)<(a:Int):=(k6 _ _).1 h
  show (b:Int)=_;omega
theorem joF (c:C65) (ha:fewN c.a.n):Sq (LV c) (jcs c) (KR c) (jhW c) (JZ c) (KE c) (.exit 0) (.exit 0) where
 out:=by simp
 hit:=by simp
 meas i hi:=by unfold jcs;rw [Z1];omega
 round i hi:=by
  unfold fewN at ha;unfold JZ at hi
  have hg:lt ((KR c i).i) (QB (ja c.a.n) (ja c.b.n))=true:=by
   rw [Z1,Ir,k6];omega
  have ra:jc (KR c i).i c.a.n=true:=by rw [Z1];exact inR (by omega)
  have rb:jc (KR c i).i c.b.n=true:=by rw [Z1];exact inR (by omega)
  have hw:IntKind.i64.wrap ((i:Int)+1)=((i+1:Nat):Int):=by rw [w64_id (by omega) (by omega)];omega
  have hin:((KR c i).i).toNat=i:=by rw [Z1];omega
  unfold LV;simp only [hg,ra,rb,Tree.All,Bool.or_true,Bool.true_and,true_and,hin];unfold KE jhW;cases he:((spn c.a.ρ i).e==(spn c.b.ρ i).e)
  ·simp
  ·cases ht:((spn c.a.ρ i).t != (spn c.b.ρ i).t)
   ·simp only [Bool.not_true,Bool.or_self,Bool.false_eq_true,if_false,false_implies,true_and,and_true,forall_const,reduceCtorEq];rw [Z1,hw];rfl
   ·simp only [Bool.not_true,Bool.false_or,if_true,false_implies,and_true,forall_const,reduceCtorEq,cond_true];rw [Z1]
 stop:=by
  have hg:lt ((KR c (JZ c)).i) (QB (ja c.a.n) (ja c.b.n))=false:=by
   rw [Z1,Ir,← Bool.not_eq_true,k6];unfold JZ;omega
  unfold LV;simp [hg,Tree.All]
noncomputable def G2 (c:C65) (v:V65):Bool:=dec (fewN c.a.n∧∃ i,i<=JZ c∧v=KR c i)
def GO (c:C65) (v:V65):XE × V65:=fin (LV c) (jcs c) v
def jbg:List (Nat × AV)->Mem->Option (C65 × V65)
 | [(0,.one (.c (.sl [.int .i64,.int .i64,.int .i64] n ρ))),(1,.one (.c (.sl [.int .i64,.int .i64,.int .i64] m σ))),(6,.one (.c (.int .i64 c))),(7,.one (.c (.int .i64 e))),(8,.one (.c (.int .i64 i)))],[]=>some (⟨⟨n,ρ⟩,⟨m,σ⟩⟩,⟨c,e,i⟩)
 | _,_=>none
noncomputable def L65:Nat->St->Tree (XE × St):=YG [0,1,6,7,8] 0 68 jbg G2 S65 GO [.exit 0]
theorem l65 (fn:Func) (c b:Code) (hf:Tryz.prog.funcs[114]? = some fn) (hc:fn.body=some c) (hb:jf c 0=some b):LoopOk Tryz.prog b L65 :=
 JI h2 10 114 0 hf hc hb [0,1,6,7,8] 0 68 S65 LV t65 jbg G2 jcs [.exit 0]
  (fun l m c v h=>by unfold jbg at h;split at h<;>simp at h;obtain ⟨rfl,rfl⟩:=h;rfl)
  (QP fun c v hv=>by
   have h:=(js.1 hv).1;exact (joF c h).rounds fun x=>by unfold G2;rw [js];exact ⟨fun h=>h.2,fun k=>⟨h,k⟩⟩)
noncomputable abbrev H65:Hd:=⟨H2.pc,[],[((114,0),L65)],H2.mc⟩
theorem h65:HdOk Tryz.prog H65:=HdOk.lhCons h2 l65
def anc (a b:Ln):V65:=bif !(Zj a)||!(Zj b) then ⟨0,0,0⟩ else bif jQ (KE ⟨a,b⟩) (JZ ⟨a,b⟩) then jhW ⟨a,b⟩ (yc (KE ⟨a,b⟩) (JZ ⟨a,b⟩)) else KR ⟨a,b⟩ (JZ ⟨a,b⟩)
noncomputable def G65:List A1->Option (Bool × AV)
 | [.c (.sl [.int .i64,.int .i64,.int .i64] n ρ),.c (.sl [.int .i64,.int .i64,.int .i64] m σ)]=>some (dec (fewN n∧fewN m),.tup [.c (I (anc ⟨n,ρ⟩ ⟨m,σ⟩).c),.c (I (anc ⟨n,ρ⟩ ⟨m,σ⟩).e)])
 | _=>none
theorem jp5 (a b : Ln) (ha : fewN a.n) (hb : fewN b.n) : (Tree.need (dec (fewN a.n)) (.need (!(((!(Zj a)) == false) && true) || dec (fewN b.n)) (.br (!(Zj a) || !(Zj b)) (.leaf (AV.tup [.c (I 0), .c (I 0)]))
  (.need (G2 ⟨a,b⟩ ⟨0,0,0⟩) (.need (J9 (GO ⟨a,b⟩ ⟨0,0,0⟩).1 (.exit 0)) (.leaf (AV.tup [.c (I (GO ⟨a,b⟩ ⟨0,0,0⟩).2.c),.c (I (GO ⟨a,b⟩ ⟨0,0,0⟩).2.e)]))))))).All
   (fun z=>z=.tup [.c (I (anc a b).c),.c (I (anc a b).e)]):=by
 have h:=joF ⟨a,b⟩ ha;have hi:G2 ⟨a,b⟩ ⟨0,0,0⟩=true:=js.2 ⟨ha,0,Nat.zero_le _,rfl⟩;have hf:GO ⟨a,b⟩ ⟨0,0,0⟩=_:=h.fin0;refine ⟨js.2 ha,by rw [js.2 hb,Bool.or_true],fun hc => ?_,fun hc=>⟨hi,?_⟩⟩
 ·unfold anc;rw [hc];rfl
 ·rw [hf];unfold anc;rw [hc];cases jQ (KE ⟨a,b⟩) (JZ ⟨a,b⟩)<;>exact ⟨rfl,rfl⟩
theorem p65:TcOne Tryz.prog 114 (nG G65):=qE h65 10 114 fun args r h=>by
 unfold G65 at h;split at h
 ·rename_i n ρ m σ;obtain ⟨hp,rfl⟩:=Prod.mk.inj (Option.some.inj h);have hp:=js.1 hp;refine ⟨rfl,_,?_,jp5 ⟨n,ρ⟩ ⟨m,σ⟩ hp.1 hp.2⟩
  kernel_rfl
 ·cases h
noncomputable abbrev H3:Hd:=⟨(114,nG G65)::H2.pc,[],[],H2.mc⟩
theorem h3:HdOk Tryz.prog H3:=h2.tcCons p65
theorem jod {l:Ln} {i:Nat} (hp:∀ j,j<i->VQ l j=false):0<=(prv l.ρ i).e∧(prv l.ρ i).e<=1073741824∧(prv l.ρ i).t<=1073741824∧(0<i->1<=(prv l.ρ i).t∧1<=(prv l.ρ i).e):=by
 induction i with
 | zero=>exact ⟨by simp [prv],by simp [prv],by simp [prv],fun h=>by omega⟩
 | succ i ih =>
   obtain ⟨i1,i2,i3,i4⟩:=ih fun j hj=>hp j (by omega)
   have h:=hp i (by omega)
   unfold VQ VC at h;simp only [Bool.or_eq_false_iff,Bool.not_eq_false',aTq,qq,bne_eq_false_iff_eq] at h;obtain ⟨⟨⟨⟨h1,h2⟩,h3⟩,h4⟩,h5⟩:=h;rw [← Bool.not_eq_true,k6] at h2 h3
   have hge:0<=(prv l.ρ i).t:=by
    cases i with
    | zero=>simp [prv]
    | succ i=>have:=(i4 (by omega)).1;omega
   rw [w64_id (by omega) (by omega)] at h1
   show 0<=(spn l.ρ i).e∧(spn l.ρ i).e<=1073741824∧(spn l.ρ i).t<=1073741824∧(_->1<=(spn l.ρ i).t∧1<=(spn l.ρ i).e);exact ⟨by omega,h4.2,by omega,fun _=>⟨by omega,h4.1⟩⟩
def hd (l:Ln):Sp:=prv l.ρ l.n
theorem I1 {l:Ln} (hn:fewN l.n) (h0:(ja l.n==0)=false):jc (IntKind.i64.wrap (ja l.n - 1)) l.n=true∧spn l.ρ (IntKind.i64.wrap (ja l.n - 1)).toNat=hd l:=by
 unfold fewN at hn;have h0':¬ (l.n:Int)=0:=by simpa [ja] using h0
 obtain ⟨k,hk⟩ : ∃ k,l.n=k+1:=⟨l.n - 1,by omega⟩
 have e:IntKind.i64.wrap (ja l.n - 1)=(k:Int):=by
  show IntKind.i64.wrap ((l.n:Int) - 1)=_;rw [w64_id (by omega) (by omega)];omega
 rw [e];refine ⟨inR (by omega),?_⟩
 unfold hd;rw [hk];rfl
theorem jkX {l:Ln} (h0:(ja l.n==0)=true):hd l=⟨0,0,0⟩:=by
 have h0':l.n=0:=by
  have:(l.n:Int)=0:=by simpa [ja] using h0
  omega
 unfold hd;rw [h0'];rfl
noncomputable def G50:List A1->Option (Bool × AV)
 | [.c (.sl [.int .i64,.int .i64,.int .i64] n ρ)]=>some (dec (fewN n),.one (.agg [I (hd ⟨n,ρ⟩).e,I (hd ⟨n,ρ⟩).f,I (hd ⟨n,ρ⟩).t]))
 | _=>none
theorem p50:TcOne Tryz.prog 88 (nG G50):=qE h3 10 88 fun args r h=>by
 unfold G50 at h;split at h
 ·rename_i n ρ;obtain ⟨hp,rfl⟩:=Prod.mk.inj (Option.some.inj h);have hp:=js.1 hp
  refine ⟨rfl,.br (ja n==0) (.leaf (.one (.agg [I 0,I 0,I 0]))) (.need (jc (IntKind.i64.wrap (ja n - 1)) n)
   (.leaf (.one (.agg [I (spn ρ (IntKind.i64.wrap (ja n - 1)).toNat).e,I (spn ρ (IntKind.i64.wrap (ja n - 1)).toNat).f,I (spn ρ (IntKind.i64.wrap (ja n - 1)).toNat).t])))),by kernel_rfl,fun h0 => ?_,fun h0 => ?_⟩
  ·have:=jkX (l:=⟨n,ρ⟩) h0
   rw [this];rfl
  ·obtain ⟨a,b⟩:=I1 (l:=⟨n,ρ⟩) hp h0;simp only at a b;exact ⟨a,by rw [b];rfl⟩
 ·cases h
theorem jga {l:Ln} (h0:(ja l.n==0)=false):(((anc l l).c==(hd l).t&&(anc l l).e==(hd l).e)&&lt 0 (anc l l).c)=Zj l:=by
 have h0':¬ (l.n:Int)=0:=by simpa [ja] using h0
 obtain ⟨k,hk⟩ : ∃ k,l.n=k+1:=⟨l.n - 1,by omega⟩
 have hb:∀ i,KE ⟨l,l⟩ i=false:=fun i=>by simp [KE]
 have ha:jQ (KE ⟨l,l⟩) (JZ ⟨l,l⟩)=false:=V3 fun i _=>hb i;have hl:JZ ⟨l,l⟩=k+1:=by unfold JZ;simp only;omega
 have him:∀ x:Int,QB x x=x:=fun x=>by unfold QB;cases lt x x<;>rfl
 unfold anc;cases hc:Zj l
 ·simp [lt]
 ·rw [ha,hl];simp only [Bool.not_true,Bool.or_self,cond_false];have e1:hd l=spn l.ρ k:=by unfold hd;rw [hk];rfl
  have hp:∀ j,j<k+1->VQ l j=false:=fun j hj=>by
   rw [← Bool.not_eq_true];intro hh
   have:=Jx.2 ⟨j,show j<l.n by omega,hh⟩
   unfold Zj at hc;rw [this] at hc;cases hc
  have ht:=(jod hp).2.2.2 (by omega)
  show (((QB (spn l.ρ k).t (spn l.ρ k).t)==(hd l).t&&(spn l.ρ k).e==(hd l).e)&&lt 0 (QB (spn l.ρ k).t (spn l.ρ k).t))=true;rw [him,e1]
  have:lt 0 (spn l.ρ k).t=true:=(k6 _ _).2 (by
   have:1<=(spn l.ρ k).t:=ht.1
   omega)
  simp [this]
noncomputable abbrev H4:Hd:=⟨(88,nG G50)::H3.pc,[],[],H3.mc⟩
theorem h4:HdOk Tryz.prog H4:=h3.tcCons p50
theorem p54:TcOne Tryz.prog 87 (nG G66):=qE h4 10 87 fun args r h=>by
 unfold G66 at h;split at h
 ·rename_i n ρ;obtain ⟨hp,rfl⟩:=Prod.mk.inj (Option.some.inj h);have hp:=js.1 hp
  refine ⟨rfl,.br (ja n==0) (.leaf (.one (.c (.bool true)))) (.need (dec (fewN n∧fewN n)) (.need (jc (IntKind.i64.wrap (ja n - 1)) n)
   (.leaf (.one (.c (.bool (((anc ⟨n,ρ⟩ ⟨n,ρ⟩).c==(spn ρ (IntKind.i64.wrap (ja n - 1)).toNat).t&&(anc ⟨n,ρ⟩ ⟨n,ρ⟩).e==(spn ρ (IntKind.i64.wrap (ja n - 1)).toNat).e)&&lt 0 (anc ⟨n,ρ⟩ ⟨n,ρ⟩).c))))))),by kernel_rfl,fun h0 => ?_,fun h0 => ?_⟩
  ·have h0' : n = 0 := by
    have:(n:Int)=0:=by simpa [ja] using h0
    omega
   subst h0';rfl
  ·obtain ⟨a,b⟩:=I1 (l:=⟨n,ρ⟩) hp h0;simp only at a b;refine ⟨js.2 ⟨hp,hp⟩,a,?_⟩;rw [b]
   have:=jga (l:=⟨n,ρ⟩) h0
   show AV.one (.c (.bool _))=_;rw [this]
 ·cases h
noncomputable abbrev H5:Hd:=⟨(87,nG G66)::H4.pc,[],[],H4.mc⟩
theorem h5:HdOk Tryz.prog H5:=h4.tcCons p54
def sit (a:Int):Bool:=le 0 a&&lt a 4
def rcv (r:Int):Bool:=r==2||r==4
def G47:List A1->Option AV
 | [.c (.int .i64 a),.c (.int .i64 b),.c (.int .i64 c)]=>some (.one (.c (.bool (le b a&&le a c))))
 | _=>none
theorem p47:PcOne Tryz.prog 86 G47:=ZG h5 10 86 fun args r h=>by
 unfold G47 at h;split at h
 ·obtain rfl:=Option.some.inj h;exact ⟨rfl,by kernel_rfl,by kernel_rfl⟩
 ·cases h
def G55:List A1->Option AV
 | [.c (.int .i64 a)]=>some (.one (.c (.bool (rcv a))))
 | _=>none
theorem p55:PcOne Tryz.prog 89 G55:=ZG h5 10 89 fun args r h=>by
 unfold G55 at h;split at h
 ·obtain rfl:=Option.some.inj h;exact ⟨rfl,by kernel_rfl,by kernel_rfl⟩
 ·cases h
noncomputable abbrev H6:Hd:=⟨(86,oG G47)::(89,oG G55)::H5.pc,[],[],H5.mc⟩
theorem h6:HdOk Tryz.prog H6:=(h5.pcCons p55).pcCons p47
def oth (m a:Int):Bool:=(le 0 m&&le m 3)&&m != a
def G44:List A1->Option AV
 | [.agg [.int .i64 a,.int .i64 _,.int .i64 _,.int .i64 _,.sl [.int .i64,.int .i64,.int .i64] _ _,.int .i64 _,.bool _,.bool _],.c (.int .i64 m)]=>some (.one (.c (.bool (oth m a))))
 | _=>none
theorem p44:PcOne Tryz.prog 90 G44:=ZG h6 10 90 fun args r h=>by
 unfold G44 at h;split at h
 ·obtain rfl:=Option.some.inj h;exact ⟨rfl,by kernel_rfl,by kernel_rfl⟩
 ·cases h
noncomputable abbrev H7:Hd:=⟨(90,oG G44)::H6.pc,[],[],H6.mc⟩
theorem h7:HdOk Tryz.prog H7:=h6.pcCons p44
def chk (a r e p:Int) (l:Ln) (s:Int):Int :=
 bif !sit a then 2 else bif !(le 0 r&&le r 5) then 18 else bif (!tim e||!tim p)||(e==0&&r != 0) then 2 else bif !Zj l then 3 else bif lt e (hd l).e then 13 else bif (hd l).t != p then 22 else bif (rcv r&&!oth s a)||(!rcv r&&s != -1) then 1 else 0
theorem Yv {α:Type} {r:α}:∀ {t:Tree α},t.sel=some r->t.All (fun z=>z=r)
 | .leaf a, h => by
   simp only [Tree.sel,sIq] at h;exact h
 | .br c t e,h=>⟨fun hc=>Yv (by simpa [Tree.sel,hc] using h),fun hc=>Yv (by simpa [Tree.sel,hc] using h)⟩
 | .need c t, h => by
   cases c
   ·simp [Tree.sel] at h
   ·exact ⟨rfl,Yv (by simpa [Tree.sel] using h)⟩
 | .fail,h=>by simp [Tree.sel] at h
theorem jlY (q1 q2 te tp eo co he ht ra rb pre:Bool) (hp:pre=true):(Tree.br (!q1) (Tree.leaf (AV.one (A1.c (I 2))))
 (Tree.br (!q2) (Tree.leaf (AV.one (A1.c (I 18))))
  (Tree.br (!te)
   (Tree.br (!te) (Tree.leaf (AV.one (A1.c (I 2))))
    (Tree.need (pre)
     (Tree.br (!co) (Tree.leaf (AV.one (A1.c (I 3))))
      (Tree.need (pre)
       (Tree.br (he) (Tree.leaf (AV.one (A1.c (I 13))))
        (Tree.need (pre)
         (Tree.br (ht) (Tree.leaf (AV.one (A1.c (I 22))))
          (Tree.br (ra)
           (Tree.br (ra) (Tree.leaf (AV.one (A1.c (I 1))))
            (Tree.leaf (AV.one (A1.c (I 0)))))
           (Tree.br (rb) (Tree.leaf (AV.one (A1.c (I 1))))
            (Tree.leaf (AV.one (A1.c (I 0)))))))))))))
   (Tree.br (!tp)
    (Tree.br (!tp) (Tree.leaf (AV.one (A1.c (I 2))))
     (Tree.need (pre)
      (Tree.br (!co) (Tree.leaf (AV.one (A1.c (I 3))))
       (Tree.need (pre)
        (Tree.br (he) (Tree.leaf (AV.one (A1.c (I 13))))
         (Tree.need (pre)
          (Tree.br (ht) (Tree.leaf (AV.one (A1.c (I 22))))
           (Tree.br (ra)
            (Tree.br (ra) (Tree.leaf (AV.one (A1.c (I 1))))
             (Tree.leaf (AV.one (A1.c (I 0)))))
            (Tree.br (rb) (Tree.leaf (AV.one (A1.c (I 1))))
             (Tree.leaf (AV.one (A1.c (I 0)))))))))))))
    (Tree.br eo (Tree.leaf (AV.one (A1.c (I 2))))
     (Tree.need (pre)
      (Tree.br (!co) (Tree.leaf (AV.one (A1.c (I 3))))
       (Tree.need (pre)
        (Tree.br (he) (Tree.leaf (AV.one (A1.c (I 13))))
         (Tree.need (pre)
          (Tree.br (ht) (Tree.leaf (AV.one (A1.c (I 22))))
           (Tree.br (ra)
            (Tree.br (ra) (Tree.leaf (AV.one (A1.c (I 1))))
             (Tree.leaf (AV.one (A1.c (I 0)))))
            (Tree.br (rb) (Tree.leaf (AV.one (A1.c (I 1))))
             (Tree.leaf (AV.one (A1.c (I 0))))))))))))))))).sel=some (AV.one (.c (I (bif !q1 then 2 else bif !q2 then 18 else bif (!te||!tp)||eo then 2 else bif !co then 3 else bif he then 13 else bif ht then 22 else bif ra||rb then 1 else 0)))):=by
 subst hp;cases q1
 ·rfl
 cases q2
 ·rfl
 cases te
 ·rfl
 cases tp
 ·rfl
 cases eo
 ·cases co
  ·rfl
  cases he
  ·cases ht
   ·cases ra<;>cases rb<;>rfl
   ·rfl
  ·rfl
 ·rfl
noncomputable def jgG:List A1->Option (Bool × AV)
 | [.agg [.int .i64 a,.int .i64 r,.int .i64 e,.int .i64 p,.sl [.int .i64,.int .i64,.int .i64] n ρ,.int .i64 s,.bool _,.bool _]]=>some (dec (fewN n),.one (.c (I (chk a r e p ⟨n,ρ⟩ s))))
 | _=>none
theorem jn5 (a:Int):(le 0 a&&le a 3)=sit a:=by
 unfold sit;rw [Bool.eq_iff_iff];simp only [aTq,qq,k6];omega
theorem p23:TcOne Tryz.prog 61 (nG jgG):=qE h7 10 61 fun args r h=>by
 unfold jgG at h;split at h
 ·rename_i a r e p n ρ s l c;obtain ⟨hp,rfl⟩:=Prod.mk.inj (Option.some.inj h);have ht:=jlY (le 0 a&&le a 3) (le 0 r&&le r 5) (tim e) (tim p) (e==0&&r != 0) (Zj ⟨n,ρ⟩) (lt e (hd ⟨n,ρ⟩).e) ((hd ⟨n,ρ⟩).t != p) (rcv r&&!oth s a) (!rcv r&&s != -1) (dec (fewN n)) hp;rw [jn5] at ht;refine ⟨rfl,_,?_,Yv ht⟩;rw [← jn5]
  kernel_rfl
 ·cases h
noncomputable abbrev H8:Hd:=⟨(61,nG jgG)::H7.pc,[],[],H7.mc⟩
theorem h8:HdOk Tryz.prog H8:=h7.tcCons p23
structure LL where
 l:Ln
 m:Ln
def dif (ρ σ:Val) (i:Nat):Bool :=
 !(((ρ.at i).at 0).N []==((σ.at i).at 0).N []&&(((ρ.at i).at 1).N []==((σ.at i).at 1).N []&&(((ρ.at i).at 2).N []==((σ.at i).at 2).N []&&true)))
def GJ (c:LL) (i:Nat):Bool:=dif c.l.ρ c.m.ρ i
def eqL (c:LL):Bool:=bif c.l.n==c.m.n then !(jQ (GJ c) c.l.n) else false
theorem eqL_self (l:Ln):eqL ⟨l,l⟩=true:=by
 unfold eqL
 have:jQ (GJ ⟨l,l⟩) l.n=false:=by
  rw [← Bool.not_eq_true,Jx]
  rintro ⟨j,_,h⟩
  simp [GJ,dif] at h
 simp [this]
def TXe (c:LL) (i:Int):Tree (XE × Int) :=
 .br (lt i (ja c.l.n)) (.need (jc i c.l.n) (.need (jc i c.m.n) (.br (dif c.l.ρ c.m.ρ i.toNat) (.leaf (.ret,i)) (.leaf (.normal,IntKind.i64.wrap (i+1)))))) (.leaf (.exit 0,i))
theorem sqE (c:LL) (he:c.l.n=c.m.n) (hn:fewN c.l.n):Sq (TXe c) (fun i=>(c.l.n - i).toNat) (fun i=>(i:Int)) (fun i=>(i:Int)) c.l.n (GJ c) .ret (.exit 0) where
 out:=by simp
 hit:=by simp
 meas i hi:=by
  show ((c.l.n:Int) - (i:Int)).toNat=c.l.n - i;omega
 round i hi:=by
  unfold fewN at hn;have hl:lt (i:Int) (ja c.l.n)=true:=ltF hi;have hw:IntKind.i64.wrap ((i:Int)+1)=((i+1:Nat):Int):=by rw [w64_id (by omega) (by omega)];omega
  refine ⟨fun _=>⟨inR hi,inR (he▸hi),fun hb => ?_,fun hb => ?_⟩,fun h => ?_⟩
  ·have:GJ c i=true:=hb
   simp only [Tree.All,this,if_true]
  ·have:GJ c i=false:=hb
   simp only [Tree.All,this,Bool.false_eq_true,if_false];rw [hw]
  ·rw [hl] at h;cases h
 stop:=by
  refine ⟨fun h => ?_,fun _=>rfl⟩;rw [ltS] at h;cases h
noncomputable def Dq (c:LL) (v:Int):Bool:=dec ((c.l.n=c.m.n∧fewN c.l.n)∧∃ i:Nat,i<=c.l.n∧v=(i:Int))
def jbY (c:LL) (v:Int):XE × Int:=fin (TXe c) (fun i=>(c.l.n - i).toNat) v
noncomputable def GE:List A1->Option (Bool × AV)
 | [.c (.sl [.int .i64,.int .i64,.int .i64] n ρ),.c (.sl [.int .i64,.int .i64,.int .i64] k σ)]=>some (dec (fewN n),.one (.c (.bool (eqL ⟨⟨n,ρ⟩,⟨k,σ⟩⟩))))
 | _=>none
theorem jrt (c : LL) (hn : fewN c.l.n) : (Tree.br (ja c.l.n != ja c.m.n) (.leaf (AV.one (.c (.bool false)))) (.need (Dq c 0) (.br (J9 (jbY c 0).1 .ret) (.leaf (AV.one (.c (.bool false))))
  (.need (J9 (jbY c 0).1 (.exit 0)) (.leaf (AV.one (.c (.bool true)))))))).All (fun z=>z=.one (.c (.bool (eqL c)))):=by
 refine ⟨fun h => ?_,fun h => ?_⟩
 ·have hne:c.l.n ≠ c.m.n:=fun e=>by rw [e] at h;simp at h
  show _=_;simp [eqL,hne]
 ·have he : c.l.n = c.m.n := by
   have h':(c.l.n:Int)=(c.m.n:Int):=by simp at h;exact h
   omega
  have hs:=sqE c he hn;have hi:Dq c 0=true:=js.2 ⟨⟨he,hn⟩,0,Nat.zero_le _,rfl⟩;have hf:jbY c 0=_:=hs.fin0;refine ⟨hi,?_⟩;rw [hf];have hb:(c.l.n==c.m.n)=true:=by simp [he]
  unfold eqL;rw [hb];cases jQ (GJ c) c.l.n
  ·exact ⟨fun h=>(by cases h),fun _=>⟨rfl,rfl⟩⟩
  ·exact ⟨fun _=>rfl,fun h=>(by cases h)⟩
def S46 (c:LL) (i:Int):St:=mkS 26 [(0,.one (.c (.sl spSh c.l.n c.l.ρ))),(1,.one (.c (.sl spSh c.m.n c.m.ρ))),(4,.one (.c (.bool false))),(5,.one (.c (I i)))] []
theorem t46 (c:LL) (i:Int):((jI Tryz.prog H8 (jU Tryz.prog H8 10) 41 0 1 (qd Tryz.prog 41 0) (S46 c i)).bind fun y=>gcT [0,1,4,5] 0 y)=(TXe c i).bind fun y=>.leaf (y.1,S46 c y.2):=by kernel_rfl
def jcr:List (Nat × AV)->Mem->Option (LL × Int)
 | [(0,.one (.c (.sl [.int .i64,.int .i64,.int .i64] n ρ))),(1,.one (.c (.sl [.int .i64,.int .i64,.int .i64] k σ))),(4,.one (.c (.bool false))),(5,.one (.c (.int .i64 i)))],[]=>some (⟨⟨n,ρ⟩,⟨k,σ⟩⟩,i)
 | _,_=>none
noncomputable def L46:Nat->St->Tree (XE × St):=YG [0,1,4,5] 0 26 jcr Dq S46 jbY [.ret,.exit 0]
theorem l46 (fn:Func) (c b:Code) (hf:Tryz.prog.funcs[41]? = some fn) (hc:fn.body=some c) (hb:jf c 0=some b):LoopOk Tryz.prog b L46 :=
 JI h8 10 41 0 hf hc hb [0,1,4,5] 0 26 S46 TXe t46 jcr Dq (fun c i=>(c.l.n - i).toNat) [.ret,.exit 0]
  (fun l m c v h=>by unfold jcr at h;split at h<;>simp at h;obtain ⟨rfl,rfl⟩:=h;rfl)
  (QP fun c v hv=>by
   have h:=(js.1 hv).1;exact (sqE c h.1 h.2).rounds fun x=>by unfold Dq;rw [js];exact ⟨fun h=>h.2,fun k=>⟨h,k⟩⟩)
noncomputable abbrev H46:Hd:=⟨H8.pc,[],[((41,0),L46)],H8.mc⟩
theorem h46:HdOk Tryz.prog H46:=HdOk.lhCons h8 l46
theorem p46:TcOne Tryz.prog 41 (nG GE):=qE h46 10 41 fun args r h=>by
 unfold GE at h;split at h
 ·rename_i n ρ k σ;obtain ⟨hp,rfl⟩:=Prod.mk.inj (Option.some.inj h);refine ⟨rfl,_,?_,jrt ⟨⟨n,ρ⟩,⟨k,σ⟩⟩ (js.1 hp)⟩
  kernel_rfl
 ·cases h
noncomputable def G17:List A1->Option (Bool × AV)
 | [.agg [.int .i64 a,.int .i64 r,.int .i64 e,.int .i64 p,.sl [.int .i64,.int .i64,.int .i64] n ρ,.int .i64 s,.bool l,.bool c],.agg [.int .i64 a',.int .i64 r',.int .i64 e',.int .i64 p',.sl [.int .i64,.int .i64,.int .i64] k σ,.int .i64 s',.bool l',.bool c']]=>some (dec (fewN n),.one (.c (.bool (((((((a==a'&&r==r')&&e==e')&&p==p')&&eqL ⟨⟨n,ρ⟩,⟨k,σ⟩⟩)&&s==s')&&l==l')&&c==c'))))
 | _=>none
noncomputable abbrev H9:Hd:=⟨(41,nG GE)::H8.pc,[],[],H8.mc⟩
theorem h9:HdOk Tryz.prog H9:=h8.tcCons p46
theorem p17:TcOne Tryz.prog 21 (nG G17):=qE h9 10 21 fun args r h=>by
 unfold G17 at h;split at h
 ·rename_i a r e p n ρ s l c a' r' e' p' k σ s' l' c';obtain ⟨hp,rfl⟩:=Prod.mk.inj (Option.some.inj h);refine ⟨rfl,.need (!((((((a==a'&&r==r')&&e==e')&&p==p')==true)&&true))||dec (fewN n)) (.leaf (.one (.c (.bool (((((((a==a'&&r==r')&&e==e')&&p==p')&&eqL ⟨⟨n,ρ⟩,⟨k,σ⟩⟩)&&s==s')&&l==l')&&c==c'))))),?_,by rw [hp,Bool.or_true];exact ⟨rfl,rfl⟩⟩
  kernel_rfl
 ·cases h
noncomputable abbrev H10:Hd:=⟨(21,nG G17)::H9.pc,[],[],H9.mc⟩
theorem h10:HdOk Tryz.prog H10:=h9.tcCons p17
noncomputable abbrev H11:Hd:=H10
theorem h11:HdOk Tryz.prog H11:=h10
noncomputable abbrev H12:Hd:=H11
theorem h12:HdOk Tryz.prog H12:=h11
def dmd (ok:Bool) (x e:Int):Int:=bif !ok&&e==0 then x else e
def G40:List A1->Mem->Tree (AV × Mem)
 | [.c (.ptr 5 0),.c (.bool ok),.c (.int .i64 x)],m0::m1::m2::m3::m4::some (218,[.int .i64 c0,c1,c2,c3,c4,c5,c6,c7,.int .i64 e])::r=>.leaf (.tup [],m0::m1::m2::m3::m4::some (218,[.int .i64 c0,c1,c2,c3,c4,c5,c6,c7,.int .i64 (dmd ok x e)])::r)
 | [.c (.ptr 6 0),.c (.bool ok),.c (.int .i64 x)],m0::m1::m2::m3::m4::m5::some (218,[.int .i64 c0,c1,c2,c3,c4,c5,c6,c7,.int .i64 e])::r=>.leaf (.tup [],m0::m1::m2::m3::m4::m5::some (218,[.int .i64 c0,c1,c2,c3,c4,c5,c6,c7,.int .i64 (dmd ok x e)])::r)
 | _,_=>.fail
theorem q40:jr Tryz.prog 157 G40:=Yf h12 10 157 fun args mem r mem' h=>by
 unfold G40 at h;split at h
 ·rename_i ok x m0 m1 m2 m3 m4 c0 c1 c2 c3 c4 c5 c6 c7 e rest;simp only [Tree.sel,sIq,pIq] at h;obtain ⟨rfl,rfl⟩:=h;refine ⟨.br (!ok&&e==0) (.leaf (.tup [],m0::m1::m2::m3::m4::some (218,[.int .i64 c0,c1,c2,c3,c4,c5,c6,c7,.int .i64 x])::rest)) (.leaf (.tup [],m0::m1::m2::m3::m4::some (218,[.int .i64 c0,c1,c2,c3,c4,c5,c6,c7,.int .i64 e])::rest)),by kernel_rfl,fun hc => ?_,fun hc => ?_⟩
  ·show _=_;unfold dmd;rw [hc];rfl
  ·show _=_;unfold dmd;rw [hc];rfl
 ·rename_i ok x m0 m1 m2 m3 m4 m5 c0 c1 c2 c3 c4 c5 c6 c7 e rest;simp only [Tree.sel,sIq,pIq] at h;obtain ⟨rfl,rfl⟩:=h;refine ⟨.br (!ok&&e==0) (.leaf (.tup [],m0::m1::m2::m3::m4::m5::some (218,[.int .i64 c0,c1,c2,c3,c4,c5,c6,c7,.int .i64 x])::rest)) (.leaf (.tup [],m0::m1::m2::m3::m4::m5::some (218,[.int .i64 c0,c1,c2,c3,c4,c5,c6,c7,.int .i64 e])::rest)),by kernel_rfl,fun hc => ?_,fun hc => ?_⟩
  ·show _=_;unfold dmd;rw [hc];rfl
  ·show _=_;unfold dmd;rw [hc];rfl
 ·simp [Tree.sel] at h
noncomputable abbrev H13:Hd:=⟨H12.pc,[],[],(157,G40)::H12.mc⟩
theorem h13:HdOk Tryz.prog H13:=h12.mcCons q40
structure Sit where
 a:Int
 r:Int
 e:Int
 p:Int
 n:Nat
 ρ:Val
 s:Int
 l:Bool
 c:Bool
def Sit.cv (x:Sit):A1:=.agg [I x.a,I x.r,I x.e,I x.p,.sl spSh x.n x.ρ,I x.s,.bool x.l,.bool x.c]
def chkS (x:Sit):Int:=chk x.a x.r x.e x.p ⟨x.n,x.ρ⟩ x.s
def Zr (k:Int):AV:=.tup [.agg [I 0,I 0,I 0,I 0,.nils,I 0,.bool false,.bool false],.c (I k)]
def Sok (x:Sit):AV:=.tup [x.cv,.c (I 0)]
def VR (k:Int) (x:Sit):AV:=.tup [.agg [I (bif k==0 then x.a else 0),I (bif k==0 then x.r else 0),I (bif k==0 then x.e else 0),I (bif k==0 then x.p else 0),.sl spSh (bif k==0 then x.n else 0) x.ρ,I (bif k==0 then x.s else 0),.bool (k==0&&x.l),.bool (k==0&&x.c)],.c (I k)]
theorem jgz {es:List Sh} {ρ:Val}:leC .nils (.sl es 0 ρ):=fun _ _ _ h=>by cases h;exact .slnil
theorem jch {k j:Int} {x:Sit} (hj:j=k) (hk:(j==0)=false):leA (Zr j) (VR k x):=by
 subst hj;unfold Zr VR;rw [hk];refine QS (.cons (.agg ?_) (.cons le1.refl .nil));exact .cons leC.refl (.cons leC.refl (.cons leC.refl (.cons leC.refl (.cons jgz (.cons leC.refl (.cons leC.refl (.cons leC.refl .nil)))))))
theorem UC {k:Int} {x y:Sit} (hk:(k==0)=true) (hy:y=x):leA (Sok y) (VR k x):=by
 have hk0:k=0:=by simpa using hk
 subst hk0;subst hy;exact leA.refl
def small (n:Nat):Prop:=n<=100000
theorem Ko {n:Nat} (h:small n):dec (fewN n)=true:=js.2 (by unfold small at h;unfold fewN;omega)
theorem Ky {n:Nat} (h:small n):Nat.ble ((0+n)*24) 140737488355328=true:=Nat.ble_eq_true_of_le (by unfold small at h;omega)
theorem Da {n:Nat} {k:Int} {x y:Sit} (hs:small n) (hy:y=x):(Tree.need (Nat.ble ((0+n)*24) 140737488355328) (.need (dec (fewN n)) (.br (k != 0) (.leaf (Zr k)) (.leaf (Sok y))))).All (fun z=>leA z (VR k x)):=by
 refine ⟨Ky hs,Ko hs,fun h=>jch rfl (by simpa [bne] using h),fun h=>UC (by simpa [bne] using h) hy⟩
def chain (e:Int):List (Bool × Int)->Int
 | []=>e
 | (ok,k)::r=>chain (dmd ok k e) r
def pro (x:Sit) (y:Int):Sit:={ x with r:=1,e:=y,s:=-1 }
def proE (x:Sit) (y:Int):Int:=chain (chkS x) [(x.l,12),((x.r==0&&ja x.n==0)||x.r==2||x.r==3,18),(lt x.e y,13),(le y 1073741824,2)]
noncomputable def jhI:List A1->Option (Bool × AV)
 | [.agg [.int .i64 a,.int .i64 r,.int .i64 e,.int .i64 p,.sl [.int .i64,.int .i64,.int .i64] n ρ,.int .i64 s,.bool l,.bool c],.c (.int .i64 y)]=>some (dec (small n),VR (proE ⟨a,r,e,p,n,ρ,s,l,c⟩ y) (pro ⟨a,r,e,p,n,ρ,s,l,c⟩ y))
 | _=>none
theorem u13:UcOne Tryz.prog 141 (nG jhI):=jX h13 12 141 fun args r h=>by
 unfold jhI at h;split at h
 ·rename_i a r e p n ρ s l c y;obtain ⟨hp,rfl⟩:=Prod.mk.inj (Option.some.inj h);exact ⟨_,by kernel_rfl,Da (js.1 hp) rfl⟩
 ·cases h
def demo (x:Sit) (y src:Int):Sit:={ x with r:=bif src==-1 then 5 else 2,e:=y,s:=src }
def demoE (x:Sit) (y src:Int):Int:=chain (chkS x) [(x.r==1,18),(le x.e y,13),(le y 1073741824,2),(src==-1||oth src x.a,1)]
noncomputable def jhp:List A1->Option (Bool × AV)
 | [.agg [.int .i64 a,.int .i64 r,.int .i64 e,.int .i64 p,.sl [.int .i64,.int .i64,.int .i64] n ρ,.int .i64 s,.bool l,.bool c],.c (.int .i64 y),.c (.int .i64 src)]=>some (dec (small n),VR (demoE ⟨a,r,e,p,n,ρ,s,l,c⟩ y src) (demo ⟨a,r,e,p,n,ρ,s,l,c⟩ y src))
 | _=>none
theorem Mi {Q : AV -> Prop} {b : Bool} {k : Int} {x1 x2 : Sit} (h1 : k = 0 -> b = true -> Q (Sok x1)) (h2 : k = 0 -> b = false -> Q (Sok x2)) (h3 : (k == 0) = false -> Q (Zr k)) :
  (Tree.br b (.br (k != 0) (.leaf (Zr k)) (.leaf (Sok x1))) (.br (k != 0) (.leaf (Zr k)) (.leaf (Sok x2)))).All Q :=
 ⟨fun hb=>⟨fun hk=>h3 (by simpa [bne] using hk),fun hk=>h1 (by simpa [bne] using hk) hb⟩,fun hb=>⟨fun hk=>h3 (by simpa [bne] using hk),fun hk=>h2 (by simpa [bne] using hk) hb⟩⟩
theorem u15:UcOne Tryz.prog 144 (nG jhp):=jX h13 12 144 fun args r h=>by
 unfold jhp at h;split at h
 ·rename_i a r e p n ρ s l c y src;obtain ⟨hp,rfl⟩:=Prod.mk.inj (Option.some.inj h);have hp:=js.1 hp;refine ⟨.need (Nat.ble ((0+n)*24) 140737488355328) (.need (dec (fewN n)) (Tree.br (src==-1) (.br (demoE ⟨a,r,e,p,n,ρ,s,l,c⟩ y src != 0) (.leaf (Zr (demoE ⟨a,r,e,p,n,ρ,s,l,c⟩ y src))) (.leaf (Sok ⟨a,5,y,p,n,ρ,src,l,c⟩))) (.br (demoE ⟨a,r,e,p,n,ρ,s,l,c⟩ y src != 0) (.leaf (Zr (demoE ⟨a,r,e,p,n,ρ,s,l,c⟩ y src))) (.leaf (Sok ⟨a,2,y,p,n,ρ,src,l,c⟩))))),by kernel_rfl,Ky hp,Ko hp,Mi (fun hk hb => ?_) (fun hk hb => ?_) (fun hk=>jch rfl hk)⟩
  ·exact UC (by rw [hk];rfl) (by unfold demo;rw [hb];rfl)
  ·exact UC (by rw [hk];rfl) (by unfold demo;rw [hb];rfl)
 ·cases h
def iso (x:Sit):Sit:={ x with r:=3,s:=-1 }
def isoE (x:Sit):Int:=chain (chkS x) [(x.r==2,18)]
noncomputable def jg8:List A1->Option (Bool × AV)
 | [.agg [.int .i64 a,.int .i64 r,.int .i64 e,.int .i64 p,.sl [.int .i64,.int .i64,.int .i64] n ρ,.int .i64 s,.bool l,.bool c]]=>some (dec (small n),VR (isoE ⟨a,r,e,p,n,ρ,s,l,c⟩) (iso ⟨a,r,e,p,n,ρ,s,l,c⟩))
 | _=>none
theorem u24:UcOne Tryz.prog 143 (nG jg8):=jX h13 12 143 fun args r h=>by
 unfold jg8 at h;split at h
 ·rename_i a r e p n ρ s l c;obtain ⟨hp,rfl⟩:=Prod.mk.inj (Option.some.inj h);exact ⟨_,by kernel_rfl,Da (k:=isoE ⟨a,r,e,p,n,ρ,s,l,c⟩) (y:=iso ⟨a,r,e,p,n,ρ,s,l,c⟩) (js.1 hp) rfl⟩
 ·cases h
def rej (x:Sit) (y src:Int):Sit:={ x with r:=bif x.r==3&&y==x.e then 2 else 4,e:=y,s:=src }
def rejE (x:Sit) (y src:Int):Int:=chain (chkS x) [(x.r != 1&&x.r != 2,18),(le x.e y&&y != 0,13),(le y 1073741824,2),(oth src x.a,1)]
noncomputable def jf6:List A1->Option (Bool × AV)
 | [.agg [.int .i64 a,.int .i64 r,.int .i64 e,.int .i64 p,.sl [.int .i64,.int .i64,.int .i64] n ρ,.int .i64 s,.bool l,.bool c],.c (.int .i64 y),.c (.int .i64 src)]=>some (dec (small n),VR (rejE ⟨a,r,e,p,n,ρ,s,l,c⟩ y src) (rej ⟨a,r,e,p,n,ρ,s,l,c⟩ y src))
 | _=>none
theorem u26:UcOne Tryz.prog 146 (nG jf6):=jX h13 12 146 fun args r h=>by
 unfold jf6 at h;split at h
 ·rename_i a r e p n ρ s l c y src;obtain ⟨hp,rfl⟩:=Prod.mk.inj (Option.some.inj h);have hp:=js.1 hp;refine ⟨.need (Nat.ble ((0+n)*24) 140737488355328) (.need (dec (fewN n)) (Tree.br (r==3&&y==e) (.br (rejE ⟨a,r,e,p,n,ρ,s,l,c⟩ y src != 0) (.leaf (Zr (rejE ⟨a,r,e,p,n,ρ,s,l,c⟩ y src))) (.leaf (Sok ⟨a,2,y,p,n,ρ,src,l,c⟩))) (.br (rejE ⟨a,r,e,p,n,ρ,s,l,c⟩ y src != 0) (.leaf (Zr (rejE ⟨a,r,e,p,n,ρ,s,l,c⟩ y src))) (.leaf (Sok ⟨a,4,y,p,n,ρ,src,l,c⟩))))),by kernel_rfl,Ky hp,Ko hp,Mi (fun hk hb => ?_) (fun hk hb => ?_) (fun hk=>jch rfl hk)⟩
  ·exact UC (by rw [hk];rfl) (by unfold rej;rw [hb];rfl)
  ·exact UC (by rw [hk];rfl) (by unfold rej;rw [hb];rfl)
 ·cases h
noncomputable abbrev H14:Hd:=⟨H13.pc,[(141,nG jhI),(144,nG jhp),(143,nG jg8),(146,nG jf6)],[],H13.mc⟩
theorem h14:HdOk Tryz.prog H14:=(((h13.ucCons u26).ucCons u24).ucCons u15).ucCons u13
noncomputable abbrev H15:Hd:=H14
theorem h15:HdOk Tryz.prog H15:=h14
end Go.Proofs.YtiefjlcakpdfeaaGreatDoor.Ro
namespace Go.Proofs.YtiefjlcakpdfeaaGreatDoor.Ro
open Go Go.Sx Go.RowKit Classical
set_option maxRecDepth 100000
abbrev siSh:List Sh:=[.int .i64,.int .i64,.int .i64,.int .i64,.sl spSh,.int .i64,.bool,.bool]
structure Ses where
 n:Nat
 ρ:Val
def siAt (v:Val):Sit:=⟨(v.at 0).N [],(v.at 1).N [],(v.at 2).N [],(v.at 3).N [],(v.at 4).L [],v.at 4,(v.at 5).N [],(v.at 6).B [],(v.at 7).B []⟩
def Ses.at (l:Ses) (i:Nat):Sit:=siAt (l.ρ.at i)
structure VI where
 r:Int
 i:Int
def TXi (m:Int) (n:Nat) (bad:Nat->Bool) (v:VI):Tree (XE × VI) :=
 .br (lt v.i m) (.need (jc v.i n) (.br (bad v.i.toNat) (.leaf (.ret,⟨v.i,v.i⟩)) (.leaf (.normal,⟨v.r,IntKind.i64.wrap (v.i+1)⟩)))) (.leaf (.exit 0,v))
def stI (i:Nat):VI:=⟨0,i⟩
def sbI (i:Nat):VI:=⟨i,i⟩
def μI (n:Nat) (v:VI):Nat:=(n - v.i).toNat
theorem sqI {m:Int} {n:Nat} (bad:Nat->Bool) (hm:m=ja n) (hn:fewN n):Sq (TXi m n bad) (μI n) stI sbI n bad .ret (.exit 0) where
 out:=by simp
 hit:=by simp
 meas i hi:=by unfold μI stI;simp only;omega
 round i hi:=by
  unfold fewN at hn;have hw:IntKind.i64.wrap ((i:Int)+1)=((i+1:Nat):Int):=by rw [w64_id (by omega) (by omega)];omega
  refine ⟨fun _=>⟨inR hi,fun hb => ?_,fun hb => ?_⟩,fun h => ?_⟩
  ·have:bad i=true:=hb
   simp only [Tree.All,this,if_true];rfl
  ·have:bad i=false:=hb
   simp only [Tree.All,this,Bool.false_eq_true,if_false];show (XE.normal,(⟨0,IntKind.i64.wrap ((i:Int)+1)⟩ : VI))=_;rw [hw];rfl
  ·have:lt (i:Int) m=false:=h
   rw [hm,ltF hi] at this;cases this
 stop:=by
  refine ⟨fun h => ?_,fun _=>rfl⟩
  have:lt (n:Int) m=true:=h
  rw [hm,ltS] at this;cases this
def fndB (l:Ses) (y:Sit) (i:Nat):Bool:=(l.at i).a==y.a
def Zl (l:Ses) (y:Sit) (i:Nat):Bool:=(l.at i).r==y.r&&(l.at i).e==y.e
structure C56 where
 l:Ses
 m:Int
 y:Sit
def Bn (y:Sit):Mem:=[some (53,[I y.a,I y.r,I y.e,I y.p,.sl spSh y.n y.ρ,I y.s,.bool y.l,.bool y.c])]
def jbX (c:C56) (v:VI):St:=mkS 19 [(0,.one (.c (.sl siSh c.l.n c.l.ρ))),(1,.one (.c (.fn (.func 63) [] [.ptr 0 0]))),(4,.one (.c (I v.r))),(7,.one (.c (I c.m))),(8,.one (.c (I v.i)))] (Bn c.y)
def jcj (c:C56) (v:VI):St:=mkS 19 [(0,.one (.c (.sl siSh c.l.n c.l.ρ))),(1,.one (.c (.fn (.func 64) [] [.ptr 0 0]))),(4,.one (.c (I v.r))),(7,.one (.c (I c.m))),(8,.one (.c (I v.i)))] (Bn c.y)
theorem jqA (c:C56) (v:VI):((jI Tryz.prog H15 (jU Tryz.prog H15 10) 91 1 1 (qd Tryz.prog 91 0) (jbX c v)).bind fun y=>gcT [0,1,4,7,8] 1 y)=(TXi c.m c.l.n (fndB c.l c.y) v).bind fun y=>.leaf (y.1,jbX c y.2):=by kernel_rfl
theorem jrY (c:C56) (v:VI):((jI Tryz.prog H15 (jU Tryz.prog H15 10) 91 1 1 (qd Tryz.prog 91 0) (jcj c v)).bind fun y=>gcT [0,1,4,7,8] 1 y)=(TXi c.m c.l.n (Zl c.l c.y) v).bind fun y=>.leaf (y.1,jcj c y.2):=by kernel_rfl
noncomputable def Yz (c:C56) (v:VI):Bool:=dec ((c.m=ja c.l.n∧fewN c.l.n)∧∃ i,i<=c.l.n∧v=stI i)
def Dl (c:C56) (v:VI):XE × VI:=fin (TXi c.m c.l.n (fndB c.l c.y)) (μI c.l.n) v
def Dp (c:C56) (v:VI):XE × VI:=fin (TXi c.m c.l.n (Zl c.l c.y)) (μI c.l.n) v
def ai:List (Nat × AV)->Mem->Option (C56 × VI)
 | [(0, .one (.c (.sl [.int .i64, .int .i64, .int .i64, .int .i64, .sl [.int .i64, .int .i64, .int .i64], .int .i64, .bool, .bool] n ρ))), (1, .one (.c (.fn (.func 63) [] [.ptr 0 0]))), (4, .one (.c (.int .i64 r))), (7, .one (.c (.int .i64 m))), (8, .one (.c (.int .i64 i)))],
   [some (53,[.int .i64 a,.int .i64 ro,.int .i64 e,.int .i64 p,.sl [.int .i64,.int .i64,.int .i64] k σ,.int .i64 s,.bool l,.bool c])]=>some (⟨⟨n,ρ⟩,m,⟨a,ro,e,p,k,σ,s,l,c⟩⟩,⟨r,i⟩)
 | _,_=>none
def Dn:List (Nat × AV)->Mem->Option (C56 × VI)
 | [(0, .one (.c (.sl [.int .i64, .int .i64, .int .i64, .int .i64, .sl [.int .i64, .int .i64, .int .i64], .int .i64, .bool, .bool] n ρ))), (1, .one (.c (.fn (.func 64) [] [.ptr 0 0]))), (4, .one (.c (.int .i64 r))), (7, .one (.c (.int .i64 m))), (8, .one (.c (.int .i64 i)))],
   [some (53,[.int .i64 a,.int .i64 ro,.int .i64 e,.int .i64 p,.sl [.int .i64,.int .i64,.int .i64] k σ,.int .i64 s,.bool l,.bool c])]=>some (⟨⟨n,ρ⟩,m,⟨a,ro,e,p,k,σ,s,l,c⟩⟩,⟨r,i⟩)
 | _,_=>none
noncomputable def joQ:Nat->St->Tree (XE × St):=YG [0,1,4,7,8] 1 19 ai Yz jbX Dl [.ret,.exit 0]
noncomputable def jnI:Nat->St->Tree (XE × St):=YG [0,1,4,7,8] 1 19 Dn Yz jcj Dp [.ret,.exit 0]
theorem jrP (fn:Func) (c b:Code) (hf:Tryz.prog.funcs[91]? = some fn) (hc:fn.body=some c) (hb:jf c 0=some b):LoopOk Tryz.prog b joQ :=
 JI h15 10 91 0 hf hc hb [0,1,4,7,8] 1 19 jbX (fun c=>TXi c.m c.l.n (fndB c.l c.y)) jqA ai Yz (fun c=>μI c.l.n) [.ret,.exit 0]
  (fun l m c v h=>by unfold ai at h;split at h<;>simp at h;obtain ⟨rfl,rfl⟩:=h;rfl)
  (QP fun c v hv=>by
   have h:=(js.1 hv).1;exact (sqI (fndB c.l c.y) h.1 h.2).rounds fun x=>by unfold Yz;rw [js];exact ⟨fun h=>h.2,fun k=>⟨h,k⟩⟩)
theorem jqC (fn:Func) (c b:Code) (hf:Tryz.prog.funcs[91]? = some fn) (hc:fn.body=some c) (hb:jf c 0=some b):LoopOk Tryz.prog b jnI :=
 JI h15 10 91 0 hf hc hb [0,1,4,7,8] 1 19 jcj (fun c=>TXi c.m c.l.n (Zl c.l c.y)) jrY Dn Yz (fun c=>μI c.l.n) [.ret,.exit 0]
  (fun l m c v h=>by unfold Dn at h;split at h<;>simp at h;obtain ⟨rfl,rfl⟩:=h;rfl)
  (QP fun c v hv=>by
   have h:=(js.1 hv).1;exact (sqI (Zl c.l c.y) h.1 h.2).rounds fun x=>by unfold Yz;rw [js];exact ⟨fun h=>h.2,fun k=>⟨h,k⟩⟩)
noncomputable abbrev HaB:Hd:=⟨H15.pc,H15.hc,[((91,0),joQ)],H15.mc⟩
theorem haB:HdOk Tryz.prog HaB:=HdOk.lhCons h15 jrP
noncomputable abbrev HaC:Hd:=⟨H15.pc,H15.hc,[((91,0),jnI)],H15.mc⟩
theorem haC:HdOk Tryz.prog HaC:=HdOk.lhCons h15 jqC
end Go.Proofs.YtiefjlcakpdfeaaGreatDoor.Ro