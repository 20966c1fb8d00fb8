/-
 Part TaP of the proof: RolZa RolZb RolZc RolZd EngPa EngPb.
-/
import Derived.Test.YtiefjlcakpdfeaaGreatDoorTaO
namespace Go.Proofs.YtiefjlcakpdfeaaGreatDoor.Ro
open Go Go.Sx Go.RowKit Classical
set_option maxRecDepth 100000
def T30 {α:Type} (iv:Bool) (x:XE × VI) (f:Bool->α):Tree α:=.need iv (.br (J9 x.1 .ret) (.leaf (f (le 0 x.2.r))) (.need (J9 x.1 (.exit 0)) (.leaf (f false))))
theorem MH {α:Type} {iv:Bool} {x:XE × VI} {f:Bool->α} {n:Nat} {bad:Nat->Bool} (h:iv=true) (hx:x=bif jQ bad n then (.ret,sbI (yc bad n)) else (.exit 0,stI n)):(T30 iv x f).All (fun z=>z=f (jQ bad n)):=by
 subst h;refine ⟨rfl,fun h => ?_,fun h => ?_⟩
 ·cases hb:jQ bad n
  ·rw [hb] at hx;subst hx;cases h
  ·rw [hb] at hx;subst hx
   have:le 0 ((yc bad n:Nat):Int)=true:=by rw [qq];omega
   show f (le 0 ((yc bad n:Nat):Int))=_;rw [this]
 ·cases hb:jQ bad n
  ·rw [hb] at hx;subst hx;exact ⟨rfl,rfl⟩
  ·rw [hb] at hx;subst hx;cases h
theorem jmS {c:C56} (hm:c.m=ja c.l.n) (hn:fewN c.l.n):Yz c (stI 0)=true:=js.2 ⟨⟨hm,hn⟩,0,Nat.zero_le _,rfl⟩
noncomputable def G30:List A1->Mem->Tree (AV × Mem)
 | [.c (.sl [.int .i64, .int .i64, .int .i64, .int .i64, .sl [.int .i64, .int .i64, .int .i64], .int .i64, .bool, .bool] n ρ), .c (.fn (.func 63) [] [.ptr 0 0])], [some (53, [.int .i64 a, .int .i64 ro, .int .i64 e, .int .i64 p, .sl [.int .i64, .int .i64, .int .i64] k σ, .int .i64 s, .bool l, .bool c])] =>
   .need (dec (fewN n)) (.leaf (.one (.c (.bool (jQ (fndB ⟨n,ρ⟩ ⟨a,ro,e,p,k,σ,s,l,c⟩) n))),[some (53,[.int .i64 a,.int .i64 ro,.int .i64 e,.int .i64 p,.sl spSh k σ,.int .i64 s,.bool l,.bool c])]))
 | [.c (.sl [.int .i64, .int .i64, .int .i64, .int .i64, .sl [.int .i64, .int .i64, .int .i64], .int .i64, .bool, .bool] n ρ), .c (.fn (.func 64) [] [.ptr 0 0])], [some (53, [.int .i64 a, .int .i64 ro, .int .i64 e, .int .i64 p, .sl [.int .i64, .int .i64, .int .i64] k σ, .int .i64 s, .bool l, .bool c])] =>
   .need (dec (fewN n)) (.leaf (.one (.c (.bool (jQ (Zl ⟨n,ρ⟩ ⟨a,ro,e,p,k,σ,s,l,c⟩) n))),[some (53,[.int .i64 a,.int .i64 ro,.int .i64 e,.int .i64 p,.sl spSh k σ,.int .i64 s,.bool l,.bool c])]))
 | _,_=>.fail
noncomputable def jmJ:List A1->Mem->Tree (AV × Mem)
 | [.c (.sl [.int .i64, .int .i64, .int .i64, .int .i64, .sl [.int .i64, .int .i64, .int .i64], .int .i64, .bool, .bool] n ρ), .c (.fn (.func 63) [] [.ptr 0 0])], [some (53, [.int .i64 a, .int .i64 ro, .int .i64 e, .int .i64 p, .sl [.int .i64, .int .i64, .int .i64] k σ, .int .i64 s, .bool l, .bool c])] =>
   .need (dec (fewN n)) (.leaf (.one (.c (.bool (jQ (fndB ⟨n,ρ⟩ ⟨a,ro,e,p,k,σ,s,l,c⟩) n))),[some (53,[.int .i64 a,.int .i64 ro,.int .i64 e,.int .i64 p,.sl spSh k σ,.int .i64 s,.bool l,.bool c])]))
 | _,_=>.fail
noncomputable def jmb:List A1->Mem->Tree (AV × Mem)
 | [.c (.sl [.int .i64, .int .i64, .int .i64, .int .i64, .sl [.int .i64, .int .i64, .int .i64], .int .i64, .bool, .bool] n ρ), .c (.fn (.func 64) [] [.ptr 0 0])], [some (53, [.int .i64 a, .int .i64 ro, .int .i64 e, .int .i64 p, .sl [.int .i64, .int .i64, .int .i64] k σ, .int .i64 s, .bool l, .bool c])] =>
   .need (dec (fewN n)) (.leaf (.one (.c (.bool (jQ (Zl ⟨n,ρ⟩ ⟨a,ro,e,p,k,σ,s,l,c⟩) n))),[some (53,[.int .i64 a,.int .i64 ro,.int .i64 e,.int .i64 p,.sl spSh k σ,.int .i64 s,.bool l,.bool c])]))
 | _,_=>.fail
theorem jqU:jr Tryz.prog 62 jmJ:=Yf haB 10 62 fun args mem r mem' h=>by
 unfold jmJ at h;split at h
 ·rename_i n ρ a ro e p k σ s l c;cases hp:dec (fewN n)
  ·rw [hp] at h;simp [Tree.sel] at h
  ·rw [hp] at h;simp only [Tree.sel,cond_true,sIq,pIq] at h;obtain ⟨rfl,rfl⟩:=h;have hf:=js.1 hp;exact ⟨T30 (Yz ⟨⟨n,ρ⟩,ja n,⟨a,ro,e,p,k,σ,s,l,c⟩⟩ (stI 0)) (Dl ⟨⟨n,ρ⟩,ja n,⟨a,ro,e,p,k,σ,s,l,c⟩⟩ (stI 0)) (fun b=>(.one (.c (.bool b)),Bn ⟨a,ro,e,p,k,σ,s,l,c⟩)),by kernel_rfl,MH (f:=fun b=>(AV.one (.c (.bool b)),Bn ⟨a,ro,e,p,k,σ,s,l,c⟩)) (jmS (c:=⟨⟨n,ρ⟩,ja n,⟨a,ro,e,p,k,σ,s,l,c⟩⟩) rfl hf) (show Dl ⟨⟨n,ρ⟩,ja n,⟨a,ro,e,p,k,σ,s,l,c⟩⟩ (stI 0)=_ from (sqI (fndB ⟨n,ρ⟩ ⟨a,ro,e,p,k,σ,s,l,c⟩) rfl hf).fin0)⟩
 ·simp [Tree.sel] at h
theorem jq4:jr Tryz.prog 62 jmb:=Yf haC 10 62 fun args mem r mem' h=>by
 unfold jmb at h;split at h
 ·rename_i n ρ a ro e p k σ s l c;cases hp:dec (fewN n)
  ·rw [hp] at h;simp [Tree.sel] at h
  ·rw [hp] at h;simp only [Tree.sel,cond_true,sIq,pIq] at h;obtain ⟨rfl,rfl⟩:=h;have hf:=js.1 hp;exact ⟨T30 (Yz ⟨⟨n,ρ⟩,ja n,⟨a,ro,e,p,k,σ,s,l,c⟩⟩ (stI 0)) (Dp ⟨⟨n,ρ⟩,ja n,⟨a,ro,e,p,k,σ,s,l,c⟩⟩ (stI 0)) (fun b=>(.one (.c (.bool b)),Bn ⟨a,ro,e,p,k,σ,s,l,c⟩)),by kernel_rfl,MH (f:=fun b=>(AV.one (.c (.bool b)),Bn ⟨a,ro,e,p,k,σ,s,l,c⟩)) (jmS (c:=⟨⟨n,ρ⟩,ja n,⟨a,ro,e,p,k,σ,s,l,c⟩⟩) rfl hf) (show Dp ⟨⟨n,ρ⟩,ja n,⟨a,ro,e,p,k,σ,s,l,c⟩⟩ (stI 0)=_ from (sqI (Zl ⟨n,ρ⟩ ⟨a,ro,e,p,k,σ,s,l,c⟩) rfl hf).fin0)⟩
 ·simp [Tree.sel] at h
theorem q30:jr Tryz.prog 62 G30:=fun args mem r mem' h=>by
 unfold G30 at h;split at h
 ·exact jqU _ _ _ _ h
 ·exact jq4 _ _ _ _ h
 ·simp [Tree.sel] at h
noncomputable abbrev H30:Hd:=⟨H15.pc,H15.hc,[],(62,G30)::H15.mc⟩
theorem h30:HdOk Tryz.prog H30:=h15.mcCons q30
structure VJ where
 k:Int
 r:Int
 q:Int
def fndD (l:Ses) (y:Sit) (k:Nat):Bool:=((l.at k).r==1&&y.r==1)&&(l.at k).e==y.e
def stJ (k:Nat):VJ:=⟨k,0,0⟩
def fewS (l:Ses):Prop:=fewN l.n∧∀ i,i<l.n->fewN (l.at i).n
theorem jcy (l:Ses) (x:Sit) (n:Nat):(x.r==1&&jQ (Zl l x) n)=jQ (fndD l x) n:=by
 cases hr:(x.r==1)
 ·rw [Bool.false_and,eq_comm,← Bool.not_eq_true];intro h;obtain ⟨i,_,h⟩:=Jx.1 h;unfold fndD at h;rw [hr] at h;simp at h
 ·rw [Bool.true_and];refine jcb fun i _ _ => ?_;have hx:x.r=1:=by simpa using hr
  unfold Zl fndD;rw [hr,hx,Bool.and_true]
def wrgS (l:Ses) (i:Nat):Bool:=(chkS (l.at i) != 0||jQ (fndB l (l.at i)) i)||jQ (fndD l (l.at i)) i
def wrgE (l:Ses) (i:Nat):Int:=bif chkS (l.at i) != 0 then chkS (l.at i) else bif jQ (fndB l (l.at i)) i then 8 else 19
def sbS (l:Ses) (i:Nat):VJ:=⟨i,i,wrgE l i⟩
def μS (n:Nat) (v:VJ):Nat:=(n - v.k).toNat
theorem joc {l:Ses} {i:Nat} (h:(chkS (l.at i) != 0)=true):wrgS l i=true∧wrgE l i=chkS (l.at i):=by
 unfold wrgS wrgE;rw [h];exact ⟨rfl,rfl⟩
theorem jnU {l:Ses} {i:Nat} (h:(chkS (l.at i) != 0)=false) (h2:jQ (fndB l (l.at i)) i=true):wrgS l i=true∧wrgE l i=8:=by
 unfold wrgS wrgE;rw [h,h2];exact ⟨rfl,rfl⟩
theorem jnE {l:Ses} {i:Nat} (h:(chkS (l.at i) != 0)=false) (h2:jQ (fndB l (l.at i)) i=false) (h3:jQ (fndD l (l.at i)) i=true):wrgS l i=true∧wrgE l i=19:=by
 unfold wrgS wrgE;rw [h,h2,h3];exact ⟨rfl,rfl⟩
theorem jmm {l:Ses} {i:Nat} (h:(chkS (l.at i) != 0)=false) (h2:jQ (fndB l (l.at i)) i=false) (h3:jQ (fndD l (l.at i)) i=false):wrgS l i=false:=by
 unfold wrgS;rw [h,h2,h3];rfl
structure C34 where
 l:Ses
 j:Ses
 m:Int
def S34 (c:C34) (v:VJ):St:=mkS 43 [(0,.one (.c (.sl siSh c.l.n c.l.ρ))),(2,.one (.c (I v.r))),(3,.one (.c (I v.q))),(10,.one (.c (.sl siSh c.j.n c.j.ρ))),(11,.one (.c (I c.m))),(12,.one (.c (I v.k)))] []
noncomputable def jcm (c:C34) (v:VJ):Tree (XE × VJ) :=
 let x:=c.j.at v.k.toNat
 let nx:VJ:=⟨IntKind.i64.wrap (v.k+1),v.r,v.q⟩
 let rest (b:Bool):Tree (XE × VJ):=.br (x.r==1&&b) (.leaf (.ret,⟨v.k,v.k,19⟩)) (.leaf (.normal,nx))
 .br (lt v.k c.m) (.need (jc v.k c.j.n) (.need (dec (fewN x.n)) (.br (chkS x != 0) (.leaf (.ret,⟨v.k,v.k,chkS x⟩)) (.need (le 0 v.k&&le v.k (ja c.l.n)) (.need (dec (fewN v.k.toNat)) (.br (jQ (fndB ⟨v.k.toNat,c.l.ρ⟩ x) v.k.toNat) (.leaf (.ret,⟨v.k,v.k,8⟩))
  (.br ((x.r==1)==true) (.need (le 0 v.k&&le v.k (ja c.l.n)) (.br ((x.r==1)==true) (.need (dec (fewN v.k.toNat)) (rest (jQ (Zl ⟨v.k.toNat,c.l.ρ⟩ x) v.k.toNat))) (rest false)))
   (.br ((x.r==1)==true) .fail (rest false))))))))) (.leaf (.exit 0,v))
theorem t34 (c:C34) (v:VJ):((jI Tryz.prog H30 (jU Tryz.prog H30 10) 35 0 1 (qd Tryz.prog 35 0) (S34 c v)).bind fun y=>gcT [0,2,3,10,11,12] 0 y)=(jcm c v).bind fun y=>.leaf (y.1,S34 c y.2):=by kernel_rfl
theorem jmx (l:Ses) {m:Int} (hm:m=ja l.n) (hn:fewS l):Sq (jcm ⟨l,l,m⟩) (μS l.n) stJ (sbS l) l.n (wrgS l) .ret (.exit 0) where
 out:=by simp
 hit:=by simp
 meas k hk:=by unfold μS stJ;simp only;omega
 round k hk:=by
  have hf:=hn.2 k hk;have hn:=hn.1;have hk':fewN k:=by unfold fewN at hn ⊢;omega
  have hkk:fewN ((k:Int).toNat):=hk';unfold fewN at hn;have hw:IntKind.i64.wrap ((k:Int)+1)=((k+1:Nat):Int):=by rw [w64_id (by omega) (by omega)];omega
  have hs:(le 0 (k:Int)&&le (k:Int) (ja l.n))=true:=by
   rw [aTq,qq,qq];exact ⟨by omega,by show (k:Int)<=(l.n:Int);omega⟩
  have nxt:∀ {r},jQ (fndD l (l.at k)) k=r->(chkS (l.at k) != 0)=false->jQ (fndB l (l.at k)) k=false->r=false->if wrgS l k then (XE.normal,(⟨IntKind.i64.wrap ((k:Int)+1),0,0⟩ : VJ))=(.ret,sbS l k) else (XE.normal,(⟨IntKind.i64.wrap ((k:Int)+1),0,0⟩ : VJ))=(.normal,stJ (k+1)):=fun h1 h2 h3 h4=>by
   rw [jmm h2 h3 (h1.trans h4),hw];rfl
  refine ⟨fun _=>⟨inR hk,js.2 hf,fun h1 => ?_,fun h1=>⟨hs,js.2 hkk,fun h2 => ?_,fun h2=>⟨fun g=>⟨hs,fun _=>⟨js.2 hkk,fun h3 => ?_,fun h3 => ?_⟩,fun ng => ?_⟩,fun g=>⟨fun g' => ?_,fun _=>⟨fun h3 => ?_,fun _ => ?_⟩⟩⟩⟩⟩,fun h => ?_⟩
  ·obtain ⟨b,e⟩:=joc (l:=l) (i:=k) h1;show if wrgS l k then _ else _
   rw [b,if_pos rfl];show (XE.ret,(⟨k,k,chkS (l.at k)⟩ : VJ))=(.ret,⟨k,k,wrgE l k⟩);rw [e]
  ·obtain ⟨b,e⟩:=jnU (l:=l) (i:=k) h1 h2;show if wrgS l k then _ else _
   rw [b,if_pos rfl];show (XE.ret,(⟨k,k,8⟩ : VJ))=(.ret,⟨k,k,wrgE l k⟩);rw [e]
  ·have h3:((l.at k).r==1&&jQ (Zl l (l.at k)) k)=true:=h3;rw [jcy] at h3;obtain ⟨b,e⟩:=jnE (l:=l) (i:=k) h1 h2 h3;show if wrgS l k then _ else _
   rw [b,if_pos rfl];show (XE.ret,(⟨k,k,19⟩ : VJ))=(.ret,⟨k,k,wrgE l k⟩);rw [e]
  ·have h3:((l.at k).r==1&&jQ (Zl l (l.at k)) k)=false:=h3;rw [jcy] at h3;exact nxt h3 h1 h2 rfl
  ·rw [g] at ng;cases ng
  ·rw [g] at g';cases g'
  ·rw [Bool.and_false] at h3;cases h3
  ·have h3 : ((l.at k).r == 1 && jQ (Zl l (l.at k)) k) = false := by
    have g:(((l.at k).r==1)==true)=false:=g;have g:((l.at k).r==1)=false:=by cases hh:((l.at k).r==1)<;>simp_all
    rw [g];rfl
   rw [jcy] at h3;exact nxt h3 h1 h2 rfl
  ·have:lt (k:Int) m=false:=h
   rw [hm,ltF hk] at this;cases this
 stop:=by
  refine ⟨fun h => ?_,fun _=>rfl⟩
  have:lt (l.n:Int) m=true:=h
  rw [hm,ltS] at this;cases this
noncomputable def Hg (c:C34) (v:VJ):Bool:=dec ((c.j=c.l∧c.m=ja c.l.n∧fewS c.l)∧∃ i,i<=c.l.n∧v=stJ i)
noncomputable def jca (c:C34) (v:VJ):XE × VJ:=fin (jcm c) (μS c.l.n) v
def ja1:List (Nat × AV)->Mem->Option (C34 × VJ)
 | [(0,.one (.c (.sl [.int .i64,.int .i64,.int .i64,.int .i64,.sl [.int .i64,.int .i64,.int .i64],.int .i64,.bool,.bool] n ρ))),(2,.one (.c (.int .i64 r))),(3,.one (.c (.int .i64 q))),(10,.one (.c (.sl [.int .i64,.int .i64,.int .i64,.int .i64,.sl [.int .i64,.int .i64,.int .i64],.int .i64,.bool,.bool] n2 ρ2))),(11,.one (.c (.int .i64 m))),(12,.one (.c (.int .i64 k)))],[]=>some (⟨⟨n,ρ⟩,⟨n2,ρ2⟩,m⟩,⟨k,r,q⟩)
 | _,_=>none
noncomputable def L34:Nat->St->Tree (XE × St):=YG [0,2,3,10,11,12] 0 43 ja1 Hg S34 jca [.ret,.exit 0]
theorem l34 (fn:Func) (c b:Code) (hf:Tryz.prog.funcs[35]? = some fn) (hc:fn.body=some c) (hb:jf c 0=some b):LoopOk Tryz.prog b L34 :=
 JI h30 10 35 0 hf hc hb [0,2,3,10,11,12] 0 43 S34 jcm t34 ja1 Hg (fun c=>μS c.l.n) [.ret,.exit 0] (Q:=fun (c:C34) y=>(∃ i,i<c.l.n∧wrgS c.l i=true∧y=(.ret,sbS c.l i))∨y=(.exit 0,stJ c.l.n))
  (fun l m c v h=>by unfold ja1 at h;split at h<;>simp at h;obtain ⟨rfl,rfl⟩:=h;rfl)
  (QP fun c v hv=>by
   obtain ⟨l,j,m⟩:=c;have h:=(js.1 hv).1;have hj:j=l:=h.1;subst hj;exact (jmx j h.2.1 h.2.2).rounds (inv:=fun v=>Hg ⟨j,j,m⟩ v=true) fun x=>by unfold Hg;rw [js];exact ⟨fun h=>h.2,fun k=>⟨h,k⟩⟩)
noncomputable abbrev H36:Hd:=⟨H30.pc,H30.hc,[((35,0),L34)],H30.mc⟩
theorem h36:HdOk Tryz.prog H36:=HdOk.lhCons h30 l34
def ckI (l:Ses):Int:=bif lt 4 (ja l.n) then 0 else bif jQ (wrgS l) l.n then (yc (wrgS l) l.n:Nat) else 0
def ckE (l:Ses):Int:=bif lt 4 (ja l.n) then 6 else bif jQ (wrgS l) l.n then wrgE l (yc (wrgS l) l.n) else 0
def two (i e:Int):AV:=.tup [.c (I i),.c (I e)]
def T34 (n:Nat) (iv:Bool) (x:XE × VJ):Tree AV:=.br (lt 4 (ja n)) (.leaf (two 0 6)) (.need iv (.br (J9 x.1 .ret) (.leaf (two x.2.r x.2.q)) (.need (J9 x.1 (.exit 0)) (.leaf (two 0 0)))))
theorem jkS {l:Ses} {iv:Bool} {x:XE × VJ} (h:iv=true) (hx:x=bif jQ (wrgS l) l.n then (.ret,sbS l (yc (wrgS l) l.n)) else (.exit 0,stJ l.n)):(T34 l.n iv x).All (fun z=>z=two (ckI l) (ckE l)):=by
 subst h;refine ⟨fun h => ?_,fun h=>⟨rfl,fun h2 => ?_,fun h2 => ?_⟩⟩
 ·unfold ckI ckE;rw [h];rfl
 ·cases hb:jQ (wrgS l) l.n
  ·rw [hb] at hx;subst hx;cases h2
  ·rw [hb] at hx;subst hx;unfold ckI ckE;rw [h,hb];rfl
 ·cases hb:jQ (wrgS l) l.n
  ·rw [hb] at hx;subst hx;refine ⟨rfl,?_⟩;unfold ckI ckE;rw [h,hb];rfl
  ·rw [hb] at hx;subst hx;cases h2
noncomputable def G34:List A1->Option (Bool × AV)
 | [.c (.sl [.int .i64,.int .i64,.int .i64,.int .i64,.sl [.int .i64,.int .i64,.int .i64],.int .i64,.bool,.bool] n ρ)]=>some (dec (fewS ⟨n,ρ⟩),two (ckI ⟨n,ρ⟩) (ckE ⟨n,ρ⟩))
 | _=>none
theorem p34:TcOne Tryz.prog 35 (nG G34):=qE h36 12 35 fun args r h=>by
 unfold G34 at h;split at h
 ·rename_i n ρ;obtain ⟨hp,rfl⟩:=Prod.mk.inj (Option.some.inj h);have hf:=js.1 hp;exact ⟨rfl,T34 n (Hg ⟨⟨n,ρ⟩,⟨n,ρ⟩,ja n⟩ (stJ 0)) (jca ⟨⟨n,ρ⟩,⟨n,ρ⟩,ja n⟩ (stJ 0)),by kernel_rfl,jkS (l:=⟨n,ρ⟩) (js.2 ⟨⟨rfl,rfl,hf⟩,0,Nat.zero_le _,rfl⟩) (show jca ⟨⟨n,ρ⟩,⟨n,ρ⟩,ja n⟩ (stJ 0)=_ from (jmx ⟨n,ρ⟩ rfl hf).fin0)⟩
 ·cases h
noncomputable abbrev H37:Hd:=⟨(35,nG G34)::H15.pc,H15.hc,[],H15.mc⟩
theorem h37:HdOk Tryz.prog H37:=h15.tcCons p34
end Go.Proofs.YtiefjlcakpdfeaaGreatDoor.Ro
namespace Go.Sx
open Go Go.RowKit
inductive Out where
 | ret (a:AV)
 | pan (x:CV)
inductive XP where
 | normal
 | exit (id:Nat)
 | ret
 | pan (x:CV)
 | goto (l:Nat)
structure StP where
 s:St
 dl:List CV
abbrev qQ:=Nat->List A1->Mem->Tree (Out × Mem)
def pF (f:Nat):Nat × (List A1->Tree AV):=(12884901888+f,fun _=>.fail)
def G3 (H:Hd) (f:Nat):Bool:=(qF H.pc (12884901888+f)).isSome
def Gj (P:Program) (ρ:Operand->Option AV):Op->Option AV
 | .makeInterface t x=>match P.underlying t with
  | some (.interface _)=>none
  | some _=>match ρ x with
   | some (.one (.c y))=>if closedC y then some (.one (.c (.iface t y))) else none
   | some (.one (.agg l))=>if l.all closedC then some (.one (.c (.ifa t l))) else none
   | _=>none
  | none=>none
 | .typeAssert x _ a true=>match P.underlying a with
  | some (.interface _)=>none
  | some _=>match ρ x with
   | some (.one (.c (.iface t y)))=>if t==a then some (.tup [.c y,.c (.bool true)]) else none
   | some (.one (.c (.ifa t l)))=>if t==a then some (.tup [.agg l,.c (.bool true)]) else none
   | _=>none
  | none=>none
 | .binOp .neq t x (.const .nilIface) _=>match P.underlying t,ρ x with
  | some (.interface _),some (.one (.c .nili))=>some (.one (.c (.bool false)))
  | some (.interface _),some (.one (.c (.iface _ _)))=>some (.one (.c (.bool true)))
  | some (.interface _),some (.one (.c (.ifa _ _)))=>some (.one (.c (.bool true)))
  | _,_=>none
 | _=>none
def isIface:CV->Bool
 | .iface _ _=>true
 | .ifa _ _=>true
 | _=>false
structure HdP where
 px:List (Nat × (List A1->Mem->Tree (Out × Mem)))
 rx:List (Nat × (List A1->List A1->Tree Out))
 nc:List (Nat × (List A1->Tree (AV × Mem)))
 lx:List ((Nat × Nat) × (Nat->St->Tree (XP × St)))
 sx:List (Nat × (Nat->St->Tree (XP × St)))
 rounds:Nat
 lo:List Nat:=[]
def Wk:List ((Nat × Nat) × (Nat->St->Tree (XP × St)))->Nat->Nat->Option (Nat->St->Tree (XP × St))
 | [],_,_=>none
 | (k,F)::r,f,i=>if k.1==f&&k.2==i then some F else Wk r f i
def XW:List (Nat × (Nat->St->Tree (XP × St)))->Nat->Option (Nat->St->Tree (XP × St))
 | [],_=>none
 | (k,F)::r,f=>if k==f then some F else XW r f
def ax:Code->List Code
 | .seq a b=>ax a++ax b
 | .cond _ a b=>ax a++ax b
 | .block _ b=>ax b
 | .loop b=>ax b
 | .scope b=>b::ax b
 | .rangeFunc _ _ a b=>ax a++ax b
 | _=>[]
def Wl (g:StP->Tree (XP × StP)):Nat->StP->Tree (XP × StP)
 | 0,_=>.fail
 | n+1,s=>(g s).bind fun x=>match x.1 with
  | .normal=>Wl g n x.2
  | e=>.leaf (e,x.2)
def XT:List (Nat × (List A1->Tree (AV × Mem)))->Nat->Option (List A1->Tree (AV × Mem))
 | [],_=>none
 | (k,F)::r,f=>if k==f then some F else XT r f
def Z7:List (Nat × (List A1->Mem->Tree (Out × Mem)))->Nat->Option (List A1->Mem->Tree (Out × Mem))
 | [],_=>none
 | (k,F)::r,f=>if k==f then some F else Z7 r f
def XU:List (Nat × (List A1->List A1->Tree Out))->Nat->Option (List A1->List A1->Tree Out)
 | [],_=>none
 | (k,F)::r,f=>if k==f then some F else XU r f
def Qo (P:Program) (H:Hd) (X:HdP) (call:jt) (callP:qQ) (mem:Mem) (ρ:List (Nat × Bool)->Operand->Option AV) (op:Op):Tree (Out × Mem) :=
 let plain:=(qD P H call mem ρ op).bind fun y=>.leaf (.ret y.1,y.2)
 match Gj P (ρ []) op with
 | some v=>.leaf (.ret v,mem)
 | none=>match op with
  | .call c=>match c.callee with
   | .value _=>match yK (ρ []) c with
    | some (f,args)=>if qx P f then (match XU X.rx f with
     | some F=>if (args.map (q8 mem)).all jx&&args.all (fun a=>a.cells.all B6) then (F args (args.map (q8 mem))).bind fun r=>.leaf (r,mem) else .fail
     | none=>if G3 H f then callP f args mem else plain) else .fail
    | none=>.fail
   | _=>plain
  | _=>plain
def jbU (P:Program) (H:Hd) (call:jt) (callP:qQ) (mem:Mem) (ρ:Operand->Option AV) (op:Op):Option (Tree (Out × Mem)) :=
 match op with
 | .call c=>match c.callee with
  | .invoke x m=>match ρ x,q9 ρ c.args.toList with
   | some (.one (.c y)),some l=>some ((O4 y).bind fun z=>match Bd P z.1 m with
    | some f=>if qx P f then (if G3 H f then callP f (z.2::l) mem else (U5 H call mem f (z.2::l)).bind fun y=>.leaf (.ret y.1,y.2)) else .fail
    | none=>.fail)
   | _,_=>none
  | _=>none
 | .makeInterface t x=>match jb5 P H call mem ρ (.makeInterface t x) with
  | some t=>some (t.bind fun y=>.leaf (.ret y.1,y.2))
  | none=>none
 | _=>none
def Re (P:Program) (H:Hd) (X:HdP) (call:jt) (callP:qQ) (mem:Mem) (ρ:List (Nat × Bool)->Operand->Option AV) (op:Op):Tree (Out × Mem) :=
 match jbU P H call callP mem (ρ []) op with
 | some t=>t
 | none=>Qo P H X call callP mem ρ op
def jaL (P:Program) (H:Hd) (X:HdP) (call:jt) (callP:qQ) (s:StP) (op:Op):Tree (Out × Mem × List CV) :=
 let plain:=(Re P H X call callP s.s.mem (fun K=>zp s.s K) op).bind fun y=>.leaf (y.1,y.2,s.dl)
 match op with
  | .panic x=>match zp s.s [] x with
   | some (.one (.c y))=>if isIface y&&closedC y then .leaf (.pan y,s.s.mem,s.dl) else .fail
   | _=>.fail
  | .defer c=>match c.callee,c.args.toList with
   | .value x,[]=>match zp s.s [] x with
    | some (.one (.c (.fn (.func g) [] cap)))=>.leaf (.ret .any,s.s.mem,.fn (.func g) [] cap::s.dl)
    | _=>.fail
   | _,_=>.fail
  | _=>plain
def Q3 (P:Program) (H:Hd) (X:HdP) (call:jt) (callP:qQ) (all:List Oper):List Oper->StP->Tree (XP × StP)
 | [],s=>.leaf (.normal,s)
 | o::r,s=>match o.guard with
  | none=>(jaL P H X call callP s o.op).bind fun x=>match x.1 with
   | .ret v=>Q3 P H X call callP all r ⟨{ s.s with mem:=x.2.1 }.put o.dst [] v,x.2.2⟩
   | .pan y=>.leaf (.pan y,⟨{ s.s with mem:=x.2.1 },x.2.2⟩)
  | some (j,b)=>match keysOf all s.s j b with
   | some K =>
     if K.any (fun p=>some p.1==o.dst) then .fail else
     if JS H (zp s.s K) o.op then
      ((qD P H call s.s.mem (fun K'=>zp s.s (K'++K)) o.op).toNeed dGu (yy s.s K)).bind fun x=>Q3 P H X call callP all r ⟨s.s.put o.dst K x.1,s.dl⟩
     else match Nu s.s K with
      | some g=>.br g ((qD P H call s.s.mem (fun K'=>zp s.s (K'++K)) o.op).bind fun x=>Q3 P H X call callP all r ⟨{ s.s with mem:=x.2 }.put o.dst [] x.1,s.dl⟩) (Q3 P H X call callP all r ⟨s.s.put o.dst K dGu.1,s.dl⟩)
      | none=>.fail
   | none=>.fail
def XE.toP:XE->XP
 | .normal=>.normal
 | .exit k=>.exit k
 | .ret=>.ret
def MZ:List A1->Touch
 | .c (.ptr b 0)::_=>some [(b+1,true)]
 | _=>none
def k7 (P:Program) (H:Hd) (X:HdP) (ρ:Operand->Option AV) (len:Nat) (op:Op):Touch :=
 match Gj P ρ op with
 | some _=>some []
 | none=>match op with
  | .call c=>match c.callee with
   | .value _=>match yK ρ c with
    | some (f,args)=>if (XU X.rx f).isSome then some (YD args) else if G3 H f then (if JM f X.lo then MZ args else none) else qe H ρ len op
    | none=>none
   | _=>qe H ρ len op
  | _=>qe H ρ len op
def WK (K0:Nat):Touch->Touch
 | none=>none
 | some t=>some (t++(upto K0).map fun b=>(b+1,false))
def OY (masks:List Nat) (pn:Option (Nat × CV × Mem)) (n:Nat):Bool :=
 match pn with
 | some (j,_,_)=>zh masks j n
 | none=>false
def kJ (P:Program) (H:Hd) (X:HdP) (call:jt) (callP:qQ) (all:List Oper) (masks:List Nat) (K0:Nat):Nat->List Oper->St->Option (Nat × CV × Mem)->Tree (St × List kq × Option (Nat × CV × Mem))
 | _,[],s,pn=>.leaf (s,[],pn)
 | n, o :: r, s, pn =>
   if OY masks pn n then (kJ P H X call callP all masks K0 (n+1) r (s.put0 o.dst [] .any) pn).bind fun y=>.leaf (y.1,(some [],[])::y.2.1,y.2.2)
   else match o.guard with
  | none=>(Qo P H X call callP s.mem (fun K=>lim o s K) o.op).bind fun x=>match x.1 with
   | .ret v=>(kJ P H X call callP all masks K0 (n+1) r ({ s with mem:=x.2 }.put0 o.dst [] v) pn).bind fun y=>.leaf (y.1,(k7 P H X (lim o s []) s.mem.length o.op,[])::y.2.1,y.2.2)
   | .pan z=>if pn.isSome then .fail else (kJ P H X call callP all masks K0 (n+1) r (s.put0 o.dst [] .any) (some (n,z,x.2))).bind fun y=>.leaf (y.1,(WK K0 (k7 P H X (lim o s []) s.mem.length o.op),[])::y.2.1,y.2.2)
  | some (j,b)=>match keysOf all s j b with
   | some K =>
     if !JS H (lim o s K) o.op||K.any (fun p=>some p.1==o.dst) then .fail else
     ((qD P H call s.mem (fun K'=>lim o s (K'++K)) o.op).toNeed dGu (yy s K)).bind fun x=>(kJ P H X call callP all masks K0 (n+1) r (s.put0 o.dst K x.1) pn).bind fun y=>.leaf (y.1,(qe H (lim o s K) s.mem.length o.op,K)::y.2.1,y.2.2)
   | none=>.fail
def St.forget (s:St):List Oper->St
 | []=>s
 | o::r=>(s.put0 o.dst [] .any).forget r
def Bp (K:Nat):A1->Bool
 | .c x=>kf K x
 | .agg l=>l.all (kf K)
def ao (K:Nat):AV->Bool
 | .any=>true
 | .one a=>Bp K a
 | .tup l=>l.all (Bp K)
def O2 (P:Program) (o:Oper):Option (TypeId × List CV) :=
 match o.guard,o.dst,o.op with
 | none,some _,.alloc e=>(match jP P e with | some z=>some (e,z) | none=>none)
 | _,_,_=>none
def zW (ok:Nat->Bool):CV->Bool
 | .ptr b _=>ok b
 | .os b _=>ok b
 | .rowp b _ _ _=>ok b
 | .row _ _ _ _=>true
 | .yld b=>ok b
 | .lp _ _ _=>true
 | x=>closedC x
def kD (ok:Nat->Bool):Option (TypeId × List CV)->Bool
 | none=>true
 | some (_,cs)=>cs.all (zW ok)
def J0 (ok:Nat->Bool):A1->Bool
 | .c x=>zW ok x
 | .agg l=>l.all (zW ok)
def yH (ok:Nat->Bool):AV->Bool
 | .any=>true
 | .one a=>J0 ok a
 | .tup l=>l.all (J0 ok)
def Jm (masks:List Nat) (K0 i b:Nat):Bool:=Nat.blt b K0||zh masks (b - K0) i||b==K0+i
def jlT (ok:Nat->Bool) (mem:Mem):Touch->Bool
 | none=>mem.all (kD ok)
 | some t=>t.all fun p=>match p with
  | (b+1,true)=>(match nth mem b with | some e=>kD ok e | none=>true)
  | _=>true
def jaJ (P:Program) (X:HdP) (ρ:Operand->Option AV) (o:Oper):Option (Tree (AV × Mem)) :=
 match o.guard,o.dst,o.op with
 | none,some _,.call c=>match c.callee with
  | .value _=>match yK ρ c with
   | some (f,args)=>match XT X.nc f with
    | some G=>if qx P f&&args.all jx then some (G args) else none
    | none=>none
   | none=>none
  | _=>none
 | _,_,_=>none
def Jf (P:Program) (H:Hd) (X:HdP) (call:jt) (all:List Oper) (masks:List Nat) (K0:Nat):Nat->List Oper->St->Tree (St × List kq)
 | _,[],s=>.leaf (s,[])
 | n,o::r,s=>match O2 P o with
  | some (e,z)=>(match nth s.mem (K0+n) with
   | some none => if z.all closedC then
     (Jf P H X call all masks K0 (n+1) r ({ s with mem:=jk s.mem (K0+n) (some (e,z)) }.put0 o.dst [] (.one (.c (.ptr (K0+n) 0))))).bind fun y=>.leaf (y.1,(some [(K0+n+1,true)],[])::y.2) else .fail
   | _=>.fail)
  | none=>match jaJ P X (lim o s []) o with
   | some g=>(match nth s.mem (K0+n) with
    | some none=>g.bind fun z=>match z with
     | (.one (.c (.os 0 sz)), [some (T, [.row false es m ρ])]) =>
       (Jf P H X call all masks K0 (n+1) r ({ s with mem:=jk s.mem (K0+n) (some (T,[.row false es m ρ])) }.put0 o.dst [] (.one (.c (.os (K0+n) sz))))).bind fun y=>.leaf (y.1,(some [(K0+n+1,true)],[])::y.2)
     | _=>.fail
    | _=>.fail)
   | none=>match o.guard with
    | none =>
      (qD P H call s.mem (fun K=>lim o s K) o.op).bind fun x=>if yH (Jm masks K0 n) x.1&&jlT (Jm masks K0 n) x.2 (qe H (lim o s []) s.mem.length o.op) then
       (Jf P H X call all masks K0 (n+1) r ({ s with mem:=x.2 }.put0 o.dst [] x.1)).bind fun y=>.leaf (y.1,(qe H (lim o s []) s.mem.length o.op,[])::y.2) else .fail
    | some (j,b)=>match keysOf all s j b with
     | some K =>
       if !JS H (lim o s K) o.op||K.any (fun p=>some p.1==o.dst) then .fail else
       ((qD P H call s.mem (fun K'=>lim o s (K'++K)) o.op).toNeed dGu (yy s K)).bind fun x=>if yH (Jm masks K0 n) x.1 then (Jf P H X call all masks K0 (n+1) r (s.put0 o.dst K x.1)).bind fun y=>.leaf (y.1,(qe H (lim o s K) s.mem.length o.op,K)::y.2) else .fail
     | none=>.fail
def T6 (P:Program) (H:Hd) (X:HdP) (call:jt) (ops:List Oper) (s:StP):Tree (XP × StP) :=
 if P.follows .mixedOrders&&s.s.mem.all (ZV s.s.mem.length)&&s.s.tmps.all (fun sl=>ao s.s.mem.length (unkey sl).v) then
  (Jf P H X call ops (qw ops []) s.s.mem.length 0 ops { tmps:=s.s.tmps.map unkey,mem:=s.s.mem++ops.map fun _=>none }).bind fun y =>
   if Qj ops y.2 then .leaf (.normal,⟨{ y.1 with tmps:=y.1.tmps.map unkey },s.dl⟩) else .fail
 else .fail
def YP (X:HdP):Nat->List Oper->List Nat
 | _,[]=>[]
 | n,o::r=>match o.op with
  | .alloc _=>n::YP X (n+1) r
  | .call c=>(match c.callee with
   | .value (.func f)=>if (XT X.nc f).isSome then n::YP X (n+1) r else YP X (n+1) r
   | _=>YP X (n+1) r)
  | _=>YP X (n+1) r
def DU (masks:List Nat):List Nat->Bool
 | i::j::r=>!zh masks i j||DU masks (j::r)
 | _=>false
def jaW (X:HdP) (ops:List Oper):Bool:=match YP X 0 ops with
 | i::j::r=>DU (qw ops []) (i::j::r)
 | _=>false
def Tk (P:Program) (H:Hd) (X:HdP) (call:jt) (callP:qQ) (ops:List Oper) (s:StP):Tree (XP × StP) :=
 if P.follows .mixedOrders then
  (kJ P H X call callP ops (qw ops []) s.s.mem.length 0 ops { s.s with tmps:=s.s.tmps.map unkey } none).bind fun y =>
   if Qj ops y.2.1 then (match y.2.2 with
    | none=>.leaf (.normal,⟨{ y.1 with tmps:=y.1.tmps.map unkey },s.dl⟩)
    | some (_,z,m)=>match takeN m s.s.mem.length with
     | some m0=>if m0.all (ZV s.s.mem.length)&&closedC z then .leaf (.pan z,⟨({ tmps:=s.s.tmps.map unkey,mem:=m0 }:St).forget ops,s.dl⟩) else .fail
     | none=>.fail) else .fail
 else .fail
def jZ (P:Program) (H:Hd) (X:HdP) (call:jt) (callP:qQ) (f K:Nat):Nat->Code->StP->Tree (XP × StP)
 | _,.skip,s=>.leaf (.normal,s)
 | _, .region _ ops draw, s => if draw then (if jaW X ops.toList then T6 P H X call ops.toList s else Tk P H X call callP ops.toList s)
   else (Q3 P H X call callP ops.toList ops.toList s).bind fun x=>.leaf (x.1,⟨{ x.2.s with tmps:=x.2.s.tmps.map unkey },x.2.dl⟩)
 | n,.seq a b,s=>(jZ P H X call callP f K n a s).bind fun x=>match x.1 with
  | .normal=>jZ P H X call callP f K (n+ji a) b x.2
  | e=>.leaf (e,x.2)
 | n,.cond c a b,s=>match zp s.s [] c with
  | some (.one (.c (.bool t)))=>.br t (jZ P H X call callP f K n a s) (jZ P H X call callP f K (n+ji a) b s)
  | _=>.fail
 | n,.block id b,s=>(jZ P H X call callP f K n b s).bind fun x=>match x.1 with
  | .exit k=>.leaf (if k=id then .normal else .exit k,x.2)
  | e=>.leaf (e,x.2)
 | n,.loop b,s=>match Wk X.lx f n with
  | some h=>if s.dl.isEmpty then (h K s.s).bind fun x=>.leaf (x.1,⟨x.2,[]⟩) else .fail
  | none=>match kB H.lh f n with
   | some h=>if s.dl.isEmpty then (h K s.s).bind fun x=>.leaf (x.1.toP,⟨x.2,[]⟩) else .fail
   | none=>Wl (fun s'=>jZ P H X call callP f K (n+1) b s') X.rounds s
 | n,.scope b,s=>match XW X.sx f with
  | some h=>if s.dl.isEmpty then (h K s.s).bind fun x=>.leaf (x.1,⟨x.2,[]⟩) else .fail
  | none=>(jZ P H X call callP f K n b s).bind fun x=>match x.1 with
   | .goto _=>.fail
   | e=>.leaf (e,x.2)
 | _,.label _,s=>.leaf (.normal,s)
 | _,.goto l,s=>.leaf (.goto l,s)
 | _,.exit id,s=>.leaf (.exit id,s)
 | _,.ret,s=>.leaf (.ret,s)
 | _,_,_=>.fail
def Ml:Code->Option (Oper × List Oper × Code)
 | .seq (.region _ ops false) x=>match ops.toList with
  | o::r=>match o.guard,o.op with
   | none,.call c=>match c.callee with
    | .builtin .recover=>some (o,r,x)
    | _=>none
   | _,_=>none
  | []=>none
 | _=>none
def jeG:Option CV->CV
 | none=>.nili
 | some y=>y
def jan (P:Program) (H:Hd) (X:HdP) (call:jt) (callP:qQ) (g:Nat) (cap:List CV) (pan:Option CV) (mem:Mem):Tree (Option CV × Mem) :=
 match nth P.funcs.toList g with
 | some fn=>match fn.body with
  | some c=>match Ml c with
   | some (o, r, x) => if Nat.ble cap.length fn.ntmps && qx P g then
     let s0:St:=⟨cap.map (fun a=>⟨[],.one (.c a)⟩)++List.replicate (fn.ntmps - cap.length) ⟨[],.any⟩,mem⟩
     (Q3 P H X call callP (o::r) r ⟨s0.put o.dst [] (.one (.c (jeG pan))),[]⟩).bind fun y=>match y.1 with
      | .normal=>(jZ P H X call callP g mem.length 0 x ⟨{ y.2.s with tmps:=y.2.s.tmps.map unkey },y.2.dl⟩).bind fun z=>match z.1,z.2.dl with
       | .normal,[]=>if (zt P z.2.s fn.results.toList).isSome then .leaf (none,z.2.s.mem) else .fail
       | .ret,[]=>if (zt P z.2.s fn.results.toList).isSome then .leaf (none,z.2.s.mem) else .fail
       | _,_=>.fail
      | _=>.fail
     else .fail
   | none=>.fail
  | none=>.fail
 | none=>.fail
def y7 (P:Program) (H:Hd) (X:HdP) (call:jt) (callP:qQ) (fn:Func) (s:St):List CV->Option CV->Mem->Tree (Out × Mem)
 | [],none,mem=>match zt P { s with mem:=mem } fn.results.toList with
  | some l=>.leaf (.ret (GQ l),mem)
  | none=>.fail
 | [],some y,mem=>.leaf (.pan y,mem)
 | d::dl,u,mem=>match d with
  | .fn (.func g) [] cap=>(jan P H X call callP g cap u mem).bind fun y=>y7 P H X call callP fn s dl y.1 y.2
  | _=>.fail
def zD (P:Program) (H:Hd) (X:HdP):Nat->qQ
 | 0,_,_,_=>.fail
 | n+1,f,args,mem=>match Z7 X.px f with
  | some G=>G args mem
  | none=>match nth P.funcs.toList f with
   | some fn=>match fn.body with
    | some c => if Nat.ble args.length fn.ntmps then
      (jZ P H X (jU P H n) (zD P H X n) f mem.length 0 c ⟨⟨args.map (fun a=>⟨[],.one a⟩)++List.replicate (fn.ntmps - args.length) ⟨[],.any⟩,mem⟩,[]⟩).bind fun x=>match x.1 with
       | .exit _=>.fail
       | .goto _=>.fail
       | .pan y=>y7 P H X (jU P H n) (zD P H X n) fn x.2.s x.2.dl (some y) x.2.s.mem
       | _=>y7 P H X (jU P H n) (zD P H X n) fn x.2.s x.2.dl none x.2.s.mem
      else .fail
    | none=>.fail
   | none=>.fail
def Out.Ends (F:Nat->Prop) (w:World) (bs:List BI):Out->Ending->Prop
 | .ret a,e=>∃ v,e=.returned v∧a.Rel F w bs v
 | .pan x,e=>∃ v,e=.panicked [{ v,recovered:=false }]∧x.Rel F w bs v
def LocFn (G:List A1->Mem->Tree (Out × Mem)):Prop :=
 ∀ b rest M r M',(G (.c (.ptr b 0)::rest) M).sel=some (r,M')->∀ mem,nth mem b=nth M b ->
  ∃ e,M'=jk M b e∧(G (.c (.ptr b 0)::rest) mem).sel=some (r,jk mem b e)
structure CallPOk (P:Program) (X:HdP) (callP:qQ):Prop where
 ok:∀ f args mem r mem',(callP f args mem).sel=some (r,mem')->∀ F w bs vs,MemRel P F w bs mem->All2 (A1.Rel F w bs) args vs ->
  Calls P f vs.toArray w (fun e w'=>∃ F' bs',Ext bs.length F w bs F' w' bs'∧MemRel P F' w' bs' mem'∧r.Ends F' w' bs' e)
 loc:∀ f,JM f X.lo=true->LocFn (callP f)
def jpX (P:Program) (f:Nat) (G:List A1->List A1->Tree Out):Prop :=
 ∀ args mem r,(args.map (q8 mem)).all jx=true->(G args (args.map (q8 mem))).sel=some r->∀ F w bs vs,MemRel P F w bs mem->All2 (A1.Rel F w bs) args vs ->
  Calls P f vs.toArray w (fun e w'=>Below w.heap.size w w'∧r.Ends F w' bs e)
def Vg (P:Program) (rx:List (Nat × (List A1->List A1->Tree Out))):Prop:=∀ f G,XU rx f=some G->jpX P f G
def DRel (F:Nat->Prop) (w:World) (bs:List BI) (c:CV) (d:Deferred):Prop :=
 ∃ g cap vs,c=.fn (.func g) [] cap∧d={ target:=.fn (.func g) vs.toArray,args:=#[] }∧All2 (CV.Rel F w bs) cap vs
theorem All2.grow {F F' bs bs' w w'} (g:Grow F F' bs bs' w w'):∀ {l:List CV} {vs:List Value},All2 (CV.Rel F w bs) l vs->All2 (CV.Rel F' w' bs') l vs
 | _,_,.nil=>.nil
 | _,_,.cons h r=>.cons (h.grow g) (All2.grow g r)
theorem DRel.grow {F F' bs bs' w w' c d} (g:Grow F F' bs bs' w w') (h:DRel F w bs c d):DRel F' w' bs' c d :=
 let ⟨f,cap,vs,h1,h2,h3⟩:=h
 ⟨f,cap,vs,h1,h2,h3.grow g⟩
def DsRel (F:Nat->Prop) (w:World) (bs:List BI) (dl:List CV) (D:List Deferred):Prop:=All2 (DRel F w bs) dl D
theorem DsRel.grow {F F' bs bs' w w'} (g:Grow F F' bs bs' w w'):∀ {dl D},DsRel F w bs dl D->DsRel F' w' bs' dl D
 | _,_,.nil=>.nil
 | _,_,.cons h r=>.cons (h.grow g) (DsRel.grow g r)
variable {P:Program}
theorem TI {a : Act} {t : TypeId} {x : Operand} {ms : Array (String × TypeId)} (hz : a.eval x = .nilIface) (hu : P.underlying t = some (.interface ms)) (w : World) :
  (do eqGuard .neq t x (.const .nilIface) (a.eval x) (a.eval (.const .nilIface));binOp .neq t (a.eval x) (a.eval (.const .nilIface)):Sem Value).run P w=.ok (.bool false) w:=by
 rw [hz]
 have e1:eqGuard .neq t x (.const .nilIface) .nilIface (a.eval (.const .nilIface))=(pure ():Sem Unit):=by
  show eqGuard .neq t x (.const .nilIface) .nilIface .nilIface=_;cases x<;>rfl
 have e2:binOp .neq t .nilIface (a.eval (.const .nilIface))=(do pure (.bool (!(← Op.equal t .nilIface .nilIface))):Sem Value):=rfl
 have e3:(Op.equal t .nilIface .nilIface).run P w=.ok true w:=by
  have h:∀ d,(Op.equalIn (d+1) t .nilIface .nilIface).run P w=.ok true w:=fun d=>by simp [Op.equalIn,run_underlying hu]
  exact h 9999
 rw [e1,e2];simp [e3]
theorem Vq {a : Act} {t t' : TypeId} {v : Value} {x : Operand} {ms : Array (String × TypeId)} (hz : a.eval x = .iface t' v) (hu : P.underlying t = some (.interface ms)) (w : World) :
  (do eqGuard .neq t x (.const .nilIface) (a.eval x) (a.eval (.const .nilIface));binOp .neq t (a.eval x) (a.eval (.const .nilIface)):Sem Value).run P w=.ok (.bool true) w:=by
 rw [hz]
 have e1:eqGuard .neq t x (.const .nilIface) (.iface t' v) (a.eval (.const .nilIface))=(pure ():Sem Unit):=by
  show eqGuard .neq t x (.const .nilIface) (.iface t' v) .nilIface=_;rfl
 have e2:binOp .neq t (.iface t' v) (a.eval (.const .nilIface))=(do pure (.bool (!(← Op.equal t (.iface t' v) .nilIface))):Sem Value):=rfl
 have e3:(Op.equal t (.iface t' v) .nilIface).run P w=.ok false w:=by
  have h:∀ d,(Op.equalIn (d+1) t (.iface t' v) .nilIface).run P w=.ok false w:=fun d=>by simp [Op.equalIn,run_underlying hu]
  exact h 9999
 rw [e1,e2];simp [e3]
theorem jjg {F : Nat -> Prop} {w : World} {bs : List BI} {ρ : Operand -> Option AV} {a : Act} (hρ : ∀ x av, ρ x = some av -> av.Rel F w bs (a.eval x)) {o : Oper} {r : AV} (h : Gj P ρ o.op = some r) :
  ∃ v,r.Rel F w bs v∧(execOp a.eval o).run P w=.ok (.value v) w:=by
 unfold Gj at h;split at h
 ·rename_i t x ho;split at h
  ·simp at h
  ·rename_i d hd hne;split at h
   ·rename_i y hy;split at h
    ·simp at h;subst h;have hr:=hρ _ _ hy;refine ⟨.iface t (a.eval x),CV.Rel.iface hr,?_⟩;unfold execOp;rw [ho];simp only [Instr.makeInterface,Sem.run_bind,run_underlying hne];cases d<;>first | rfl | (exact absurd rfl (hd _))
    ·simp at h
   ·rename_i l hy;split at h
    ·simp at h;subst h;obtain ⟨vs,hz,hr⟩:=hρ _ _ hy
     refine ⟨.iface t (a.eval x),by rw [hz];exact CV.Rel.ifa hr.length (fun i x v h1 h2=>by
      obtain ⟨v',hv',hr'⟩:=hr.nth h1;rw [jd] at h2;rw [h2] at hv';cases hv';exact hr'),?_⟩
     unfold execOp;rw [ho];simp only [Instr.makeInterface,Sem.run_bind,run_underlying hne];cases d<;>first | rfl | (exact absurd rfl (hd _))
    ·simp at h
   ·simp at h
  ·simp at h
 ·rename_i x t0 a0 ho;split at h
  ·simp at h
  ·rename_i d hd hne;split at h
   ·rename_i t y hy;split at h
    ·rename_i ht;have ht:=eq_of_beq ht;subst ht;simp at h;subst h;have hr:=hρ _ _ hy;generalize hz:a.eval x=z at hr;cases hr with
     | iface hv =>
       rename_i v;refine ⟨.tuple #[v,.bool true],⟨[v,.bool true],rfl,.cons hv (.cons (CV.Rel.bool _) .nil)⟩,?_⟩;unfold execOp;rw [ho];simp only [Instr.typeAssert,Sem.run_bind,run_underlying hne,hz];cases d<;>first | exact (hd _ rfl).elim | simp
    ·simp at h
   ·rename_i t l hy;split at h
    ·rename_i ht;have ht:=eq_of_beq ht;subst ht;simp at h;subst h;have hr:=hρ _ _ hy;generalize hz:a.eval x=z at hr;cases hr with
     | ifa hl hv =>
       rename_i vs;refine ⟨.tuple #[.agg vs.toArray,.bool true],⟨[.agg vs.toArray,.bool true],rfl,.cons ⟨vs,rfl,All2.of_nth hl hv⟩ (.cons (CV.Rel.bool _) .nil)⟩,?_⟩;unfold execOp;rw [ho];simp only [Instr.typeAssert,Sem.run_bind,run_underlying hne,hz];cases d<;>first | exact (hd _ rfl).elim | simp
    ·simp at h
   ·simp at h
  ·simp at h
 ·rename_i t x z ho;split at h
  ·rename_i ms hu hy;simp at h;subst h;have hr:=hρ _ _ hy;generalize hz:a.eval x=y at hr;cases hr;refine ⟨.bool false,CV.Rel.bool _,?_⟩;unfold execOp;rw [ho];simp only [Sem.run_bind,TI hz hu w,Result.andThen_ok,Sem.run_pure]
  ·rename_i ms hu hy;simp at h;subst h;have hr:=hρ _ _ hy;generalize hz:a.eval x=y at hr;cases hr;refine ⟨.bool true,CV.Rel.bool _,?_⟩;unfold execOp;rw [ho];simp only [Sem.run_bind,Vq hz hu w,Result.andThen_ok,Sem.run_pure]
  ·rename_i ms hu hy;simp at h;subst h;have hr:=hρ _ _ hy;generalize hz:a.eval x=y at hr;cases hr;refine ⟨.bool true,CV.Rel.bool _,?_⟩;unfold execOp;rw [ho];simp only [Sem.run_bind,Vq hz hu w,Result.andThen_ok,Sem.run_pure]
  ·simp at h
 ·simp at h
theorem Gu {H : Hd} (hpc : SumOk P H) {X : HdP} (hrx : Vg P X.rx) {call : jt} (hcall : CallOk P call) {callP : qQ} (hcallP : CallPOk P X callP) {mem : Mem} {F : Nat -> Prop} {w : World} {bs : List BI} {a : Act} (hm : MemRel P F w bs mem) {ρ : List (Nat × Bool) -> Operand -> Option AV}
  (hρ:∀ K x av,KH a K->ρ K x=some av->av.Rel F w bs (a.eval x)) {o:Oper} {r:Out} {mem':Mem}
  (h:(Qo P H X call callP mem ρ o.op).sel=some (r,mem')) {K:Act->World->Prop} {Q:Exit->Act->World->Prop}
  (hK:∀ F' w' bs' v av,r=.ret av->Ext bs.length F w bs F' w' bs'->MemRel P F' w' bs' mem'->av.Rel F' w' bs' v->K (a.put o.dst v) w')
  (hP:∀ F' w' bs' v x,r=.pan x->Ext bs.length F w bs F' w' bs'->MemRel P F' w' bs' mem'->x.Rel F' w' bs' v->Q (.panic [{ v,recovered:=false }]) a w'):o.wp P a w K Q:=by
 have h0:∀ x av,ρ [] x=some av->av.Rel F w bs (a.eval x):=fun x av hh=>hρ [] x av jw hh
 have plain:((qD P H call mem ρ o.op).bind fun y=>(.leaf (.ret y.1,y.2):Tree (Out × Mem))).sel=some (r,mem')->o.wp P a w K Q:=fun h=>by
  obtain ⟨⟨rv,m⟩,h1,h2⟩:=jg h;simp only [Tree.sel,sIq,pIq] at h2;obtain ⟨rfl,rfl⟩:=h2;exact Je hpc hcall hm hρ h1 fun F' w' bs' v hext hm hr=>hK F' w' bs' v rv rfl hext hm hr
 unfold Qo at h;split at h
 ·rename_i v0 hv0;simp only [Tree.sel,sIq,pIq] at h;obtain ⟨rfl,rfl⟩:=h;obtain ⟨v,hr,hrun⟩:=jjg h0 hv0;unfold Oper.wp;rw [hrun];exact hK F w bs v v0 rfl Ext.refl hm hr
 ·split at h
  ·rename_i c ho;split at h
   ·split at h
    ·rename_i f args ht;split at h
     ·rename_i hc;obtain ⟨vs,hvs,hrun⟩:=ZE h0 ho ht hc;split at h
      ·rename_i G hG;split at h
       ·rename_i hcl;obtain ⟨r0,h1,h2⟩:=jg h;simp only [Tree.sel,sIq,pIq] at h2;obtain ⟨rfl,rfl⟩:=h2;unfold Oper.wp;rw [hrun];refine (hrx f G hG args mem r0 (by rw [aTq] at hcl;exact hcl.1) h1 F w bs vs hm hvs).mono fun e w' ⟨hb,hr⟩ => ?_
        cases r0 with
        | ret av =>
          obtain ⟨v,rfl,hv⟩:=hr;exact hK F w' bs v av rfl (Ext.of_below hb) (hm.below hb) hv
        | pan x =>
          obtain ⟨v,rfl,hv⟩:=hr;exact hP F w' bs v x rfl (Ext.of_below hb) (hm.below hb) hv
       ·simp [Tree.sel] at h
      ·split at h
       ·unfold Oper.wp;rw [hrun];refine (hcallP.ok f args _ _ _ h F w bs vs hm hvs).mono fun e w' ⟨F',bs',hext,hm',hr⟩ => ?_;cases r with
        | ret av =>
          obtain ⟨v,rfl,hv⟩:=hr;exact hK F' w' bs' v av rfl hext hm' hv
        | pan x =>
          obtain ⟨v,rfl,hv⟩:=hr;exact hP F' w' bs' v x rfl hext hm' hv
       ·exact plain h
     ·simp [Tree.sel] at h
    ·simp [Tree.sel] at h
   ·exact plain h
  ·exact plain h
theorem jh8 {H : Hd} (hpc : SumOk P H) {X : HdP} {call : jt} (hcall : CallOk P call) {callP : qQ} (hcallP : CallPOk P X callP) {mem : Mem} {F : Nat -> Prop} {w : World} {bs : List BI} {a : Act} (hm : MemRel P F w bs mem) {ρ : Operand -> Option AV}
  (h0:∀ x av,ρ x=some av->av.Rel F w bs (a.eval x)) {o:Oper} {T:Tree (Out × Mem)} {r:Out} {mem':Mem}
  (h:jbU P H call callP mem ρ o.op=some T) (hT:T.sel=some (r,mem')) {K:Act->World->Prop} {Q:Exit->Act->World->Prop}
  (hK:∀ F' w' bs' v av,r=.ret av->Ext bs.length F w bs F' w' bs'->MemRel P F' w' bs' mem'->av.Rel F' w' bs' v->K (a.put o.dst v) w')
  (hP:∀ F' w' bs' v x,r=.pan x->Ext bs.length F w bs F' w' bs'->MemRel P F' w' bs' mem'->x.Rel F' w' bs' v->Q (.panic [{ v,recovered:=false }]) a w'):o.wp P a w K Q:=by
 unfold jbU at h;split at h
 ·rename_i c ho;split at h
  ·rename_i x m hcal;split at h
   ·rename_i y l hy hl;simp only [sIq] at h;subst h;obtain ⟨z,hz,hT⟩:=jg hT;split at hT
    ·rename_i f hf;split at hT
     ·rename_i hcl;have hr:CV.Rel F w bs y (a.eval x):=h0 _ _ hy;obtain ⟨u,hu,hru⟩:=D8 hr hz;have hargs:=qR h0 hl
      have hrun:∀ w',(execOp a.eval o).run P w'=.ok (.enter f (u::c.args.toList.map a.eval).toArray) w':=by
       intro w'
       have e2:(u::c.args.toList.map a.eval).toArray = #[u]++c.args.map a.eval:=by
        apply Array.ext';simp
       have e3:∀ l:Array Value,(#[Value.iface z.1 u]++l).extract 1 (#[Value.iface z.1 u]++l).size=l:=by
        intro l;apply Array.ext';simp
       unfold execOp;rw [ho];simp only [resolve,hcal,hu,Sem.run_bind,Sem.run_pure,Result.andThen_ok,invoke];have e4:(#[Value.iface z.1 u]++c.args.map a.eval)[0]? = some (.iface z.1 u):=by rw [Array.getElem?_append_left (by simp)];rfl
       simp only [e4,e3];rw [e2];exact Hi hf hcl u _ w'
      split at hT
      ·unfold Oper.wp;rw [hrun];refine (hcallP.ok f _ _ _ _ hT F w bs _ hm (.cons hru hargs)).mono fun e w' ⟨F',bs',hext,hm',hr⟩ => ?_;cases r with
       | ret av =>
         obtain ⟨v,rfl,hv⟩:=hr;exact hK F' w' bs' v av rfl hext hm' hv
       | pan x =>
         obtain ⟨v,rfl,hv⟩:=hr;exact hP F' w' bs' v x rfl hext hm' hv
      ·obtain ⟨⟨rv,m1⟩,h1,h2⟩:=jg hT;simp only [Tree.sel,sIq,pIq] at h2;obtain ⟨rfl,rfl⟩:=h2;exact Tc hpc hcall hm hcl (.cons hru hargs) hrun h1 fun F' w' bs' v hext hm hr=>hK F' w' bs' v rv rfl hext hm hr
     ·simp [Tree.sel] at hT
    ·simp [Tree.sel] at hT
   ·simp at h
  ·simp at h
 ·rename_i t x ho;split at h
  ·rename_i t' ht';simp only [sIq] at h;subst h;obtain ⟨⟨rv,m1⟩,h1,h2⟩:=jg hT;simp only [Tree.sel,sIq,pIq] at h2;obtain ⟨rfl,rfl⟩:=h2;exact I8 hpc hcall hm h0 (by rw [ho];exact ht') h1 fun F' w' bs' v hext hm hr=>hK F' w' bs' v rv rfl hext hm hr
  ·simp at h
 ·simp at h
theorem jhY {H : Hd} (hpc : SumOk P H) {X : HdP} (hrx : Vg P X.rx) {call : jt} (hcall : CallOk P call) {callP : qQ} (hcallP : CallPOk P X callP) {mem : Mem} {F : Nat -> Prop} {w : World} {bs : List BI} {a : Act} (hm : MemRel P F w bs mem) {ρ : List (Nat × Bool) -> Operand -> Option AV}
  (hρ:∀ K x av,KH a K->ρ K x=some av->av.Rel F w bs (a.eval x)) {o:Oper} {r:Out} {mem':Mem}
  (h:(Re P H X call callP mem ρ o.op).sel=some (r,mem')) {K:Act->World->Prop} {Q:Exit->Act->World->Prop}
  (hK:∀ F' w' bs' v av,r=.ret av->Ext bs.length F w bs F' w' bs'->MemRel P F' w' bs' mem'->av.Rel F' w' bs' v->K (a.put o.dst v) w')
  (hP:∀ F' w' bs' v x,r=.pan x->Ext bs.length F w bs F' w' bs'->MemRel P F' w' bs' mem'->x.Rel F' w' bs' v->Q (.panic [{ v,recovered:=false }]) a w'):o.wp P a w K Q:=by
 unfold Re at h;split at h
 ·rename_i t ht;exact jh8 hpc hcall hcallP hm (fun x av hh=>hρ [] x av jw hh) ht h hK hP
 ·exact Gu hpc hrx hcall hcallP hm hρ h hK hP
theorem jfY {H : Hd} (hpc : SumOk P H) {X : HdP} (hrx : Vg P X.rx) {call : jt} (hcall : CallOk P call) {callP : qQ} (hcallP : CallPOk P X callP) {s : StP} {F : Nat -> Prop} {w : World} {bs : List BI} {a : Act} (hs : StRel P a.defers F w bs s.s a) (hd : DsRel F w bs s.dl a.defers) {o : Oper} {r : Out} {mem' : Mem} {dl' : List CV}
  (h:(jaL P H X call callP s o.op).sel=some (r,mem',dl')) {K:Act->World->Prop} {Q:Exit->Act->World->Prop}
  (hK:∀ F' w' bs' v av D',r=.ret av->Ext bs.length F w bs F' w' bs'->MemRel P F' w' bs' mem'->av.Rel F' w' bs' v->DsRel F' w' bs' dl' D'->K ({ a with defers:=D' }.put o.dst v) w')
  (hP:∀ F' w' bs' v x,r=.pan x->Ext bs.length F w bs F' w' bs'->MemRel P F' w' bs' mem'->x.Rel F' w' bs' v->DsRel F' w' bs' dl' a.defers->Q (.panic [{ v,recovered:=false }]) a w'):o.wp P a w K Q:=by
 have h0:∀ x av,zp s.s [] x=some av->av.Rel F w bs (a.eval x):=fun x av hh=>qo hs jw hh
 have plain:((Re P H X call callP s.s.mem (fun K=>zp s.s K) o.op).bind fun y=>(.leaf (y.1,y.2,s.dl):Tree (Out × Mem × List CV))).sel=some (r,mem',dl')->o.wp P a w K Q:=fun h=>by
  obtain ⟨⟨rv,m⟩,h1,h2⟩:=jg h;simp only [Tree.sel,sIq,pIq] at h2;obtain ⟨rfl,rfl,rfl⟩:=h2;exact jhY hpc hrx hcall hcallP hs.mem (fun K x av hk hh=>qo hs hk hh) h1 (fun F' w' bs' v av e hext hm hr=>hK F' w' bs' v av a.defers e hext hm hr (hd.grow hext.grow)) fun F' w' bs' v x e hext hm hr=>hP F' w' bs' v x e hext hm hr (hd.grow hext.grow)
 unfold jaL at h;split at h
 ·rename_i x ho;split at h
  ·rename_i y hy;split at h
   ·rename_i hc;simp only [Tree.sel,sIq,pIq] at h;obtain ⟨rfl,rfl,rfl⟩:=h;have hr:=h0 _ _ hy;have hr:y.Rel F w bs (a.eval x):=hr;generalize hz:a.eval x=z at hr;rw [aTq] at hc
    have go:∀ t v,a.eval x=.iface t v->CV.Rel F w bs y (.iface t v)->o.wp P a w K Q:=by
     intro t v hz hr;unfold Oper.wp
     have hrun:(execOp a.eval o).run P w=.halt (.panic (.iface t v)) w:=by
      unfold execOp;rw [ho];simp [hz,Instr.panic,goPanic]
     rw [hrun];exact hP F w bs _ _ rfl Ext.refl hs.mem hr hd
    cases hr<;>first | (simp [isIface] at hc;done) | skip
    ·rename_i t y v hv;exact go t v hz (.iface hv)
    ·rename_i t l vs hl hv;exact go t _ hz (.ifa hl hv)
   ·simp [Tree.sel] at h
  ·simp [Tree.sel] at h
 ·rename_i c ho;split at h
  ·rename_i x hcal harg;split at h
   ·rename_i g cap hx;simp only [Tree.sel,sIq,pIq] at h;obtain ⟨rfl,rfl,rfl⟩:=h;have hr:=h0 _ _ hx;generalize hz:a.eval x=z at hr;cases hr with
    | fn l1 l2 r1 r2 =>
      rename_i vf vc;have hvf:vf=[]:=List.length_eq_zero_iff.1 l1.symm;subst hvf
      have hrun:(execOp a.eval o).run P w=.ok (.defer { target:=.fn (.func g) vc.toArray,args:=#[] }) w:=by
       have ha:c.args = #[]:=by rw [← Array.toArray_toList (xs:=c.args),harg]
       unfold execOp;rw [ho];simp [resolve,hcal,hz,Deferred.ofValue,ha]
      unfold Oper.wp;rw [hrun];refine hK F w bs undef .any ({ target:=.fn (.func g) vc.toArray,args:=#[] }::a.defers) rfl Ext.refl hs.mem trivial (.cons ⟨g,cap,vc,rfl,rfl,All2.of_nth l2 r2⟩ hd)
   ·simp [Tree.sel] at h
  ·simp [Tree.sel] at h
 ·exact plain h
end Go.Sx