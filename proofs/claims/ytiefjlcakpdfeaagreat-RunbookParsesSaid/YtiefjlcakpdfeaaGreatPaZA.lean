/-
 Part PaZA of the proof: RolZc RolZd EngQa FaiE FaiF FaiG EngNc RcA RcB RcC RcD RcE.
-/
import Derived.Test.YtiefjlcakpdfeaaGreatPaZ
import Derived.Test.YtiefjlcakpdfeaaGreatPaR
import Derived.Test.YtiefjlcakpdfeaaGreatPaT
import Derived.Test.YtiefjlcakpdfeaaGreatPaV
import Derived.Test.YtiefjlcakpdfeaaGreatPaY
namespace Go.Proofs.YtiefjlcakpdfeaaGreat.Ro
open Go Go.Sx Go.RowKit Classical
set_option maxRecDepth 100000
def fewS (l:Ses):Prop:=fewN l.n∧∀ i,i<l.n->fewN (l.at i).n
theorem jcj (l:Ses) (x:Sit) (n:Nat):(x.r==1&&jY (ZN l x) n)=jY (B1 l x) n:=by
 cases hr:(x.r==1)
 ·rw [Bool.false_and,eq_comm,← Bool.not_eq_true];intro h;obtain ⟨i,_,h⟩:=QM.1 h;unfold B1 at h;rw [hr] at h;simp at h
 ·rw [Bool.true_and];refine ja4 fun i _ _ => ?_;have hx:x.r=1:=by simpa using hr
  unfold ZN B1;rw [hr,hx,Bool.and_true]
def y5 (l:Ses) (i:Nat):Bool:=(Qj (l.at i) != 0||jY (Zo l (l.at i)) i)||jY (B1 l (l.at i)) i
def Ks (l:Ses) (i:Nat):Int:=bif Qj (l.at i) != 0 then Qj (l.at i) else bif jY (Zo l (l.at i)) i then 8 else 19
def sbS (l:Ses) (i:Nat):VJ:=⟨i,i,Ks l i⟩
def μS (n:Nat) (v:VJ):Nat:=(n - v.k).toNat
theorem jmx {l:Ses} {i:Nat} (h:(Qj (l.at i) != 0)=true):y5 l i=true∧Ks l i=Qj (l.at i):=by
 unfold y5 Ks;rw [h];exact ⟨rfl,rfl⟩
theorem jpm {l:Ses} {i:Nat} (h:(Qj (l.at i) != 0)=false) (h2:jY (Zo l (l.at i)) i=true):y5 l i=true∧Ks l i=8:=by
 unfold y5 Ks;rw [h,h2];exact ⟨rfl,rfl⟩
theorem joA {l:Ses} {i:Nat} (h:(Qj (l.at i) != 0)=false) (h2:jY (Zo l (l.at i)) i=false) (h3:jY (B1 l (l.at i)) i=true):y5 l i=true∧Ks l i=19:=by
 unfold y5 Ks;rw [h,h2,h3];exact ⟨rfl,rfl⟩
theorem jlE {l:Ses} {i:Nat} (h:(Qj (l.at i) != 0)=false) (h2:jY (Zo l (l.at i)) i=false) (h3:jY (B1 l (l.at i)) i=false):y5 l i=false:=by
 unfold y5;rw [h,h2,h3];rfl
structure C34 where
 l:Ses
 j:Ses
 m:Int
def S34 (c:C34) (v:VJ):St:=mkS 43 [(0,.one (.c (.sl siSh c.l.n c.l.ρ))),(2,.one (.c (I v.r))),(3,.one (.c (I v.q))),(10,.one (.c (.sl siSh c.j.n c.j.ρ))),(11,.one (.c (I c.m))),(12,.one (.c (I v.k)))] []
noncomputable def jbM (c:C34) (v:VJ):Tree (XE × VJ) :=
 let x:=c.j.at v.k.toNat
 let nx:VJ:=⟨IntKind.i64.wrap (v.k+1),v.r,v.q⟩
 let rest (b:Bool):Tree (XE × VJ):=.br (x.r==1&&b) (.leaf (.ret,⟨v.k,v.k,19⟩)) (.leaf (.normal,nx))
 .br (lt v.k c.m) (.need (jc v.k c.j.n) (.need (dec (fewN x.n)) (.br (Qj x != 0) (.leaf (.ret,⟨v.k,v.k,Qj x⟩)) (.need (le 0 v.k&&le v.k (ja c.l.n)) (.need (dec (fewN v.k.toNat)) (.br (jY (Zo ⟨v.k.toNat,c.l.ρ⟩ x) v.k.toNat) (.leaf (.ret,⟨v.k,v.k,8⟩))
  (.br ((x.r==1)==true) (.need (le 0 v.k&&le v.k (ja c.l.n)) (.br ((x.r==1)==true) (.need (dec (fewN v.k.toNat)) (rest (jY (ZN ⟨v.k.toNat,c.l.ρ⟩ x) v.k.toNat))) (rest false)))
   (.br ((x.r==1)==true) .fail (rest false))))))))) (.leaf (.exit 0,v))
theorem t34 (c:C34) (v:VJ):((jQ Tryz.prog H30 (jU Tryz.prog H30 10) 13 0 1 (qn Tryz.prog 13 0) (S34 c v)).bind fun y=>gcT [0,2,3,10,11,12] 0 y)=(jbM c v).bind fun y=>.leaf (y.1,S34 c y.2):=by kernel_rfl
theorem jmo (l:Ses) {m:Int} (hm:m=ja l.n) (hn:fewS l):Sq (jbM ⟨l,l,m⟩) (μS l.n) stJ (sbS l) l.n (y5 l) .ret (.exit 0) where
 out:=by simp
 hit:=by simp
 meas k hk:=by unfold μS stJ;simp only;omega
 round k hk:=by
  have hf:=hn.2 k hk;have hn:=hn.1;have hk':fewN k:=by unfold fewN at hn ⊢;omega
  have hkk:fewN ((k:Int).toNat):=hk';unfold fewN at hn;have hw:IntKind.i64.wrap ((k:Int)+1)=((k+1:Nat):Int):=by rw [w64_id (by omega) (by omega)];omega
  have hs:(le 0 (k:Int)&&le (k:Int) (ja l.n))=true:=by
   rw [aTq,qz,qz];exact ⟨by omega,by show (k:Int)<=(l.n:Int);omega⟩
  have nxt:∀ {r},jY (B1 l (l.at k)) k=r->(Qj (l.at k) != 0)=false->jY (Zo l (l.at k)) k=false->r=false->if y5 l k then (XE.normal,(⟨IntKind.i64.wrap ((k:Int)+1),0,0⟩ : VJ))=(.ret,sbS l k) else (XE.normal,(⟨IntKind.i64.wrap ((k:Int)+1),0,0⟩ : VJ))=(.normal,stJ (k+1)):=fun h1 h2 h3 h4=>by
   rw [jlE h2 h3 (h1.trans h4),hw];rfl
  refine ⟨fun _=>⟨inR hk,jx.2 hf,fun h1 => ?_,fun h1=>⟨hs,jx.2 hkk,fun h2 => ?_,fun h2=>⟨fun g=>⟨hs,fun _=>⟨jx.2 hkk,fun h3 => ?_,fun h3 => ?_⟩,fun ng => ?_⟩,fun g=>⟨fun g' => ?_,fun _=>⟨fun h3 => ?_,fun _ => ?_⟩⟩⟩⟩⟩,fun h => ?_⟩
  ·obtain ⟨b,e⟩:=jmx (l:=l) (i:=k) h1;show if y5 l k then _ else _
   rw [b,if_pos rfl];show (XE.ret,(⟨k,k,Qj (l.at k)⟩ : VJ))=(.ret,⟨k,k,Ks l k⟩);rw [e]
  ·obtain ⟨b,e⟩:=jpm (l:=l) (i:=k) h1 h2;show if y5 l k then _ else _
   rw [b,if_pos rfl];show (XE.ret,(⟨k,k,8⟩ : VJ))=(.ret,⟨k,k,Ks l k⟩);rw [e]
  ·have h3:((l.at k).r==1&&jY (ZN l (l.at k)) k)=true:=h3;rw [jcj] at h3;obtain ⟨b,e⟩:=joA (l:=l) (i:=k) h1 h2 h3;show if y5 l k then _ else _
   rw [b,if_pos rfl];show (XE.ret,(⟨k,k,19⟩ : VJ))=(.ret,⟨k,k,Ks l k⟩);rw [e]
  ·have h3:((l.at k).r==1&&jY (ZN l (l.at k)) k)=false:=h3;rw [jcj] at h3;exact nxt h3 h1 h2 rfl
  ·rw [g] at ng;cases ng
  ·rw [g] at g';cases g'
  ·rw [Bool.and_false] at h3;cases h3
  ·have h3 : ((l.at k).r == 1 && jY (ZN l (l.at k)) k) = false := by
    have g:(((l.at k).r==1)==true)=false:=g;have g:((l.at k).r==1)=false:=by cases hh:((l.at k).r==1)<;>simp_all
    rw [g];rfl
   rw [jcj] at h3;exact nxt h3 h1 h2 rfl
  ·have:lt (k:Int) m=false:=h
   rw [hm,ltF hk] at this;cases this
 stop:=by
  refine ⟨fun h => ?_,fun _=>rfl⟩
  have:lt (l.n:Int) m=true:=h
  rw [hm,ltS] at this;cases this
noncomputable def GX (c:C34) (v:VJ):Bool:=dec ((c.j=c.l∧c.m=ja c.l.n∧fewS c.l)∧∃ i,i<=c.l.n∧v=stJ i)
noncomputable def jcR (c:C34) (v:VJ):XE × VJ:=fin (jbM c) (μS c.l.n) v
def jbO:List (Nat × AV)->Mem->Option (C34 × VJ)
 | [(0,.one (.c (.sl [.int .i64,.int .i64,.int .i64,.int .i64,.sl [.int .i64,.int .i64,.int .i64],.int .i64,.bool,.bool] n ρ))),(2,.one (.c (.int .i64 r))),(3,.one (.c (.int .i64 q))),(10,.one (.c (.sl [.int .i64,.int .i64,.int .i64,.int .i64,.sl [.int .i64,.int .i64,.int .i64],.int .i64,.bool,.bool] n2 ρ2))),(11,.one (.c (.int .i64 m))),(12,.one (.c (.int .i64 k)))],[]=>some (⟨⟨n,ρ⟩,⟨n2,ρ2⟩,m⟩,⟨k,r,q⟩)
 | _,_=>none
noncomputable def L34:Nat->St->Tree (XE × St):=Y5 [0,2,3,10,11,12] 0 43 jbO GX S34 jcR [.ret,.exit 0]
theorem l34 (fn:Func) (c b:Code) (hf:Tryz.prog.funcs[13]? = some fn) (hc:fn.body=some c) (hb:je c 0=some b):LoopOk Tryz.prog b L34 :=
 JS h30 10 13 0 hf hc hb [0,2,3,10,11,12] 0 43 S34 jbM t34 jbO GX (fun c=>μS c.l.n) [.ret,.exit 0] (Q:=fun (c:C34) y=>(∃ i,i<c.l.n∧y5 c.l i=true∧y=(.ret,sbS c.l i))∨y=(.exit 0,stJ c.l.n))
  (fun l m c v h=>by unfold jbO at h;split at h<;>simp at h;obtain ⟨rfl,rfl⟩:=h;rfl)
  (Zb fun c v hv=>by
   obtain ⟨l,j,m⟩:=c;have h:=(jx.1 hv).1;have hj:j=l:=h.1;subst hj;exact (jmo j h.2.1 h.2.2).rounds (inv:=fun v=>GX ⟨j,j,m⟩ v=true) fun x=>by unfold GX;rw [jx];exact ⟨fun h=>h.2,fun k=>⟨h,k⟩⟩)
noncomputable abbrev H36:Hd:=⟨H30.pc,H30.hc,[((13,0),L34)],H30.mc⟩
theorem h36:HdOk Tryz.prog H36:=HdOk.lhCons h30 l34
def ckI (l:Ses):Int:=bif lt 4 (ja l.n) then 0 else bif jY (y5 l) l.n then (yn (y5 l) l.n:Nat) else 0
def ckE (l:Ses):Int:=bif lt 4 (ja l.n) then 6 else bif jY (y5 l) l.n then Ks l (yn (y5 l) l.n) else 0
def two (i e:Int):AV:=.tup [.c (I i),.c (I e)]
def T34 (n:Nat) (iv:Bool) (x:XE × VJ):Tree AV:=.br (lt 4 (ja n)) (.leaf (two 0 6)) (.need iv (.br (Qr x.1 .ret) (.leaf (two x.2.r x.2.q)) (.need (Qr x.1 (.exit 0)) (.leaf (two 0 0)))))
theorem jkC {l:Ses} {iv:Bool} {x:XE × VJ} (h:iv=true) (hx:x=bif jY (y5 l) l.n then (.ret,sbS l (yn (y5 l) l.n)) else (.exit 0,stJ l.n)):(T34 l.n iv x).All (fun z=>z=two (ckI l) (ckE l)):=by
 subst h;refine ⟨fun h => ?_,fun h=>⟨rfl,fun h2 => ?_,fun h2 => ?_⟩⟩
 ·unfold ckI ckE;rw [h];rfl
 ·cases hb:jY (y5 l) l.n
  ·rw [hb] at hx;subst hx;cases h2
  ·rw [hb] at hx;subst hx;unfold ckI ckE;rw [h,hb];rfl
 ·cases hb:jY (y5 l) l.n
  ·rw [hb] at hx;subst hx;refine ⟨rfl,?_⟩;unfold ckI ckE;rw [h,hb];rfl
  ·rw [hb] at hx;subst hx;cases h2
noncomputable def G34:List A1->Option (Bool × AV)
 | [.c (.sl [.int .i64,.int .i64,.int .i64,.int .i64,.sl [.int .i64,.int .i64,.int .i64],.int .i64,.bool,.bool] n ρ)]=>some (dec (fewS ⟨n,ρ⟩),two (ckI ⟨n,ρ⟩) (ckE ⟨n,ρ⟩))
 | _=>none
theorem p34:TcOne Tryz.prog 13 (nG G34):=qC h36 12 13 fun args r h=>by
 unfold G34 at h;split at h
 ·rename_i n ρ;obtain ⟨hp,rfl⟩:=Prod.mk.inj (Option.some.inj h);have hf:=jx.1 hp;exact ⟨rfl,T34 n (GX ⟨⟨n,ρ⟩,⟨n,ρ⟩,ja n⟩ (stJ 0)) (jcR ⟨⟨n,ρ⟩,⟨n,ρ⟩,ja n⟩ (stJ 0)),by kernel_rfl,jkC (l:=⟨n,ρ⟩) (jx.2 ⟨⟨rfl,rfl,hf⟩,0,Nat.zero_le _,rfl⟩) (show jcR ⟨⟨n,ρ⟩,⟨n,ρ⟩,ja n⟩ (stJ 0)=_ from (jmo ⟨n,ρ⟩ rfl hf).fin0)⟩
 ·cases h
noncomputable abbrev H37:Hd:=⟨(13,nG G34)::H15.pc,H15.hc,[],H15.mc⟩
theorem h37:HdOk Tryz.prog H37:=h15.tcCons p34
end Go.Proofs.YtiefjlcakpdfeaaGreat.Ro
namespace Go.Sx
open Go Go.RowKit Classical
variable {P:Program}
theorem GD {X:Type} {S:X->St} {y:XE × X}:∀ {es:List XE},y.1 ∈ es->(outT S y es).sel=some (y.1,S y.2)
 | [],h=>by cases h
 | [e], h => by
   have h:y.1=e:=by simpa using h
   simp only [outT,Tree.sel,h];rw [Kk.2 rfl];rfl
 | e :: e' :: r, h => by
   simp only [outT,Tree.sel];cases he:Qr y.1 e
   ·simp only [cond_false];refine GD ?_;rcases List.mem_cons.1 h with h | h
    ·rw [Kk.2 h] at he;cases he
    ·exact h
   ·simp only [cond_true];rw [Kk.1 he]
noncomputable def lq1 {V:Type} (S:V->St) (ok:Prop) (e0:XE) (v0:V):Tree (XE × St):=.need (dec ok) (.leaf (e0,S v0))
def lqH {C V:Type} (keep:List Nat) (k0 nt:Nat) (get:List (Nat × AV)->Mem->Option (C × V)) (T:C->V->Tree (XE × St)) (K:Nat) (s:St):Tree (XE × St) :=
 if s.tmps.length==nt&&Nat.ble K k0 then
  match s.gc keep k0 with
  | some s'=>match Qh s' keep with
   | some l=>match get l s'.mem with
    | some (c,v)=>T c v
    | none=>.fail
   | none=>.fail
  | none=>.fail
 else .fail
theorem jnz {H : Hd} (hH : HdOk P H) (d f i : Nat) {fn : Func} {c b : Code} (hf : P.funcs[f]? = some fn) (hc : fn.body = some c) (hb : je c i = some b) {C V : Type} (keep : List Nat) (k0 nt : Nat) (S : C -> V -> St) (TX : C -> V -> Tree (XE × V))
  (hT:∀ c v,((jQ P H (jU P H d) f k0 (i+1) (qn P f i) (S c v)).bind fun y=>gcT keep k0 y)=(TX c v).bind fun y=>.leaf (y.1,S c y.2))
  (get:List (Nat × AV)->Mem->Option (C × V)) (hget:∀ l m c v,get l m=some (c,v)->mkS nt l m=S c v)
  (good:C->Prop) (μ:C->V->Nat) (st sb:C->Nat->V) (n:C->Nat) (bad:C->Nat->Bool) (e1 e0:XE)
  (hsq:∀ c,good c->Sq (TX c) (μ c) (st c) (sb c) (n c) (bad c) e1 e0) (T:C->V->Tree (XE × St))
  (hw:∀ c v x,(T c v).sel=some x->good c∧v=st c 0∧∃ s1,(x.1,s1)=(bif jY (bad c) (n c) then (e1,S c (sb c (yn (bad c) (n c)))) else (e0,S c (st c (n c))))∧StWk s1 x.2) :
  LoopOk P b (lqH keep k0 nt get T):=by
 have hl:=JS hH d f i hf hc hb keep k0 nt S TX hT get (fun c v=>dec (good c∧∃ i,i<=n c∧v=st c i)) μ [e1,e0] (Q:=fun c y=>(∃ i,i<n c∧bad c i=true∧y=(e1,sb c i))∨y=(e0,st c (n c))) hget
  (fun c v hv=>by
   have hg:=(jx.1 hv).1;exact (hsq c hg).rounds (inv:=fun v=>dec (good c∧∃ i,i<=n c∧v=st c i)=true) (fun x=>by rw [jx];exact ⟨fun h=>h.2,fun k=>⟨hg,k⟩⟩) v hv)
 refine hl.wk fun K s x hx => ?_;unfold lqH at hx;unfold Y5;split at hx
 ·rename_i hlen;rw [if_pos hlen];cases hg:s.gc keep k0 with
  | none=>rw [hg] at hx;simp [Tree.sel] at hx
  | some s' =>
    rw [hg] at hx;simp only at hx ⊢;cases hl:Qh s' keep with
   | none=>rw [hl] at hx;simp [Tree.sel] at hx
   | some l =>
     rw [hl] at hx;simp only at hx ⊢;cases hgt:get l s'.mem with
    | none=>rw [hgt] at hx;simp [Tree.sel] at hx
    | some p =>
      obtain ⟨cc,v⟩:=p;rw [hgt] at hx;simp only at hx ⊢;obtain ⟨hgood,rfl,s1,h1,h2⟩:=hw cc v x hx;have hfin:=(hsq cc hgood).fin0;refine ⟨s1,?_,h2⟩;simp only [Tree.sel,jx.2 (show good cc∧∃ i,i<=n cc∧st cc 0=st cc i from ⟨hgood,0,Nat.zero_le _,rfl⟩),cond_true];rw [hfin];cases hany:jY (bad cc) (n cc)
      ·rw [hany] at h1;simp only [cond_false,pIq] at h1 ⊢;rw [GD (by simp),h1.1,h1.2]
      ·rw [hany] at h1;simp only [cond_true,pIq] at h1 ⊢;rw [GD (by simp),h1.1,h1.2]
 ·simp [Tree.sel] at hx
theorem jn3 {H : Hd} (hH : HdOk P H) (d f i : Nat) {fn : Func} {c b : Code} (hf : P.funcs[f]? = some fn) (hc : fn.body = some c) (hb : je c i = some b) {C V : Type} (keep : List Nat) (k0 nt : Nat) (S : C -> V -> St) (TX : C -> V -> Tree (XE × V))
  (hT:∀ c v,((jQ P H (jU P H d) f k0 (i+1) (qn P f i) (S c v)).bind fun y=>gcT keep k0 y)=(TX c v).bind fun y=>.leaf (y.1,S c y.2))
  (get:List (Nat × AV)->Mem->Option (C × V)) (hget:∀ l m c v,get l m=some (c,v)->mkS nt l m=S c v)
  (good:C->Prop) (μ:C->V->Nat) (st:C->Nat->V) (n:C->Nat) (e0:XE)
  (hsq:∀ c,good c->Sq (TX c) (μ c) (st c) (st c) (n c) (fun _=>false) .ret e0) (v0:C->V)
  (h0:∀ c,good c->StWk (S c (st c (n c))) (S c (v0 c))) :
  LoopOk P b (lqH keep k0 nt get fun c v=>lq1 (S c) (good c∧v=st c 0) e0 (v0 c)) :=
 jnz hH d f i hf hc hb keep k0 nt S TX hT get hget good μ st st n (fun _ _=>false) .ret e0 hsq _ fun c v x hx=>by
  unfold lq1 at hx;simp only [Tree.sel] at hx;cases hd:dec (good c∧v=st c 0)
  ·rw [hd] at hx;simp at hx
  ·rw [hd] at hx;obtain ⟨hg,hv⟩:=jx.1 hd;simp only [cond_true,sIq] at hx;subst hx;have hno:jY (fun _=>false) (n c)=false:=Uf fun _ _=>rfl;exact ⟨hg,hv,_,by rw [hno];rfl,h0 c hg⟩
end Go.Sx
namespace Go.Proofs.YtiefjlcakpdfeaaGreat.Ro
open Go Go.Sx Go.RowKit Classical
set_option maxRecDepth 100000
namespace Fo
def out (l:Ses) (t:Int):Bool:=lt t 0||le (ja l.n) t
def jhs:List A1->Option (Bool × AV)
 | [.c (.sl [.int .i64,.int .i64,.int .i64] n ρ)]=>some (Nat.ble ((0+n)*24) 140737488355328,.one (.c (.sl spSh n ρ)))
 | _=>none
theorem jq5:jj Tryz.prog 75 (nG jhs):=jJ h37 10 75 fun args r h=>by
 unfold jhs at h;split at h
 ·rename_i n ρ;obtain ⟨hp,rfl⟩:=Prod.mk.inj (Option.some.inj h);refine ⟨.need (Nat.ble ((0+n)*24) 140737488355328) (.leaf (.one (.c (.sl spSh n ρ)))),by kernel_rfl,hp,leA.refl⟩
 ·cases h
end Fo
end Go.Proofs.YtiefjlcakpdfeaaGreat.Ro
namespace Go.Proofs.YtiefjlcakpdfeaaGreat.Ro
open Go Go.Sx Go.RowKit Classical
set_option maxRecDepth 100000
set_option maxHeartbeats 4000000
namespace Fo
def Rj (es:List Sh) (n:Nat) (ρ σ:Val):Prop:=∀ i f s,i<n->nth es f=some s->cellOf s ((ρ.at i).at f)=cellOf s ((σ.at i).at f)
theorem jn2 {es:List Sh} (v:Val):Val.ofC (.sl es (v.L []) v)=v:=by
 obtain ⟨B,N,S,L⟩:=v;show (⟨B,N,S,_⟩ : Val)=⟨B,N,S,L⟩;congr 1;funext p;cases p<;>rfl
def cs (x:Sit):List CV:=[I x.a,I x.r,I x.e,I x.p,.sl spSh x.n x.ρ,I x.s,.bool x.l,.bool x.c]
def okT (k:Int) (x:Sit):Sit:=⟨bif k==0 then x.a else 0,bif k==0 then x.r else 0,bif k==0 then x.e else 0,bif k==0 then x.p else 0,bif k==0 then x.n else 0,x.ρ,bif k==0 then x.s else 0,k==0&&x.l,k==0&&x.c⟩
def smallS (l:Ses):Prop:=l.n<=1000∧∀ i,i<l.n->small (l.at i).n
theorem small_fewS {l:Ses} (h:smallS l):fewS l:=⟨by unfold fewN;have:=h.1;omega,fun i hi=>jx.1 (KW (h.2 i hi))⟩
end Fo
end Go.Proofs.YtiefjlcakpdfeaaGreat.Ro
namespace Go.Sx
open Go Go.RowKit
variable {P:Program}
theorem OV {H : Hd} (hH : HdOk P H) (n f : Nat) {G : List A1 -> Tree (AV × Mem)}
  (h:∀ args r m,(G args).sel=some (r,m)->∃ u,jU P H n f args []=u∧u.All (fun y=>WkO (.ret y.1,y.2) (.ret r,m))):NcOne P f G:=by
 intro args r m hG _ F w vs hargs;obtain ⟨u,hu,ha⟩:=h args r m hG;rw [← hu] at ha;obtain ⟨y,hsel,hw⟩:=yf ha;refine (Kv hH n f args y.1 y.2 hsel F w [] vs MemRel.nil hargs).mono fun e w2 ⟨v,F',bs',he,hext,hm',hr⟩ => ?_;obtain ⟨F2,bs2,e2,m2,v2,hv2,r2⟩:=hw P F' w2 bs' (.returned v) hm' ⟨v,rfl,hr⟩;simp only [Ending.returned.injEq] at hv2;subst hv2;exact ⟨v,F2,bs2,he,hext.trans e2 (lRq _),m2,r2⟩
end Go.Sx
namespace Go.Proofs.YtiefjlcakpdfeaaGreat.Ro
open Go Go.Sx Go.RowKit Classical
set_option maxRecDepth 100000
namespace Fo
theorem nSites:NcOne Tryz.prog 106 (X4 56 siSh 8 72):=RL Tryz.func106 rfl rfl rfl rfl rfl rfl rfl rfl (by kernel_rfl) rfl (fun n ρ=>by kernel_rfl)
 (fun n ρ=>stC siSh n ρ true) (fun n ρ=>mkS 8 [(0,.one (.c (.sl siSh n ρ))),(2,.one (.c (.os 1 8))),(3,.one (.c (.sl siSh n ρ))),(4,.one (.c (.bool false))),(5,.one (.c (.os 0 8))),(6,.one (.c (.sl siSh n ρ))),(7,.one (.c (.os 1 8)))] [none,some (56,[.row false siSh (0+n) (Val.cat 0 (Val.ofFlat 8 []) ρ)])])
 (fun n ρ=>by kernel_rfl) (fun n ρ=>by kernel_rfl) (fun n ρ=>rfl) (fun n ρ=>by kernel_rfl) (fun n ρ=>by kernel_rfl) (fun n ρ=>rfl)
noncomputable abbrev HCa:Hd:=⟨H37.pc,H15.hc,[],H37.mc⟩
theorem hCa:HdOk Tryz.prog HCa:=⟨⟨h37.pc.pc,h15.pc.hc,h37.pc.mc⟩,h37.lh⟩
noncomputable abbrev HC:Hd:=⟨HCa.pc,(75,nG jhs)::HCa.hc,[],(106,ncG (X4 56 siSh 8 72))::HCa.mc⟩
theorem hC:HdOk Tryz.prog HC:=(hCa.ucCons jq5).mcCons nSites.mc
theorem jkI (ρ:Val) (i f:Nat) (x:CV) (k g:Nat):((ρ.upd i f x).at k).at g=if k=i∧g=f then .ofC x else (ρ.at k).at g:=by
 have e:((ρ.upd i f x).at k).at g=(yI (Nat.beq k i) (.byFst fun g=>yI (Nat.beq g f) (.ofC x) ((ρ.at k).at g)) (ρ.at k)).at g:=rfl;rw [e];by_cases hk:k=i
 ·subst hk;rw [Nat.beq_refl];have e2:(yI true (.byFst fun g=>yI (Nat.beq g f) (.ofC x) ((ρ.at k).at g)) (ρ.at k)).at g=yI (Nat.beq g f) (.ofC x) ((ρ.at k).at g):=rfl;rw [e2];by_cases hg:g=f
  ·subst hg;rw [Nat.beq_refl,if_pos ⟨rfl,rfl⟩];rfl
  ·rw [if_neg (fun h=>hg h.2)]
   have:Nat.beq g f=false:=by
    cases h:Nat.beq g f
    ·rfl
    ·exact (hg (Nat.eq_of_beq_eq_true h)).elim
   rw [this];rfl
 ·rw [if_neg (fun h=>hk h.1)]
  have:Nat.beq k i=false:=by
   cases h:Nat.beq k i
   ·rfl
   ·exact (hk (Nat.eq_of_beq_eq_true h)).elim
  rw [this];rfl
theorem jdT {n:Nat} {ρ σ:Val} (h:Rj siSh n ρ σ) (j:Nat):Rj siSh n (ρ.upds j 4 [.sl spSh (((ρ.at j).at 4).L []) ((ρ.at j).at 4)]) σ:=by
 intro i f s hi hf;rw [← h i f s hi hf];show cellOf s (((ρ.upd j 4 _).at i).at f)=_;rw [jkI];split
 ·rename_i hh;obtain ⟨rfl,rfl⟩:=hh;simp only [nth,sIq] at hf;subst hf;show cellOf (.sl spSh) (Val.ofC (.sl spSh (((ρ.at i).at 4).L []) ((ρ.at i).at 4)))=_;rw [jn2]
 ·rfl
theorem je1 {n:Nat} {ρ σ:Val} (h:Rj siSh n ρ σ) {i:Nat} (hi:i<n):((ρ.at i).at 4).L []=((σ.at i).at 4).L []:=by
 have:=h i 4 (.sl spSh) hi rfl
 simp only [cellOf,CV.sl.injEq] at this;exact this.2.1
namespace Ca
structure C where
 l:Ses
 m:Int
structure V where
 ρ:Val
 i:Int
def S (c:C) (v:V):St:=mkS 24 [(3,.one (.c (.os 0 8))),(8,.one (.c (I c.m))),(9,.one (.c (I v.i)))] [some (56,[.row false siSh c.l.n v.ρ])]
def up4 (ρ:Val) (i:Nat):Val:=ρ.upds i 4 [.sl spSh (((ρ.at i).at 4).L []) ((ρ.at i).at 4)]
def TX (c:C) (v:V):Tree (XE × V) :=
 .br (lt v.i c.m) (.need (jc v.i c.l.n) (.need (Nat.ble ((0+((v.ρ.at v.i.toNat).at 4).L [])*24) 140737488355328) (.need (jc v.i c.l.n) (.leaf (.normal,⟨up4 v.ρ v.i.toNat,IntKind.i64.wrap (v.i+1)⟩))))) (.leaf (.exit 0,v))
theorem t (c:C) (v:V):((jQ Tryz.prog HC (jU Tryz.prog HC 10) 51 0 1 (qn Tryz.prog 51 0) (S c v)).bind fun y=>gcT [3,8,9] 0 y)=(TX c v).bind fun y=>.leaf (y.1,S c y.2):=by kernel_rfl
def ups (ρ:Val):Nat->Val
 | 0=>ρ
 | i+1=>up4 (ups ρ i) i
theorem BU (ρ:Val) (n:Nat):∀ i,Rj siSh n (ups ρ i) ρ
 | 0=>fun _ _ _ _ _=>rfl
 | i+1=>jdT (BU ρ n i) i
def st (c:C) (i:Nat):V:=⟨ups c.l.ρ i,i⟩
def good (c:C):Prop:=c.m=ja c.l.n∧smallS c.l
theorem sq (c:C) (h:good c):Sq (TX c) (fun v=>(c.l.n - v.i).toNat) (st c) (st c) c.l.n (fun _=>false) .ret (.exit 0) where
 out:=by simp
 hit:=by simp
 meas i hi:=by show ((c.l.n:Int) - (i:Int)).toNat=_;omega
 round i hi:=by
  obtain ⟨hm,hn,hs⟩:=h;have hsi:=hs i hi;have hw:IntKind.i64.wrap ((i:Int)+1)=((i+1:Nat):Int):=by rw [w64_id (by omega) (by omega)];omega
  refine ⟨fun _=>⟨inR hi,?_,inR hi,?_⟩,fun hlt => ?_⟩
  ·show Nat.ble ((0+(((ups c.l.ρ i).at i).at 4).L [])*24) 140737488355328=true;rw [je1 (BU c.l.ρ c.l.n i) hi];exact KJ hsi
  ·show (XE.normal,(⟨up4 (ups c.l.ρ i) i,IntKind.i64.wrap ((i:Int)+1)⟩ : V))=(.normal,st c (i+1));rw [hw];rfl
  ·have:lt (i:Int) c.m=false:=hlt
   rw [hm,ltF hi] at this;cases this
 stop:=by
  refine ⟨fun hlt => ?_,fun _=>rfl⟩
  have:lt (c.l.n:Int) c.m=true:=hlt
  rw [h.1,ltS] at this;cases this
def get:List (Nat × AV)->Mem->Option (C × V)
 | [(3,.one (.c (.os 0 8))),(8,.one (.c (.int .i64 m))),(9,.one (.c (.int .i64 i)))],[some (56,[.row false [.int .i64,.int .i64,.int .i64,.int .i64,.sl [.int .i64,.int .i64,.int .i64],.int .i64,.bool,.bool] n ρ])]=>some (⟨⟨n,ρ⟩,m⟩,⟨ρ,i⟩)
 | _,_=>none
noncomputable def L:Nat->St->Tree (XE × St):=lqH [3,8,9] 0 24 get fun c v=>lq1 (S c) (good c∧v=st c 0) (.exit 0) ⟨c.l.ρ,c.l.n⟩
theorem ok (fn:Func) (c b:Code) (hf:Tryz.prog.funcs[51]? = some fn) (hc:fn.body=some c) (hb:je c 0=some b):LoopOk Tryz.prog b L :=
 jn3 hC 10 51 0 hf hc hb [3,8,9] 0 24 S TX t get (fun l m c v h=>by unfold get at h;split at h<;>simp at h;obtain ⟨rfl,rfl⟩:=h;rfl)
  good (fun c v=>(c.l.n - v.i).toNat) st (fun c=>c.l.n) (.exit 0) sq (fun c=>⟨c.l.ρ,c.l.n⟩)
  (fun c _=>StWk.row (tmps:=mkL [(3,.one (.c (.os 0 8))),(8,.one (.c (I c.m))),(9,.one (.c (I c.l.n)))] 24 0) (b:=0) rfl (BU c.l.ρ c.l.n c.l.n))
end Ca
noncomputable abbrev HC1:Hd:=⟨HC.pc,HC.hc,[((51,0),Ca.L)],HC.mc⟩
theorem hC1:HdOk Tryz.prog HC1:=HdOk.lhCons hC Ca.ok
noncomputable def Gcop:List A1->Tree (AV × Mem)
 | [.c (.sl [.int .i64, .int .i64, .int .i64, .int .i64, .sl [.int .i64, .int .i64, .int .i64], .int .i64, .bool, .bool] n ρ)] =>
   .need (dec (smallS ⟨n,ρ⟩)) (.leaf (.one (.c (.os 0 8)),[some (56,[.row false siSh n ρ])]))
 | _=>.fail
theorem nCop:NcOne Tryz.prog 51 Gcop:=OV hC1 10 51 fun args r m h=>by
 unfold Gcop at h;split at h
 ·rename_i n ρ;simp only [Tree.sel] at h;cases hs:dec (smallS ⟨n,ρ⟩)
  ·rw [hs] at h;simp at h
  rw [hs] at h;simp only [cond_true,sIq,pIq] at h;obtain ⟨rfl,rfl⟩:=h;have hsm:=jx.1 hs;refine ⟨.need (Nat.ble ((0+n)*72) 140737488355328) (.need (dec (Ca.good ⟨⟨n,ρ⟩,ja n⟩∧(⟨ρ,0⟩ : Ca.V)=Ca.st ⟨⟨n,ρ⟩,ja n⟩ 0)) (.leaf (.one (.c (.os 0 8)),[some (56,[.row false siSh n ρ])]))),by kernel_rfl,?_,jx.2 ⟨⟨rfl,hsm⟩,rfl⟩,WkO.refl⟩
  have:=hsm.1
  exact Nat.ble_eq_true_of_le (by simp only at this;omega)
 ·simp [Tree.sel] at h
end Fo
end Go.Proofs.YtiefjlcakpdfeaaGreat.Ro
namespace Go.Proofs.YtiefjlcakpdfeaaGreat
open Go Go.Sx Go.RowKit Rb
set_option maxRecDepth 100000
def rK:Nat × (List A1->Tree AV):=(4294967289,fun _=>.fail)
theorem HdOk.rK {P:Program} {pc hc lh mc} (h:HdOk P ⟨pc,hc,lh,mc⟩):HdOk P ⟨rK::pc,hc,lh,mc⟩:=h.tcCons (f:=4294967289) (fun _ _ h=>by simp [Tree.sel] at h)
noncomputable abbrev HW0:Hd:=⟨[(86,oG G86)],[(162,nG Xv)],[],[]⟩
theorem hW0:HdOk Tryz.prog HW0:=(HdOk.nil.ucCons jgL).pcCons p86
def QQ (ρ:Val) (i:Int):ByteArray:=((ρ.at i.toNat).at 0).S []
def HU (es:List Sh):Bool:=match es with
 | [.sl a,.sl [.str],.int .i64]=>shEq.shsEq a Ro.siSh
 | _=>false
theorem OK {es:List Sh} (h:HU es=true):es=[.sl Ro.siSh,.sl [.str],.int .i64]:=by
 unfold HU at h;split at h
 ·rw [jm h]
 ·cases h
def jen:List A1->Option (Bool × AV)
 | [.c (.rop es 0 ρ),.c (.int .i64 i)]=>if HU es then some (jc i ((ρ.at 1).L [])&&nmD (jq (QQ (ρ.at 1) i)),.one (.c (.int .i64 (nmV (jq (QQ (ρ.at 1) i)))))) else none
 | _=>none
theorem jqX:TcOne Tryz.prog 200 (nG jen):=by
 refine qC (H:=HW0) hW0 10 200 ?_;intro args r h;unfold jen at h;split at h
 ·rename_i es ρ i;split at h
  ·rename_i hs;rw [OK hs];simp only [sIq,pIq,aTq] at h;obtain ⟨⟨h1,h2⟩,rfl⟩:=h;exact ⟨rfl,.need (jc i ((ρ.at 1).L [])) (.need (nmD (jq (QQ (ρ.at 1) i))) (.leaf (.one (.c (.int .i64 (nmV (jq (QQ (ρ.at 1) i)))))))),by kernel_rfl,h1,h2,rfl⟩
  ·cases h
 ·cases h
def NH (sn:Nat) (wn:Nat) (wρ:Val) (i:Int):Bool:=jc i wn&&(!q8 (QQ wρ i)||jc (kM (QQ wρ i)) sn)
def D5 (sρ:Val) (wρ:Val) (i:Int):Int:=bif !q8 (QQ wρ i) then -1 else ((sρ.at (kM (QQ wρ i)).toNat).at 0).N []
def jfK:List A1->Option (Bool × AV)
 | [.c (.rop es 0 ρ),.c (.int .i64 i)]=>if HU es then some (NH ((ρ.at 0).L []) ((ρ.at 1).L []) (ρ.at 1) i,.one (.c (.int .i64 (D5 (ρ.at 0) (ρ.at 1) i)))) else none
 | _=>none
theorem jrr:TcOne Tryz.prog 201 (nG jfK):=by
 refine qC (H:=HW0) hW0 10 201 ?_;intro args r h;unfold jfK at h;split at h
 ·rename_i es ρ i;split at h
  ·rename_i hs;rw [OK hs];simp only [sIq,pIq] at h;obtain ⟨h1,rfl⟩:=h;unfold NH at h1;rw [aTq] at h1;obtain ⟨h1,h2⟩:=h1;refine ⟨rfl,.need (jc i ((ρ.at 1).L [])) (.br (!q8 (QQ (ρ.at 1) i)) (.leaf (.one (.c (.int .i64 (-1))))) (.need (jc (kM (QQ (ρ.at 1) i)) ((ρ.at 0).L [])) (.leaf (.one (.c (.int .i64 (((((ρ.at 0).at (kM (QQ (ρ.at 1) i)).toNat).at 0).N [])))))))),by kernel_rfl,h1,fun h => ?_,fun h=>⟨?_,?_⟩⟩
   ·unfold D5;rw [h];rfl
   ·rw [h] at h2;simpa using h2
   ·unfold D5;rw [h];rfl
  ·cases h
 ·cases h
noncomputable abbrev HOa:Hd:=⟨Ro.H37.pc,Ro.H15.hc,[],Ro.H37.mc⟩
theorem hOa:HdOk Tryz.prog HOa:=⟨⟨Ro.h37.pc.pc,Ro.h15.pc.hc,Ro.h37.pc.mc⟩,Ro.h37.lh⟩
noncomputable abbrev HOb:Hd:=⟨rK::(86,oG G86)::(200,nG jen)::(201,nG jfK)::HOa.pc,HOa.hc,[],(51,ncG Ro.Fo.Gcop)::HOa.mc⟩
theorem hOb:HdOk Tryz.prog HOb:=HdOk.rK ((((hOa.mcCons Ro.Fo.nCop.mc).tcCons jrr).tcCons jqX).pcCons p86)
def fK (f:Nat):Nat × (List A1->Tree AV):=(f,fun _=>.fail)
theorem HdOk.fK {P:Program} {pc hc lh mc} (h:HdOk P ⟨pc,hc,lh,mc⟩) (f:Nat):HdOk P ⟨fK f::pc,hc,lh,mc⟩:=h.tcCons (f:=f) (fun _ _ h=>by simp [Tree.sel] at h)
noncomputable abbrev HOp:Hd:=⟨fK 192::fK 202::fK 203::HOb.pc,HOb.hc,[],HOb.mc⟩
theorem hOp:HdOk Tryz.prog HOp:=HdOk.fK (HdOk.fK (HdOk.fK hOb 203) 202) 192
def wd (σ:Val) (i:Nat):ByteArray:=((σ.at i).at 0).S []
def TK (k:Int):Tree AV:=.leaf (.tup [.c .nils,.c (.int .i64 k)])
noncomputable def Tv (n:Nat) (ρ:Val):Tree AV:=.need (dec (Ro.fewS ⟨n,ρ⟩)) (.br (Ro.ckE ⟨n,ρ⟩ != 0) (TK (Ro.ckE ⟨n,ρ⟩)) (.leaf (.tup [.c (.sl Ro.siSh n ρ),.c (.int .i64 0)])))
noncomputable def Nq (n:Nat) (ρ:Val) (t:Int) (k:Int) (x:Ro.Sit):Tree AV :=
 .br (k==0) (.need (jc t n) (.br (k != 0) (TK k) (Tv n (ρ.upds t.toNat 0 (Ro.Fo.cs (Ro.Fo.okT k x)))))) (.br (k != 0) (TK k) (Tv n ρ))
noncomputable def Bn (n:Nat) (ρ:Val) (m:Nat) (t:Int) (f:Nat) (b:Bool):Tree AV:=.need (jc 0 m) (.need (jc t n) (.br false (TK 0) (Tv n (ρ.upds t.toNat f [.bool b]))))
noncomputable def jhP (n:Nat) (ρ:Val) (m:Nat) (σ:Val):Tree AV :=
 let t:=kM (wd σ 1)
 let x:=Ro.siAt (ρ.at t.toNat)
 let w:=wd σ 0
 let y:=nmV (jq (QQ σ 2))
 let num:=jc 2 m&&nmD (jq (QQ σ 2))
 let src:=D5 ρ σ 3
 let sm:=dec (Ro.small x.n)
 .need (jc 1 m) (.need (dec (Ro.Fo.smallS ⟨n,ρ⟩)) (.need (jc 0 m)
  (.br (jb w kz) (.need (jc t n) (.need num (.need sm (Nq n ρ t (Ro.proE x y) (Ro.pro x y)))))
  (.br (jb w JP) (.need (jc t n) (.need sm (Nq n ρ t (Ro.isoE x) (Ro.iso x))))
  (.br (jb w J5) (.need (jc t n) (.need num (.need (NH n m σ 3) (.need sm (Nq n ρ t (Ro.demoE x y src) (Ro.demo x y src))))))
  (.br (jb w J4) (.need (jc t n) (.need num (.need (NH n m σ 3) (.need sm (Nq n ρ t (Ro.rejE x y src) (Ro.rej x y src))))))
  (.br (jb w Qb) (.need (jc t n) (.need num .fail))
  (.br (jb w wUp) (Bn n ρ m t 6 (jb w wUp))
  (.br (jb w KG) (Bn n ρ m t 6 (jb w wUp))
  (.br (jb w yv) (Bn n ρ m t 7 (jb w yv))
  (.br (jb w yL) (Bn n ρ m t 7 (jb w yv))
  (.br (jb w k6) .fail (.br (jb w ZW) .fail .fail)))))))))))))
theorem jjR (n:Nat) (ρ:Val) (m:Nat) (σ:Val):jT Tryz.prog HOp 10 174 [.c (.sl Ro.siSh n ρ),.c (.sl [.str] m σ)]=jhP n ρ m σ:=by kernel_rfl
def jbA (p:Nat->Bool):Nat->Bool
 | 0=>true
 | n+1=>jbA p n&&p n
theorem jao {p:Nat->Bool}:∀ {n:Nat},jbA p n=true->∀ i,i<n->p i=true
 | 0,_,i,hi=>by omega
 | n + 1, h, i, hi => by
   simp only [jbA,aTq] at h;rcases Nat.lt_or_ge i n with h1 | h1
   ·exact jao h.1 i h1
   ·obtain rfl:i=n:=by omega
    exact h.2
def yW (n:Nat) (ρ:Val):Bool:=Nat.ble n 1000&&jbA (fun i=>Nat.ble (((ρ.at i).at 4).L []) 100000) n
theorem KM {n:Nat} {ρ:Val} (h:yW n ρ=true):Ro.Fo.smallS ⟨n,ρ⟩:=by
 unfold yW at h;rw [aTq] at h;exact ⟨Nat.le_of_ble_eq_true h.1,fun i hi=>Nat.le_of_ble_eq_true (jao h.2 i hi)⟩
theorem Lh {n:Nat} {ρ:Val} (h:yW n ρ=true):dec (Ro.fewS ⟨n,ρ⟩)=true:=jx.2 (Ro.Fo.small_fewS (KM h))
abbrev OR:=Option (Int × Val)
def jcd (n:Nat) (ρ:Val):OR:=bif yW n ρ then some (Ro.ckE ⟨n,ρ⟩,ρ) else none
def LZ (n:Nat) (ρ:Val) (t:Int) (k:Int) (x:Ro.Sit):OR:=bif k==0 then (bif jc t n then jcd n (ρ.upds t.toNat 0 (Ro.Fo.cs (Ro.Fo.okT k x))) else none) else some (k,ρ)
def Bl (n:Nat) (ρ:Val) (t:Int) (f:Nat) (b:Bool):OR:=bif jc t n then jcd n (ρ.upds t.toNat f [.bool b]) else none
def nd {α:Type} (c:Bool) (x:Option α):Option α:=bif c then x else none
def Kp (fo:Nat->Val->Int->OR) (n:Nat) (ρ:Val) (m:Nat) (σ:Val):OR :=
 let t:=kM (wd σ 1)
 let x:=Ro.siAt (ρ.at t.toNat)
 let w:=wd σ 0
 let y:=nmV (jq (QQ σ 2))
 let num:=jc 2 m&&nmD (jq (QQ σ 2))
 let src:=D5 ρ σ 3
 nd (jc 1 m) (nd (yW n ρ) (nd (jc 0 m)
  (bif jb w kz then nd (jc t n) (nd num (LZ n ρ t (Ro.proE x y) (Ro.pro x y)))
  else bif jb w JP then nd (jc t n) (LZ n ρ t (Ro.isoE x) (Ro.iso x))
  else bif jb w J5 then nd (jc t n) (nd num (nd (NH n m σ 3) (LZ n ρ t (Ro.demoE x y src) (Ro.demo x y src))))
  else bif jb w J4 then nd (jc t n) (nd num (nd (NH n m σ 3) (LZ n ρ t (Ro.rejE x y src) (Ro.rej x y src))))
  else bif jb w Qb then none
  else bif jb w wUp then Bl n ρ t 6 (jb w wUp)
  else bif jb w KG then Bl n ρ t 6 (jb w wUp)
  else bif jb w yv then Bl n ρ t 7 (jb w yv)
  else bif jb w yL then Bl n ρ t 7 (jb w yv)
  else bif jb w k6 then fo n ρ t
  else none)))
def LW (n:Nat) (x:Int × Val):AV:=.tup [.c (.sl Ro.siSh (bif x.1==0 then n else 0) x.2),.c (.int .i64 x.1)]
def SayO (n:Nat) (T:Tree AV):OR->Prop
 | none=>True
 | some x=>T.All (fun z=>leA z (LW n x))
theorem SayO.none {n:Nat} {T:Tree AV}:SayO n T none:=trivial
theorem SayO.cond {n:Nat} {c:Bool} {T E:Tree AV} {a b:OR} (h1:c=true->SayO n T a) (h2:c=false->SayO n E b):SayO n (.br c T E) (bif c then a else b):=by
 cases c with
 | true =>
   have:=h1 rfl
   show SayO n _ a;cases a with
  | none=>exact trivial
  | some y=>exact ⟨fun _=>this,(fun h=>by cases h)⟩
 | false =>
   have:=h2 rfl
   show SayO n _ b;cases b with
  | none=>exact trivial
  | some y=>exact ⟨(fun h=>by cases h),fun _=>this⟩
theorem SayO.nd {n:Nat} {c d:Bool} {T:Tree AV} {a:OR} (h:c=true->d=true) (h1:c=true->SayO n T a):SayO n (.need d T) (Go.Proofs.YtiefjlcakpdfeaaGreat.nd c a):=by
 cases c with
 | false=>exact trivial
 | true =>
   have:=h1 rfl
   show SayO n _ a;cases a with
  | none=>exact trivial
  | some y=>exact ⟨h rfl,this⟩
theorem SayO.need {n:Nat} {d:Bool} {T:Tree AV} {a:OR} (h:d=true) (h1:SayO n T a):SayO n (.need d T) a:=by
 cases a with
 | none=>exact trivial
 | some y=>exact ⟨h,h1⟩
theorem jal {n:Nat} {k:Int} {ρ:Val} (hk:(k==0)=false):leA (.tup [.c .nils,.c (.int .i64 k)]) (LW n (k,ρ)):=by
 unfold LW;simp only [hk,cond_false];exact ZV (.cons (.c fun _ _ _ h=>by cases h;exact .slnil) (.cons (.c leC.refl) .nil))
theorem jfV {n:Nat} {k:Int} {ρ:Val} (hk:(k==0)=false):SayO n (TK k) (some (k,ρ)):=jal hk
theorem De {n:Nat} {ρ:Val}:SayO n (Tv n ρ) (jcd n ρ):=by
 unfold Tv jcd;refine SayO.nd Lh fun _ => ?_;cases hk:(Ro.ckE ⟨n,ρ⟩==0) with
 | false =>
   have h1:(Ro.ckE ⟨n,ρ⟩ != 0)=true:=by simp [bne,hk]
   rw [h1];exact ⟨fun _=>jal hk,(fun h=>by cases h)⟩
 | true =>
   have h1:(Ro.ckE ⟨n,ρ⟩ != 0)=false:=by simp [bne,hk]
   rw [h1];refine ⟨(fun h=>by cases h),fun _ => ?_⟩
   unfold LW;simp only [hk,cond_true];have h0:Ro.ckE ⟨n,ρ⟩=0:=by simpa using hk
   rw [h0];exact leA.refl
theorem Vk {n:Nat} {ρ:Val} {t k:Int} {x:Ro.Sit}:SayO n (Nq n ρ t k x) (LZ n ρ t k x):=by
 unfold Nq LZ;refine SayO.cond (fun hk => ?_) fun hk => ?_
 ·refine SayO.nd id fun _ => ?_;have h1:(k != 0)=false:=by simp [bne,hk]
  rw [h1];exact SayO.cond (c:=false) (a:=none) (fun h=>by cases h) fun _=>De
 ·have h1:(k != 0)=true:=by simp [bne,hk]
  rw [h1];exact SayO.cond (c:=true) (b:=none) (fun _=>jfV hk) (fun h=>by cases h)
theorem K4 {n m:Nat} {ρ:Val} {t:Int} {f:Nat} {b:Bool} (hm:jc 0 m=true):SayO n (Bn n ρ m t f b) (Bl n ρ t f b):=by
 unfold Bn Bl;refine SayO.need hm (SayO.nd id fun _=>SayO.cond (c:=false) (a:=none) (fun h=>by cases h) fun _=>De)
theorem Vd {n:Nat} {ρ:Val} {t:Int} (h:yW n ρ=true) (ht:jc t n=true):dec (Ro.small (Ro.siAt (ρ.at t.toNat)).n)=true:=by
 have hs:=KM h;have hn:n<=1000:=hs.1;unfold jc le lt ja at ht;simp at ht;exact jx.2 (hs.2 t.toNat (by simp only;omega))
def ja1:Nat->Val->Int->OR:=fun _ _ _=>none
theorem jg9 {n:Nat} {ρ:Val} {m:Nat} {σ:Val}:SayO n (jhP n ρ m σ) (Kp ja1 n ρ m σ):=by
 unfold jhP Kp;refine SayO.nd id fun _=>SayO.nd (fun h=>jx.2 (KM h)) fun hs=>SayO.nd id fun hm => ?_;refine SayO.cond (fun _=>SayO.nd id fun ht=>SayO.nd id fun _=>SayO.need (Vd hs ht) Vk) fun _ => ?_;refine SayO.cond (fun _=>SayO.nd id fun ht=>SayO.need (Vd hs ht) Vk) fun _ => ?_;refine SayO.cond (fun _=>SayO.nd id fun ht=>SayO.nd id fun _=>SayO.nd id fun _=>SayO.need (Vd hs ht) Vk) fun _ => ?_;refine SayO.cond (fun _=>SayO.nd id fun ht=>SayO.nd id fun _=>SayO.nd id fun _=>SayO.need (Vd hs ht) Vk) fun _ => ?_;refine SayO.cond (fun _=>SayO.none) fun _ => ?_;refine SayO.cond (fun _=>K4 hm) fun _ => ?_;refine SayO.cond (fun _=>K4 hm) fun _ => ?_;refine SayO.cond (fun _=>K4 hm) fun _ => ?_;refine SayO.cond (fun _=>K4 hm) fun _ => ?_;exact SayO.cond (fun _=>SayO.none) fun _=>SayO.none
def orB:OR->Bool | some _=>true | none=>false
def orV:OR->Int × Val | some x=>x | none=>(0,.zero)
abbrev OpF:=Nat->Val->Nat->Val->OR
def NM (O:OpF):List A1->Option (Bool × AV)
 | [.c (.sl es n ρ),.c (.sl [.str] m σ)]=>if shEq.shsEq es Ro.siSh then some (orB (O n ρ m σ),LW n (orV (O n ρ m σ))) else none
 | _=>none
theorem jdj {O:OpF} {args:List A1} {r:AV} (h:NM O args=some (true,r)):∃ n ρ m σ x,args=[.c (.sl Ro.siSh n ρ),.c (.sl [.str] m σ)]∧O n ρ m σ=some x∧r=LW n x:=by
 unfold NM at h;split at h
 ·rename_i es n ρ m σ;split at h
  ·rename_i hs;rw [jm hs];simp only [sIq,pIq] at h;cases ho:O n ρ m σ with
   | none=>rw [ho] at h;cases h.1
   | some x=>rw [ho] at h;exact ⟨n,ρ,m,σ,x,rfl,ho,h.2.symm⟩
  ·cases h
 ·cases h
theorem jru {args:List A1} {r:AV} (h:NM (Kp ja1) args=some (true,r)):(jT Tryz.prog HOp 10 174 args).All (fun x=>leA x r):=by
 obtain ⟨n,ρ,m,σ,x,e1,h1,e2⟩:=jdj h;rw [e1,e2,jjR]
 have:=jg9 (n:=n) (ρ:=ρ) (m:=m) (σ:=σ)
 rw [h1] at this;exact this
theorem jq7:jj Tryz.prog 174 (nG (NM (Kp ja1))):=by
 refine qO (H:=HOp) hOp 10 174 ?_;intro args r h;exact jru h
def WI (ρ:Val):Nat->List ByteArray
 | 0=>[]
 | n+1=>WI ρ n++[wd ρ n]
theorem k4 (ρ:Val):∀ n,(WI ρ n).length=n
 | 0=>rfl
 | n+1=>by simp [WI,k4 ρ n]
theorem To (ρ:Val):∀ (n i:Nat),i<n->(WI ρ n)[i]? = some (wd ρ i)
 | 0,_,h=>by omega
 | n + 1, i, h => by
   unfold WI;rcases Nat.lt_or_ge i n with h1 | h1
   ·rw [List.getElem?_append_left (by rw [k4];exact h1)]
    exact To ρ n i h1
   ·obtain rfl:i=n:=by omega
    rw [List.getElem?_append_right (by rw [k4];omega),k4]
    simp
def joinL (n:Nat) (ρ:Val) (sep:ByteArray):List UInt8:=Lib.join ((WI ρ n).map (·.data.toList)) sep.data.toList
def K6 (n:Nat) (ρ:Val) (sep:ByteArray):ByteArray:=⟨(joinL n ρ sep).toArray⟩
def K8 (n:Nat) (ρ:Val) (sep:ByteArray):Bool:=Nat.ble n 140737488355328&&Nat.ble (joinL n ρ sep).length 140737488355328
def G18:List A1->Option (Bool × AV)
 | [.c (.sl [.str] n ρ),.c (.str sep)]=>some (K8 n ρ sep,.one (.c (.str (K6 n ρ sep))))
 | _=>none
theorem p18:jj Tryz.prog 18 (nG G18):=by
 intro args r hG hcl F w vs hargs;have h:=zn hG;unfold G18 at h;split at h
 ·rename_i n ρ sep;simp only [sIq,pIq] at h;obtain ⟨h1,rfl⟩:=h;unfold K8 at h1;rw [aTq] at h1;have hn:=Nat.le_of_ble_eq_true h1.1;have hl:=Nat.le_of_ble_eq_true h1.2
  have zero:∀ a c,n=0->Calls Tryz.prog 18 #[.slice a 0 c,.string sep] w fun e w2=>∃ v,e=.returned v∧Below w.heap.size w w2∧AV.Rel (fun p=>F p∧p<w.heap.size) w2 [] (.one (.c (.str (K6 n ρ sep)))) v:=by
   intro a c h0;subst h0;refine (Tryz.strings_Join_none a c sep w).mono fun e w2 ⟨he,hw⟩ => ?_;subst hw;exact ⟨_,he,Below.refl _ _,CV.Rel.str _⟩
  cases hargs with
  | cons a1 a2=>cases a2 with
   | cons a2 a3 =>
     cases a3;cases a2;cases a1 with
    | slnil=>exact zero _ _ rfl
    | sl val hc h0 hcell hr =>
      rename_i cap a;rcases Nat.eq_zero_or_pos n with hz | hp
      ·subst hz;exact zero _ _ rfl
      ·obtain ⟨e1,e2,_⟩:=h0 hp;have ha:a=⟨a.block,a.off,none⟩:=by rw [← e1]
       rw [ha]
       have key:=Tryz.strings_Join a.block a.off cap (WI ρ n) sep w (fun j x hj=>by
        have hjn:j<n:=by
         have:=(List.getElem?_eq_some_iff.1 hj).1
         rwa [k4] at this
        rw [To ρ n j hjn] at hj;obtain rfl:=Option.some.inj hj
        have:=hcell j 0 hjn (by simp)
        have e:a.off+(j*[Sh.str].length+0)=a.off+j:=by simp
        rw [e] at this;rw [this];have h3:=hr j 0 .str hjn rfl;generalize val j 0=z at h3;cases h3;rfl) e2 (by rw [k4];exact hn) (by rw [k4];exact hc) hl
       rw [k4] at key;refine key.mono fun e w2 ⟨he,hw⟩ => ?_;exact ⟨_,he,hw,CV.Rel.str _⟩
 ·cases h
theorem TcOne.le {P:Program} {f:Nat} {G G':List A1->Option (Bool × AV)} (h:TcOne P f (nG G)) (hg:∀ args r,G' args=some (true,r)->G args=some (true,r)):TcOne P f (nG G'):=by
 intro args r hs;refine h args r ?_
 have:=hg args r (zn hs)
 unfold nG;rw [this];rfl
def G13:List A1->Option (Bool × AV)
 | [.c (.sl es n ρ)]=>if shEq.shsEq es Ro.siSh then some (yW n ρ,Ro.two (Ro.ckI ⟨n,ρ⟩) (Ro.ckE ⟨n,ρ⟩)) else none
 | _=>none
theorem p13:TcOne Tryz.prog 13 (nG G13):=TcOne.le Ro.p34 fun args r h=>by
 unfold G13 at h;split at h
 ·split at h
  ·rename_i es n ρ hs;rw [jm hs];simp only [sIq,pIq] at h;obtain ⟨h1,rfl⟩:=h;show some (dec (Ro.fewS ⟨n,ρ⟩),_)=some (true,_);rw [Lh h1]
  ·cases h
 ·cases h
def G51:List A1->Tree (AV × Mem)
 | [.c (.sl es n ρ)]=>if shEq.shsEq es Ro.siSh then .need (yW n ρ) (.leaf (.one (.c (.os 0 8)),[some (56,[.row false Ro.siSh n ρ])])) else .fail
 | _=>.fail
theorem n51:NcOne Tryz.prog 51 G51:=by
 intro args r m h;refine Ro.Fo.nCop args r m ?_;unfold G51 at h;split at h
 ·split at h
  ·rename_i es n ρ hs;rw [jm hs];simp only [Tree.sel] at h;cases hb:yW n ρ with
   | false=>rw [hb] at h;cases h
   | true =>
     rw [hb] at h;simp only [cond_true,sIq] at h;show (Tree.need (dec (Ro.Fo.smallS ⟨n,ρ⟩)) _).sel=_;rw [jx.2 (KM hb)];simp only [Tree.sel,cond_true,h]
  ·cases h
 ·cases h
abbrev G8F:=G8 20 20 (blK 101 20)
end Go.Proofs.YtiefjlcakpdfeaaGreat