/-
 Part TaZI of the proof: RvM RvN RvO RvA.
-/
import Derived.Test.YtiefjlcakpdfeaaGreatDoorTaZH
import Derived.Test.YtiefjlcakpdfeaaGreatDoorTaZF
import Derived.Test.YtiefjlcakpdfeaaGreatDoorTaY
namespace Go.Proofs.YtiefjlcakpdfeaaGreatDoor
open Go Go.Sx Go.RowKit Rb
set_option maxRecDepth 100000
theorem L0:∀ c k,c<4->k<3->Nat.beq (zL (onC c)) 0=false∧Nat.beq (zL (Y4 c)) 0=false∧zZ (zL (onC c))=[0]∧zZ (zL (Y4 c))=[0]∧zc 0 (sW k)=true∧Nat.ble (onC c).size 10000=true∧Nat.ble (Y4 c).size 10000=true∧Nat.ble (sW k).size 10000=true :=
 c43 (by and_intros<;>kernel_rfl)
theorem Ww {u:ByteArray} (h:Nat.ble u.size 10000=true):WL u:=Nat.le_of_ble_eq_true h
theorem jil {P:ByteArray->Prop} {a b:ByteArray} (h1:P a) (h2:P b):∀ u ∈ [a,b],P u:=fun u hu=>by
 simp only [List.mem_cons,List.not_mem_nil,or_false] at hu;rcases hu with rfl | rfl
 ·exact h1
 ·exact h2
theorem Qm {α:Type} {P:α->Prop} {a:α} (h1:P a):∀ u ∈ [a],P u:=fun u hu=>by
 simp only [List.mem_cons,List.not_mem_nil,or_false] at hu;subst hu;exact h1
theorem Yy {α:Type} {P:α->Prop}:∀ u ∈ ([]:List α),P u:=fun u hu=>by cases hu
theorem jaa {c k d:Nat} (hc:c<4) (hk:k<3) (p q:Int):WS 10000 (d+2) (doA c k p q):=by
 obtain ⟨h1,h2,h3,h4,h5,_,_,h8⟩:=L0 c k hc hk;refine .dos h1 (by rw [h3];exact .cons h5 .nil) (Qm (Ww h8)) (by show 1<10000;omega) (Qm ?_)
 exact .dos h2 (by rw [h4];exact .cons h5 .nil) (Qm (Ww h8)) (by show 0<10000;omega) Yy
theorem jpy:WX 33 cdA :=
 .bin (by kernel_rfl) (.bin (by kernel_rfl) (.plain (by kernel_rfl)) (.num (by decide) (by decide))) (.neg (.bin (by kernel_rfl) (.num (by decide) (by decide)) (.num (by decide) (by decide))))
theorem jqd {t c k d:Nat} (ht:t<3) (hc:c<4) (hk:k<3) (p q r s:Int):WS 10000 (d+3) (stA t c k p q r s):=by
 match t,ht with
 | 0,_=>exact jaa (d:=d+1) hc hk p q
 | 1,_=>exact .ifs jpy (by show 1<10000;omega) (Qm (jaa hc hk p q)) (by show 1<10000;omega) (Qm (.says (Qm (by kernel_rfl)) (by show 0<10000;omega)))
 | 2,_=>exact .reps (by decide) (by decide) (by show 1<10000;omega) (Qm (jaa hc hk p q))
theorem jpT {c k d:Nat} (hc:c<4) (hk:k<3) (hd:2<=d) (q:Int):DV (d+1) (unA c k q):=by
 obtain ⟨_,_,_,_,_,_,h7,h8⟩:=L0 c k hc hk;exact .mk hd (jil (Ww h7) (Ww h8)) (Nat.zero_le _) Yy (Nat.zero_le _) Yy
theorem jaH {c k d:Nat} (hc:c<4) (hk:k<3) (hd:2<=d) (p q:Int):DV (d+2) (doA c k p q):=by
 obtain ⟨_,_,_,_,_,h6,_,h8⟩:=L0 c k hc hk;exact .mk (by show 2<=d+1;omega) (jil (Ww h6) (Ww h8)) (by show 1<=d+1;omega) (Qm (jpT hc hk hd q)) (Nat.zero_le _) Yy
theorem jpq {t c k d:Nat} (ht:t<3) (hc:c<4) (hk:k<3) (hd:2<=d) (p q r s:Int):DV (d+3) (stA t c k p q r s):=by
 match t,ht with
 | 0,_=>exact jaH (d:=d+1) hc hk (by omega) p q
 | 1, _ =>
   refine DV.mk (Nat.zero_le _) Yy (by show 1<=d+2;omega) (Qm (jaH hc hk hd p q)) (by show 1<=d+2;omega) (Qm ?_)
   exact DV.mk (by show 1<=d+1;omega) (Qm (Ww (by kernel_rfl))) (Nat.zero_le _) Yy (Nat.zero_le _) Yy
 | 2,_=>exact DV.mk (Nat.zero_le _) Yy (by show 1<=d+2;omega) (Qm (jaH hc hk hd p q)) (Nat.zero_le _) Yy
theorem jax {c k:Nat} {p q p' q':Int}:SR (doA c k p q) (doA c k p' q'):=.mk (.cons (.mk .nil .nil) .nil) .nil
theorem jpD {t c k:Nat} (ht:t<3) (p q r s p' q' r' s':Int):SR (stA t c k p q r s) (stA t c k p' q' r' s'):=by
 match t,ht with
 | 0,_=>exact jax
 | 1,_=>exact .mk (.cons jax .nil) (.cons (.mk .nil .nil) .nil)
 | 2,_=>exact .mk (.cons jax .nil) .nil
def prT (t c k:Nat):List ByteArray:=prS jq (stZ t c k)
def PrZ (t c k:Nat):Prop:=Nat.ble (prT t c k).length 60=true∧Nat.ble (zE (prT t c k)).length 300=true∧(∀ r,jb (TM.tx (zH (prT t c k++r))) wEnd=false) ∧
 (∀ r,UE (prT t c k).length (zE (prT t c k)++r)=some (prT t c k,r))∧∀ r,(sts TM AF 10000 10000).1 (zH (prT t c k++r))=.ret (stZ t c k) (zH r)
theorem jk5:∀ t c k,t<3->c<4->k<3->PrZ t c k:=L5 (c43 (by dsimp only [PrZ];and_intros<;>(intros;kernel_rfl))) (c43 (by dsimp only [PrZ];and_intros<;>(intros;kernel_rfl))) (c43 (by dsimp only [PrZ];and_intros<;>(intros;kernel_rfl)))
theorem jld {t c k:Nat} (ht:t<3) (p q r s:Int):prS jq (stA t c k p q r s)=prT t c k:=by
 match t,ht with
 | 0,_=>show _=_;kernel_rfl
 | 1,_=>show _=_;kernel_rfl
 | 2,_=>show _=_;kernel_rfl
variable {y:Nat->Nat} {F0:Nat->Nat->Bool} {n:Nat}
def yA (y:Nat->Nat) (F0:Nat->Nat->Bool) (i:Nat):List ByteArray:=prT (tsB y i) (csB y F0 i) (ksB y i)
theorem Hh (i:Nat):PrZ (tsB y i) (csB y F0 i) (ksB y i):=jk5 _ _ _ (Nat.mod_lt _ (by decide)) (Js _ _) (Nat.mod_lt _ (by decide))
theorem jkY:DJ y F0 (yA y F0):=fun i=>⟨(Hh i).2.2.2.2,(Hh i).2.2.1⟩
theorem Y6:∀ a b:List ByteArray,zE (a++b)=zE a++zE b
 | [],b=>rfl
 | t :: a, b => by
   show 32::(lst t++zE (a++b))=32::((lst t++zE a)++zE b);rw [Y6 a b,List.append_assoc]
theorem Nx:∀ n,(flT (yA y F0) n).length<=60*n∧(zE (flT (yA y F0) n)).length<=300*n
 | 0=>⟨Nat.zero_le _,Nat.zero_le _⟩
 | n + 1 => by
   obtain ⟨h3,h4⟩:=Nx n;obtain ⟨h1,h2,_⟩:=Hh (y:=y) (F0:=F0) n;have h1:(yA y F0 n).length<=60:=Nat.le_of_ble_eq_true h1;have h2:(zE (yA y F0 n)).length<=300:=Nat.le_of_ble_eq_true h2;show (flT (yA y F0) n++yA y F0 n).length<=_∧(zE (flT (yA y F0) n++yA y F0 n)).length<=_;rw [Y6,lAq,lAq];constructor<;>omega
theorem Mk:∀ a b:List AstS,prL jq (a++b)=prL jq a++prL jq b
 | [], b => by
   have e:prL jq []=[]:=by unfold prL;rfl
   rw [e];rfl
 | t :: a, b => by
   have e:∀ l,prL jq (t::l)=prS jq t++prL jq l:=fun l=>by conv=>lhs;unfold prL
   show prL jq (t::(a++b))=_;rw [e,e,Mk a b,List.append_assoc]
theorem FF:∀ {n:Nat} {x:List AstS},IsB y F0 n x->prL jq x=flT (yA y F0) n
 | 0, x, h => by
   have:x=[]:=List.eq_nil_of_length_eq_zero h.1
   subst this;unfold prL;rfl
 | n + 1, x, h => by
   have hne:x ≠ []:=fun e=>by have:=h.1;rw [e] at this;cases this
   have hx:=List.dropLast_concat_getLast hne;generalize hd:x.dropLast=a at hx;generalize x.getLast hne=z at hx;subst hx;have hl:a.length=n:=by have:=h.1;rw [lAq] at this;exact Nat.succ.inj this
   have ha:IsB y F0 n a:=⟨hl,fun i b hb=>h.2 i b (by
    rw [jd] at hb ⊢;rw [List.getElem?_append_left (List.getElem?_eq_some_iff.1 hb).1];exact hb)⟩
   obtain ⟨p,q,r,s,rfl⟩:=h.2 n z (by rw [jd,← hl];simp)
   rw [Mk,FF ha]
   have e:∀ t,prL jq [t]=prS jq t:=fun t=>by
    have e0:prL jq []=[]:=by unfold prL;rfl
    conv=>lhs;unfold prL
    rw [e0,List.append_nil]
   rw [e,jld (t:=tsB y n) (Nat.mod_lt _ (by decide))]
   rfl
def t2B (y:Nat->Nat) (F0:Nat->Nat->Bool) (n:Nat):ByteArray:=⟨⟨KA (zq::qO::Jh (flT (yA y F0) n))⟩⟩
theorem jdN:lst (t2B y F0 n)=(lst zq++zE [qO,zj])++(zE (flT (yA y F0) n)++zE [wEnd]):=by
 show lst zq++zE (qO::zj::(flT (yA y F0) n++[wEnd]))=_;have e2:qO::zj::(flT (yA y F0) n++[wEnd])=[qO,zj]++(flT (yA y F0) n++[wEnd]):=rfl;rw [e2,Y6,Y6,List.append_assoc]
theorem MV (hn:n<=20):(t2B y F0 n).size<=8000:=by
 have h:=(Nx (y:=y) (F0:=F0) n).2;show (lst (t2B y F0 n)).length<=8000;rw [jdN];have k1:Nat.ble ((lst zq++zE [qO,zj]).length+(zE [wEnd]).length) 100=true:=by kernel_rfl
 have k1:=Nat.le_of_ble_eq_true k1;simp only [lAq] at k1 ⊢;omega
theorem jcW:∀ (n:Nat) {r:List UInt8} {us:List ByteArray},Lex r us->Lex (zE (flT (yA y F0) n)++r) (flT (yA y F0) n++us)
 | 0,r,us,h=>h
 | n + 1, r, us, h => by
   show Lex (zE (flT (yA y F0) n++yA y F0 n)++r) ((flT (yA y F0) n++yA y F0 n)++us);rw [Y6,List.append_assoc,List.append_assoc];exact jcW n (YK _ _ _ _ _ ((Hh n).2.2.2.1 r) h)
theorem jmC:Lex (lst (t2B y F0 n)) (tkH++(flT (yA y F0) n++[wEnd])):=by
 rw [jdN];refine YK 3 _ _ (zE (flT (yA y F0) n)++zE [wEnd]) _ (by kernel_rfl) (jcW n ?_)
 exact .sign (c:=125) (l:=[]) (by rfl) (by rfl) (by rfl) (.nil rfl)
theorem jhm {y:PU} {t:List ByteArray} (h:Rp y t) (hl:t.length<=yt) (hs:(KA t).length<=8000):GZ y=some (⟨⟨KA t⟩⟩,0):=by
 have e1:yZ y.n y.ρ spc=⟨⟨KA t⟩⟩:=by unfold yZ;rw [MX h]
 have e2:kS y.n y.ρ spc=true:=by
  unfold kS;rw [MX h,h.1,aTq,Nat.ble_eq,Nat.ble_eq];unfold yt at hl;constructor<;>omega
 have e3:lt 8192 (ja (⟨⟨KA t⟩⟩ : ByteArray).size)=false:=by
  have:(⟨⟨KA t⟩⟩ : ByteArray).size=(KA t).length:=rfl
  rw [this];unfold lt ja;simp;omega
 unfold GZ;rw [e1,e2,e3];rfl
abbrev Bp4:BE':=bpF (prF 33) 301
theorem Fi {x:List AstS} (h:IsB y F0 n x):∀ t ∈ x,WS 10000 300 t∧DV 300 t:=fun t ht=>by
 obtain ⟨i,hi⟩:=List.getElem?_of_mem ht;rw [← jd] at hi;obtain ⟨p,q,r,s,rfl⟩:=h.2 i t hi;exact ⟨jqd (d:=297) (Nat.mod_lt _ (by decide)) (Js _ _) (Nat.mod_lt _ (by decide)) p q r s,jpq (d:=297) (Nat.mod_lt _ (by decide)) (Js _ _) (Nat.mod_lt _ (by decide)) (by omega) p q r s⟩
theorem jeB (hn:n<=20) {x:List AstS} (h:IsB y F0 n x) {ρ:Val} (hρ:LieL x ρ):Xu 40 10001 Bp4 qO x.length ρ=some (t2B y F0 n,0):=by
 have hf:jz 40 10001 qO x.length ρ=some 0:=by
  rw [h.1];exact UB (by omega) (OW h hρ)
 have hlen:=(Nx (y:=y) (F0:=F0) n).1;obtain ⟨z,h1,r1⟩:=HH (w:=[zq,qO]) rp0 (jd2 zq qO) (by show 0+2<=yt;unfold yt;omega)
 obtain ⟨w,h2,r2⟩:=HF (K:=10000) (k:=33) (lRq _) (lRq _) 300 x (by rw [h.1];omega) (fun t ht=>(Fi h t ht).1) ρ z _ hρ r1 (by
  rw [FF h];unfold Jh yt;simp only [List.length_cons,lAq,List.length_nil];omega)
 rw [FF h] at r2;have r3:Rp w (zq::qO::Jh (flT (yA y F0) n)):=r2;unfold Xu;rw [hf];simp only [opD,opN,nd,cond_true];rw [show ((0:Int) != 0)=false by decide,h1]
 show (bpF (prF 33) (300+1) x.length ρ z).bind GZ=_;rw [h2];exact jhm r3 (by unfold Jh yt;simp only [List.length_cons,lAq,List.length_nil];omega) (MV hn)
theorem jkl (hn:n<=20):(txE y F0 n).size<=8000:=by
 unfold txE;rw [Rw];have h:=W9 (y:=y) (F0:=F0) n;have k1:Nat.ble wEnd.size 100=true:=by kernel_rfl
 have k1:=Nat.le_of_ble_eq_true k1;omega
theorem Mn {R:AstS->AstS->Prop}:∀ {l r:List AstS},l.length=r.length->(∀ i a b,nth l i=some a->nth r i=some b->R a b)->All2 R l r
 | [],[],_,_=>.nil
 | _::_,_::_,hl,h=>.cons (h 0 _ _ rfl rfl) (Mn (Nat.succ.inj hl) fun i a' b' h1 h2=>h (i+1) a' b' h1 h2)
theorem jlH {x x2:List AstS} (h:IsB y F0 n x) (h2:IsB y F0 n x2):All2 SR x x2:=Mn (by rw [h.1,h2.1]) fun i a b ha hb=>by
 obtain ⟨p,q,r,s,rfl⟩:=h.2 i a ha;obtain ⟨p',q',r',s',rfl⟩:=h2.2 i b hb;exact jpD (Nat.mod_lt _ (by decide)) p q r s p' q' r' s'
theorem jjp (hn:n<=20) {x x2:List AstS} (h:IsB y F0 n x) (h2:IsB y F0 n x2) {ρ ρ2:Val} (hρ:LieL x ρ) (hρ2:LieL x2 ρ2):U3 10000 10001 x.length ρ x2.length ρ2=some true :=
 L8 (lRq _) 10001 340 x x2 ρ ρ2 (by omega) (jlH h h2) (by rw [h.1];omega) (fun t ht=>jp1 (Fi h t ht).1 (Fi h t ht).2) (by omega) hρ hρ2
structure DL0 where
 n:Nat
 ξ:Val
 b:Int
 m:Nat
 τ:Val
 nm:ByteArray
 bn:Nat
 bρ:Val
 nm2:ByteArray
 bn2:Nat
 bρ2:Val
 wk:Nat
 wρ:Val
 sk:Nat
 sρ:Val
 s:Int
 q:Bool
 r:Bool
abbrev CL0:=DL0 × Int
def jii (c:DL0):Mem:=[KX,some (36,[.sl [.int .u8] c.n c.ξ,.int .u8 c.b,.sl [.int .i64] c.m c.τ]),some (24,[.str c.nm,.sl (jm 1) c.bn c.bρ]),some (24,[.str c.nm2,.sl (jm 1) c.bn2 c.bρ2])]
def jnx (c:DL0):List (Nat × AV):=[(1,.one (.c (.ptr 1 0))),(2,.one (.c (.bool c.r))),(4,.one (.c (.sl Ro.siSh c.wk c.wρ))),(5,.one (.c (.int .i64 c.s))),(6,.one (.c (.sl Ro.siSh c.sk c.sρ))),(7,.one (.c (.ptr 2 0))),(12,.one (.c (.ptr 3 0))),(17,.one (.c (.bool c.q)))]
def SL0 (c:CL0):St:=mkS 189 (jnx c.1++[(18,.one (.c (.int .i64 c.2)))]) (jii c.1)
def EL0 (c:DL0):St:=mkS 189 (jnx c) (jii c)
def GW:Mem->Option ((Nat × Val × Int × Nat × Val) × (ByteArray × Nat × Val) × (ByteArray × Nat × Val))
 | [some (0,[.lp 0 0 .tab]),some (36,[.sl [.int .u8] n ξ,.int .u8 b,.sl [.int .i64] m τ]),some (24,[.str nm,.sl e1 bn bρ]),some (24,[.str nm2,.sl e2 bn2 bρ2])]=>if shEq.shsEq e1 (jm 1)&&shEq.shsEq e2 (jm 1) then some ((n,ξ,b,m,τ),(nm,bn,bρ),(nm2,bn2,bρ2)) else none
 | _=>none
theorem OL {mem : Mem} {y : (Nat × Val × Int × Nat × Val) × (ByteArray × Nat × Val) × (ByteArray × Nat × Val)} (h : GW mem = some y) :
  mem=[KX,some (36,[.sl [.int .u8] y.1.1 y.1.2.1,.int .u8 y.1.2.2.1,.sl [.int .i64] y.1.2.2.2.1 y.1.2.2.2.2]),some (24,[.str y.2.1.1,.sl (jm 1) y.2.1.2.1 y.2.1.2.2]),some (24,[.str y.2.2.1,.sl (jm 1) y.2.2.2.1 y.2.2.2.2])]:=by
 unfold GW at h;split at h
 ·split at h
  ·rename_i hs;rw [aTq] at hs;cases h;rw [jj hs.1,jj hs.2];rfl
  ·cases h
 ·cases h
def jbs (l:List (Nat × AV)) (mem:Mem):Option CL0:=match l with
 | [(1, .one (.c (.ptr 1 0))), (2, .one (.c (.bool r))), (4, .one (.c (.sl e1 wk wρ))), (5, .one (.c (.int .i64 s))), (6, .one (.c (.sl e2 sk sρ))), (7, .one (.c (.ptr 2 0))), (12, .one (.c (.ptr 3 0))), (17, .one (.c (.bool q))), (18, .one (.c (.int .i64 i)))] =>
   if shEq.shsEq e1 Ro.siSh&&shEq.shsEq e2 Ro.siSh then (match GW mem with
    | some y=>some (⟨y.1.1,y.1.2.1,y.1.2.2.1,y.1.2.2.2.1,y.1.2.2.2.2,y.2.1.1,y.2.1.2.1,y.2.1.2.2,y.2.2.1,y.2.2.2.1,y.2.2.2.2,wk,wρ,sk,sρ,s,q,r⟩,i)
    | none=>none) else none
 | _=>none
def Ie (l:List (Nat × AV)) (mem:Mem):Option DL0:=match l with
 | [(1, .one (.c (.ptr 1 0))), (2, .one (.c (.bool r))), (4, .one (.c (.sl e1 wk wρ))), (5, .one (.c (.int .i64 s))), (6, .one (.c (.sl e2 sk sρ))), (7, .one (.c (.ptr 2 0))), (12, .one (.c (.ptr 3 0))), (17, .one (.c (.bool q)))] =>
   if shEq.shsEq e1 Ro.siSh&&shEq.shsEq e2 Ro.siSh then (match GW mem with
    | some y=>some ⟨y.1.1,y.1.2.1,y.1.2.2.1,y.1.2.2.2.1,y.1.2.2.2.2,y.2.1.1,y.2.1.2.1,y.2.1.2.2,y.2.2.1,y.2.2.2.1,y.2.2.2.2,wk,wρ,sk,sρ,s,q,r⟩
    | none=>none) else none
 | _=>none
theorem jfJ:∀ l m c,jbs l m=some c->mkS 189 l m=SL0 c:=by
 intro l m c h;unfold jbs at h;split at h
 ·split at h
  ·rename_i hs;rw [aTq] at hs;rw [jj hs.1,jj hs.2];split at h
   ·rename_i y hy;cases h;rw [OL hy];rfl
   ·cases h
  ·cases h
 ·cases h
theorem jcZ:∀ l m c,Ie l m=some c->mkS 189 l m=EL0 c:=by
 intro l m c h;unfold Ie at h;split at h
 ·split at h
  ·rename_i hs;rw [aTq] at hs;rw [jj hs.1,jj hs.2];split at h
   ·rename_i y hy;cases h;rw [OL hy];rfl
   ·cases h
  ·cases h
 ·cases h
def AL0:Sx.Frame CL0 DL0:=⟨1,189,[1,2,4,5,6,7,12,17,18],jbs,SL0,[1,2,4,5,6,7,12,17],Ie,EL0⟩
theorem aL0:AL0.Ok:=.of_eq jfJ jcZ
def jck (τ:Val) (i:Int):Bool:=(((τ.at i.toNat).at 0).N []).tmod 2 != 0
def rL0 (g:CL0->Tree (XP × DL0)) (c:CL0):Tree (XP × DL0) :=
 .br (lt c.2 c.1.s&&lt c.2 (ja c.1.m)) (.need (!(c.1.q==false&&true)||jc c.2 c.1.m) (.need (!(c.1.q==false&&true)||true) (g ({ c.1 with q:=c.1.q||jck c.1.τ c.2 },IntKind.wrap .i64 (c.2+1))))) (.leaf (.exit 0,c.1))
theorem jo3 (g:CL0->Tree (XP × DL0)) (c:DL0) (i:Int):jD AL0 Tryz.prog HE X0 10 4 0 g (c,i)=rL0 g (c,i):=by kernel_rfl
def orS (s:Int) (m:Nat) (τ:Val):Nat->Int->Bool->Option Bool
 | 0,_,_=>none
 | k+1,i,q=>bif (lt i s&&lt i (ja m)) then nd (q||jc i m) (orS s m τ k (IntKind.wrap .i64 (i+1)) (q||jck τ i)) else some q
def gL0 (k:Nat) (c:CL0):Tree (XP × DL0) :=
 let o:=orS c.1.s c.1.m c.1.τ k c.2 c.1.q
 .need (os1 o) (.leaf (.exit 0,{ c.1 with q:=ov1 false o }))
theorem M2 (k:Nat) (c:CL0):(gL0 k c).sel=(orS c.1.s c.1.m c.1.τ k c.2 c.1.q).map fun q=>(.exit 0,{ c.1 with q:=q }):=by
 unfold gL0;cases orS c.1.s c.1.m c.1.τ k c.2 c.1.q<;>rfl
theorem jm1 (k:Nat) (c:CL0) (x:XP × DL0) (h:(gL0 (k+1) c).sel=some x):(jD AL0 Tryz.prog HE X0 10 4 0 (gL0 k) c).sel=some x:=by
 obtain ⟨c,i⟩:=c;rw [jo3];rw [M2] at h;unfold orS at h;unfold rL0;simp only [j9,jG,j3,M2];revert h;cases lt i c.s&&lt i (ja c.m) with
 | false=>exact fun h=>h
 | true =>
   obtain ⟨n,ξ,b,m,τ,nm,bn,bρ,nm2,bn2,bρ2,wk,wρ,sk,sρ,s,q,r⟩:=c;cases q with
  | true=>exact fun h=>h
  | false =>
    cases hr:jc i m with
   | false=>simp only;exact fun h=>by cases h
   | true=>simp only;exact fun h=>h
theorem jnr:∀ k,CoreOk Tryz.prog 4 0 1 SL0 EL0 (gL0 k) :=
 CoreOk.fuel (A:=AL0) aL0 HdOk.nil x0 10 (fun _=>rfl) jm1
def jlO (c:CL0):Tree (XP × DL0):=gL0 (c.1.m+1) c
structure DL1 where
 wk:Nat
 wρ:Val
 s:Int
 sk:Nat
 sρ:Val
 q:Bool
 ak:Nat
 aρ:Val
 pn:Nat
 pρ:Val
 e:Int
 r:Bool
abbrev CL1:=DL1 × Nat × Val × Int
def jnY (c:DL1):List (Nat × AV):=[(2,.one (.c (.bool c.r))),(4,.one (.c (.sl Ro.siSh c.wk c.wρ))),(5,.one (.c (.int .i64 c.s))),(6,.one (.c (.sl Ro.siSh c.sk c.sρ))),(17,.one (.c (.bool c.q))),(19,.one (.c (.sl Ro.siSh c.ak c.aρ))),(20,.one (.c (.sl [.str] c.pn c.pρ))),(22,.one (.c (.int .i64 c.e)))]
def SL1 (c:CL1):St:=mkS 189 (jnY c.1++[(24,.one (.c (.sl [.str] c.2.1 c.2.2.1))),(27,.one (.c (.int .i64 c.2.2.2)))]) [KX]
def EL1 (c:DL1):St:=mkS 189 (jnY c) [KX]
def jcv (l:List (Nat × AV)) (mem:Mem):Option CL1:=match l,mem with
 | [(2, .one (.c (.bool r))), (4, .one (.c (.sl e1 wk wρ))), (5, .one (.c (.int .i64 s))), (6, .one (.c (.sl e2 sk sρ))), (17, .one (.c (.bool q))), (19, .one (.c (.sl e3 ak aρ))), (20, .one (.c (.sl [.str] pn pρ))), (22, .one (.c (.int .i64 e))), (24, .one (.c (.sl [.str] pn2 pρ2))), (27, .one (.c (.int .i64 i)))], [some (0, [.lp 0 0 .tab])] =>
   if shEq.shsEq e1 Ro.siSh&&shEq.shsEq e2 Ro.siSh&&shEq.shsEq e3 Ro.siSh then some (⟨wk,wρ,s,sk,sρ,q,ak,aρ,pn,pρ,e,r⟩,pn2,pρ2,i) else none
 | _,_=>none
def Du (l:List (Nat × AV)) (mem:Mem):Option DL1:=match l,mem with
 | [(2, .one (.c (.bool r))), (4, .one (.c (.sl e1 wk wρ))), (5, .one (.c (.int .i64 s))), (6, .one (.c (.sl e2 sk sρ))), (17, .one (.c (.bool q))), (19, .one (.c (.sl e3 ak aρ))), (20, .one (.c (.sl [.str] pn pρ))), (22, .one (.c (.int .i64 e)))], [some (0, [.lp 0 0 .tab])] =>
   if shEq.shsEq e1 Ro.siSh&&shEq.shsEq e2 Ro.siSh&&shEq.shsEq e3 Ro.siSh then some ⟨wk,wρ,s,sk,sρ,q,ak,aρ,pn,pρ,e,r⟩ else none
 | _,_=>none
theorem jeI:∀ l m c,jcv l m=some c->mkS 189 l m=SL1 c:=by
 intro l m c h;unfold jcv at h;split at h
 ·split at h
  ·rename_i hs;rw [aTq,aTq] at hs;cases h;rw [jj hs.1.1,jj hs.1.2,jj hs.2];rfl
  ·cases h
 ·cases h
theorem jdX:∀ l m c,Du l m=some c->mkS 189 l m=EL1 c:=by
 intro l m c h;unfold Du at h;split at h
 ·split at h
  ·rename_i hs;rw [aTq,aTq] at hs;cases h;rw [jj hs.1.1,jj hs.1.2,jj hs.2];rfl
  ·cases h
 ·cases h
def AL1:Sx.Frame CL1 DL1:=⟨1,189,[2,4,5,6,17,19,20,22,24,27],jcv,SL1,[2,4,5,6,17,19,20,22],Du,EL1⟩
theorem aL1:AL1.Ok:=.of_eq jeI jdX
def rL1 (g:CL1->Tree (XP × DL1)) (c:CL1):Tree (XP × DL1) :=
 let i:=c.2.2.2
 .br (lt i (ja c.1.pn)) (.need (jc i c.1.pn) (.need (jc i c.2.1) (.br (!(jb (wd c.1.pρ i.toNat) (wd c.2.2.1 i.toNat))) (.leaf (.ret,{ c.1 with r:=false })) (g (c.1,c.2.1,c.2.2.1,IntKind.wrap .i64 (i+1)))))) (.leaf (.exit 2,c.1))
theorem jnX (g:CL1->Tree (XP × DL1)) (c:DL1) (pn2:Nat) (pρ2:Val) (i:Int):jD AL1 Tryz.prog HE X0 10 4 1 g (c,pn2,pρ2,i)=rL1 g (c,pn2,pρ2,i):=by kernel_rfl
def Vd (pn:Nat) (pρ:Val) (pn2:Nat) (pρ2:Val):Nat->Int->Option Bool
 | 0,_=>none
 | k+1,i=>bif lt i (ja pn) then nd (jc i pn) (nd (jc i pn2) (bif !(jb (wd pρ i.toNat) (wd pρ2 i.toNat)) then some false else Vd pn pρ pn2 pρ2 k (IntKind.wrap .i64 (i+1)))) else some true
def jpo (c:DL1):Option Bool->Option (XP × DL1)
 | some true=>some (.exit 2,c)
 | some false=>some (.ret,{ c with r:=false })
 | none=>none
def gL1 (k:Nat) (c:CL1):Tree (XP × DL1) :=
 let o:=Vd c.1.pn c.1.pρ c.2.1 c.2.2.1 k c.2.2.2
 .need (os1 o) (.br (ov1 false o) (.leaf (.exit 2,c.1)) (.leaf (.ret,{ c.1 with r:=false })))
theorem Mg (k:Nat) (c:CL1):(gL1 k c).sel=jpo c.1 (Vd c.1.pn c.1.pρ c.2.1 c.2.2.1 k c.2.2.2):=by
 unfold gL1;cases Vd c.1.pn c.1.pρ c.2.1 c.2.2.1 k c.2.2.2 with
 | none=>rfl
 | some x=>cases x<;>rfl
theorem jnt (k:Nat) (c:CL1) (x:XP × DL1) (h:(gL1 (k+1) c).sel=some x):(jD AL1 Tryz.prog HE X0 10 4 1 (gL1 k) c).sel=some x:=by
 obtain ⟨c,pn2,pρ2,i⟩:=c;rw [jnX];rw [Mg] at h;unfold Vd at h;unfold rL1;simp only [j9,jG,j3,Mg];revert h;cases lt i (ja c.pn) with
 | false=>exact fun h=>h
 | true =>
   cases jc i c.pn with
  | false=>exact fun h=>h
  | true =>
    cases jc i pn2 with
   | false=>exact fun h=>h
   | true =>
     simp only [nd,cond_true];cases jb (wd c.pρ i.toNat) (wd pρ2 i.toNat)<;>exact fun h=>h
theorem jmv:∀ k,CoreOk Tryz.prog 4 1 1 SL1 EL1 (gL1 k) :=
 CoreOk.fuel (A:=AL1) aL1 HdOk.nil x0 10 (fun _=>rfl) jnt
def jn4 (c:CL1):Tree (XP × DL1):=gL1 (c.1.pn+1) c
def X4:HdP:=⟨[],[],[],[((4,0),qz AL0 jlO),((4,1),qz AL1 jn4)],[],0,[]⟩
theorem x4:XOk Tryz.prog X4 :=
 XOk.lxCons (XOk.lxCons XOk.nil (CoreOk.lx (g:=jn4) aL1 fun fn c b h1 h2 h3 c0 x hx=>jmv _ fn c b h1 h2 h3 c0 x hx)) (CoreOk.lx (g:=jlO) aL0 fun fn c b h1 h2 h3 c0 x hx=>jnr _ fn c b h1 h2 h3 c0 x hx)
end Go.Proofs.YtiefjlcakpdfeaaGreatDoor
namespace Go.Proofs.YtiefjlcakpdfeaaGreatDoor
open Go Go.Sx Go.RowKit Rb
set_option maxRecDepth 100000
def or2 (a b:Bool):Bool:=bif a then true else b
noncomputable abbrev H4t (T:PyF) (p:PrF) (Q:PaF) (S:RBB) (C:ChF) (R:Us):Hd:=⟨[],[(8,nG (G8p Q)),(10,nG G7),(11,nG (G11 T)),(12,nG Ta),(13,nG (G10 S)),(14,nG (G29 C)),(15,nG (G15 R)),(16,nG LY)],[],[(7,jaD (u7p p))]⟩
noncomputable abbrev v4 (T:PyF) (p:PrF) (Q:PaF) (S:RBB) (C:ChF) (R:Us) (n:Nat) (ξ:Val) (b:Int) (m:Nat) (τ:Val):Tree AV:=HT Tryz.prog (H4t T p Q S C R) X4 10 4 [.agg [.sl [.int .u8] n ξ,.int .u8 b,.sl [.int .i64] m τ]]
theorem jnv (T : PyF) (p : PrF) (Q : PaF) (S : RBB) (C : ChF) (R : Us) (n : Nat) (ξ : Val) (b : Int) (m : Nat) (τ : Val) :
  (v4 T p Q S C R n ξ b m τ).follow [true]=some ([(or2 (lt 20 (ja n)) (lt 60 (ja m)),true),(true,true)],jF true):=by kernel_rfl
section
variable (T:PyF) (p:PrF) (Q:PaF) (S:RBB) (C:ChF) (R:Us) (n:Nat) (ξ:Val) (b:Int) (m:Nat) (τ:Val)
def tvL:DPt:=ov1 dP0 (T n ξ b m τ)
def txL:ByteArray:=jn (tvL T n ξ b m τ).t wEnd
def bkL:Kj:=oV (Q (txL T n ξ b m τ))
def pbL:Option (ByteArray × Int):=p (bkL T Q n ξ b m τ).1 (bkL T Q n ξ b m τ).2.1.length (jO (bkL T Q n ξ b m τ).2.1)
def zL4:ByteArray × Int:=ov1 pr0 (pbL T p Q n ξ b m τ)
def xL:Kj:=oV (Q (zL4 T p Q n ξ b m τ).1)
def sL:Option Bool:=S (bkL T Q n ξ b m τ).2.1.length (jO (bkL T Q n ξ b m τ).2.1) (xL T p Q n ξ b m τ).2.1.length (jO (xL T p Q n ξ b m τ).2.1)
def erL:Bool:=or2 (or2 ((bkL T Q n ξ b m τ).2.2.2 != 0) ((zL4 T p Q n ξ b m τ).2 != 0)) ((xL T p Q n ξ b m τ).2.2.2 != 0)
def nmL:Bool:=jb (bkL T Q n ξ b m τ).1 (xL T p Q n ξ b m τ).1
def ckL:Option (Int × Int):=C (bkL T Q n ξ b m τ).1 (bkL T Q n ξ b m τ).2.1.length (jO (bkL T Q n ξ b m τ).2.1) 3 (y5 b)
def fsL:Option Bool:=orS (tvL T n ξ b m τ).s m τ (m+1) 0 false
def rbL:Option RunR:=R (bkL T Q n ξ b m τ).1 (bkL T Q n ξ b m τ).2.1.length (jO (bkL T Q n ξ b m τ).2.1) 3 (y5 b) m τ
def rxL:Option RunR:=R (xL T p Q n ξ b m τ).1 (xL T p Q n ξ b m τ).2.1.length (jO (xL T p Q n ξ b m τ).2.1) 3 (y5 b) m τ
def vbL:RunR:=ov1 rr0 (rbL T Q R n ξ b m τ)
def vxL:RunR:=ov1 rr0 (rxL T p Q R n ξ b m τ)
def ja8:Option Bool:=Zf (vbL T Q R n ξ b m τ).sn (vbL T Q R n ξ b m τ).sρ (vxL T p Q R n ξ b m τ).sn (vxL T p Q R n ξ b m τ).sρ
def lnL:Option Bool:=Vd (vbL T Q R n ξ b m τ).pn (vbL T Q R n ξ b m τ).pρ (vxL T p Q R n ξ b m τ).pn (vxL T p Q R n ξ b m τ).pρ ((vbL T Q R n ξ b m τ).pn+1) 0
def jct (f:Bool):List (Bool × Bool):=[(or2 (lt 20 (ja n)) (lt 60 (ja m)),false),(os1 (T n ξ b m τ),true),(true,true),(oB (Q (txL T n ξ b m τ)),true),(os1 (pbL T p Q n ξ b m τ),true),(oB (Q (zL4 T p Q n ξ b m τ).1),true),
 (!((erL T p Q n ξ b m τ==false)&&true)||(!((nmL T p Q n ξ b m τ==true)&&true)||os1 (sL T p Q S n ξ b m τ)),true),
 (or2 (erL T p Q n ξ b m τ) (!(Vp (nmL T p Q n ξ b m τ) (ov1 false (sL T p Q S n ξ b m τ)))),false),
 (os1 (ckL T Q C n ξ b m τ),true),((ov1 (0,0) (ckL T Q C n ξ b m τ)).2 != 0,false),(os1 (fsL T n ξ b m τ),true),(os1 (rbL T Q R n ξ b m τ),true),(os1 (rxL T p Q R n ξ b m τ),true),
 (!((((vbL T Q R n ξ b m τ).e != (vxL T p Q R n ξ b m τ).e)==false)&&true)||os1 (ja8 T p Q R n ξ b m τ),true),
 (or2 (or2 ((vbL T Q R n ξ b m τ).e != (vxL T p Q R n ξ b m τ).e) (!(ov1 false (ja8 T p Q R n ξ b m τ)))) (ja (vbL T Q R n ξ b m τ).pn != ja (vxL T p Q R n ξ b m τ).pn),false),
 (os1 (lnL T p Q R n ξ b m τ),true),(ov1 false (lnL T p Q R n ξ b m τ),true),(ov1 false (fsL T n ξ b m τ),f)]
def jcg:Option Bool:=Zf (vbL T Q R n ξ b m τ).sn (vbL T Q R n ξ b m τ).sρ 3 (y5 b)
def jaU:Option Bool:=Zf (vbL T Q R n ξ b m τ).sn (vbL T Q R n ξ b m τ).sρ (tvL T n ξ b m τ).k (tvL T n ξ b m τ).ρ
theorem jmI : (v4 T p Q S C R n ξ b m τ).follow [false, false, false, false, true, true] = let e := (vbL T Q R n ξ b m τ).e == 29; let q := jcg T Q R n ξ b m τ
  some (jct T p Q S C R n ξ b m τ true++[(!((e==true)&&true)||os1 q,true),(!((Vp e (ov1 false q)==true)&&true)||true,true)],jF (Vp (Vp e (ov1 false q)) true)):=by kernel_rfl
theorem jmV : (v4 T p Q S C R n ξ b m τ).follow [false, false, false, false, true, false] = let e := (vbL T Q R n ξ b m τ).e == 0; let q := jaU T Q R n ξ b m τ; let l := ja (vbL T Q R n ξ b m τ).pn == (tvL T n ξ b m τ).s
  some (jct T p Q S C R n ξ b m τ false++[(!((e==true)&&true)||os1 q,true),(!((Vp (Vp e (ov1 false q)) l==true)&&true)||true,true)],jF (Vp (Vp (Vp e (ov1 false q)) l) true)):=by kernel_rfl
end
end Go.Proofs.YtiefjlcakpdfeaaGreatDoor
namespace Go.Proofs.YtiefjlcakpdfeaaGreatDoor
open Go Go.Sx Go.RowKit Rb
set_option maxRecDepth 100000
def Xa (R:RXX) (n:Nat) (ρ:Val) (m:Nat) (σ:Val) (l:Int):Nat->Int->Option Bool
 | 0,_=>none
 | k+1,i=>bif lt i l then nd (jc i n) (nd (jc i m) ((R (jW ρ i.toNat) (jW σ i.toNat)).bind fun b=>bif !b then some false else Xa R n ρ m σ l k (IntKind.wrap .i64 (i+1)))) else some true
theorem MY (R:RXX) (x y:RX) (l:Int):∀ k i,Xa R x.n x.ρ y.n y.ρ l k i=WU R x y l k i
 | 0,_=>rfl
 | k + 1, i => by
   unfold Xa WU;have h:=MY R x y l k (IntKind.wrap .i64 (i+1));rw [h]
abbrev Xd:=((Nat × Val) × (Nat × Val)) × Bool × Int × Int
def jhx (c:Xd):St:=mkS 32 [(1,.one (.c (.sl (jm 0) c.1.2.1 c.1.2.2))),(2,.one (.c (.fn (.func 60) [] []))),(6,.one (.c (.bool c.2.1))),(15,.one (.c (.sl (jm 0) c.1.1.1 c.1.1.2))),(16,.one (.c (.int .i64 c.2.2.1))),(17,.one (.c (.int .i64 c.2.2.2)))] []
def TQ:List (Nat × AV)->Mem->Option Xd
 | [(1,.one (.c (.sl es n ρ))),(2,.one (.c (.fn (.func 60) [] []))),(6,.one (.c (.bool b))),(15,.one (.c (.sl es' m κ))),(16,.one (.c (.int .i64 l))),(17,.one (.c (.int .i64 i)))],[]=>if shEq.shsEq es (jm 0)&&shEq.shsEq es' (jm 0) then some (((m,κ),(n,ρ)),b,l,i) else none
 | _,_=>none
theorem jc9:∀ l m c,TQ l m=some c->mkS 32 l m=jhx c:=by
 intro l m c h;unfold TQ at h;split at h
 ·split at h
  ·rename_i hs;rw [aTq] at hs;cases h;rw [jj hs.1,jj hs.2];rfl
  ·cases h
 ·cases h
def Aq85:Sx.Frame Xd Bool:=⟨0,32,[1,2,6,15,16,17],TQ,jhx,[6],XM,Gy⟩
theorem jop:Aq85.Ok:=.of_eq jc9 Vn
noncomputable abbrev FV (R:RXX):Hd:=⟨[(60,nG (G99 R))],[],[],[]⟩
theorem jmT {R:RXX} (hR:TcOne Tryz.prog 60 (nG (G99 R))):HdOk Tryz.prog (FV R):=HdOk.nil.tcCons hR
def jnn (R:RXX) (g:Xd->Tree (XP × Bool)) (c:Xd):Tree (XP × Bool) :=
 let i:=c.2.2.2
 let o:=R (jW c.1.1.2 i.toNat) (jW c.1.2.2 i.toNat)
 .br (lt i c.2.2.1) (.need (jc i c.1.1.1) (.need (jc i c.1.2.1) (.need (os1 o) (.br (!ov1 false o) (.leaf (.ret,false)) (g (c.1,c.2.1,c.2.2.1,IntKind.wrap .i64 (i+1))))))) (.leaf (.exit 0,c.2.1))
theorem jkf (R:RXX) (g:Xd->Tree (XP × Bool)) (n:Nat) (ρ:Val) (m:Nat) (σ:Val) (b:Bool) (l i:Int):jD Aq85 Tryz.prog (FV R) X0 10 85 0 g (((n,ρ),(m,σ)),b,l,i)=jnn R g (((n,ρ),(m,σ)),b,l,i):=by kernel_rfl
def Ns (R:RXX) (k:Nat) (c:Xd):Tree (XP × Bool) :=
 let x:=Xa R c.1.1.1 c.1.1.2 c.1.2.1 c.1.2.2 c.2.2.1 k c.2.2.2
 .need (obD x) (.br (obV x) (.leaf (.exit 0,c.2.1)) (.leaf (.ret,false)))
def joO (r:Bool):Option Bool->Option (XP × Bool)
 | some true=>some (.exit 0,r)
 | some false=>some (.ret,false)
 | none=>none
theorem Fg (R:RXX) (k:Nat) (c:Xd):(Ns R k c).sel=joO c.2.1 (Xa R c.1.1.1 c.1.1.2 c.1.2.1 c.1.2.2 c.2.2.1 k c.2.2.2):=by
 unfold Ns;cases Xa R c.1.1.1 c.1.1.2 c.1.2.1 c.1.2.2 c.2.2.1 k c.2.2.2 with
 | none=>rfl
 | some x=>cases x<;>rfl
theorem jls (R:RXX) (k:Nat) (c:Xd) (x:XP × Bool) (h:(Ns R (k+1) c).sel=some x):(jD Aq85 Tryz.prog (FV R) X0 10 85 0 (Ns R k) c).sel=some x:=by
 obtain ⟨⟨⟨m,κ⟩,⟨n,ρ⟩⟩,b,l,i⟩:=c;rw [jkf];rw [Fg] at h;unfold Xa at h;unfold jnn;simp only [j9,jG,j3,Fg];revert h;cases lt i l with
 | false=>exact fun h=>h
 | true =>
   cases jc i m with
  | false=>exact fun h=>h
  | true =>
    cases jc i n with
   | false=>exact fun h=>h
   | true =>
     simp only [nd,cond_true];cases R (jW κ i.toNat) (jW ρ i.toNat) with
    | none=>exact fun h=>h
    | some b=>cases b<;>exact fun h=>h
theorem jjq {R:RXX} (hR:TcOne Tryz.prog 60 (nG (G99 R))):∀ k,CoreOk Tryz.prog 85 0 0 jhx Gy (Ns R k) :=
 CoreOk.fuel (A:=Aq85) jop (jmT hR) x0 10 (fun _=>rfl) (jls R)
def jig (R:RXX) (c:Xd):Tree (XP × Bool):=Ns R (c.1.1.1+1) c
def jgs (R:RXX):HdP:=⟨[],[],[],[((85,0),qz Aq85 (jig R))],[],0,[]⟩
theorem jqM {R:RXX} (hR:TcOne Tryz.prog 60 (nG (G99 R))):XOk Tryz.prog (jgs R):=XOk.nil.lxCons (CoreOk.lx (g:=jig R) jop fun fn c b h1 h2 h3 c0 x hx=>jjq hR _ fn c b h1 h2 h3 c0 x hx)
def Wp (R:RXX) (n:Nat) (ρ:Val) (m:Nat) (σ:Val):Option Bool:=bif ja n != ja m then some false else Xa R n ρ m σ (ja n) (n+1) 0
def jbH (R:RXX):List A1->Option (Bool × AV)
 | [.c (.sl es n ρ),.c (.sl es' m σ),.c (.fn (.func 60) [] [])]=>if shEq.shsEq es (jm 0)&&shEq.shsEq es' (jm 0) then some (obD (Wp R n ρ m σ),jF (obV (Wp R n ρ m σ))) else none
 | _=>none
def jf1 (R:RXX) (n:Nat) (ρ:Val) (m:Nat) (σ:Val):Tree AV :=
 let x:=Xa R n ρ m σ (ja n) (n+1) 0
 .br (ja n != ja m) (.leaf (jF false)) (.need (obD x) (.br (obV x) (.leaf (jF true)) (.leaf (jF false))))
theorem jiT (R:RXX) (n:Nat) (ρ:Val) (m:Nat) (σ:Val):qf Tryz.prog (FV R) (jgs R) 10 85 [.c (.sl (jm 0) n ρ),.c (.sl (jm 0) m σ),.c (.fn (.func 60) [] [])]=jf1 R n ρ m σ:=by kernel_rfl
theorem jeC {R:RXX} {n:Nat} {ρ:Val} {m:Nat} {σ:Val} (h:obD (Wp R n ρ m σ)=true):(jf1 R n ρ m σ).All (fun x=>leA x (jF (obV (Wp R n ρ m σ)))):=by
 unfold jf1;unfold Wp at h ⊢;revert h;cases (ja n != ja m) with
 | true=>exact fun _=>jl rfl leA.refl
 | false =>
   simp only [cond_false];cases Xa R n ρ m σ (ja n) (n+1) 0 with
  | none=>exact fun h=>by cases h
  | some b=>cases b<;>exact fun _=>jl rfl leA.refl
theorem jev {R:RXX} {args:List A1} {r:AV} (h:jbH R args=some (true,r)):∃ n ρ m σ,args=[.c (.sl (jm 0) n ρ),.c (.sl (jm 0) m σ),.c (.fn (.func 60) [] [])]∧obD (Wp R n ρ m σ)=true∧r=jF (obV (Wp R n ρ m σ)):=by
 unfold jbH at h;split at h
 ·rename_i es n ρ es' m σ;split at h
  ·rename_i hs;rw [aTq] at hs;rw [jj hs.1,jj hs.2];simp only [sIq,pIq] at h;exact ⟨n,ρ,m,σ,rfl,h.1,h.2.symm⟩
  ·cases h
 ·cases h
theorem jrx {R:RXX} (hR:TcOne Tryz.prog 60 (nG (G99 R))):UcOne Tryz.prog 85 (nG (jbH R)):=by
 refine jR (H:=FV R) (X:=jgs R) (jmT hR) (jqM hR) 10 85 ?_;intro args r h;obtain ⟨n,ρ,m,σ,e1,h1,e2⟩:=jev h;rw [e1,e2,jiT];exact jeC h1
noncomputable abbrev jmZ (R:RXX):Hd:=⟨[],[(85,nG (jbH R))],[],[]⟩
theorem jrX {R:RXX} (hR:TcOne Tryz.prog 60 (nG (G99 R))):HdOk Tryz.prog (jmZ R):=HdOk.nil.ucCons (jrx hR)
def sxA (x y:RX):Bool:=bif jb x.op y.op then x.v==y.v else false
def jfm (R:RXX) (x y:RX):Tree AV :=
 let q:=Wp R x.n x.ρ y.n y.ρ
 .need (!((sxA x y==true)&&true)||obD q) (.leaf (jF (bif sxA x y then obV q else false)))
theorem jk7 (R : RXX) (o : ByteArray) (v : Int) (n : Nat) (ρ : Val) (o' : ByteArray) (v' : Int) (m : Nat) (σ : Val) :
  (jU Tryz.prog (jmZ R) 10 60 [.agg [.str o,.int .i64 v,.sl (jm 0) n ρ],.agg [.str o',.int .i64 v',.sl (jm 0) m σ]] []).vals=jfm R ⟨o,v,n,ρ⟩ ⟨o',v',m,σ⟩:=by kernel_rfl
theorem jhU {R:RXX} {x y:RX} (h:os1 (au R x y)=true):(jfm R x y).All (fun z=>z=jF (ov1 false (au R x y))):=by
 unfold jfm sxA;unfold au jaA at h ⊢;have e:=MY R x y (ja x.n) (x.n+1) 0;unfold Wp;rw [e];revert h;cases jb x.op y.op with
 | false=>exact fun _=>jl rfl rfl
 | true =>
   cases hv:(x.v==y.v) with
  | false =>
    have:(x.v != y.v)=true:=by rw [bne,hv];rfl
    rw [this];exact fun _=>jl rfl rfl
  | true =>
    have:(x.v != y.v)=false:=by rw [bne,hv];rfl
    rw [this];cases hn:(ja x.n != ja y.n) with
   | true=>exact fun _=>jl rfl rfl
   | false =>
     simp only [Bool.not_true,cond_true,cond_false];cases WU R x y (ja x.n) (x.n+1) 0 with
    | none=>exact fun h=>by cases h
    | some b=>exact fun _=>⟨rfl,rfl⟩
theorem jqm {R:RXX} (hR:TcOne Tryz.prog 60 (nG (G99 R))):TcOne Tryz.prog 60 (nG (G99 (au R))):=qE (jrX hR) 10 60 fun args r h=>by
 unfold G99 at h;split at h
 ·rename_i o v es n ρ o' v' es' m σ;split at h
  ·rename_i hs;rw [aTq] at hs;rw [jj hs.1,jj hs.2];simp only [sIq,pIq] at h;obtain ⟨h1,rfl⟩:=h;exact ⟨rfl,_,jk7 R o v n ρ o' v' m σ,jhU h1⟩
  ·cases h
 ·cases h
theorem p60:∀ f,TcOne Tryz.prog 60 (nG (G99 (UZ f)))
 | 0 => by
   intro args r h;have h:=zA h;unfold G99 at h;split at h
   ·split at h
    ·simp only [sIq,pIq] at h;have h1:os1 (none:Option Bool)=true:=h.1;cases h1
    ·cases h
   ·cases h
 | f+1=>jqm (p60 f)
def yQ (X:RXX) (R:RBB) (s t:RS):Option Bool:=(Gd X R s t).bind fun c=>some (!c)
def G59 (X:RXX) (R:RBB):List A1->Option (Bool × AV)
 | [a,b]=>(match UK a,UK b with
  | some s,some t=>some (os1 (yQ X R s t),jF (ov1 false (yQ X R s t)))
  | _,_=>none)
 | _=>none
theorem jgO {X:RXX} {R:RBB} {args:List A1} {r:AV} (h:G59 X R args=some (true,r)):∃ s t:RS,args=[.agg s.cells,.agg t.cells]∧os1 (yQ X R s t)=true∧r=jF (ov1 false (yQ X R s t)):=by
 unfold G59 at h;split at h
 ·split at h
  ·rename_i a b s t hs ht;simp only [sIq,pIq] at h;exact ⟨s,t,by rw [QN hs,QN ht],h.1,h.2.symm⟩
  ·cases h
 ·cases h
noncomputable abbrev H59 (X:RXX) (R:RBB):Hd:=⟨[(60,nG (G99 X))],[(19,nG G16),(34,nG (G43 R))],[],[]⟩
theorem h59 {X:RXX} (hX:TcOne Tryz.prog 60 (nG (G99 X))) {R:RBB} (hR:UcOne Tryz.prog 34 (nG (G43 R))):HdOk Tryz.prog (H59 X R):=((HdOk.nil.ucCons hR).ucCons p16).tcCons hX
def Gg (s t:RS):Bool:=jb s.kind t.kind
def VN (s t:RS):Bool:=bif Gg s t then ov1 false (Q9 s.wn s.wρ t.wn t.wρ) else false
def Ul (X:RXX) (s t:RS):Bool:=bif VN s t then ov1 false (X s.cond t.cond) else false
def VG (X:RXX) (R:RBB) (s t:RS):Bool:=bif Ul X s t then ov1 false (R s.bn s.bρ t.bn t.bρ) else false
def jag (X:RXX) (R:RBB) (s t:RS):Bool:=bif VG X R s t then ov1 false (R s.en s.eρ t.en t.eρ) else false
def t59 (X:RXX) (R:RBB) (s t:RS):Tree AV :=
 .need (!((Gg s t==true)&&true)||os1 (Q9 s.wn s.wρ t.wn t.wρ)) (.need (!((VN s t==true)&&true)||os1 (X s.cond t.cond)) (.need (!((Ul X s t==true)&&true)||os1 (R s.bn s.bρ t.bn t.bρ))
  (.need (!((VG X R s t==true)&&true)||os1 (R s.en s.eρ t.en t.eρ)) (.leaf (jF (jag X R s t))))))
theorem jnu (X:RXX) (R:RBB) (s t:RS):j5 Tryz.prog (H59 X R) 10 59 [.agg s.cells,.agg t.cells]=t59 X R s t:=by kernel_rfl
theorem jlg {X:RXX} {R:RBB} {s t:RS} (h:os1 (yQ X R s t)=true):(t59 X R s t).All (fun z=>leA z (jF (ov1 false (yQ X R s t)))):=by
 have e1:jah s t=!Gg s t:=rfl;have e2:TT s t=!VN s t:=by unfold TT VN;rw [e1];cases Gg s t<;>rfl
 have e3:Im X s t=!Ul X s t:=by unfold Im Ul;rw [e2];cases VN s t<;>rfl
 have e4:DZ X R s t=!VG X R s t:=by unfold DZ VG;rw [e3];cases Ul X s t<;>rfl
 have e5:jaQ X R s t=!jag X R s t:=by unfold jaQ jag;rw [e4];cases VG X R s t<;>rfl
 have n1:jaK s t=(!((Gg s t==true)&&true)||os1 (Q9 s.wn s.wρ t.wn t.wρ)):=by unfold jaK;rw [e1];cases Gg s t<;>rfl
 have n2:jb3 X s t=(!((VN s t==true)&&true)||os1 (X s.cond t.cond)):=by unfold jb3;rw [e2];cases VN s t<;>rfl
 have n3:jaG X R s t=(!((Ul X s t==true)&&true)||os1 (R s.bn s.bρ t.bn t.bρ)):=by unfold jaG;rw [e3];cases Ul X s t<;>rfl
 have n4:jbW X R s t=(!((VG X R s t==true)&&true)||os1 (R s.en s.eρ t.en t.eρ)):=by unfold jbW;rw [e4];cases VG X R s t<;>rfl
 unfold yQ Gd at h ⊢;unfold t59;rw [n1,n2,n3,n4,e5] at h;rw [n1,n2,n3,n4,e5];revert h;cases (!((Gg s t==true)&&true)||os1 (Q9 s.wn s.wρ t.wn t.wρ)) with
 | false=>exact fun h=>by cases h
 | true =>
 cases (!((VN s t==true)&&true)||os1 (X s.cond t.cond)) with
 | false=>exact fun h=>by cases h
 | true =>
 cases (!((Ul X s t==true)&&true)||os1 (R s.bn s.bρ t.bn t.bρ)) with
 | false=>exact fun h=>by cases h
 | true =>
 cases (!((VG X R s t==true)&&true)||os1 (R s.en s.eρ t.en t.eρ)) with
 | false=>exact fun h=>by cases h
 | true=>cases jag X R s t<;>exact fun _=>jl rfl leA.refl
theorem p59 {X:RXX} (hX:TcOne Tryz.prog 60 (nG (G99 X))) {R:RBB} (hR:UcOne Tryz.prog 34 (nG (G43 R))):UcOne Tryz.prog 59 (nG (G59 X R)):=by
 refine zm (H:=H59 X R) (h59 hX hR) 10 59 ?_;intro args r h;obtain ⟨s,t,e1,h1,e2⟩:=jgO h;rw [e1,e2,jnu];exact jlg h1
def KS (D:RS->RS->Option Bool) (n:Nat) (ρ:Val) (m:Nat) (σ:Val) (l:Int):Nat->Int->Option Bool
 | 0,_=>none
 | k+1,i=>bif lt i l then nd (jc i n) (nd (jc i m) ((D (jh ρ i.toNat) (jh σ i.toNat)).bind fun b=>bif !b then some false else KS D n ρ m σ l k (IntKind.wrap .i64 (i+1)))) else some true
theorem MQ (X:RXX) (R:RBB) (n:Nat) (ρ:Val) (m:Nat) (σ:Val) (l:Int):∀ k i,KS (yQ X R) n ρ m σ l k i=Bi X R n ρ m σ l k i
 | 0,_=>rfl
 | k + 1, i => by
   unfold KS Bi yQ;rw [← MQ X R n ρ m σ l k (IntKind.wrap .i64 (i+1))];cases Gd X R (jh ρ i.toNat) (jh σ i.toNat) with
  | none=>rfl
  | some c=>cases c<;>rfl
abbrev Xc:=((Nat × Val) × (Nat × Val)) × Bool × Int × Int
def jgj (c:Xc):St:=mkS 32 [(1,.one (.c (.sl (jm 1) c.1.2.1 c.1.2.2))),(2,.one (.c (.fn (.func 59) [] []))),(6,.one (.c (.bool c.2.1))),(15,.one (.c (.sl (jm 1) c.1.1.1 c.1.1.2))),(16,.one (.c (.int .i64 c.2.2.1))),(17,.one (.c (.int .i64 c.2.2.2)))] []
def Dm:List (Nat × AV)->Mem->Option Xc
 | [(1,.one (.c (.sl es n ρ))),(2,.one (.c (.fn (.func 59) [] []))),(6,.one (.c (.bool b))),(15,.one (.c (.sl es' m κ))),(16,.one (.c (.int .i64 l))),(17,.one (.c (.int .i64 i)))],[]=>if shEq.shsEq es (jm 1)&&shEq.shsEq es' (jm 1) then some (((m,κ),(n,ρ)),b,l,i) else none
 | _,_=>none
theorem jd7:∀ l m c,Dm l m=some c->mkS 32 l m=jgj c:=by
 intro l m c h;unfold Dm at h;split at h
 ·split at h
  ·rename_i hs;rw [aTq] at hs;cases h;rw [jj hs.1,jj hs.2];rfl
  ·cases h
 ·cases h
def Aq58:Sx.Frame Xc Bool:=⟨0,32,[1,2,6,15,16,17],Dm,jgj,[6],XM,Gy⟩
theorem jnm:Aq58.Ok:=.of_eq jd7 Vn
noncomputable abbrev FI (X:RXX) (R:RBB):Hd:=⟨[],[(59,nG (G59 X R))],[],[]⟩
theorem jm8 {X:RXX} (hX:TcOne Tryz.prog 60 (nG (G99 X))) {R:RBB} (hR:UcOne Tryz.prog 34 (nG (G43 R))):HdOk Tryz.prog (FI X R):=HdOk.nil.ucCons (p59 hX hR)
def jlR (X:RXX) (R:RBB) (g:Xc->Tree (XP × Bool)) (c:Xc):Tree (XP × Bool) :=
 let i:=c.2.2.2
 let o:=yQ X R (jh c.1.1.2 i.toNat) (jh c.1.2.2 i.toNat)
 .br (lt i c.2.2.1) (.need (jc i c.1.1.1) (.need (jc i c.1.2.1) (.need (os1 o) (.br (!ov1 false o) (.leaf (.ret,false)) (g (c.1,c.2.1,c.2.2.1,IntKind.wrap .i64 (i+1))))))) (.leaf (.exit 0,c.2.1))
theorem jkq (X:RXX) (R:RBB) (g:Xc->Tree (XP × Bool)) (n:Nat) (ρ:Val) (m:Nat) (σ:Val) (b:Bool) (l i:Int):jD Aq58 Tryz.prog (FI X R) X0 10 58 0 g (((n,ρ),(m,σ)),b,l,i)=jlR X R g (((n,ρ),(m,σ)),b,l,i):=by kernel_rfl
def NV (X:RXX) (R:RBB) (k:Nat) (c:Xc):Tree (XP × Bool) :=
 let x:=KS (yQ X R) c.1.1.1 c.1.1.2 c.1.2.1 c.1.2.2 c.2.2.1 k c.2.2.2
 .need (obD x) (.br (obV x) (.leaf (.exit 0,c.2.1)) (.leaf (.ret,false)))
theorem Dj (X:RXX) (R:RBB) (k:Nat) (c:Xc):(NV X R k c).sel=joO c.2.1 (KS (yQ X R) c.1.1.1 c.1.1.2 c.1.2.1 c.1.2.2 c.2.2.1 k c.2.2.2):=by
 unfold NV;cases KS (yQ X R) c.1.1.1 c.1.1.2 c.1.2.1 c.1.2.2 c.2.2.1 k c.2.2.2 with
 | none=>rfl
 | some x=>cases x<;>rfl
theorem jlB (X:RXX) (R:RBB) (k:Nat) (c:Xc) (x:XP × Bool) (h:(NV X R (k+1) c).sel=some x):(jD Aq58 Tryz.prog (FI X R) X0 10 58 0 (NV X R k) c).sel=some x:=by
 obtain ⟨⟨⟨m,κ⟩,⟨n,ρ⟩⟩,b,l,i⟩:=c;rw [jkq];rw [Dj] at h;unfold KS at h;unfold jlR;simp only [j9,jG,j3,Dj];revert h;cases lt i l with
 | false=>exact fun h=>h
 | true =>
   cases jc i m with
  | false=>exact fun h=>h
  | true =>
    cases jc i n with
   | false=>exact fun h=>h
   | true =>
     simp only [nd,cond_true];cases yQ X R (jh κ i.toNat) (jh ρ i.toNat) with
    | none=>exact fun h=>h
    | some b=>cases b<;>exact fun h=>h
theorem jlv {X:RXX} (hX:TcOne Tryz.prog 60 (nG (G99 X))) {R:RBB} (hR:UcOne Tryz.prog 34 (nG (G43 R))):∀ k,CoreOk Tryz.prog 58 0 0 jgj Gy (NV X R k) :=
 CoreOk.fuel (A:=Aq58) jnm (jm8 hX hR) x0 10 (fun _=>rfl) (jlB X R)
def jim (X:RXX) (R:RBB) (c:Xc):Tree (XP × Bool):=NV X R (c.1.1.1+1) c
def jfv (X:RXX) (R:RBB):HdP:=⟨[],[],[],[((58,0),qz Aq58 (jim X R))],[],0,[]⟩
theorem jq8 {X:RXX} (hX:TcOne Tryz.prog 60 (nG (G99 X))) {R:RBB} (hR:UcOne Tryz.prog 34 (nG (G43 R))):XOk Tryz.prog (jfv X R) :=
 XOk.nil.lxCons (CoreOk.lx (g:=jim X R) jnm fun fn c b h1 h2 h3 c0 x hx=>jlv hX hR _ fn c b h1 h2 h3 c0 x hx)
def Y0 (D:RS->RS->Option Bool) (n:Nat) (ρ:Val) (m:Nat) (σ:Val):Option Bool:=bif ja n != ja m then some false else KS D n ρ m σ (ja n) (n+1) 0
theorem jkb (X:RXX) (R:RBB) (n:Nat) (ρ:Val) (m:Nat) (σ:Val):Y0 (yQ X R) n ρ m σ=UY X R n ρ m σ:=by unfold Y0 UY;rw [MQ]
def jcn (D:RS->RS->Option Bool):List A1->Option (Bool × AV)
 | [.c (.sl es n ρ),.c (.sl es' m σ),.c (.fn (.func 59) [] [])]=>if shEq.shsEq es (jm 1)&&shEq.shsEq es' (jm 1) then some (obD (Y0 D n ρ m σ),jF (obV (Y0 D n ρ m σ))) else none
 | _=>none
def jgP (D:RS->RS->Option Bool) (n:Nat) (ρ:Val) (m:Nat) (σ:Val):Tree AV :=
 let x:=KS D n ρ m σ (ja n) (n+1) 0
 .br (ja n != ja m) (.leaf (jF false)) (.need (obD x) (.br (obV x) (.leaf (jF true)) (.leaf (jF false))))
theorem jjo (X:RXX) (R:RBB) (n:Nat) (ρ:Val) (m:Nat) (σ:Val):qf Tryz.prog (FI X R) (jfv X R) 10 58 [.c (.sl (jm 1) n ρ),.c (.sl (jm 1) m σ),.c (.fn (.func 59) [] [])]=jgP (yQ X R) n ρ m σ:=by kernel_rfl
theorem jhZ {D:RS->RS->Option Bool} {n:Nat} {ρ:Val} {m:Nat} {σ:Val} (h:obD (Y0 D n ρ m σ)=true):(jgP D n ρ m σ).All (fun z=>leA z (jF (obV (Y0 D n ρ m σ)))):=by
 unfold jgP;unfold Y0 at h ⊢;revert h;cases (ja n != ja m) with
 | true=>exact fun _=>jl rfl leA.refl
 | false =>
   simp only [cond_false];cases KS D n ρ m σ (ja n) (n+1) 0 with
  | none=>exact fun h=>by cases h
  | some b=>cases b<;>exact fun _=>jl rfl leA.refl
theorem jcP {D:RS->RS->Option Bool} {args:List A1} {r:AV} (h:jcn D args=some (true,r)):∃ n ρ m σ,args=[.c (.sl (jm 1) n ρ),.c (.sl (jm 1) m σ),.c (.fn (.func 59) [] [])]∧obD (Y0 D n ρ m σ)=true∧r=jF (obV (Y0 D n ρ m σ)):=by
 unfold jcn at h;split at h
 ·rename_i es n ρ es' m σ;split at h
  ·rename_i hs;rw [aTq] at hs;rw [jj hs.1,jj hs.2];simp only [sIq,pIq] at h;exact ⟨n,ρ,m,σ,rfl,h.1,h.2.symm⟩
  ·cases h
 ·cases h
theorem jrh {X:RXX} (hX:TcOne Tryz.prog 60 (nG (G99 X))) {R:RBB} (hR:UcOne Tryz.prog 34 (nG (G43 R))):UcOne Tryz.prog 58 (nG (jcn (yQ X R))):=by
 refine jR (H:=FI X R) (X:=jfv X R) (jm8 hX hR) (jq8 hX hR) 10 58 ?_;intro args r h;obtain ⟨n,ρ,m,σ,e1,h1,e2⟩:=jcP h;rw [e1,e2,jjo];exact jhZ h1
noncomputable abbrev jor (D:RS->RS->Option Bool):Hd:=⟨[],[(58,nG (jcn D))],[],[]⟩
theorem jj0 (D:RS->RS->Option Bool) (n:Nat) (ρ:Val) (m:Nat) (σ:Val):j5 Tryz.prog (jor D) 10 34 [.c (.sl (jm 1) n ρ),.c (.sl (jm 1) m σ)]=.need (obD (Y0 D n ρ m σ)) (.leaf (jF (obV (Y0 D n ρ m σ)))):=by kernel_rfl
theorem joW (o:Option Bool):obD o=os1 o:=by cases o<;>rfl
theorem jov (o:Option Bool):obV o=ov1 false o:=by cases o<;>rfl
theorem jqj {X:RXX} (hX:TcOne Tryz.prog 60 (nG (G99 X))) {R:RBB} (hR:UcOne Tryz.prog 34 (nG (G43 R))):UcOne Tryz.prog 34 (nG (G43 (UY X R))):=by
 refine zm (H:=jor (yQ X R)) (HdOk.nil.ucCons (jrh hX hR)) 10 34 ?_;intro args r h;obtain ⟨n,ρ,m,σ,e1,h1,e2⟩:=TC h;rw [e1,e2,jj0,jkb,joW,jov,h1];exact ⟨rfl,leA.refl⟩
theorem jo4 (f:Nat):∀ d,UcOne Tryz.prog 34 (nG (G43 (U3 f d)))
 | 0 => by
   intro args r h;obtain ⟨n,ρ,m,σ,_,h1,_⟩:=TC (zA h);cases h1
 | d+1=>jqj (p60 f) (jo4 f d)
noncomputable abbrev jfe (R:RBB):Hd:=⟨[],[(34,nG (G43 R))],[],[]⟩
theorem jrl {R:RBB} (hR:UcOne Tryz.prog 34 (nG (G43 R))):HdOk Tryz.prog (jfe R):=HdOk.nil.ucCons hR
theorem jjO (R : RBB) (a : ByteArray) (n : Nat) (ρ : Val) (b : ByteArray) (m : Nat) (σ : Val) :
  j5 Tryz.prog (jfe R) 10 13 [.agg [.str a,.sl (jm 1) n ρ],.agg [.str b,.sl (jm 1) m σ]]=.need (!((jb a b==true)&&true)||os1 (R n ρ m σ)) (.leaf (jF (bif jb a b then ov1 false (R n ρ m σ) else false))):=by kernel_rfl
theorem jrr {R:RBB} (hR:UcOne Tryz.prog 34 (nG (G43 R))):UcOne Tryz.prog 13 (nG (G10 R)):=by
 refine zm (H:=jfe R) (jrl hR) 10 13 ?_;intro args r h;obtain ⟨a,n,ρ,b,m,σ,e1,h1,e2⟩:=jh6 h;rw [e1,e2,jjO,h1];exact ⟨rfl,leA.refl⟩
end Go.Proofs.YtiefjlcakpdfeaaGreatDoor