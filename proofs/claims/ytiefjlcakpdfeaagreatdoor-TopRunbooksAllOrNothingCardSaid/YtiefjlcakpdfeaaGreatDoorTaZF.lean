/-
 Part TaZF of the proof: RpL RuY RuB RuC RuD EngFo RuF RtA RtC RtD RuH RuI.
-/
import Derived.Test.YtiefjlcakpdfeaaGreatDoorTaZE
import Derived.Test.YtiefjlcakpdfeaaGreatDoorTaZD
import Derived.Test.YtiefjlcakpdfeaaGreatDoorTaT
import Derived.Test.YtiefjlcakpdfeaaGreatDoorTaN
import Derived.SizedLaws
namespace Go.Proofs.YtiefjlcakpdfeaaGreatDoor
open Go Go.Sx Go.RowKit Rb
set_option maxRecDepth 100000
def G10 (R:RBB):List A1->Option (Bool × AV)
 | [.agg [.str a,.sl es n ρ],.agg [.str b,.sl es' m σ]]=>if shEq.shsEq es (jm 1)&&shEq.shsEq es' (jm 1) then some (!((jb a b==true)&&true)||os1 (R n ρ m σ),jF (bif jb a b then ov1 false (R n ρ m σ) else false)) else none
 | _=>none
theorem jh6 {R:RBB} {args:List A1} {r:AV} (h:G10 R args=some (true,r)):∃ a n ρ b m σ,args=[.agg [.str a,.sl (jm 1) n ρ],.agg [.str b,.sl (jm 1) m σ]]∧(!((jb a b==true)&&true)||os1 (R n ρ m σ))=true∧r=jF (bif jb a b then ov1 false (R n ρ m σ) else false):=by
 unfold G10 at h;split at h
 ·rename_i a es n ρ b es' m σ;split at h
  ·rename_i hs;rw [aTq] at hs;rw [jj hs.1,jj hs.2];simp only [sIq,pIq] at h;exact ⟨a,n,ρ,b,m,σ,rfl,h.1,h.2.symm⟩
  ·cases h
 ·cases h
theorem Ku:∀ l:List AstX,(AstX.dens l).length=l.length
 | []=>rfl
 | a::r=>by show (AstX.dens r).length+1=r.length+1;rw [Ku r]
theorem OK:∀ (l:List AstX) (i:Nat),nth (AstX.dens l) i=(nth l i).map AstX.den
 | [],i=>by simp [AstX.dens,nth]
 | a::r,0=>rfl
 | a::r,i+1=>OK r i
theorem jdK:∀ (l:List RX) (i:Nat) (t:RX),nth l i=some t->∀ f,f<3->nth (l.flatMap RX.cells) (i*3+f)=nth t.cells f
 | [],i,t,h,_,_=>by simp [nth] at h
 | a :: r, 0, t, h, f, hf => by
   have:a=t:=by simpa [nth] using h
   subst this;rw [List.flatMap_cons,jd,jd,Nat.zero_mul,Nat.zero_add,List.getElem?_append_left (by show f<3;exact hf)]
 | a :: r, i + 1, t, h, f, hf => by
   have h:nth r i=some t:=h;have hl:(RX.cells a).length=3:=rfl;rw [List.flatMap_cons,jd,List.getElem?_append_right (by rw [hl];omega),hl,← jd]
   have:(i+1)*3+f - 3=i*3+f:=by omega
   rw [this];exact jdK r i t h f hf
theorem Ii {l:List RX} {i:Nat} {t:RX} (h:nth l i=some t) {f:Nat} (hf:f<3):((Val.ofFlat 3 (l.flatMap RX.cells)).at i).at f=match nth t.cells f with | some x=>.ofC x | none=>.zero:=by
 show (match nth (l.flatMap RX.cells) (i*3+f) with | some x=>Val.ofC x | none=>.zero)=_
 rw [jdK l i t h f hf]
def V4 (e:AstX) (x:RX):Prop:=x.op=e.den.op∧x.v=e.den.v∧x.n=e.den.n∧∀ i,x.ρ.at i=e.den.ρ.at i
theorem XL {op:ByteArray} {v:Int} {l:List AstX} {x:RX} (h:V4 (.mk op v l) x) {i:Nat} {e:AstX} (hi:nth l i=some e):V4 e (jW x.ρ i):=by
 have hn:nth (AstX.dens l) i=some e.den:=by rw [OK,hi];rfl
 have h0:=Ii hn (f:=0) (by omega)
 have h1:=Ii hn (f:=1) (by omega)
 have h2:=Ii hn (f:=2) (by omega)
 have e0:x.ρ.at i=(Val.ofFlat 3 ((AstX.dens l).flatMap RX.cells)).at i:=h.2.2.2 i;unfold jW;rw [e0,h0,h1,h2];exact ⟨rfl,rfl,rfl,fun _=>rfl⟩
theorem Fj {R:RXX} {x y:RX} {n:Nat} (hx:x.n=n) (hy:y.n=n) (hn:n<=2) (h:∀ i,i<n->R (jW x.ρ i) (jW y.ρ i)=some true):∀ f (k:Nat),k<=n->n+1<=f+k->WU R x y (ja n) f (k:Int)=some true
 | 0,k,h1,h2=>by omega
 | f + 1, k, h1, h2 => by
   unfold WU;rcases lOq k n with hk | hk
   ·have e1:lt (k:Int) (ja n)=true:=by unfold lt ja;simp;exact hk
    rw [e1,hx,hy,inR hk,Int.toNat_natCast,Jk (by omega),h k hk]
    simp only [cond_true,nd,Option.bind,Bool.not_true,cond_false];exact Fj hx hy hn h f (k+1) (by omega) (by omega)
   ·have e1:lt (k:Int) (ja n)=false:=by unfold lt ja;simp;omega
    rw [e1];rfl
theorem kO (a:ByteArray):jb a a=true:=(ye a a).2 rfl
theorem Mf:∀ (f k:Nat) (e:AstX) (x y:RX),k<=f->DX k e->V4 e x->V4 e y->UZ f x y=some true
 | 0, k, e, x, y, hk, hd, _, _ => by
   cases hd with
  | mk hl h=>omega
 | f + 1, k, e, x, y, hk, hd, hx, hy => by
   cases hd with
  | mk hl h =>
   rename_i k op v l;show au (UZ f) x y=some true;unfold au;have hn:x.n=l.length:=hx.2.2.1.trans (Ku l);have hn':y.n=l.length:=hy.2.2.1.trans (Ku l)
   have e1:jaA x y=false:=by
    unfold jaA;rw [hx.1,hy.1,hx.2.1,hy.2.1,hn,hn',kO]
    simp
   rw [e1,hn];simp only [cond_false];refine Fj hn hn' hl (fun i hi => ?_) (l.length+1) 0 (by omega) (by omega)
   obtain ⟨a,ha⟩:=qX l i hi;exact Mf f k a _ _ (by omega) (h a (Qu ha)) (XL hx ha) (XL hy ha)
theorem TZ {X:RXX} {R:RBB} {n:Nat} {ρ σ:Val} (hn:n<=10000) (h:∀ i,i<n->Gd X R (jh ρ i) (jh σ i)=some false):∀ f (k:Nat),k<=n->n+1<=f+k->Bi X R n ρ n σ (ja n) f (k:Int)=some true
 | 0,k,h1,h2=>by omega
 | f + 1, k, h1, h2 => by
   unfold Bi;rcases lOq k n with hk | hk
   ·have e1:lt (k:Int) (ja n)=true:=by unfold lt ja;simp;exact hk
    rw [e1,inR hk,Int.toNat_natCast,Jk (by omega),h k hk]
    simp only [cond_true,nd,Option.bind,cond_false];exact TZ hn h f (k+1) (by omega) (by omega)
   ·have e1:lt (k:Int) (ja n)=false:=by unfold lt ja;simp;omega
    rw [e1];rfl
theorem jjM {X:RXX} {R:RBB} {s t:RS} (h1:s.kind=t.kind) (h2:Q9 s.wn s.wρ t.wn t.wρ=some true) (h3:X s.cond t.cond=some true) (h4:R s.bn s.bρ t.bn t.bρ=some true) (h5:R s.en s.eρ t.en t.eρ=some true):Gd X R s t=some false:=by
 unfold Gd jaK jb3 jaG jbW jaQ DZ Im TT jah;rw [h1,h2,h3,h4,h5,kO];rfl
theorem L8 {f:Nat} (hf:10000<=f):∀ (d k:Nat) (l l':List AstS) (ρ ρ':Val),k<d->All2 SR l l'->l.length<=10000->(∀ t ∈ l,DS k t)->k<=10000->LieL l ρ->LieL l' ρ'->U3 f d l.length ρ l'.length ρ'=some true
 | 0,k,_,_,_,_,h,_,_,_,_,_,_=>by omega
 | d + 1, k, l, l', ρ, ρ', hk, hr, hl, hd, hk1, h1, h2 => by
   have hll:l'.length=l.length:=hr.length.symm;rw [hll];show UY (UZ f) (U3 f d) l.length ρ l.length ρ'=some true;unfold UY;have e1:(ja l.length != ja l.length)=false:=by simp
   rw [e1];simp only [cond_false];refine TZ hl (fun i hi => ?_) (l.length+1) 0 (by omega) (by omega)
   obtain ⟨t,t',e1,e2,hs⟩:=WH hr hi;have hdt:=hd t (Qu e1);cases hs with
  | mk hb hx =>
   cases hdt with
  | mk hw hu hb1 hb2 hx1 hx2 he =>
   obtain ⟨a1,a2,a3,a4,a5,a6,a7,a8,a9⟩:=Y1 h1 e1;obtain ⟨b1,b2,b3,b4,b5,b6,b7,b8,b9⟩:=Y1 h2 e2;refine jjM (a1.trans b1.symm) ?_ ?_ ?_ ?_
   ·rw [a2,b2,a3,b3];exact jjw rfl (by omega) fun _ _=>rfl
   ·refine Mf f _ _ _ _ (by omega) he ?_ ?_
    ·rw [a4];exact ⟨rfl,rfl,rfl,fun _=>rfl⟩
    ·rw [b4];exact ⟨rfl,rfl,rfl,fun _=>rfl⟩
   ·rw [a5,b5];exact L8 hf d _ _ _ _ _ (by omega) hb (by omega) hb2 (by omega) a6 b6
   ·rw [a7,b7];exact L8 hf d _ _ _ _ _ (by omega) hx (by omega) hx2 (by omega) a8 b8
theorem PR.ret_bind {σ α β:Type} {v:α} {s:σ} {f:α->σ->PR σ β}:(PR.ret v s).bind f=f v s:=rfl
def Yu (w:ByteArray):Int :=
 bif (jb w qy||(jb w qj||(jb w zC||(jb w zy||(jb w qv||(jb w ym||(jb w zu||jb w q7))))))) then 0
 else bif jb w zf then 1
 else bif (jb w wOr||(jb w JG||(jb w wEq||(jb w wLt||(jb w wGt||(jb w ZP||jb w kg)))))) then 2 else -1
def Zt (w:ByteArray):Bool:=bif jb w zy then true else bif jb w qv then true else bif jb w ym then true else bif jb w zu then true else jb w q7
theorem Kt {x y:ByteArray} (h:jb x y=true):x=y:=(ye _ _).1 h
def prC (t:ByteArray):Bool:=jb t qj||jb t zC
def siC (t:ByteArray):Bool:=jb t zy||(jb t qv||(jb t ym||(jb t zu||jb t q7)))
def noC (t:ByteArray):Bool:=bif jb t qy then true else Yu t != 0
theorem Lx (t:ByteArray):(prC t=true->noC t=false∧Zt t=false)∧(prC t=false->siC t=true->noC t=false∧Zt t=true)∧(prC t=false->siC t=false->noC t=true):=by
 refine ⟨fun h => ?_,fun _ h => ?_,fun h1 h2 => ?_⟩
 ·unfold prC at h;rw [Bool.or_eq_true] at h;rcases h with h | h<;>(rw [Kt h];exact ⟨by kernel_rfl,by kernel_rfl⟩)
 ·unfold siC at h;rw [Bool.or_eq_true,Bool.or_eq_true,Bool.or_eq_true,Bool.or_eq_true] at h;rcases h with h | h | h | h | h<;>(rw [Kt h];exact ⟨by kernel_rfl,by kernel_rfl⟩)
 ·unfold prC at h1;unfold siC at h2;unfold noC Yu;simp only [Bool.or_eq_false_iff] at h1 h2;obtain ⟨c1,c2⟩:=h1;obtain ⟨c3,c4,c5,c6,c7⟩:=h2;rw [c1,c2,c3,c4,c5,c6,c7];cases jb t qy with
  | true=>rfl
  | false =>
    simp only [Bool.or_false,cond_false];cases jb t zf with
   | true=>rfl
   | false =>
     simp only [cond_false];cases (jb t wOr||(jb t JG||(jb t wEq||(jb t wLt||(jb t wGt||(jb t ZP||jb t kg))))))<;>rfl
def jcx:List Bool->Bool
 | []=>false
 | [c]=>c
 | c::r=>c||jcx r
def eqs (w:ByteArray) (l:List ByteArray):List Bool:=l.map (jb w)
theorem D9 {w:ByteArray}:∀ {l:List ByteArray},jcx (eqs w l)=true->w ∈ l
 | [],h=>by cases h
 | [x], h => by
   have h:jb w x=true:=h;rw [(ye _ _).1 h];exact List.mem_cons_self
 | x :: y :: r, h => by
   have h:(jb w x||jcx (eqs w (y::r)))=true:=h;rw [Bool.or_eq_true] at h;rcases h with h | h
   ·rw [(ye _ _).1 h];exact List.mem_cons_self
   ·exact List.mem_cons_of_mem _ (D9 h)
theorem HV (w : ByteArray) : (zo w = 0 ∧ Yu w = -1) ∨ (zo w = 1 ∧ Yu w = 0 ∧ Zt w = false ∧ jb w qy = true) ∨ (zo w = 2 ∧ Yu w = 0 ∧ Zt w = true ∧ jb w qy = false)
  ∨ (zo w=3∧Yu w=0∧Zt w=false∧jb w qy=false)∨(zo w=4∧Yu w=1∧Zt w=false∧jb w qy=false)∨(zo w=5∧Yu w=2∧Zt w=false∧jb w qy=false):=by
 cases h:jcx (eqs w [qy,qj,zC,zy,qv,ym,zu,q7,zf,wOr,JG,wEq,wLt,wGt,ZP,kg]) with
 | true =>
   have:=D9 h
   simp only [List.mem_cons,List.not_mem_nil,or_false] at this;rcases this with rfl | rfl | rfl | rfl | rfl | rfl | rfl | rfl | rfl | rfl | rfl | rfl | rfl | rfl | rfl | rfl
   ·exact .inr (.inl ⟨rfl,rfl,rfl,rfl⟩)
   ·exact .inr (.inr (.inr (.inl ⟨rfl,rfl,rfl,rfl⟩)))
   ·exact .inr (.inr (.inr (.inl ⟨rfl,rfl,rfl,rfl⟩)))
   ·exact .inr (.inr (.inl ⟨rfl,rfl,rfl,rfl⟩))
   ·exact .inr (.inr (.inl ⟨rfl,rfl,rfl,rfl⟩))
   ·exact .inr (.inr (.inl ⟨rfl,rfl,rfl,rfl⟩))
   ·exact .inr (.inr (.inl ⟨rfl,rfl,rfl,rfl⟩))
   ·exact .inr (.inr (.inl ⟨rfl,rfl,rfl,rfl⟩))
   ·exact .inr (.inr (.inr (.inr (.inl ⟨rfl,rfl,rfl,rfl⟩))))
   ·exact .inr (.inr (.inr (.inr (.inr ⟨rfl,rfl,rfl,rfl⟩))))
   ·exact .inr (.inr (.inr (.inr (.inr ⟨rfl,rfl,rfl,rfl⟩))))
   ·exact .inr (.inr (.inr (.inr (.inr ⟨rfl,rfl,rfl,rfl⟩))))
   ·exact .inr (.inr (.inr (.inr (.inr ⟨rfl,rfl,rfl,rfl⟩))))
   ·exact .inr (.inr (.inr (.inr (.inr ⟨rfl,rfl,rfl,rfl⟩))))
   ·exact .inr (.inr (.inr (.inr (.inr ⟨rfl,rfl,rfl,rfl⟩))))
   ·exact .inr (.inr (.inr (.inr (.inr ⟨rfl,rfl,rfl,rfl⟩))))
 | false =>
   have h:(jb w qy||(jb w qj||(jb w zC||(jb w zy||(jb w qv||(jb w ym||(jb w zu||(jb w q7||(jb w zf||(jb w wOr||(jb w JG||(jb w wEq||(jb w wLt||(jb w wGt||(jb w ZP||jb w kg)))))))))))))))=false:=h;simp only [Bool.or_eq_false_iff] at h;obtain ⟨h1,h2,h3,h4,h5,h6,h7,h8,h9,h10,h11,h12,h13,h14,h15,h16⟩:=h;refine .inl ⟨?_,?_⟩
   ·unfold zo;rw [h1,h2,h3,h4,h5,h6,h7,h8,h9,h10,h11,h12,h13,h14,h15,h16];rfl
   ·unfold Yu;rw [h1,h2,h3,h4,h5,h6,h7,h8,h9,h10,h11,h12,h13,h14,h15,h16];rfl
structure PU where
 n:Nat
 ρ:Val
def pU0:PU:=⟨0,.zero⟩
def jmk (x:PU):Mem:=[some (59,[.os 1 1]),some (9,[.row false [.str] x.n x.ρ])]
def jb6:Mem->Option PU
 | [some (59,[.os 1 1]),some (9,[.row false [.str] n ρ])]=>some ⟨n,ρ⟩
 | _=>none
def ClP:Clus PU:=⟨jmk,jb6,fun b m=>V5 b [(0,9,[.str])] m⟩
theorem G0 {m:Mem} {x:PU} (h:jb6 m=some x):m=jmk x:=by
 unfold jb6 at h;split at h
 ·cases h;rfl
 ·cases h
theorem jdG:ClP.Ok where
 get:=fun m x h P F w bs hm=>by rw [G0 h] at hm;exact hm
 liv:=fun m x h k y T cs hk hl=>by
  have e:m=ClP.lay x:=G0 h;rw [← e] at hk;exact ⟨T,cs,hk,hl⟩
 ok:=fun x=>rfl
 prep:=fun P F w bs b mem hm=>Kw b _ hm
def eU:AV:=.tup []
def okN (x:PU) (m:Nat):Bool:=Nat.ble ((x.n+m)*16) 140737488355328
def Qv (x:PU) (m:Nat) (σ:Val):PU:=⟨x.n+m,Val.cat x.n x.ρ σ⟩
def ZA (m:Nat) (σ:Val) (x:PU):Option PU:=nd (okN x m) (some (Qv x m σ))
def zQ (w:ByteArray) (x:PU):PU:=Qv x 1 (qT w)
def yi (w:ByteArray) (x:PU):Option PU:=ZA 1 (qT w) x
def row2 (w z:ByteArray):Val:=Val.ofFlat 1 [.str w,.str z]
def Tl (T:Tree (AV × PU)) (o:Option PU):Prop:=∀ y,o=some y->T.sel=some (eU,y)
theorem Tl.none {T:Tree (AV × PU)}:Tl T none:=fun _ h=>by cases h
theorem Tl.leaf {y:PU}:Tl (.leaf (eU,y)) (some y):=fun z h=>by cases h;rfl
theorem Tl.nd {c d:Bool} {T:Tree (AV × PU)} {o:Option PU} (hd:c=true->d=true) (h:Tl T o):Tl (.need d T) (Go.Proofs.YtiefjlcakpdfeaaGreatDoor.nd c o):=by
 cases c with
 | false=>exact Tl.none
 | true =>
   intro y hy;rw [jG,hd rfl];exact h y hy
theorem Tl.br {c:Bool} {A B:Tree (AV × PU)} {a b:Option PU} (h1:c=true->Tl A a) (h2:c=false->Tl B b):Tl (.br c A B) (bif c then a else b):=by
 cases c with
 | true=>exact fun y hy=>(by rw [j9];exact h1 rfl y hy)
 | false=>exact fun y hy=>(by rw [j9];exact h2 rfl y hy)
theorem Tl.br1 {c:Bool} {A B:Tree (AV × PU)} {a:Option PU} (hc:c=true) (h:Tl A a):Tl (.br c A B) a:=by
 subst hc;exact fun y hy=>(by rw [j9];exact h y hy)
theorem Tl.br0 {c:Bool} {A B:Tree (AV × PU)} {a:Option PU} (hc:c=false) (h:Tl B a):Tl (.br c A B) a:=by
 subst hc;exact fun y hy=>(by rw [j9];exact h y hy)
theorem Tl.bind {o:Option PU} {K:PU->Tree (AV × PU)} {f:PU->Option PU} (h:∀ v,Tl (K v) (f v)):Tl (.need (os1 o) (K (ov1 pU0 o))) (o.bind f):=by
 cases o with
 | none=>exact Tl.none
 | some v=>intro y hy;exact h v y hy
theorem Tl.put {m:Nat} {σ:Val} {x:PU} {K:PU->Tree (AV × PU)} {f:PU->Option PU} (h:∀ v,Tl (K v) (f v)):Tl (.need (okN x m) (K (Qv x m σ))) ((ZA m σ x).bind f):=by
 unfold ZA;cases okN x m with
 | false=>exact Tl.none
 | true=>intro y hy;exact h _ y hy
theorem Tl.last {o:Option PU}:Tl (.need (os1 o) (.leaf (eU,ov1 pU0 o))) o:=by
 cases o with
 | none=>exact Tl.none
 | some v=>exact Tl.leaf
theorem Tl.plast {m:Nat} {σ:Val} {x:PU}:Tl (.need (okN x m) (.leaf (eU,Qv x m σ))) (ZA m σ x):=by
 unfold ZA;exact Tl.nd id Tl.leaf
abbrev UP:=List A1->PU->Tree (AV × PU)
theorem mT {H:Hd} (hH:HdOk Tryz.prog H) {X:HdP} (hX:XOk Tryz.prog X) (f:Nat) {u:UP} (h:∀ rest x z,(u rest x).sel=some z->(Jd ClP Tryz.prog H X 10 f rest x).sel=some z):jr Tryz.prog f (j8 ClP u) :=
 jkD jdG hH hX 10 f fun rest x z hz=>⟨z,h rest x z hz,leA.refl,fun _ _ _ hm=>hm⟩
theorem jcO {α β:Type} {t:Tree α} {f:α->Tree β} {a:α} (h:t.sel=some a):(t.bind f).sel=(f a).sel:=by
 induction t with
 | leaf x=>cases h;rfl
 | fail=>cases h
 | need c t ih =>
   cases c with
  | false=>cases h
  | true=>exact ih h
 | br c t e ih1 ih2 =>
   cases c with
  | false=>exact ih2 h
  | true=>exact ih1 h
theorem VZ {u : UP} {args : List A1} {mem : Mem} {y : AV × Mem} (hs : (j8 ClP u args mem).sel = some y) :
  ∃ rest x z,(u rest x).sel=some z∧∀ u':UP,(u' rest x).sel=some z->(j8 ClP u' args mem).sel=some y:=by
 unfold j8 at hs;split at hs
 rotate_left
 ·cases hs
 rename_i ht;unfold clG at hs;split at hs
 rotate_left
 ·cases hs
 rename_i b rest;split at hs
 rotate_left
 ·cases hs
 rename_i hc;simp only at hs;split at hs
 rotate_left
 ·cases hs
 rename_i x hx;obtain ⟨z,hz,h2⟩:=jg hs;refine ⟨_,x,z,hz,fun u' hu => ?_⟩;unfold j8;rw [if_pos ht];unfold clG;simp only;rw [if_pos hc,hx];simp only;rw [jcO hu];exact h2
theorem jjb {P:Program} {f:Nat} {u uA uB:UP} (hA:jr P f (j8 ClP uA)) (hB:jr P f (j8 ClP uB)) (h:∀ rest x z,(u rest x).sel=some z->(uA rest x).sel=some z∨(uB rest x).sel=some z):jr P f (j8 ClP u):=by
 intro args mem r mem' hs;obtain ⟨rest,x,z,hz,hk⟩:=VZ hs;rcases h rest x z hz with h1 | h1
 ·exact hA _ _ _ _ (hk uA h1)
 ·exact hB _ _ _ _ (hk uB h1)
noncomputable abbrev HE0:Hd:=⟨[],[],[],[]⟩
def u23:UP:=fun rest x=>match rest with
 | [.c (.sl [.str] m σ)]=>.need (okN x m) (.leaf (eU,Qv x m σ))
 | _=>.fail
theorem jpd (m:Nat) (σ:Val) (x:PU):JO ClP Tryz.prog HE0 X3 10 23 [.c (.sl [.str] m σ)] x=.need (okN x m) (.leaf (eU,Qv x m σ)):=by kernel_rfl
theorem m23:jr Tryz.prog 23 (clG ClP u23):=Dr jdG (H:=HE0) HdOk.nil x3 10 23 fun rest x z hz=>by
 unfold u23 at hz;split at hz
 rotate_left
 ·cases hz
 exact ⟨z,by rw [jpd];exact hz,leA.refl,fun _ _ _ hm=>hm⟩
abbrev OE:=RX->PU->Option PU
def uE (O:OE):UP:=fun rest x=>match rest with
 | [.agg [.str o,.int .i64 v,.sl es n ρ]]=>if shEq.shsEq es (jm 0) then .need (os1 (O ⟨o,v,n,ρ⟩ x)) (.leaf (eU,ov1 pU0 (O ⟨o,v,n,ρ⟩ x))) else .fail
 | _=>.fail
theorem NB {O:OE} {rest:List A1} {x:PU} {z:AV × PU} (h:(uE O rest x).sel=some z):∃ e:RX,rest=[.agg e.cells]∧∃ y,O e x=some y∧z=(eU,y):=by
 unfold uE at h;split at h
 ·split at h
  ·rename_i o v es n ρ hs;refine ⟨⟨o,v,n,ρ⟩,by rw [jj hs];rfl,?_⟩
   cases hO:O ⟨o,v,n,ρ⟩ x with
   | none=>rw [hO] at h;cases h
   | some y=>rw [hO] at h;cases h;exact ⟨y,rfl,rfl⟩
  ·cases h
 ·cases h
theorem jdb {O:OE} {e:RX} {x y:PU} (h:O e x=some y):(uE O [.agg e.cells] x).sel=some (eU,y):=by
 show (if shEq.shsEq (jm 0) (jm 0) then Tree.need (os1 (O e x)) (.leaf (eU,ov1 pU0 (O e x))) else .fail).sel=_
 rw [if_pos (by kernel_rfl),h]
 rfl
theorem jjK {f:Nat}:jr Tryz.prog f (j8 ClP (uE fun _ _=>none)):=by
 intro args mem r mem' hs;obtain ⟨rest,x,z,hz,_⟩:=VZ hs;obtain ⟨e,_,y,h,_⟩:=NB hz;cases h
theorem mE {H:Hd} (hH:HdOk Tryz.prog H) {X:HdP} (hX:XOk Tryz.prog X) (f:Nat) {O:OE} {T:RX->PU->Tree (AV × PU)} (ht:∀ (e:RX) x,(∃ y,O e x=some y)->(Jd ClP Tryz.prog H X 10 f [.agg e.cells] x).sel=(T e x).sel) (h:∀ e x,Tl (T e x) (O e x)):jr Tryz.prog f (j8 ClP (uE O)) :=
 mT hH hX f fun rest x z hz=>by
  obtain ⟨e,rfl,y,hy,rfl⟩:=NB hz;rw [ht e x ⟨y,hy⟩];exact h e x y hy
noncomputable abbrev jnj (O:OE):Hd:=⟨[],[],[],[(76,j8 ClP (uE O)),(23,clG ClP u23)]⟩
theorem jrG {O:OE} (hO:jr Tryz.prog 76 (j8 ClP (uE O))):HdOk Tryz.prog (jnj O):=(HdOk.nil.mcCons m23).mcCons hO
def jaZ (O:OE) (e:RX) (x:PU):Tree (AV × PU) :=
 .br (ja e.n==0) (.need (os1 (O e x)) (.leaf (eU,ov1 pU0 (O e x)))) (.need (okN x 1) (.need (os1 (O e (zQ ZI x))) (.need (okN (ov1 pU0 (O e (zQ ZI x))) 1) (.leaf (eU,zQ Zc (ov1 pU0 (O e (zQ ZI x))))))))
theorem jki (O:OE) (o:ByteArray) (v:Int) (n:Nat) (ρ:Val) (x:PU):Jd ClP Tryz.prog (jnj O) X3 10 102 [.agg [.str o,.int .i64 v,.sl (jm 0) n ρ]] x=jaZ O ⟨o,v,n,ρ⟩ x:=by kernel_rfl
def KL (O:OE):OE:=fun e x=>bif ja e.n==0 then O e x else (yi ZI x).bind fun x1=>(O e x1).bind fun y=>yi Zc y
theorem jg0 (O:OE) (e:RX) (x:PU):Tl (jaZ O e x) (KL O e x):=by
 unfold jaZ KL;refine Tl.br (fun _=>Tl.last) fun _ => ?_;exact Tl.put (K:=fun x1=>.need (os1 (O e x1)) (.need (okN (ov1 pU0 (O e x1)) 1) (.leaf (eU,zQ Zc (ov1 pU0 (O e x1)))))) fun x1=>Tl.bind (K:=fun y=>.need (okN y 1) (.leaf (eU,zQ Zc y))) fun y=>Tl.plast
theorem jqy {O:OE} (hO:jr Tryz.prog 76 (j8 ClP (uE O))):jr Tryz.prog 102 (j8 ClP (uE (KL O))) :=
 mE (jrG hO) x3 102 (T:=jaZ O) (fun e x _=>congrArg Tree.sel (jki O e.op e.v e.n e.ρ x)) (jg0 O)
noncomputable abbrev H76 (O:OE):Hd:=⟨[(101,nG jg9)],[],[],[(102,j8 ClP (uE O)),(23,clG ClP u23)]⟩
theorem h76 {O:OE} (hO:jr Tryz.prog 102 (j8 ClP (uE O))):HdOk Tryz.prog (H76 O):=((HdOk.nil.mcCons m23).mcCons hO).tcCons jrU
noncomputable abbrev jnc (O:OE):Hd:=⟨[],[],[],[(102,j8 ClP (uE O)),(23,clG ClP u23),(101,jaM)]⟩
theorem jre {O:OE} (hO:jr Tryz.prog 102 (j8 ClP (uE O))):HdOk Tryz.prog (jnc O):=((HdOk.nil.mcCons jrg).mcCons m23).mcCons hO
def jnf (O:OE) (e:RX) (x:PU):Tree (AV × PU) :=
 .need (jc 0 e.n) (.need (os1 (O (jW e.ρ 0) x)) (.need (okN (ov1 pU0 (O (jW e.ρ 0) x)) 1) (.need (jc 1 e.n)
  (.need (os1 (O (jW e.ρ 1) (zQ e.op (ov1 pU0 (O (jW e.ρ 0) x))))) (.leaf (eU,ov1 pU0 (O (jW e.ρ 1) (zQ e.op (ov1 pU0 (O (jW e.ρ 0) x))))))))))
def jpf (e:RX) (x:PU):Tree (AV × PU):=.need (le 0 e.v&&lt e.v 100) (.need (Nat.ble ((bs [115]).size+(jq e.v).size) 9223372036854775807) (.need (okN x 2) (.leaf (eU,Qv x 2 (row2 e.op (jn (bs [115]) (jq e.v)))))))
def K52 (O:OE) (e:RX) (x:PU) (b:Bool):Tree (AV × PU):=.br b (jpf e x) (jnf O e x)
def K31 (O:OE) (e:RX) (x:PU) (b:Bool):Tree (AV × PU):=.br b (.need (okN x 1) (.leaf (eU,zQ e.op x)))
 (.br (jb e.op zf) (.need (okN x 1) (.need (jc 0 e.n) (.need (os1 (O (jW e.ρ 0) (zQ e.op x))) (.leaf (eU,ov1 pU0 (O (jW e.ρ 0) (zQ e.op x)))))))
 (.br (jb e.op zy) (K52 O e x (jb e.op zy)) (.br (jb e.op qv) (K52 O e x (jb e.op qv)) (.br (jb e.op ym) (K52 O e x (jb e.op ym)) (.br (jb e.op zu) (K52 O e x (jb e.op zu)) (K52 O e x (jb e.op q7)))))))
def IB (c:Bool) (e:RX) (x:PU):Tree (AV × PU):=.need c (.need (okN x 1) (.leaf (eU,zQ (jq e.v) x)))
def t76 (O:OE) (e:RX) (x:PU):Tree (AV × PU) :=
 .br (jb e.op qy) (IB (le 0 e.v&&lt e.v 100) e x) (.br (jb e.op qj) (K31 O e x (jb e.op qj)) (K31 O e x (jb e.op zC)))
theorem jmj (O:OE) (o:ByteArray) (v:Int) (n:Nat) (ρ:Val) (x:PU):Jd ClP Tryz.prog (H76 O) X3 10 76 [.agg [.str o,.int .i64 v,.sl (jm 0) n ρ]] x=t76 O ⟨o,v,n,ρ⟩ x:=by kernel_rfl
theorem jjJ (O:OE) (v:Int) (n:Nat) (ρ:Val) (x:PU):(Jd ClP Tryz.prog (jnc O) X3 10 76 [.agg [.str qy,.int .i64 v,.sl (jm 0) n ρ]] x).sel=(IB (le 0 v&&le v 1073741824) ⟨qy,v,n,ρ⟩ x).sel:=by kernel_rfl
def Nl (e:RX) (x:PU):Option PU:=nd (le 0 e.v&&le e.v 1073741824) (yi (jq e.v) x)
def U6 (w:ByteArray):Bool:=bif jb w zy then true else bif jb w qv then true else bif jb w ym then true else bif jb w zu then true else jb w q7
def Q5 (O:OE) (e:RX) (x:PU):Option PU :=
 bif (bif jb e.op qj then true else jb e.op zC) then yi e.op x
 else bif jb e.op zf then (yi e.op x).bind fun x1=>nd (jc 0 e.n) (O (jW e.ρ 0) x1)
 else bif U6 e.op then nd (le 0 e.v&&lt e.v 100) (nd (Nat.ble ((bs [115]).size+(jq e.v).size) 9223372036854775807) (ZA 2 (row2 e.op (jn (bs [115]) (jq e.v))) x))
 else nd (jc 0 e.n) ((O (jW e.ρ 0) x).bind fun y=>(yi e.op y).bind fun x1=>nd (jc 1 e.n) (O (jW e.ρ 1) x1))
def Ly (O:OE):OE:=fun e x=>bif jb e.op qy then Nl e x else Q5 O e x
def O1 (O:OE):OE:=fun e x=>bif jb e.op qy then none else Q5 O e x
def O6:OE:=fun e x=>bif jb e.op qy then Nl e x else none
theorem Xr (O : OE) (e : RX) (x : PU) (b : Bool) : Tl (K52 O e x b) (bif b then nd (le 0 e.v && lt e.v 100) (nd (Nat.ble ((bs [115]).size + (jq e.v).size) 9223372036854775807) (ZA 2 (row2 e.op (jn (bs [115]) (jq e.v))) x))
  else nd (jc 0 e.n) ((O (jW e.ρ 0) x).bind fun y=>(yi e.op y).bind fun x1=>nd (jc 1 e.n) (O (jW e.ρ 1) x1))):=by
 unfold K52 jpf jnf;refine Tl.br (fun _=>Tl.nd id (Tl.nd id Tl.plast)) fun _=>Tl.nd id ?_
 exact Tl.bind (K:=fun y=>.need (okN y 1) (.need (jc 1 e.n) (.need (os1 (O (jW e.ρ 1) (zQ e.op y))) (.leaf (eU,ov1 pU0 (O (jW e.ρ 1) (zQ e.op y))))))) fun y =>
  Tl.put (K:=fun x1=>.need (jc 1 e.n) (.need (os1 (O (jW e.ρ 1) x1)) (.leaf (eU,ov1 pU0 (O (jW e.ρ 1) x1))))) fun x1=>Tl.nd id Tl.last
theorem IZ (O:OE) (e:RX) (x:PU) (b:Bool):Tl (K31 O e x b) (bif b then yi e.op x
 else bif jb e.op zf then (yi e.op x).bind fun x1=>nd (jc 0 e.n) (O (jW e.ρ 0) x1)
 else bif U6 e.op then nd (le 0 e.v&&lt e.v 100) (nd (Nat.ble ((bs [115]).size+(jq e.v).size) 9223372036854775807) (ZA 2 (row2 e.op (jn (bs [115]) (jq e.v))) x))
 else nd (jc 0 e.n) ((O (jW e.ρ 0) x).bind fun y=>(yi e.op y).bind fun x1=>nd (jc 1 e.n) (O (jW e.ρ 1) x1))):=by
 unfold K31;refine Tl.br (fun _=>Tl.plast) fun _=>Tl.br (fun _ => ?_) fun _ => ?_
 ·exact Tl.put (K:=fun x1=>.need (jc 0 e.n) (.need (os1 (O (jW e.ρ 0) x1)) (.leaf (eU,ov1 pU0 (O (jW e.ρ 0) x1))))) fun x1=>Tl.nd id Tl.last
 ·unfold U6;cases h1:jb e.op zy with
  | true=>exact Tl.br1 rfl (Xr O e x true)
  | false =>
  cases h2:jb e.op qv with
  | true=>exact Tl.br0 rfl (Tl.br1 rfl (Xr O e x true))
  | false =>
  cases h3:jb e.op ym with
  | true=>exact Tl.br0 rfl (Tl.br0 rfl (Tl.br1 rfl (Xr O e x true)))
  | false =>
  cases h4:jb e.op zu with
  | true=>exact Tl.br0 rfl (Tl.br0 rfl (Tl.br0 rfl (Tl.br1 rfl (Xr O e x true))))
  | false=>exact Tl.br0 rfl (Tl.br0 rfl (Tl.br0 rfl (Tl.br0 rfl (Xr O e x _))))
theorem jko (O:OE) (e:RX) (x:PU):Tl (t76 O e x) (O1 O e x):=by
 unfold t76 O1 Q5;cases h0:jb e.op qy with
 | true=>exact Tl.none
 | false =>
   refine Tl.br0 rfl ?_;cases h1:jb e.op qj with
  | true=>exact Tl.br1 rfl (IZ O e x true)
  | false=>exact Tl.br0 rfl (IZ O e x _)
theorem jrN {O:OE} (hO:jr Tryz.prog 102 (j8 ClP (uE O))):jr Tryz.prog 76 (j8 ClP (uE (O1 O))) :=
 mE (h76 hO) x3 76 (T:=t76 O) (fun e x _=>congrArg Tree.sel (jmj O e.op e.v e.n e.ρ x)) (jko O)
theorem jq0 {O:OE} (hO:jr Tryz.prog 102 (j8 ClP (uE O))):jr Tryz.prog 76 (j8 ClP (uE O6)) :=
 mE (jre hO) x3 76 (T:=fun e x=>IB (le 0 e.v&&le e.v 1073741824) e x) (fun e x ⟨y,hy⟩=>by
  unfold O6 at hy;cases h0:jb e.op qy with
  | false=>rw [h0] at hy;cases hy
  | true =>
    have:=Kt h0
    obtain ⟨o,v,n,ρ⟩:=e;obtain rfl:o=qy:=this;exact jjJ O v n ρ x) fun e x=>by
  unfold O6;cases jb e.op qy with
  | false=>exact Tl.none
  | true =>
    show Tl (IB (le 0 e.v&&le e.v 1073741824) e x) (Nl e x);unfold Nl IB;exact Tl.nd id Tl.plast
theorem m76 {O:OE} (hO:jr Tryz.prog 102 (j8 ClP (uE O))):jr Tryz.prog 76 (j8 ClP (uE (Ly O))) :=
 jjb (jrN hO) (jq0 hO) fun rest x z hz=>by
  obtain ⟨e,rfl,y,hy,rfl⟩:=NB hz;unfold Ly at hy;cases h0:jb e.op qy with
  | false=>rw [h0] at hy;exact .inl (jdb (by unfold O1;rw [h0];exact hy))
  | true=>rw [h0] at hy;exact .inr (jdb (by unfold O6;rw [h0];exact hy))
def prF:Nat->OE
 | 0=>fun _ _=>none
 | k+1=>Ly (KL (prF k))
theorem jlM:∀ k,jr Tryz.prog 76 (j8 ClP (uE (prF k)))
 | 0=>jjK
 | k+1=>m76 (jqy (jlM k))
abbrev SE':=RS->PU->Option PU
def uSt (S:SE'):UP:=fun rest x=>match rest with
 | [a]=>(match UK a with
  | some s=>.need (os1 (S s x)) (.leaf (eU,ov1 pU0 (S s x)))
  | none=>.fail)
 | _=>.fail
theorem jhv {S:SE'} {rest:List A1} {x:PU} {z:AV × PU} (h:(uSt S rest x).sel=some z):∃ s:RS,rest=[.agg s.cells]∧∃ y,S s x=some y∧z=(eU,y):=by
 unfold uSt at h;split at h
 ·split at h
  ·rename_i s hs;refine ⟨s,by rw [QN hs],?_⟩
   cases hO:S s x with
   | none=>rw [hO] at h;cases h
   | some y=>rw [hO] at h;cases h;exact ⟨y,rfl,rfl⟩
  ·cases h
 ·cases h
abbrev BE':=Nat->Val->PU->Option PU
def uBk (B:BE'):UP:=fun rest x=>match rest with
 | [.c (.sl es n ρ)]=>if shEq.shsEq es (jm 1) then .need (os1 (B n ρ x)) (.leaf (eU,ov1 pU0 (B n ρ x))) else .fail
 | _=>.fail
theorem FX {B:BE'} {rest:List A1} {x:PU} {z:AV × PU} (h:(uBk B rest x).sel=some z):∃ n ρ,rest=[.c (.sl (jm 1) n ρ)]∧∃ y,B n ρ x=some y∧z=(eU,y):=by
 unfold uBk at h;split at h
 ·split at h
  ·rename_i es n ρ hs;refine ⟨n,ρ,by rw [jj hs],?_⟩
   cases hO:B n ρ x with
   | none=>rw [hO] at h;cases h
   | some y=>rw [hO] at h;cases h;exact ⟨y,rfl,rfl⟩
  ·cases h
 ·cases h
theorem jku {f:Nat}:jr Tryz.prog f (j8 ClP (uBk fun _ _ _=>none)):=by
 intro args mem r mem' hs;obtain ⟨rest,x,z,hz,_⟩:=VZ hs;obtain ⟨e,_,_,y,h,_⟩:=FX hz;cases h
def jhQ (x:PU):Mem:=[some (59,[.os 3 1]),none,KX,some (9,[.row false [.str] x.n x.ρ])]
def O3:Mem->Option PU
 | [some (59,[.os 3 1]),none,some (0,[.lp 0 0 .tab]),some (9,[.row false [.str] n ρ])]=>some ⟨n,ρ⟩
 | _=>none
theorem Hc {m:Mem} {x:PU} (h:O3 m=some x):m=jhQ x:=by
 unfold O3 at h;split at h
 ·cases h;rfl
 ·cases h
structure CPr where
 n:Nat
 ρ:Val
 l:Int
 i:Int
 x:PU
def SBl (c:CPr):St:=mkS 22 [(0,.one (.c (.ptr 0 0))),(9,.one (.c (.sl (jm 1) c.n c.ρ))),(10,.one (.c (.int .i64 c.l))),(11,.one (.c (.int .i64 c.i)))] (jhQ c.x)
def jbJ (l:List (Nat × AV)) (m:Mem):Option CPr:=match l with
 | [(0, .one (.c (.ptr 0 0))), (9, .one (.c (.sl es n ρ))), (10, .one (.c (.int .i64 l))), (11, .one (.c (.int .i64 i)))] =>
   if shEq.shsEq es (jm 1) then (match O3 m with
    | some x=>some ⟨n,ρ,l,i,x⟩
    | none=>none) else none
 | _=>none
theorem je9:∀ l m c,jbJ l m=some c->mkS 22 l m=SBl c:=by
 intro l m c h;unfold jbJ at h;split at h
 ·split at h
  ·rename_i hs;rw [jj hs];split at h
   ·rename_i hx;cases h;rw [Hc hx];rfl
   ·cases h
  ·cases h
 ·cases h
def EBl (x:PU):St:=mkS 22 [(0,.one (.c (.ptr 0 0)))] (jhQ x)
def Fx (l:List (Nat × AV)) (m:Mem):Option PU:=match l with
 | [(0,.one (.c (.ptr 0 0)))]=>O3 m
 | _=>none
theorem jcL:∀ l m c,Fx l m=some c->mkS 22 l m=EBl c:=by
 intro l m c h;unfold Fx at h;split at h
 ·rw [Hc h];rfl
 ·cases h
def ABl:Sx.Frame CPr PU:=⟨3,22,[0,9,10,11],jbJ,SBl,[0],Fx,EBl⟩
theorem aBl:ABl.Ok:=.of_eq je9 jcL
noncomputable abbrev H24 (S:SE'):Hd:=⟨[],[],[],[(44,j8 ClP (uSt S)),(23,clG ClP u23)]⟩
theorem h24 {S:SE'} (hS:jr Tryz.prog 44 (j8 ClP (uSt S))):HdOk Tryz.prog (H24 S):=(HdOk.nil.mcCons m23).mcCons hS
def rBl (S:SE') (g:CPr->Tree (XP × PU)) (c:CPr):Tree (XP × PU) :=
 .br (lt c.i c.l) (.need (jc c.i c.n) (.need (os1 (S (jh c.ρ c.i.toNat) c.x)) (g { c with i:=IntKind.wrap .i64 (c.i+1),x:=ov1 pU0 (S (jh c.ρ c.i.toNat) c.x) }))) (.leaf (.exit 0,c.x))
theorem jo7 (S:SE') (g:CPr->Tree (XP × PU)) (n:Nat) (ρ:Val) (l i:Int) (x:PU):jD ABl Tryz.prog (H24 S) X3 10 24 0 g ⟨n,ρ,l,i,x⟩=rBl S g ⟨n,ρ,l,i,x⟩:=by kernel_rfl
def Qb (S:SE') (n:Nat) (ρ:Val) (l:Int):Nat->Int->PU->Option PU
 | 0,_,_=>none
 | k+1,i,x=>bif lt i l then nd (jc i n) ((S (jh ρ i.toNat) x).bind fun y=>Qb S n ρ l k (IntKind.wrap .i64 (i+1)) y) else some x
def gBl (S:SE') (k:Nat) (c:CPr):Tree (XP × PU) :=
 .need (os1 (Qb S c.n c.ρ c.l k c.i c.x)) (.leaf (.exit 0,ov1 pU0 (Qb S c.n c.ρ c.l k c.i c.x)))
theorem Mv (S:SE') (k:Nat) (c:CPr):(gBl S k c).sel=(Qb S c.n c.ρ c.l k c.i c.x).map fun y=>(.exit 0,y):=by
 unfold gBl;cases Qb S c.n c.ρ c.l k c.i c.x<;>rfl
theorem jnM (S:SE') (k:Nat) (c:CPr) (x:XP × PU) (h:(gBl S (k+1) c).sel=some x):(jD ABl Tryz.prog (H24 S) X3 10 24 0 (gBl S k) c).sel=some x:=by
 obtain ⟨n,ρ,l,i,y⟩:=c;rw [jo7];rw [Mv] at h;unfold Qb at h;unfold rBl;simp only [j9,jG,j3,Mv];revert h;cases lt i l with
 | false=>exact fun h=>h
 | true =>
 cases jc i n with
 | false=>exact fun h=>h
 | true =>
 simp only [nd,cond_true];cases S (jh ρ i.toNat) y with
 | none=>exact fun h=>h
 | some z=>exact fun h=>h
theorem jmy {S:SE'} (hS:jr Tryz.prog 44 (j8 ClP (uSt S))):∀ k,CoreOk Tryz.prog 24 0 3 SBl EBl (gBl S k) :=
 CoreOk.fuel (A:=ABl) aBl (h24 hS) x3 10 (fun _=>rfl) (jnM S)
def jm5 (S:SE') (c:CPr):Tree (XP × PU):=gBl S (c.n+1) c
def X24 (S:SE'):HdP:=⟨[],[],[],[((24,0),qz ABl (jm5 S))],[],0,[]⟩
theorem x24 {S:SE'} (hS:jr Tryz.prog 44 (j8 ClP (uSt S))):XOk Tryz.prog (X24 S) :=
 XOk.lxCons XOk.nil (CoreOk.lx (g:=jm5 S) aBl fun fn c b h1 h2 h3 c0 x hx=>jmy hS _ fn c b h1 h2 h3 c0 x hx)
def UQ (S:SE'):BE':=fun n ρ x=>(yi zj x).bind fun x1=>(Qb S n ρ (ja n) (n+1) 0 x1).bind fun y=>yi wEnd y
def t24 (S:SE') (n:Nat) (ρ:Val) (x:PU):Tree (AV × PU) :=
 .need (okN x 1) (.need (os1 (Qb S n ρ (ja n) (n+1) 0 (zQ zj x))) (.need (okN (ov1 pU0 (Qb S n ρ (ja n) (n+1) 0 (zQ zj x))) 1) (.leaf (eU,zQ wEnd (ov1 pU0 (Qb S n ρ (ja n) (n+1) 0 (zQ zj x)))))))
theorem joi (S:SE') (n:Nat) (ρ:Val) (x:PU):Jd ClP Tryz.prog (H24 S) (X24 S) 10 24 [.c (.sl (jm 1) n ρ)] x=t24 S n ρ x:=by kernel_rfl
theorem ji0 (S:SE') (n:Nat) (ρ:Val) (x:PU):Tl (t24 S n ρ x) (UQ S n ρ x):=by
 unfold t24 UQ
 exact Tl.put (K:=fun x1=>.need (os1 (Qb S n ρ (ja n) (n+1) 0 x1)) (.need (okN (ov1 pU0 (Qb S n ρ (ja n) (n+1) 0 x1)) 1) (.leaf (eU,zQ wEnd (ov1 pU0 (Qb S n ρ (ja n) (n+1) 0 x1)))))) fun x1 =>
  Tl.bind (K:=fun y=>.need (okN y 1) (.leaf (eU,zQ wEnd y))) fun y=>Tl.plast
theorem m24 {S:SE'} (hS:jr Tryz.prog 44 (j8 ClP (uSt S))):jr Tryz.prog 24 (j8 ClP (uBk (UQ S))) :=
 mT (h24 hS) (x24 hS) 24 fun rest x z hz=>by
  obtain ⟨n,ρ,rfl,y,hy,rfl⟩:=FX hz;rw [joi];exact ji0 S n ρ x y hy
def uOp (B:BE') (w:ByteArray) (n:Nat) (ρ:Val) (x:PU):Option PU:=bif lt 0 (ja n) then (yi w x).bind fun y=>B n ρ y else some x
abbrev OB:=ByteArray->Nat->Val->PU->Option PU
def u77 (O:OB):UP:=fun rest x=>match rest with
 | [.c (.str w),.c (.sl es n ρ)]=>if shEq.shsEq es (jm 1) then .need (os1 (O w n ρ x)) (.leaf (eU,ov1 pU0 (O w n ρ x))) else .fail
 | _=>.fail
noncomputable abbrev H77 (B:BE'):Hd:=⟨[],[],[],[(24,j8 ClP (uBk B)),(23,clG ClP u23)]⟩
theorem h77 {B:BE'} (hB:jr Tryz.prog 24 (j8 ClP (uBk B))):HdOk Tryz.prog (H77 B):=(HdOk.nil.mcCons m23).mcCons hB
def t77 (B:BE') (w:ByteArray) (n:Nat) (ρ:Val) (x:PU):Tree (AV × PU) :=
 .br (lt 0 (ja n)) (.need (okN x 1) (.need (os1 (B n ρ (zQ w x))) (.leaf (eU,ov1 pU0 (B n ρ (zQ w x)))))) (.leaf (eU,x))
theorem jn3 (B:BE') (w:ByteArray) (n:Nat) (ρ:Val) (x:PU):Jd ClP Tryz.prog (H77 B) X3 10 77 [.c (.str w),.c (.sl (jm 1) n ρ)] x=t77 B w n ρ x:=by kernel_rfl
theorem jjV (B:BE') (w:ByteArray) (n:Nat) (ρ:Val) (x:PU):Tl (t77 B w n ρ x) (uOp B w n ρ x):=by
 unfold t77 uOp;exact Tl.br (fun _=>Tl.put (K:=fun y=>.need (os1 (B n ρ y)) (.leaf (eU,ov1 pU0 (B n ρ y)))) fun y=>Tl.last) fun _=>Tl.leaf
theorem m77 {B:BE'} (hB:jr Tryz.prog 24 (j8 ClP (uBk B))):jr Tryz.prog 77 (j8 ClP (u77 (uOp B))) :=
 mT (h77 hB) x3 77 fun rest x z hz=>by
  unfold u77 at hz;split at hz
  rotate_left
  ·cases hz
  rename_i w es n ρ;split at hz
  rotate_left
  ·cases hz
  rename_i hs;rw [jj hs,jn3];cases hO:uOp B w n ρ x with
  | none=>rw [hO] at hz;cases hz
  | some y=>rw [hO] at hz;cases hz;exact jjV B w n ρ x y hO
noncomputable abbrev H44 (O:OE) (B:BE') (Op:OB):Hd:=⟨[(67,oG TN)],[],[],[(76,j8 ClP (uE O)),(24,j8 ClP (uBk B)),(77,j8 ClP (u77 Op)),(23,clG ClP u23)]⟩
theorem h44 {O:OE} {B:BE'} {Op:OB} (hO:jr Tryz.prog 76 (j8 ClP (uE O))) (hB:jr Tryz.prog 24 (j8 ClP (uBk B))) (hOp:jr Tryz.prog 77 (j8 ClP (u77 Op))):HdOk Tryz.prog (H44 O B Op) :=
 ((((HdOk.nil.mcCons m23).mcCons hOp).mcCons hB).mcCons hO).pcCons je7
def Q0 (B:BE') (Op:OB) (s:RS) (x:PU):Tree (AV × PU) :=
 .br (jb s.kind wDo) (.need (os1 (Op Yn s.bn s.bρ x)) (.need (okN (ov1 pU0 (Op Yn s.bn s.bρ x)) 1) (.leaf (eU,zQ z8 (ov1 pU0 (Op Yn s.bn s.bρ x))))))
 (.br (jb s.kind wIf) (.need (os1 (B s.bn s.bρ x)) (.need (os1 (Op ZT s.en s.eρ (ov1 pU0 (B s.bn s.bρ x)))) (.leaf (eU,ov1 pU0 (Op ZT s.en s.eρ (ov1 pU0 (B s.bn s.bρ x)))))))
 (.br (jb s.kind qc) (.need (os1 (B s.bn s.bρ x)) (.leaf (eU,ov1 pU0 (B s.bn s.bρ x)))) (.need (okN x 1) (.leaf (eU,zQ z8 x)))))
def t44 (O:OE) (B:BE') (Op:OB) (s:RS) (x:PU):Tree (AV × PU) :=
 .need (okN x 1) (.need (okN (zQ s.kind x) s.wn) (.br (yf s.kind) (.need (os1 (O s.cond (Qv (zQ s.kind x) s.wn s.wρ))) (Q0 B Op s (ov1 pU0 (O s.cond (Qv (zQ s.kind x) s.wn s.wρ))))) (Q0 B Op s (Qv (zQ s.kind x) s.wn s.wρ))))
theorem jnz (O:OE) (B:BE') (Op:OB) (s:RS) (x:PU):Jd ClP Tryz.prog (H44 O B Op) X3 10 44 [.agg s.cells] x=t44 O B Op s x:=by kernel_rfl
def BA (B:BE') (Op:OB) (s:RS) (x:PU):Option PU :=
 bif jb s.kind wDo then (Op Yn s.bn s.bρ x).bind fun y=>yi z8 y
 else bif jb s.kind wIf then (B s.bn s.bρ x).bind fun y=>Op ZT s.en s.eρ y
 else bif jb s.kind qc then B s.bn s.bρ x else yi z8 x
def XH (O:OE) (B:BE'):SE':=fun s x=>(yi s.kind x).bind fun x1=>(ZA s.wn s.wρ x1).bind fun x2 =>
 bif yf s.kind then (O s.cond x2).bind fun y=>BA B (uOp B) s y else BA B (uOp B) s x2
theorem HY (B:BE') (s:RS) (x:PU):Tl (Q0 B (uOp B) s x) (BA B (uOp B) s x):=by
 unfold Q0 BA;refine Tl.br (fun _ => ?_) fun _=>Tl.br (fun _ => ?_) fun _=>Tl.br (fun _=>Tl.last) fun _=>Tl.plast
 ·exact Tl.bind (K:=fun y=>.need (okN y 1) (.leaf (eU,zQ z8 y))) fun y=>Tl.plast
 ·exact Tl.bind (K:=fun y=>.need (os1 (uOp B ZT s.en s.eρ y)) (.leaf (eU,ov1 pU0 (uOp B ZT s.en s.eρ y)))) fun y=>Tl.last
theorem jj9 (O:OE) (B:BE') (s:RS) (x:PU):Tl (t44 O B (uOp B) s x) (XH O B s x):=by
 unfold t44 XH;refine Tl.put (K:=fun x1=>.need (okN x1 s.wn) (.br (yf s.kind) (.need (os1 (O s.cond (Qv x1 s.wn s.wρ))) (Q0 B (uOp B) s (ov1 pU0 (O s.cond (Qv x1 s.wn s.wρ))))) (Q0 B (uOp B) s (Qv x1 s.wn s.wρ)))) fun x1 => ?_;refine Tl.put (K:=fun x2=>.br (yf s.kind) (.need (os1 (O s.cond x2)) (Q0 B (uOp B) s (ov1 pU0 (O s.cond x2)))) (Q0 B (uOp B) s x2)) fun x2 => ?_;exact Tl.br (fun _=>Tl.bind (K:=fun y=>Q0 B (uOp B) s y) fun y=>HY B s y) fun _=>HY B s x2
theorem m44 {O:OE} {B:BE'} (hO:jr Tryz.prog 76 (j8 ClP (uE O))) (hB:jr Tryz.prog 24 (j8 ClP (uBk B))):jr Tryz.prog 44 (j8 ClP (uSt (XH O B))) :=
 mT (h44 hO hB (m77 hB)) x3 44 fun rest x z hz=>by
  obtain ⟨s,rfl,y,hy,rfl⟩:=jhv hz;rw [jnz];exact jj9 O B s x y hy
def bpF (O:OE):Nat->BE'
 | 0=>fun _ _ _=>none
 | d+1=>UQ (XH O (bpF O d))
theorem jnl (k:Nat):∀ d,jr Tryz.prog 24 (j8 ClP (uBk (bpF (prF k) d)))
 | 0=>jku
 | d+1=>m24 (m44 (jlM k) (jnl k d))
def Bh (x:ByteArray × Int):AV:=.tup [.c (.str x.1),.c (.int .i64 x.2)]
def pr0:ByteArray × Int:=(bs [],0)
def GZ (y:PU):Option (ByteArray × Int):=nd (kS y.n y.ρ spc) (some (bif lt 8192 (ja (yZ y.n y.ρ spc).size) then (bs [],5) else (yZ y.n y.ρ spc,0)))
def Xu (f d:Nat) (B:BE') (nm:ByteArray) (n:Nat) (ρ:Val):Option (ByteArray × Int) :=
 nd (opD (jz f d nm n ρ)) (bif opN (jz f d nm n ρ) != 0 then some (bs [],opN (jz f d nm n ρ)) else (ZA 2 (row2 zq nm) pU0).bind fun x=>(B n ρ x).bind GZ)
abbrev PrF:=ByteArray->Nat->Val->Option (ByteArray × Int)
def u7p (p:PrF):List A1->Tree AV
 | [.agg [.str nm,.sl es n ρ]]=>if shEq.shsEq es (jm 1) then .need (os1 (p nm n ρ)) (.leaf (Bh (ov1 pr0 (p nm n ρ)))) else .fail
 | _=>.fail
noncomputable abbrev H7p (f d:Nat) (B:BE'):Hd:=⟨[],[(22,nG (G37 f d)),(25,nG G18)],[],[(24,j8 ClP (uBk B)),(23,clG ClP u23)]⟩
theorem h7p (f d:Nat) {B:BE'} (hB:jr Tryz.prog 24 (j8 ClP (uBk B))):HdOk Tryz.prog (H7p f d B):=(((HdOk.nil.mcCons m23).mcCons hB).ucCons p18).ucCons (p37 f d)
def x02 (nm:ByteArray):PU:=Qv pU0 2 (row2 zq nm)
def t7 (f d:Nat) (B:BE') (nm:ByteArray) (n:Nat) (ρ:Val):Tree AV :=
 .need (opD (jz f d nm n ρ)) (.br (opN (jz f d nm n ρ) != 0) (.leaf (Bh (bs [],opN (jz f d nm n ρ)))) (.need (okN pU0 2) (.need (os1 (B n ρ (x02 nm)))
  (.need (kS (ov1 pU0 (B n ρ (x02 nm))).n (ov1 pU0 (B n ρ (x02 nm))).ρ spc) (.br (lt 8192 (ja (yZ (ov1 pU0 (B n ρ (x02 nm))).n (ov1 pU0 (B n ρ (x02 nm))).ρ spc).size)) (.leaf (Bh (bs [],5)))
   (.leaf (Bh (yZ (ov1 pU0 (B n ρ (x02 nm))).n (ov1 pU0 (B n ρ (x02 nm))).ρ spc,0))))))))
theorem jpS (f d:Nat) (B:BE') (nm:ByteArray) (n:Nat) (ρ:Val):HT Tryz.prog (H7p f d B) X3 10 7 [.agg [.str nm,.sl (jm 1) n ρ]]=t7 f d B nm n ρ:=by kernel_rfl
theorem jnp (f d:Nat) (B:BE') (nm:ByteArray) (n:Nat) (ρ:Val) {x:ByteArray × Int} (h:Xu f d B nm n ρ=some x):(t7 f d B nm n ρ).sel=some (Bh x):=by
 unfold Xu at h;unfold t7;simp only [jG,j9,j3];cases h1:opD (jz f d nm n ρ) with
 | false=>rw [h1] at h;cases h
 | true =>
 rw [h1] at h;simp only [nd,cond_true] at h ⊢;cases h2:(opN (jz f d nm n ρ) != 0) with
 | true =>
   rw [h2] at h;simp only [cond_true,sIq] at h ⊢;rw [h]
 | false =>
 rw [h2] at h;simp only [cond_false] at h ⊢;unfold ZA at h;cases h3:okN pU0 2 with
 | false=>rw [h3] at h;cases h
 | true =>
 rw [h3] at h;simp only [nd,cond_true,Option.bind] at h ⊢;have e:Qv pU0 2 (row2 zq nm)=x02 nm:=rfl;rw [e] at h;cases hB:B n ρ (x02 nm) with
 | none=>rw [hB] at h;cases h
 | some y =>
 rw [hB] at h;simp only [os1,ov1,cond_true] at h ⊢;unfold GZ at h;cases h4:kS y.n y.ρ spc with
 | false=>rw [h4] at h;cases h
 | true =>
 rw [h4] at h;simp only [nd,cond_true,sIq] at h ⊢;rw [← h];cases lt 8192 (ja (yZ y.n y.ρ spc).size)<;>rfl
theorem jg5 {p:PrF} {args:List A1} {r:AV} (h:(u7p p args).sel=some r):∃ nm n ρ x,args=[.agg [.str nm,.sl (jm 1) n ρ]]∧p nm n ρ=some x∧r=Bh x:=by
 unfold u7p at h;split at h
 ·split at h
  ·rename_i nm es n ρ hs;cases hp:p nm n ρ with
   | none=>rw [hp] at h;cases h
   | some x=>rw [hp] at h;cases h;exact ⟨nm,n,ρ,x,by rw [jj hs],hp,rfl⟩
  ·cases h
 ·cases h
theorem m7 (f d:Nat) {B:BE'} (hB:jr Tryz.prog 24 (j8 ClP (uBk B))):jr Tryz.prog 7 (jaD (u7p (Xu f d B))) :=
 jj4 (h7p f d hB) x3 10 7 fun args r h=>by
  obtain ⟨nm,n,ρ,x,rfl,hp,rfl⟩:=jg5 h;rw [jpS];exact ⟨_,jnp f d B nm n ρ hp,leA.refl⟩
end Go.Proofs.YtiefjlcakpdfeaaGreatDoor
namespace Go.Sx
open Go Go.RowKit
def Tree.follow {α:Type}:List Bool->Tree α->Option (List (Bool × Bool) × α)
 | [],.leaf a=>some ([],a)
 | p,.need c t=>match t.follow p with
  | some y=>some ((c,true)::y.1,y.2)
  | none=>none
 | d::p,.br c t e=>match (bif d then t.follow p else e.follow p) with
  | some y=>some ((c,d)::y.1,y.2)
  | none=>none
 | _,_=>none
theorem JY {α:Type}:∀ {t:Tree α} {p:List Bool} {cs:List (Bool × Bool)} {a:α},t.follow p=some (cs,a)->(∀ x ∈ cs,x.1=x.2)->t.sel=some a
 | .leaf b, p, cs, a, h, _ => by
   cases p with
  | nil =>
    simp only [Tree.follow,sIq,pIq] at h;simp only [Tree.sel,h.2]
  | cons d p=>simp [Tree.follow] at h
 | .need c t, p, cs, a, h, hc => by
   have h':(match t.follow p with | some y=>some ((c,true)::y.1,y.2) | none=>none)=some (cs,a):=by
    cases p<;>exact h
   split at h'
   ·rename_i y hy;simp only [sIq,pIq] at h';obtain ⟨rfl,rfl⟩:=h';have h1:c=true:=hc (c,true) (by simp)
    subst h1;simp only [Tree.sel,cond_true];exact JY (cs:=y.1) hy (fun x hx=>hc x (by simp [hx]))
   ·cases h'
 | .br c t e, p, cs, a, h, hc => by
   cases p with
  | nil=>simp [Tree.follow] at h
  | cons d p =>
    simp only [Tree.follow] at h;split at h
    ·rename_i y hy;simp only [sIq,pIq] at h;obtain ⟨rfl,rfl⟩:=h;have h1:c=d:=hc (c,d) (by simp)
     subst h1;simp only [Tree.sel];cases c
     ·exact JY (cs:=y.1) hy (fun x hx=>hc x (by simp [hx]))
     ·exact JY (cs:=y.1) hy (fun x hx=>hc x (by simp [hx]))
    ·cases h
 | .fail,p,cs,a,h,_=>by cases p<;>simp [Tree.follow] at h
def okB (cs:List (Bool × Bool)):Bool:=cs.all fun x=>x.1==x.2
theorem RA {cs:List (Bool × Bool)} (h:okB cs=true):∀ x ∈ cs,x.1=x.2:=fun x hx=>by
 have:=List.all_eq_true.1 h x hx
 simpa using this
end Go.Sx
namespace Go.Proofs.YtiefjlcakpdfeaaGreatDoor
open Go Go.Sx Go.RowKit Rb
set_option maxRecDepth 100000
def Vp (a b:Bool):Bool:=bif a then b else false
abbrev PaF:=ByteArray->Option Kj
def G8p (Q:PaF):List A1->Option (Bool × AV)
 | [.c (.str s)]=>some (oB (Q s),F4 (oV (Q s)))
 | _=>none
end Go.Proofs.YtiefjlcakpdfeaaGreatDoor
namespace Go.Proofs.YtiefjlcakpdfeaaGreatDoor
open Go Go.Sx Go.RowKit Rb
set_option maxRecDepth 100000
abbrev TS:=ByteArray × List ByteArray
def zH:List ByteArray->TS
 | []=>(bs [],[])
 | t::r=>(t,r)
def TM:Mach TS:=⟨Prod.fst,fun _=>0,fun q=>.ret () (zH q.2)⟩
theorem jit (t:ByteArray) (r:List ByteArray):TM.tx (zH (t::r))=t:=rfl
theorem jdL {t w:ByteArray} {r:List ByteArray} (h:jb t w=true):qH TM w (zH (t::r))=.ret true (zH r):=by
 unfold qH;rw [jit,h];rfl
theorem jma {w:ByteArray} {r:List ByteArray} (h:jb (TM.tx (zH r)) w=false):qH TM w (zH r)=.ret false (zH r):=by
 unfold qH;rw [h];rfl
structure NumT (num:Int->ByteArray):Prop where
 nv:∀ v,0<=v->v<=1073741824->jE (num v)=some (v,true)
 sv:∀ v,0<=v->v<=9->yz (jn (bs [115]) (num v))=true∧J2 (jn (bs [115]) (num v))=v
section
variable (num:Int->ByteArray)
def W6 (op:ByteArray) (v:Int):List ByteArray :=
 bif Nat.beq (zo op) 1 then [num v] else bif Nat.beq (zo op) 2 then [op,jn (bs [115]) (num v)] else [op]
def opT (op:ByteArray) (v:Int):List (List ByteArray)->List ByteArray
 | []=>W6 num op v
 | [a]=>op::a
 | a::b::_=>a++op::b
def jh1 (leaf:Bool) (l:List ByteArray):List ByteArray:=bif leaf then l else ZI::(l++[Zc])
mutual
def prX:AstX->List ByteArray
 | .mk op v l=>opT num op v (YZ l)
def YZ:List AstX->List (List ByteArray)
 | []=>[]
 | a::r=>prO a::YZ r
def prO:AstX->List ByteArray
 | .mk op v l=>jh1 l.isEmpty (opT num op v (YZ l))
end
inductive WX:Nat->AstX->Prop where
 | num {d:Nat} {v:Int} (h0:0<=v) (h1:v<=1073741824):WX (d+1) (.mk qy v [])
 | site {d:Nat} {op:ByteArray} {v:Int} (h:zo op=2) (h0:0<=v) (h1:v<=9):WX (d+1) (.mk op v [])
 | plain {d:Nat} {op:ByteArray} (h:zo op=3):WX (d+1) (.mk op 0 [])
 | neg {d:Nat} {a:AstX} (ha:WX d a):WX (d+1) (.mk zf 0 [a])
 | bin {d:Nat} {op:ByteArray} {a b:AstX} (h:zo op=5) (ha:WX d a) (hb:WX d b):WX (d+1) (.mk op 0 [a,b])
theorem jpC {w:ByteArray} (h:zo w=2):prC w=false∧siC w=true:=by
 rcases HV w with ⟨h1,_⟩ | ⟨h1,_⟩ | ⟨_,h2,h3,h4⟩ | ⟨h1,_⟩ | ⟨h1,_⟩ | ⟨h1,_⟩
 ·omega
 ·omega
 ·obtain ⟨w1,w2,w3⟩:=Lx w;have hn:noC w=false:=by unfold noC;rw [h4,h2];rfl
  cases hp:prC w with
  | true=>have:=(w1 hp).2;rw [h3] at this;cases this
  | false =>
    cases hs:siC w with
   | true=>exact ⟨rfl,rfl⟩
   | false=>rw [w3 hp hs] at hn;cases hn
 ·omega
 ·omega
 ·omega
theorem jpZ {w:ByteArray} (h:zo w=3):prC w=true:=by
 rcases HV w with ⟨h1,_⟩ | ⟨h1,_⟩ | ⟨h1,_⟩ | ⟨_,h2,h3,h4⟩ | ⟨h1,_⟩ | ⟨h1,_⟩
 ·omega
 ·omega
 ·omega
 ·obtain ⟨w1,w2,w3⟩:=Lx w;have hn:noC w=false:=by unfold noC;rw [h4,h2];rfl
  cases hp:prC w with
  | true=>rfl
  | false =>
    cases hs:siC w with
   | true=>have:=(w2 hp hs).2;rw [h3] at this;cases this
   | false=>rw [w3 hp hs] at hn;cases hn
 ·omega
 ·omega
variable {num} (hn:NumT num)
include hn
end
end Go.Proofs.YtiefjlcakpdfeaaGreatDoor
namespace Go.Proofs.YtiefjlcakpdfeaaGreatDoor
open Go Go.Sx Go.RowKit Rb
set_option maxRecDepth 100000
section
variable (num:Int->ByteArray)
def Hz (kd:ByteArray) (b x:List ByteArray) (hb hx:Bool):List ByteArray :=
 bif jb kd wDo then (bif hb then [] else Yn::b)++[z8]
 else bif jb kd wIf then b++(bif hx then [] else ZT::x)
 else bif jb kd qc then b else [z8]
def Jh (l:List ByteArray):List ByteArray:=zj::(l++[wEnd])
mutual
def prS:AstS->List ByteArray
 | .mk kd w e b x _=>kd::(w++((bif yf kd then prX num e else [])++Hz kd (Jh (prL b)) (Jh (prL x)) b.isEmpty x.isEmpty))
def prL:List AstS->List ByteArray
 | []=>[]
 | t::r=>prS t++prL r
end
abbrev noX:AstX:=.mk (bs []) 0 []
inductive WS (K:Nat):Nat->AstS->Prop where
 | dos {d:Nat} {w0:ByteArray} {ws:List ByteArray} {b:List AstS} {p:Int} (hk:Nat.beq (zL w0) 0=false) (ho:All2 (fun k w=>zc k w=true) (zZ (zL w0)) ws) (hs:∀ u ∈ ws,u.size<=10000) (hl:b.length<K) (hb:∀ y ∈ b,WS K d y):WS K (d+1) (.mk wDo (w0::ws) noX b [] p)
 | ifs {d:Nat} {e:AstX} {b x:List AstS} {p:Int} (he:WX 33 e) (hl:b.length<K) (hb:∀ y ∈ b,WS K d y) (hl2:x.length<K) (hx:∀ y ∈ x,WS K d y):WS K (d+1) (.mk wIf [] e b x p)
 | reps {d:Nat} {v:Int} {b:List AstS} {p:Int} (h0:0<=v) (h1:v<=99) (hl:b.length<K) (hb:∀ y ∈ b,WS K d y):WS K (d+1) (.mk qc [] (.mk qy v []) b [] p)
 | reqs {d:Nat} {e:AstX} {p:Int} (he:WX 33 e):WS K (d+1) (.mk zN [] e [] [] p)
 | says {d:Nat} {w0:ByteArray} {ws:List ByteArray} {p:Int} (hw:∀ u ∈ w0::ws,jV u=some true) (hl:ws.length<K):WS K (d+1) (.mk kj (w0::ws) noX [] [] p)
theorem Di {w:ByteArray} {r:List ByteArray}:qJ TM w (zH (w::r))=.ret () (zH r):=by
 unfold qJ;rw [jdL (kO _)];rfl
theorem jpl {w:ByteArray} {r:List ByteArray} {ok:Bool} (h:ok=true):qC TM ok (zH (w::r))=.ret w (zH r):=by
 unfold qC;rw [h];rfl
variable {num}
variable (hn:NumT num)
include hn
end
end Go.Proofs.YtiefjlcakpdfeaaGreatDoor
namespace Go.Proofs.YtiefjlcakpdfeaaGreatDoor
open Go Go.Sx Go.RowKit Rb
set_option maxRecDepth 100000
def zE:List ByteArray->List UInt8
 | []=>[]
 | t::r=>32::(lst t++zE r)
def KA:List ByteArray->List UInt8
 | []=>[]
 | t::r=>lst t++zE r
theorem t64 (n:Nat):ja n=(n:Int):=rfl
theorem Ih {α:Type}:∀ {l:List α} {i:Nat} {a:α},nth l i=some a->l.drop i=a::l.drop (i+1)
 | [],i,a,h=>by simp [nth] at h
 | b :: r, 0, a, h => by have : b = a := by simpa [nth] using h
                         subst this;rfl
 | b::r,i+1,a,h=>Ih (l:=r) (i:=i) h
def LieW (w:List ByteArray) (ρ:Val):Prop:=∀ j u,nth w j=some u->wAt ρ j=u
theorem LieW.box (w:List ByteArray) (n:Nat):LieW w (.ofC (.sl [.str] n (za w))):=fun j u h=>by
 show (((za w).at j).at 0).S []=u;rw [QR w j u h];rfl
end Go.Proofs.YtiefjlcakpdfeaaGreatDoor