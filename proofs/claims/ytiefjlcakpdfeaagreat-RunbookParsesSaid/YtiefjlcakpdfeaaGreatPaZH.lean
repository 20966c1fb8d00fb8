/-
 Part PaZH of the proof: RqS RqT RqU RqC RqD.
-/
import Derived.Test.YtiefjlcakpdfeaaGreatPaZG
import Derived.Test.YtiefjlcakpdfeaaGreatPaV
namespace Go.Proofs.YtiefjlcakpdfeaaGreat
open Go Go.Sx Go.RowKit Rb
set_option maxRecDepth 100000
theorem GH {n:Nat} {ρ:Val} (hn:n<=10000):∀ m (k:Nat),k<=n->n+1<=m+k->∃ j,wkL n ρ m false (k:Int)=some (false,j)
 | 0,k,h1,h2=>by omega
 | m + 1, k, h1, h2 => by
   unfold wkL;rcases Nat.lt_or_ge k n with hk | hk
   ·have e1:lt (k:Int) (ja n)=true:=by unfold lt ja;simp;exact hk
    rw [e1,zF (by omega)]
    exact GH hn m (k+1) (by omega) (by omega)
   ·have e1:lt (k:Int) (ja n)=false:=by unfold lt ja;simp;omega
    rw [e1];exact ⟨_,rfl⟩
theorem MN {n:Nat} {ρ:Val} (hn:n<=10000) (h:∀ i,i<n->(wAt ρ i).size<=10000):∀ m (k:Nat),k<=n->n+1<=m+k->∃ j,wkL n ρ m true (k:Int)=some (!Xt (Xz n ρ (ja n) m (k:Int)),j)
 | 0,k,h1,h2=>by omega
 | m + 1, k, h1, h2 => by
   unfold wkL Xz;rcases Nat.lt_or_ge k n with hk | hk
   ·have e1:lt (k:Int) (ja n)=true:=by unfold lt ja;simp;exact hk
    have hw:=Yk (h k hk);rw [e1,inR hk,Int.toNat_natCast,zF (by omega)]
    simp only [cond_true];cases hi:jB (wAt ρ k) with
    | none=>rw [hi] at hw;cases hw
    | some b =>
      cases b with
     | true=>exact MN hn h m (k+1) (by omega) (by omega)
     | false =>
       obtain ⟨j,hj⟩:=GH (ρ:=ρ) hn m (k+1) (by omega) (by omega)
       refine ⟨j,?_⟩;simp only [hj]
       have:Xt (some (some (k:Int)))=true:=by unfold Xt ooB ooV le;simp
       simp only [Bool.not_false,cond_true,this,Bool.not_true]
   ·have e1:lt (k:Int) (ja n)=false:=by unfold lt ja;simp;omega
    rw [e1];exact ⟨_,rfl⟩
theorem jnt {f:Nat} {s:RS} (hn:s.wn<=10000) (hw:∀ i,i<s.wn->(wAt s.wρ i).size<=10000) (hx:opD (yb f s.cond 1)=true):∃ e,okE f s=some (Qp s,e)∧(bif yZ s.kind then yb f s.cond 1 else some 0)=some e:=by
 unfold okE Qp;cases h1:jb s.kind wDo with
 | true =>
   have hk:=(zr _ _).1 h1;have ho:=OE hn hw;simp only [cond_true];cases hs:yq s.wn s.wρ with
  | none=>rw [hs] at ho;cases ho
  | some b=>exact ⟨0,rfl,by rw [hk];rfl⟩
 | false =>
 simp only [cond_false];cases hxe:yb f s.cond 1 with
 | none=>rw [hxe] at hx;cases hx
 | some y =>
 cases h2:jb s.kind wIf with
 | true=>exact ⟨y,rfl,by unfold yZ;rw [h2];rfl⟩
 | false =>
 simp only [cond_false];cases h3:jb s.kind qQ with
 | true=>exact ⟨y,rfl,by unfold yZ;rw [h2,h3];rfl⟩
 | false =>
 simp only [cond_false];cases h4:jb s.kind qo with
 | true=>exact ⟨y,rfl,by unfold yZ;rw [h2,h3,h4];rfl⟩
 | false =>
 have hc:yZ s.kind=false:=by unfold yZ;rw [h2,h3,h4];rfl
 rw [hc];simp only [cond_false];cases jb s.kind kx with
 | false=>exact ⟨0,rfl,rfl⟩
 | true =>
   simp only [cond_true];cases hs:Br s with
  | false =>
    obtain ⟨j,hj⟩:=GH (n:=s.wn) (ρ:=s.wρ) hn (s.wn+1) 0 (by omega) (by omega)
    have hj:wkL s.wn s.wρ (s.wn+1) false 0=some (false,j):=hj;rw [hj];refine ⟨0,?_,rfl⟩;simp only [sIq,pIq,and_true];unfold Br at hs;revert hs;cases lt 0 (ja s.wn)<;>cases Xt (Zj s.wn s.wρ)<;>cases yR s.cond<;>cases (ja s.bn==0)<;>cases (ja s.en==0)<;>intro hs<;>first | rfl | cases hs
  | true =>
    obtain ⟨j,hj⟩:=MN (n:=s.wn) (ρ:=s.wρ) hn hw (s.wn+1) 0 (by omega) (by omega)
    have hj:wkL s.wn s.wρ (s.wn+1) true 0=some (!Xt (Zj s.wn s.wρ),j):=hj;rw [hj];refine ⟨0,?_,rfl⟩;simp only [sIq,pIq,and_true];unfold Br at hs;revert hs;cases lt 0 (ja s.wn)<;>cases Xt (Zj s.wn s.wρ)<;>cases yR s.cond<;>cases (ja s.bn==0)<;>cases (ja s.en==0)<;>intro hs<;>first | rfl | cases hs
theorem MJ {f : Nat} {R R' : RBl} {n : Nat} {ρ : Val} (hn : n <= 10000)
  (h:∀ i,i<n->YF (jg ρ i)=true∧(∃ e,okE f (jg ρ i)=some (Qp (jg ρ i),e)∧(bif yZ (jg ρ i).kind then yb f (jg ρ i).cond 1 else some 0)=some e) ∧
   R (jg ρ i).bn (jg ρ i).bρ=R' (jg ρ i).bn (jg ρ i).bρ∧R (jg ρ i).en (jg ρ i).eρ=R' (jg ρ i).en (jg ρ i).eρ) :
  ∀ g (k:Nat),k<=n->n+1<=g+k->W2 f R n ρ g (k:Int)=Jy f R' n ρ (ja n) g (k:Int)
 | 0,k,h1,h2=>by omega
 | g + 1, k, h1, h2 => by
   unfold W2 Jy;rcases Nat.lt_or_ge k n with hk | hk
   ·have e1:lt (k:Int) (ja n)=true:=by unfold lt ja;simp;exact hk
    obtain ⟨g1,⟨e,g2,g3⟩,g4,g5⟩:=h k hk;rw [e1,inR hk,Int.toNat_natCast,zF (by omega),g1,g2,g3,MJ hn h g (k+1) (by omega) (by omega)]
    simp only [cond_true];unfold jbJ;rw [g4,g5];rfl
   ·have e1:lt (k:Int) (ja n)=false:=by unfold lt ja;simp;omega
    rw [e1];rfl
theorem D9 {f:Nat} (hf:40<=f):∀ (d k:Nat) (l:List AstS) (ρ:Val),k<d->l.length<=10000->(∀ t ∈ l,DS k t)->k<=10000->LieL l ρ->WE f d l.length ρ=QO f d l.length ρ
 | 0,k,_,_,h,_,_,_,_=>by omega
 | d + 1, k, l, ρ, hk, hl, hd, hk1, h1 => by
   show W2 f (WE f d) l.length ρ (l.length+1) 0=Jy f (QO f d) l.length ρ (ja l.length) (l.length+1) 0;refine MJ hl (fun i hi => ?_) (l.length+1) 0 (by omega) (by omega)
   obtain ⟨t,e1⟩:=qF l i hi;have hdt:=hd t (kG e1);cases hdt with
  | mk hw hu hb1 hb2 hx1 hx2 =>
   obtain ⟨a1,a2,a3,a4,a5,a6,a7,a8,a9⟩:=JJ h1 e1
   have hws:∀ j,j<(jg ρ i).wn->(wAt (jg ρ i).wρ j).size<=10000:=fun j hj=>by
    rw [a2] at hj;rw [a3];exact Xm hu j hj
   refine ⟨Uy (by rw [a2];omega) hws,jnt (by rw [a2];omega) hws (V3 f _ 1 (by omega) (by omega)),?_,?_⟩
   ·rw [a5];exact D9 hf d _ _ _ (by omega) (by omega) hb2 (by omega) a6
   ·rw [a7];exact D9 hf d _ _ _ (by omega) (by omega) hx2 (by omega) a8
theorem jdO {T:RAs} {n:Nat} {ρ σ:Val} (hn:n<=10000) (h:∀ i,i<n->T (jg ρ i) (jg σ i)=some true):∀ f (k:Nat),k<=n->n+1<=f+k->atL T n ρ n σ (ja n) f (k:Int)=some true
 | 0,k,h1,h2=>by omega
 | f + 1, k, h1, h2 => by
   unfold atL;rcases Nat.lt_or_ge k n with hk | hk
   ·have e1:lt (k:Int) (ja n)=true:=by unfold lt ja;simp;exact hk
    rw [e1,inR hk,Int.toNat_natCast,zF (by omega),h k hk]
    simp only [cond_true,Bool.not_true,cond_false];exact jdO hn h f (k+1) (by omega) (by omega)
   ·have e1:lt (k:Int) (ja n)=false:=by unfold lt ja;simp;omega
    rw [e1];rfl
theorem jbr:∀ (d k:Nat) (l:List AstS) (ρ σ:Val),k<d->l.length<=10000->(∀ t ∈ l,DS k t)->k<=10000->LieL l ρ->LieL l σ->atF d l.length ρ l.length σ=some true
 | 0,k,_,_,_,h,_,_,_,_,_=>by omega
 | d + 1, k, l, ρ, σ, hk, hl, hd, hk1, h1, h2 => by
   show atG (atT (atF d)) l.length ρ l.length σ=some true;unfold atG;have e1:(ja l.length != ja l.length)=false:=by simp
   rw [e1];simp only [cond_false];refine jdO hl (fun i hi => ?_) (l.length+1) 0 (by omega) (by omega)
   obtain ⟨t,e1⟩:=qF l i hi;have hdt:=hd t (kG e1);cases hdt with
  | mk hw hu hb1 hb2 hx1 hx2 =>
   obtain ⟨a1,a2,a3,a4,a5,a6,a7,a8,a9⟩:=JJ h1 e1;obtain ⟨b1,b2,b3,b4,b5,b6,b7,b8,b9⟩:=JJ h2 e1;unfold atT;rw [a9,b9,a5,b5,a7,b7,jbr d _ _ _ _ (by omega) (by omega) hb2 (by omega) a6 b6,jbr d _ _ _ _ (by omega) (by omega) hx2 (by omega) a8 b8]
   simp
mutual
def QV:AstS->Nat
 | .mk _ _ _ b x _=>1+jG b+jG x
def jG:List AstS->Nat
 | []=>0
 | t::r=>QV t+jG r
end
mutual
def Uj:AstS->Nat
 | .mk _ _ _ b x _=>1+max (qt b) (qt x)
def qt:List AstS->Nat
 | []=>0
 | t::r=>max (Uj t) (qt r)
end
theorem jeH:∀ t:AstS,1<=QV t
 | .mk _ _ _ b x _=>by unfold QV;omega
mutual
theorem jf5:∀ t:AstS,Uj t<=QV t
 | .mk _ _ _ b x _ => by
   have:=Ky b
   have:=Ky x
   unfold Uj QV;omega
theorem Ky:∀ l:List AstS,qt l<=jG l
 | []=>lRq _
 | t :: r => by
   have:=jf5 t
   have:=Ky r
   unfold qt jG;omega
end
theorem Te {l:List AstS} {i:Nat} {t:AstS} (h:nth l i=some t):l.drop i=t::l.drop (i+1):=by
 have hi:=js h;rw [List.drop_eq_getElem_cons hi];congr 1;rw [jd,List.getElem?_eq_getElem hi] at h;exact Option.some.inj h
theorem ZF {n:Nat} (h:n<=1000000):IntKind.wrap .i64 (n:Int)=(n:Int):=Ro.w64_id (by omega) (by omega)
theorem Gy (a b:Nat):Vj (a:Int) (b:Int)=((max a b:Nat):Int):=by
 unfold Vj;cases h:lt (a:Int) (b:Int) with
 | true =>
   have:(a:Int)<b:=of_decide_eq_true h
   show (b:Int)=_;omega
 | false =>
   have:¬ (a:Int)<b:=of_decide_eq_false h
   show (a:Int)=_;omega
theorem T5 {R : RC} {l : List AstS} {ρ : Val} (hl : l.length <= 10000)
  (h:∀ i kd w e b x p,nth l i=some (.mk kd w e b x p)->jG b<=10000->jG x<=10000->R (Jz ρ i) (JI ρ i)=some (((jG b:Nat):Int),((qt b:Nat):Int))∧R (Jv ρ i) (JV ρ i)=some (((jG x:Nat):Int),((qt x:Nat):Int))) :
  ∀ g (k a b:Nat),k<=l.length->l.length+1<=g+k->a+jG (l.drop k)<=10000->b<=10000->JY R l.length ρ (ja l.length) g (k:Int) (a:Int) (b:Int)=some (((a+jG (l.drop k):Nat):Int),((max b (qt (l.drop k)):Nat):Int))
 | 0,k,a,b,h1,h2,_,_=>by omega
 | g + 1, k, a, b, h1, h2, h3, h4 => by
   unfold JY;rcases Nat.lt_or_ge k l.length with hk | hk
   ·have e1:lt (k:Int) (ja l.length)=true:=by unfold lt ja;simp;exact hk
    obtain ⟨t,ht⟩:=qF l k hk;have hd:=Te ht;obtain ⟨kd,w,e,bb,xx,p⟩:=t;rw [hd] at h3 ⊢;have h3:a+(QV (.mk kd w e bb xx p)+jG (l.drop (k+1)))<=10000:=h3;have ht3:QV (.mk kd w e bb xx p)=1+jG bb+jG xx:=by unfold QV;rfl
    have hds:Uj (.mk kd w e bb xx p)=1+max (qt bb) (qt xx):=by unfold Uj;rfl
    obtain ⟨g1,g2⟩:=h k kd w e bb xx p ht (by omega) (by omega)
    have d1:=Ky bb;have d2:=Ky xx;rw [e1,inR hk,Int.toNat_natCast,zF (by omega),g1,g2]
    simp only [cond_true]
    have ca:jbN (a:Int) ((jG bb:Nat):Int) ((jG xx:Nat):Int)=((a+(1+jG bb+jG xx):Nat):Int):=by
     unfold jbN;have z1:(a:Int)+1=((a+1:Nat):Int):=by omega
     rw [z1,ZF (by omega)]
     have z2:((a+1:Nat):Int)+((jG bb:Nat):Int)=((a+1+jG bb:Nat):Int):=by omega
     rw [z2,ZF (by omega)]
     have z3:((a+1+jG bb:Nat):Int)+((jG xx:Nat):Int)=((a+(1+jG bb+jG xx):Nat):Int):=by omega
     rw [z3,ZF (by omega)]
    have cb:jbs (b:Int) ((qt bb:Nat):Int) ((qt xx:Nat):Int)=((max b (1+max (qt bb) (qt xx)):Nat):Int):=by
     unfold jbs;rw [Gy];have z1:(1:Int)+((max (qt bb) (qt xx):Nat):Int)=((1+max (qt bb) (qt xx):Nat):Int):=by omega
     rw [z1,ZF (by omega),Gy]
    rw [ca,cb,T5 hl h g (k+1) _ _ (by omega) (by omega) (by omega) (by omega)]
    have t1:jG (.mk kd w e bb xx p::l.drop (k+1))=1+jG bb+jG xx+jG (l.drop (k+1)):=by rw [← ht3];rfl
    have t2:qt (.mk kd w e bb xx p::l.drop (k+1))=max (1+max (qt bb) (qt xx)) (qt (l.drop (k+1))):=by rw [← hds];rfl
    rw [t1,t2];congr 2
    ·omega
    ·omega
   ·have e1:lt (k:Int) (ja l.length)=false:=by unfold lt ja;simp;omega
    rw [e1,List.drop_of_length_le hk];show some ((a:Int),(b:Int))=some (((a+0:Nat):Int),((max b 0:Nat):Int))
    simp
theorem Lw:∀ (d k:Nat) (l:List AstS) (ρ:Val),k<d->l.length<=10000->(∀ t ∈ l,DS k t)->k<=10000->LieL l ρ->jG l<=10000->cntF d l.length ρ=some (((jG l:Nat):Int),((qt l:Nat):Int))
 | 0,k,_,_,h,_,_,_,_,_=>by omega
 | d + 1, k, l, ρ, hk, hl, hd, hk1, h1, ht => by
   show JY (cntF d) l.length ρ (ja l.length) (l.length+1) 0 0 0=_
   have:=T5 (R:=cntF d) (ρ:=ρ) hl (fun i kd w e b x p e1 hb hx => ?_) (l.length+1) 0 0 0 (by omega) (by omega) (by simpa using ht) (by omega)
   ·have this:JY (cntF d) l.length ρ (ja l.length) (l.length+1) 0 0 0=_:=this;rw [this,List.drop_zero];congr 2<;>omega
   ·have hdt:=hd _ (kG e1);cases hdt with
    | mk hw hu hb1 hb2 hx1 hx2 =>
    obtain ⟨a1,a2,a3,a4,a5,a6,a7,a8,a9⟩:=JJ h1 e1;have c1:Jz ρ i=_:=a5;have c2:Jv ρ i=_:=a7;rw [c1,c2];exact ⟨Lw d _ _ (JI ρ i) (by omega) (by omega) hb2 (by omega) a6 hb,Lw d _ _ (JV ρ i) (by omega) (by omega) hx2 (by omega) a8 hx⟩
def CNt (t dep D:Nat) (o:Option (Int × Int)):Prop :=
 ∃ a b:Nat,o=some ((a:Int),(b:Int))∧a<=t∧b<=D+dep∧(t<=4096->a=t∧b=max D (D - 1+dep))∧(4096<t->4096<a)
theorem jgK:∀ {t:AstS} {r:List AstS},1<=qt (t::r)
 | .mk _ _ _ b x _,r=>by unfold qt Uj;omega
theorem M2 {bb : List AstS} {x : Option (Int × Int)} {D a b : Nat} (hx : CNt (jG bb) (qt bb) (D + 1) x) (ha : a + jG bb <= 20000) (hb : D <= b) :
  ∃ a' b':Nat,Gr (lt 0 (ja bb.length)) x (a:Int) (b:Int)=some ((a':Int),(b':Int))∧a'<=a+jG bb∧a<=a'∧b<=b'∧b'<=max b (D+1+qt bb)∧(jG bb<=4096->a'=a+jG bb∧b'=max b (D+qt bb))∧(4096<jG bb->4096<a'):=by
 cases bb with
 | nil =>
   refine ⟨a,b,rfl,by omega,lRq _,lRq _,by omega,fun _=>⟨rfl,?_⟩,fun h => ?_⟩
   ·show b=max b (D+0);omega
   ·have h:4096<0:=h;omega
 | cons t r =>
   obtain ⟨u,v,rfl,h1,h2,h3,h4⟩:=hx;have hd:=@jgK t r;have e1:lt 0 (ja (t::r).length)=true:=by unfold lt ja;simp only [List.length_cons];simp
   rw [e1];refine ⟨a+u,max b v,?_,by omega,by omega,by omega,by omega,fun h => ?_,fun h => ?_⟩
   ·show some (IntKind.wrap .i64 ((a:Int)+(u:Int)),Vj (b:Int) (v:Int))=_;have z:(a:Int)+(u:Int)=((a+u:Nat):Int):=by omega
    rw [z,ZF (by omega),Gy]
   ·obtain ⟨e2,e3⟩:=h3 h;exact ⟨by rw [e2],by rw [e3];omega⟩
   ·have:=h4 h
    omega
theorem jhT (b D db dx dr:Nat) (hD:1<=D):max (max (max b (D+db)) (D+dx)) (D - 1+dr)=max b (D - 1+max (1+max db dx) dr):=by omega
theorem joZ {b b1 b2 b3 D db dx dr:Nat} (h1:b1<=max b (D+1+db)) (h2:b2<=max b1 (D+1+dx)) (h3:b3<=max b2 (D+dr)):b3<=max b (D+max (1+max db dx) dr):=by omega
set_option maxHeartbeats 2000000 in
theorem Iz {R : RCq} {l : List AstS} {ρ : Val} {D : Nat} (hD : 1 <= D) (hD2 : D <= 20000) (hl : l.length <= 10000)
  (h:∀ i kd w e b x p,nth l i=some (.mk kd w e b x p)->jG b<=10000->jG x<=10000->Jz ρ i=b.length∧Jv ρ i=x.length∧CNt (jG b) (qt b) (D+1) (R b.length (JI ρ i) ((D+1:Nat):Int))∧CNt (jG x) (qt x) (D+1) (R x.length (JV ρ i) ((D+1:Nat):Int))) :
  ∀ g (k a b:Nat),k<=l.length->l.length+1<=g+k->a+jG (l.drop k)<=10000->D<=b ->
   ∃ a' b':Nat,Vo R l.length ρ (D:Int) g (k:Int) (a:Int) (b:Int)=some ((a':Int),(b':Int))∧a'<=a+jG (l.drop k)∧b'<=max b (D+qt (l.drop k))∧(a+jG (l.drop k)<=4096->a'=a+jG (l.drop k)∧b'=max b (D - 1+qt (l.drop k)))∧(4096<a+jG (l.drop k)->4096<a')
 | 0,k,a,b,h1,h2,_,_=>by omega
 | g + 1, k, a, b, h1, h2, h3, h4 => by
   unfold Vo;rcases Nat.lt_or_ge k l.length with hk | hk
   ·have e1:lt (k:Int) (ja l.length)=true:=by unfold lt ja;simp;exact hk
    obtain ⟨t,ht⟩:=qF l k hk;have hd:=Te ht;obtain ⟨kd,w,e,bb,xx,p⟩:=t;rw [hd] at h3 ⊢;have t0:QV (.mk kd w e bb xx p)=1+jG bb+jG xx:=by unfold QV;rfl
    have d0:Uj (.mk kd w e bb xx p)=1+max (qt bb) (qt xx):=by unfold Uj;rfl
    have t1:jG (.mk kd w e bb xx p::l.drop (k+1))=1+jG bb+jG xx+jG (l.drop (k+1)):=by rw [← t0];rfl
    have t2:qt (.mk kd w e bb xx p::l.drop (k+1))=max (1+max (qt bb) (qt xx)) (qt (l.drop (k+1))):=by rw [← d0];rfl
    rw [t1] at h3 ⊢;rw [t2];rw [e1];rcases Nat.lt_or_ge 4096 a with h5 | h5
    ·have e2:le (a:Int) 4096=false:=by unfold le;simp;omega
     rw [e2];refine ⟨a,b,rfl,by omega,by omega,fun h=>by omega,fun _=>h5⟩
    ·have e2:le (a:Int) 4096=true:=by unfold le;simp;omega
     obtain ⟨g1,g2,g3,g4⟩:=h k kd w e bb xx p ht (by omega) (by omega)
     have z1:(a:Int)+1=((a+1:Nat):Int):=by omega
     have z2:(D:Int)+1=((D+1:Nat):Int):=by omega
     rw [e2,inR hk,Int.toNat_natCast,g1,g2,z1,z2,ZF (show a+1<=1000000 by omega),ZF (show D+1<=1000000 by omega),zF (by omega)]
     simp only [cond_true];obtain ⟨a1,b1,q1,q2,q3,q4,q5,q6,q7⟩:=M2 (a:=a+1) g3 (by omega) h4
     rw [q1];simp only;obtain ⟨a2,b2,r1,r2,r3,r4,r5,r6,r7⟩:=M2 (a:=a1) (b:=b1) g4 (by clear q5 q6;omega) (by clear q5 q6;omega)
     rw [r1];simp only;obtain ⟨a3,b3,s1,s2,s3,s4,s5⟩:=Iz hD hD2 hl h g (k+1) a2 b2 (by omega) (by omega) (by clear q5 q6 r5 r6;omega) (by clear q5 q6 r5 r6;omega)
     refine ⟨a3,b3,s1,by clear q5 q6 r5 r6 s3 s4 s5;omega,joZ q5 r5 s3,fun h => ?_,fun h => ?_⟩
     ·obtain ⟨x1,x2⟩:=q6 (by clear q5 q6 r5 r6 s3 s4 s5;omega)
      obtain ⟨y1,y2⟩:=r6 (by clear q5 q6 r5 r6 s3 s4 s5;omega)
      obtain ⟨w1,w2⟩:=s4 (by clear q5 q6 r5 r6 s3 s4 s5;omega)
      refine ⟨by clear q5 q6 r5 r6 s3 s4 s5 x2 y2 w2;omega,?_⟩
      rw [w2,y2,x2];exact jhT _ _ _ _ _ hD
     ·refine s5 ?_;rcases Nat.lt_or_ge 4096 (jG bb) with hb | hb
      ·have:=q7 hb
       omega
      ·obtain ⟨x1,_⟩:=q6 hb;rcases Nat.lt_or_ge 4096 (jG xx) with hx | hx
       ·have:=r7 hx
        omega
       ·obtain ⟨y1,_⟩:=r6 hx;omega
   ·have e1:lt (k:Int) (ja l.length)=false:=by unfold lt ja;simp;omega
    rw [e1,List.drop_of_length_le hk];refine ⟨a,b,rfl,by omega,by omega,fun _=>⟨rfl,?_⟩,fun h => ?_⟩
    ·show b=max b (D - 1+0);omega
    ·have h:4096<a+0:=h;omega
theorem L0:∀ (d k:Nat) (l:List AstS) (ρ:Val) (D:Nat),k<d->1<=D->D+k<=20000->l.length<=10000->(∀ t ∈ l,DS k t)->k<=10000->LieL l ρ->jG l<=10000->CNt (jG l) (qt l) D (YG d l.length ρ (D:Int))
 | 0,k,_,_,_,h,_,_,_,_,_,_,_=>by omega
 | d + 1, k, l, ρ, D, hk, hD, hD2, hl, hd, hk1, h1, ht => by
   show CNt _ _ _ (Vo (YG d) l.length ρ (D:Int) (l.length+1) 0 0 (D:Int))
   have hR:∀ i kd w e b x p,nth l i=some (.mk kd w e b x p)->jG b<=10000->jG x<=10000->Jz ρ i=b.length∧Jv ρ i=x.length∧CNt (jG b) (qt b) (D+1) (YG d b.length (JI ρ i) ((D+1:Nat):Int))∧CNt (jG x) (qt x) (D+1) (YG d x.length (JV ρ i) ((D+1:Nat):Int)):=fun i kd w e b x p e1 hb hx=>by
    have hdt:=hd _ (kG e1);cases hdt with
    | mk hw hu hb1 hb2 hx1 hx2 =>
    obtain ⟨a1,a2,a3,a4,a5,a6,a7,a8,a9⟩:=JJ h1 e1;exact ⟨a5,a7,L0 d _ _ (JI ρ i) (D+1) (by omega) (by omega) (by omega) (by omega) hb2 (by omega) a6 hb,L0 d _ _ (JV ρ i) (D+1) (by omega) (by omega) (by omega) (by omega) hx2 (by omega) a8 hx⟩
   obtain ⟨a,b,q1,q2,q3,q4,q5⟩:=Iz (R:=YG d) (ρ:=ρ) hD (by omega) hl hR (l.length+1) 0 0 D (by omega) (by omega) (by simpa using ht) (lRq _)
   rw [List.drop_zero] at q2 q3 q4 q5;exact ⟨a,b,q1,by omega,by omega,fun h=>by obtain ⟨x1,x2⟩:=q4 (by omega);exact ⟨by omega,by omega⟩,fun h=>q5 (by omega)⟩
theorem jjW {f d k : Nat} (hf : 40 <= f) (hk : k < d) (hk1 : k <= 10000) {name : ByteArray} (hn : name.size <= 10000) {l : List AstS} (hl : l.length <= 10000) (hd : ∀ t ∈ l, DS k t) (ht : jG l <= 10000) :
  JC f d name l.length (jR (AstS.dens l))=jX f d name l.length (jR (AstS.dens l)):=by
 unfold JC jX;rw [Ym hn,Lw d k l _ hk hl hd hk1 (fun _=>rfl) ht,D9 hf d k l _ hk hl hd hk1 (fun _=>rfl)];obtain ⟨a,b,q1,q2,q3,q4,q5⟩:=L0 d k l (jR (AstS.dens l)) 1 hk (lRq _) (by omega) hl hd hk1 (fun _=>rfl) ht
 have q1:YG d l.length (jR (AstS.dens l)) 1=some ((a:Int),(b:Int)):=q1;rw [q1];simp only;rcases Nat.lt_or_ge 4096 (jG l) with h | h
 ·have e1:lt 4096 (a:Int)=true:=by have:=q5 h;unfold lt;simp;omega
  have e2:lt 4096 ((jG l:Nat):Int)=true:=by unfold lt;simp;omega
  rw [e1,e2];rfl
 ·obtain ⟨x1,x2⟩:=q4 h;have e1:lt 4096 (a:Int)=false:=by unfold lt;simp;omega
  have e2:lt 4096 ((jG l:Nat):Int)=false:=by unfold lt;simp;omega
  have e3:lt 16 (b:Int)=lt 16 ((qt l:Nat):Int):=by
   unfold lt;cases hh:decide ((16:Int)<((qt l:Nat):Int)) with
   | true=>have:=of_decide_eq_true hh;simp;omega
   | false=>have:=of_decide_eq_false hh;simp;omega
  rw [e1,e2,e3]
def ya (w:ByteArray):Prop:=∃ c:UInt8,w=⟨⟨[c]⟩⟩∧za c=false∧KT c=false
def zt (k:ByteArray):Bool:=match lst k with | []=>true | c::_=>za c||KT c
theorem zR {w k:ByteArray} (h:ya w) (hk:zt k=true):jb w k=false:=by
 obtain ⟨c,rfl,h1,h2⟩:=h;cases he:jb (⟨⟨[c]⟩⟩ : ByteArray) k with
 | false=>rfl
 | true =>
   have:=(zr _ _).1 he
   subst this;have hk:(za c||KT c)=true:=hk;rw [h1,h2] at hk;cases hk
theorem Ue {w:ByteArray} (h:ya w):w.size<=10000:=by
 obtain ⟨c,rfl,_⟩:=h;show 1<=10000;omega
theorem UI {w:ByteArray} (h:ya w):q8 w=false:=by
 obtain ⟨c,rfl,_⟩:=h;rfl
theorem IH {n:Int} (h:yE n=false):qV n=false:=by
 unfold yE at h;cases hd:qV n with
 | false=>rfl
 | true=>rw [hd] at h;simp at h
theorem XM {w:ByteArray} (h:ya w):jq w=some (0,false):=by
 obtain ⟨c,rfl,h1,_⟩:=h;have hd:qV (c.toNat:Int)=false:=IH h1
 have key:kZ 2 (⟨⟨[c]⟩⟩ : ByteArray) 1 0 0=some (true,0,0):=by
  unfold kZ;show (bif qV (c.toNat:Int) then (_:Option (Bool × Int × Int)) else some (true,0,0))=_;rw [hd];rfl
 unfold jq;show (match kZ 2 (⟨⟨[c]⟩⟩ : ByteArray) 1 0 0 with | some (true,_,_)=>some (0,false) | some (false,n,_)=>some (n,le n 1073741824) | none=>none)=_
 rw [key]
theorem Ur {w:ByteArray} (h:ya w):jB w=some false:=by
 obtain ⟨c,rfl,h1,_⟩:=h;have hd:yE (c.toNat:Int)=false:=h1;unfold jB;show (match z7 2 (⟨⟨[c]⟩⟩ : ByteArray) 1 0 with | some b=>some (bif b then lt 0 1 else false) | none=>none)=_
 unfold z7;show (match (bif yE (c.toNat:Int) then _ else some false) with | some b=>some (bif b then lt 0 1 else false) | none=>none)=_
 rw [hd];rfl
variable {α α' β β':Type}
inductive XQ (D:Int->QS->Prop) (R:LS->QS->Prop) (V:α->α'->Prop):PR LS α->PR QS α'->Prop where
 | stuck {y:PR QS α'}:XQ D R V .stuck y
 | pan {a:Int} {v:α'} {q:QS} (h:D a q):XQ D R V (.pan a) (.ret v q)
 | ret {v:α} {v':α'} {p:LS} {q:QS} (hv:V v v') (hr:R p q):XQ D R V (.ret v p) (.ret v' q)
def DmD (D:QS->Prop):PR QS α->Prop
 | .ret _ q=>D q
 | _=>False
theorem DmD.bind {D D':QS->Prop} {x:PR QS α} {f:α->QS->PR QS β} (h:DmD D x) (hf:∀ v q,D q->DmD D' (f v q)):DmD D' (x.bind f):=by
 cases x with
 | ret v q=>exact hf v q h
 | stuck=>exact h.elim
 | pan a=>exact h.elim
theorem XQ.bind {D D' : Int -> QS -> Prop} {R R' : LS -> QS -> Prop} {V : α -> α' -> Prop} {U : β -> β' -> Prop} {x : PR LS α} {y : PR QS α'} {f : α -> LS -> PR LS β} {g : α' -> QS -> PR QS β'} (h : XQ D R V x y)
  (hf:∀ v v' p q,V v v'->R p q->XQ D' R' U (f v p) (g v' q)) (hd:∀ a v' q,D a q->DmD (D' a) (g v' q)):XQ D' R' U (x.bind f) (y.bind g):=by
 cases h with
 | stuck=>exact .stuck
 | @pan a v q h =>
   have:=hd a v q h
   show XQ D' R' U (.pan a) (g v q);cases hg:g v q with
  | ret w q'=>rw [hg] at this;exact .pan this
  | stuck=>rw [hg] at this;exact this.elim
  | pan b=>rw [hg] at this;exact this.elim
 | ret hv hr=>exact hf _ _ _ _ hv hr
theorem XQ.cond {D:Int->QS->Prop} {R:LS->QS->Prop} {V:α->α'->Prop} {c:Bool} {x y:PR LS α} {x' y':PR QS α'} (h1:c=true->XQ D R V x x') (h2:c=false->XQ D R V y y'):XQ D R V (bif c then x else y) (bif c then x' else y'):=by
 cases c with
 | true=>exact h1 rfl
 | false=>exact h2 rfl
def Doom (N:Nat) (a:Int) (q:QS):Prop:=q.pos=a∧q.tx.size<=10000∧(q.bad=true∨(ya q.tx∧a<N))
def Stg (N:Nat) (a:Int) (q:QS):Prop:=q.pos=a∧q.bad=false∧ya q.tx∧a<N
theorem Stg.doom {N:Nat} {a:Int} {q:QS} (h:Stg N a q):Doom N a q:=⟨h.1,Ue h.2.2.1,.inr h.2.2⟩
theorem Doom.bad {N:Nat} {a:Int} {q:QS} (h:Doom N a q):Doom N a (jW q):=⟨h.1,h.2.1,.inl rfl⟩
variable {s:ByteArray}
def RQ0 (s:ByteArray) (p:LS) (q:QS):Prop:=q.bad=false∧∃ k:Nat,q.en=(k:Int)∧k<=s.size∧p.2.1=(lst s).drop k
def RQ (s:ByteArray) (p:LS) (q:QS):Prop:=p.1=q.tx∧p.2.2=q.pos∧q.tx.size<=10000∧jb q.tx (bs [])=!lt q.pos (ja s.size)∧RQ0 s p q
theorem RQ.bad {p:LS} {q:QS} (h:RQ s p q):Doom s.size p.2.2 (jW q):=⟨h.2.1.symm,h.2.2.1,.inl rfl⟩
theorem Mk (hs:s.size<=10000):∀ f k,k<=s.size->s.size+1<=f+k->∃ j:Nat,Zw f s (k:Int)=some (j:Int)∧k<=j∧j<=s.size∧qG true ((lst s).drop k)=qG false ((lst s).drop j)
 | 0,k,h1,h2=>by omega
 | f + 1, k, h1, h2 => by
   unfold Zw;rw [ltS];rcases Nat.lt_or_ge k s.size with hk | hk
   ·obtain ⟨c,e1,e2⟩:=Q4 hk;have hr:jc (k:Int) s.size=true:=by unfold jc le lt ja;simp;omega
    rw [YW hk,hr,Int.toNat_natCast,e2,e1];simp only [cond_true];cases h10:((c.toNat:Int)==10) with
    | true =>
      have hne:((c.toNat:Int) != 10)=false:=by unfold bne;rw [h10];rfl
      rw [hne];refine ⟨k,rfl,lRq _,h1,?_⟩;rw [e1];show (bif isC 10 c then _ else _)=(bif spC c then _ else _);have h2:(c.toNat:Int)=10:=eq_of_beq h10;unfold isC spC;rw [h2];rfl
    | false =>
      have hne:((c.toNat:Int) != 10)=true:=by unfold bne;rw [h10];rfl
      rw [hne];obtain ⟨j,g1,g2,g3,g5⟩:=Mk hs f (k+1) (by omega) (by omega)
      refine ⟨j,?_,by omega,g3,?_⟩
      ·rw [zF (by omega)];exact g1
      ·rw [← g5];show (bif isC 10 c then _ else _)=_;unfold isC;rw [h10];rfl
   ·rw [KO hk]
    have:k=s.size:=by omega
    subst this;have e:(lst s).drop s.size=[]:=List.drop_of_length_le (by rw [yo];exact lRq _)
    refine ⟨s.size,rfl,lRq _,lRq _,?_⟩;rw [e];rfl
theorem jlq (hs:s.size<=10000) {k:Nat} (hk:k<s.size) (h35:jr s k=35):∃ j:Nat,Zw (s.size+1) s (k:Int)=some (j:Int)∧k<j∧j<=s.size∧qG true ((lst s).drop (k+1))=qG false ((lst s).drop j):=by
 obtain ⟨j,g1,g2,g3,g5⟩:=Mk hs s.size (k+1) (by omega) (by omega)
 refine ⟨j,?_,by omega,g3,g5⟩
 unfold Zw;have hr:jc (k:Int) s.size=true:=by unfold jc le lt ja;simp;omega
 rw [ltS,YW hk,hr,Int.toNat_natCast,h35,zF (by omega)]
 exact g1
theorem NK (hs:s.size<=10000):∀ f k,k<=s.size->s.size+1<=f+k->∃ j:Nat,ZO f s (k:Int)=some (j:Int)∧k<=j∧j<=s.size∧(lst s).drop j=qG false ((lst s).drop k)
 | 0,k,h1,h2=>by omega
 | f + 1, k, h1, h2 => by
   unfold ZO;rw [ltS];rcases Nat.lt_or_ge k s.size with hk | hk
   ·obtain ⟨c,e1,e2⟩:=Q4 hk;have hr:jc (k:Int) s.size=true:=by unfold jc le lt ja;simp;omega
    rw [YW hk,hr,Int.toNat_natCast,e2,e1];simp only [cond_true]
    have hsp:Ry (c.toNat:Int)=(spC c||isC 35 c):=by
     unfold Ry spC isSp isC;cases ((c.toNat:Int)==32)<;>cases ((c.toNat:Int)==9)<;>cases ((c.toNat:Int)==10)<;>rfl
    rw [hsp];have hsk:qG false (c::(lst s).drop (k+1))=bif spC c then qG false ((lst s).drop (k+1)) else bif isC 35 c then qG true ((lst s).drop (k+1)) else c::(lst s).drop (k+1):=rfl;rw [hsk];cases h35:isC 35 c with
    | true =>
      have h2:(c.toNat:Int)=35:=eq_of_beq h35;have hs0:spC c=false:=by unfold spC;rw [h2];rfl
      obtain ⟨j,g1,g2,g3,g4⟩:=jlq hs hk (by rw [e2,h2])
      obtain ⟨j',q1,q2,q3,q4⟩:=NK hs f j (by omega) (by omega)
      rw [hs0,h2,g1];refine ⟨j',q1,by omega,q3,?_⟩
      rw [q4,← g4];rfl
    | false =>
      have hn:((c.toNat:Int)==35)=false:=h35;rw [Bool.or_false,hn];cases hc:spC c with
     | true =>
       obtain ⟨j',q1,q2,q3,q4⟩:=NK hs f (k+1) (by omega) (by omega)
       refine ⟨j',?_,by omega,q3,?_⟩
       ·rw [zF (by omega)];exact q1
       ·rw [q4];rfl
     | false =>
       refine ⟨k,rfl,lRq _,h1,?_⟩;rw [e1];rfl
   ·rw [KO hk]
    have:k=s.size:=by omega
    subst this;refine ⟨s.size,rfl,lRq _,lRq _,?_⟩;rw [List.drop_of_length_le (by rw [yo];exact lRq _)]
    rfl
theorem jnu (hs:s.size<=10000) {p:LS} {q:QS} (h:RQ0 s p q):XQ (Stg s.size) (RQ s) (fun _ _=>True) ((LM s.size).adv p) (jo s q):=by
 obtain ⟨hb,k,hk1,hk2,hk3⟩:=h;obtain ⟨st,h1,h2,h3,h4⟩:=NK hs (s.size+1) k hk2 (by omega)
 obtain ⟨n,g1,g2,g3,g4,g5,g6⟩:=NV hs (s.size+1) st h3 (by omega)
 show XQ _ _ _ (DY s.size (qG false p.2.1)) _;unfold jo;rw [hk1,h1];simp only [g1];rw [hk3,← h4];rcases Nat.lt_or_ge st s.size with hst | hst
 ·obtain ⟨c,e3,e4⟩:=Q4 hst;have hpos:(s.size:Int) - (((lst s).drop (st+1)).length+1:Nat)=(st:Int):=by rw [List.length_drop,yo];omega
  have hltst:lt (st:Int) (ja s.size)=true:=by rw [ltS];exact YW hst
  rw [e3] at g4 g5 g6 ⊢;rw [KR,hpos];cases hw:za c with
  | true =>
    have hlt:=g6 (by simp [hw])
    have hne:((n:Int)==(st:Int))=false:=by simp;omega
    rw [hne];have hcut:kJ s (st:Int) (n:Int)=true:=by unfold kJ le ja;simp;omega
    simp only [cond_false,cond_true,hcut,Int.toNat_natCast]
    have htx:zm s st n=(⟨⟨c::((lst s).drop (st+1)).takeWhile za⟩⟩ : ByteArray):=by
     unfold zm;rw [← g5,List.takeWhile_cons,hw];rfl
    rw [htx];refine .ret trivial ⟨rfl,rfl,?_,?_,hb,n,rfl,g3,?_⟩
    ·show (c::((lst s).drop (st+1)).takeWhile za).length<=10000
     have:=YN za ((lst s).drop (st+1))
     rw [List.length_drop,yo] at this;simp only [List.length_cons];omega
    ·rw [hltst];rfl
    ·show List.dropWhile za _=_;rw [← g4,List.dropWhile_cons,hw];rfl
  | false =>
    have hn:n=st:=by
     rw [List.takeWhile_cons,hw,if_neg (by simp),List.drop_take] at g5
     have:=congrArg List.length g5
     rw [List.length_take,List.length_drop,yo] at this;simp at this;omega
    subst hn;have hcut:kJ s (n:Int) ((n+1:Nat):Int)=true:=by unfold kJ le ja;simp;omega
    rw [beq_self_eq_true,hltst,zF (by omega)]
    simp only [cond_true,cond_false,hcut,Int.toNat_natCast]
    have htx:zm s n (n+1)=(⟨⟨[c]⟩⟩ : ByteArray):=by
     unfold zm;rw [List.drop_take];show (⟨⟨((lst s).drop n).take (n+1 - n)⟩⟩ : ByteArray)=_;rw [e3,show n+1 - n=1 by omega]
     rfl
    rw [htx];cases hsg:KT c with
   | true =>
     refine .ret trivial ⟨rfl,rfl,(by show 1<=10000;omega),?_,hb,n+1,rfl,by omega,rfl⟩
     rw [hltst];rfl
   | false =>
     refine .pan ⟨rfl,hb,⟨c,rfl,hw,hsg⟩,?_⟩;omega
 ·have:st=s.size:=by omega
  subst this;have hn:n=s.size:=by omega
  subst hn;have e:(lst s).drop s.size=[]:=List.drop_of_length_le (by rw [yo];exact lRq _)
  have hlt:lt (s.size:Int) (ja s.size)=false:=by rw [ltS];exact KO (lRq _)
  have hcut:kJ s (s.size:Int) (s.size:Int)=true:=by unfold kJ le ja;simp
  rw [beq_self_eq_true,hlt,e];simp only [cond_true,cond_false,hcut,Int.toNat_natCast]
  have htx:zm s s.size s.size=bs []:=by
   unfold zm;rw [List.drop_take,Nat.sub_self,List.take_zero];rfl
  rw [htx];refine .ret trivial ⟨rfl,rfl,(by show 0<=10000;omega),?_,hb,s.size,rfl,lRq _,e.symm⟩
  rw [hlt];rfl
end Go.Proofs.YtiefjlcakpdfeaaGreat
namespace Go.Proofs.YtiefjlcakpdfeaaGreat
open Go Go.Sx Go.RowKit Rb
set_option maxRecDepth 100000
section
variable {ε τ:Type} {nx:QS->PR QS Unit} {A:Alg ε τ} {N:Nat} {a:Int} {q:QS}
theorem Ji {w:ByteArray} (h:Doom N a q) (hw:zt w=true):zE nx w q=.ret false q:=by
 have:(bif q.bad then true else !jb q.tx w)=true:=by
  rcases h.2.2 with hb | ⟨hx,_⟩
  ·rw [hb];rfl
  ·rw [zR hx hw];cases q.bad<;>rfl
 unfold zE;rw [this];rfl
theorem zI {w:ByteArray} (h:Doom N a q) (hw:zt w=true):jN nx w q=.ret () (jW q):=by
 unfold jN;rw [Ji h hw];rfl
theorem jbv {most:Int} (h:Doom N a q):Jr nx most q=.ret 0 (jW q):=by
 unfold Jr;have hs:=yM h.2.1;cases hn:jq q.tx with
 | none=>rw [hn] at hs;cases hs
 | some r =>
   obtain ⟨n,ok⟩:=r
   have:(bif (bif q.bad then true else !ok) then true else lt most n)=true:=by
    rcases h.2.2 with hb | ⟨hx,_⟩
    ·rw [hb];rfl
    ·rw [XM hx] at hn;cases hn;cases q.bad<;>rfl
   simp only [this];rfl
theorem Mn (hx:ya q.tx):∀ l:List ByteArray,l.all zt=true->ZL q l=false
 | [],_=>rfl
 | w :: r, h => by
   rw [List.all_cons,aTq] at h;unfold ZL;rw [zR hx h.1,Mn hx r h.2];rfl
theorem HG {l:List ByteArray} (h:Doom N a q) (hl:l.all zt=true):opQ l q=false:=by
 unfold opQ;rcases h.2.2 with hb | ⟨hx,_⟩
 ·rw [hb];rfl
 ·rw [Mn hx l hl];cases q.bad<;>rfl
theorem jgu {w:ByteArray} (h:ya w):zO w=-1:=by
 have e:∀ k,zt k=true->jb w k=false:=fun k hk=>zR h hk;unfold zO
 rw [e qW (by kernel_rfl),e qT (by kernel_rfl),e yA (by kernel_rfl),e zA (by kernel_rfl),e qq (by kernel_rfl),e yh (by kernel_rfl),e zD (by kernel_rfl),e qB (by kernel_rfl),
  e yy (by kernel_rfl),e wOr (by kernel_rfl),e yw (by kernel_rfl),e wEq (by kernel_rfl),e wLt (by kernel_rfl),e wGt (by kernel_rfl),e yD (by kernel_rfl),e zc (by kernel_rfl)]
 rfl
theorem jfc {w:ByteArray} (h:ya w):jZ w=0:=by
 have e:∀ k,zt k=true->jb w k=false:=fun k hk=>zR h hk;unfold jZ
 rw [e kz (by kernel_rfl),e Qb (by kernel_rfl),e J5 (by kernel_rfl),e J4 (by kernel_rfl),e JP (by kernel_rfl),e wUp (by kernel_rfl),e KG (by kernel_rfl),e yv (by kernel_rfl),
  e yL (by kernel_rfl),e k6 (by kernel_rfl),e ZW (by kernel_rfl)]
 rfl
theorem jfi {expr:QS->PR QS ε} (h:Doom N a q):Y6 nx A expr q=.ret (Zy A) (jW q):=by
 unfold Y6;rw [Ji h (by kernel_rfl)]
 show (bif nmD (jq q.tx) then _ else _)=_;rw [yM h.2.1];simp only [cond_true];rcases h.2.2 with hb | ⟨hx,_⟩
 ·rw [hb];cases nmO (jq q.tx)<;>rfl
 ·rw [XM hx,jgu hx];cases q.bad<;>cases jb q.tx qW<;>rfl
theorem jac {expr:QS->PR QS ε} (h:Doom N a q):DmD (Doom N a) (Y6 nx A expr q):=by rw [jfi h];exact h.bad
theorem Gs {f:QS->PR QS ε} {k:Nat} {e:ε} (h:Doom N a q):WU nx A f (k+1) e q=.ret e q:=by
 unfold WU;rw [HG h (by kernel_rfl)];rfl
theorem Fg {expr:QS->PR QS ε} {k:Nat} (h:Doom N a q):DmD (Doom N a) (Gq nx A expr (k+1) q):=by
 unfold Gq;exact (jac h).bind fun v q h=>by rw [Gs h];exact h
theorem FQ {one expr:QS->PR QS ε} {k:Nat} (h:Doom N a q):DmD (Doom N a) (Gg nx A one expr (k+1) q):=by
 unfold Gg;rw [Ji h (by kernel_rfl)]
 show DmD _ ((Gq nx A expr (k+1) q).bind _);exact (Fg h).bind fun v q h=>by rw [HG h (by kernel_rfl)];exact h
theorem Q2 {w:ByteArray} (hw:zt w=true) {f:QS->PR QS ε} {k:Nat} {e:ε} (h:Doom N a q):Yx nx A w f (k+1) e q=.ret e q:=by
 unfold Yx;rw [Ji h hw];rfl
theorem MQ {one expr:QS->PR QS ε} {k:Nat} (h:Doom N a q):DmD (Doom N a) (Bi nx A one expr (k+1) q):=by
 unfold Bi;exact (FQ h).bind fun v q h=>by rw [Q2 (by kernel_rfl) h];exact h
theorem jjy {one expr:QS->PR QS ε} {k:Nat} (h:Doom N a q):DmD (Doom N a) (Lu nx A one expr (k+1) q):=by
 unfold Lu;exact (MQ h).bind fun v q h=>by rw [Q2 (by kernel_rfl) h];exact h
theorem Ix {k d:Nat} (h:Doom N a q):DmD (Doom N a) ((QP nx A (k+1) (d+1)).1 q)∧DmD (Doom N a) ((QP nx A (k+1) (d+1)).2 q):=⟨FQ h,jjy h⟩
end
variable {α α' β β' ε ε' τ τ':Type} {s:ByteArray} (hs:s.size<=10000)
abbrev XQd (s:ByteArray) (V:α->α'->Prop):=XQ (Doom s.size) (RQ s) V
include hs
theorem Qm {p:LS} {q:QS} (h:RQ s p q):XQ (Stg s.size) (RQ s) (fun _ _=>True) ((LM s.size).adv p) (jo s q):=jnu hs h.2.2.2.2
theorem XZ {w:ByteArray} {p:LS} {q:QS} (h:RQ s p q):XQd s Eq (qJ (LM s.size) w p) (zE (jo s) w q):=by
 unfold qJ zE;rw [h.2.2.2.2.1];show XQ _ _ _ (bif jb p.1 w then _ else _) (bif !jb q.tx w then _ else _);rw [h.1];cases jb q.tx w with
 | false=>exact .ret rfl h
 | true=>exact (Qm hs h).bind (fun _ _ _ _ _ hr=>.ret rfl hr) fun a _ q hd=>hd.doom
theorem Zf {w:ByteArray} {p:LS} {q:QS} (h:RQ s p q):XQd s (fun _ _=>True) (qR (LM s.size) w p) (jN (jo s) w q):=by
 unfold qR jN;refine (XZ hs h).bind (fun c c' p q hc h => ?_) fun a c q hd => ?_
 ·subst hc;cases c with
  | true=>exact .ret trivial h
  | false=>exact .pan h.bad
 ·cases c with
  | true=>exact hd
  | false=>exact hd.bad
theorem G6 {ok : Bool} {U : β -> β' -> Prop} {f : ByteArray -> LS -> PR LS β} {g : QS -> PR QS β'} {v : β'} {p : LS} {q : QS} (h : RQ s p q) (hf : ∀ p' q', RQ s p' q' -> XQd s U (f p.1 p') (g q')) (hd : ∀ a q', Stg s.size a q' -> DmD (Doom s.size a) (g q')) :
  XQd s U ((qy (LM s.size) ok p).bind f) (bif ok then (jo s q).bind fun _ q'=>g q' else .ret v (jW q)):=by
 unfold qy;cases ok with
 | true =>
   show XQ _ _ _ ((((LM s.size).adv p).bind fun _ s'=>.ret p.1 s').bind f) ((jo s q).bind fun _ q'=>g q');rw [PR.bind_assoc];exact (Qm hs h).bind (fun _ _ p' q' _ hr=>hf p' q' hr) fun a _ q hd'=>hd a q hd'
 | false=>exact .pan h.bad
omit hs in
theorem jpW (a b:Int):lt a b=!le b a:=by
 unfold lt le;cases h:decide (a<b) with
 | true=>have:=of_decide_eq_true h;simp;omega
 | false=>have:=of_decide_eq_false h;simp;omega
theorem N9 {most:Int} {p:LS} {q:QS} (h:RQ s p q):XQd s Eq (yp (LM s.size) most p) (Jr (jo s) most q):=by
 unfold yp Jr;show XQ _ _ _ (match jq p.1 with | none=>.stuck | some (n,ok)=>_) _
 rw [h.1];cases hn:jq q.tx with
 | none=>exact .stuck
 | some r =>
   obtain ⟨n,ok⟩:=r
   have e:(bif (bif (bif q.bad then true else !ok) then true else lt most n) then (PR.ret (0:Int) (jW q)) else (jo s q).bind fun _ q=>.ret n q)=(bif (bif ok then le n most else false) then (jo s q).bind fun _ q=>.ret n q else .ret 0 (jW q)):=by
    rw [h.2.2.2.2.1,jpW];cases ok<;>cases le n most<;>rfl
   simp only [e];exact G6 hs h (fun p' q' hr=>.ret rfl hr) fun a q' hd=>hd.doom
variable {A:Alg ε τ} {A':Alg ε' τ'} {E:ε->ε'->Prop} {T:τ->τ'->Prop} (hA:ARel Eq A A' E T)
abbrev FX (s:ByteArray) (V:α->α'->Prop) (f:LS->PR LS α) (g:QS->PR QS α'):Prop:=∀ p q,RQ s p q->XQd s V (f p) (g q)
abbrev FDm (s:ByteArray) (g:QS->PR QS α'):Prop:=∀ a q,Doom s.size a q->DmD (Doom s.size a) (g q)
omit hs in
theorem Ze {x y:ByteArray} (h:jb x y=true):x=y:=(zr _ _).1 h
omit hs in
theorem KD {t w:ByteArray} (hn:nmO (jq t)=true) (hw:nmO (jq w)=false):jb t w=false:=by
 cases h:jb t w with
 | false=>rfl
 | true=>rw [Ze h,hw] at hn;cases hn
def prC (t:ByteArray):Bool:=jb t qT||jb t yA
def siC (t:ByteArray):Bool:=jb t zA||(jb t qq||(jb t yh||(jb t zD||jb t qB)))
def noC (t:ByteArray):Bool:=bif jb t qW then true else zO t != 0
omit hs in
theorem jct (t:ByteArray):(prC t=true->noC t=false∧yr t=false)∧(prC t=false->siC t=true->noC t=false∧yr t=true)∧(prC t=false->siC t=false->noC t=true):=by
 refine ⟨fun h => ?_,fun _ h => ?_,fun h1 h2 => ?_⟩
 ·unfold prC at h;rw [Bool.or_eq_true] at h;rcases h with h | h<;>(rw [Ze h];exact ⟨by kernel_rfl,by kernel_rfl⟩)
 ·unfold siC at h;rw [Bool.or_eq_true,Bool.or_eq_true,Bool.or_eq_true,Bool.or_eq_true] at h;rcases h with h | h | h | h | h<;>(rw [Ze h];exact ⟨by kernel_rfl,by kernel_rfl⟩)
 ·unfold prC at h1;unfold siC at h2;unfold noC zO;simp only [Bool.or_eq_false_iff] at h1 h2;obtain ⟨c1,c2⟩:=h1;obtain ⟨c3,c4,c5,c6,c7⟩:=h2;rw [c1,c2,c3,c4,c5,c6,c7];cases jb t qW with
  | true=>rfl
  | false =>
    simp only [Bool.or_false,cond_false];cases jb t yy with
   | true=>rfl
   | false =>
     simp only [cond_false];cases (jb t wOr||(jb t yw||(jb t wEq||(jb t wLt||(jb t wGt||(jb t yD||jb t zc))))))<;>rfl
include hA
theorem My {x:LS->PR LS ε} {x':QS->PR QS ε'} (hx:FX s E x x') (hd:FDm s x'):FX s E (Zh (LM s.size) A x) (Y6 (jo s) A' x'):=by
 intro p q h;unfold Zh Y6;show XQ _ _ _ (bif prC p.1 then _ else bif siC p.1 then _ else bif jb p.1 Y0 then _ else _) _;rw [show (LM s.size).tx p=p.1 from rfl,h.1];cases ho:jb q.tx Y0 with
 | true =>
   have ht:=Ze ho;have e1:prC q.tx=false:=by rw [ht];kernel_rfl
   have e2:siC q.tx=false:=by rw [ht];kernel_rfl
   have e3:zE (jo s) Y0 q=(jo s q).bind fun _ q=>.ret true q:=by unfold zE;rw [h.2.2.2.2.1,ho];rfl
   rw [e1,e2,e3];simp only [cond_true,cond_false];rw [PR.bind_assoc];refine (Qm hs h).bind (fun _ _ p1 q1 _ h => ?_) fun a _ q h => ?_
   ·refine (hx p1 q1 h).bind (fun e e' p2 q2 he h => ?_) fun a e q h => ?_
    ·exact (Zf hs h).bind (fun _ _ p3 q3 _ h=>.ret he h) fun a _ q h=>h
    ·rw [zI h (by kernel_rfl)];exact h.bad
   ·show DmD _ ((x' q).bind _);refine (hd a q h.doom).bind fun v q h => ?_;rw [zI h (by kernel_rfl)];exact h.bad
 | false =>
   have e3:zE (jo s) Y0 q=.ret false q:=by unfold zE;rw [h.2.2.2.2.1,ho];rfl
   rw [e3];show XQ _ _ _ _ (bif nmD (jq q.tx) then _ else _);rw [yM h.2.2.1,h.2.2.2.2.1];simp only [cond_true,cond_false];cases hn:nmO (jq q.tx) with
  | true =>
    have e1:prC q.tx=false:=by unfold prC;rw [KD hn (by kernel_rfl),KD hn (by kernel_rfl)];rfl
    have e2:siC q.tx=false:=by unfold siC;rw [KD hn (by kernel_rfl),KD hn (by kernel_rfl),KD hn (by kernel_rfl),KD hn (by kernel_rfl),KD hn (by kernel_rfl)];rfl
    rw [e1,e2];simp only [cond_false,Bool.not_false,cond_true];refine (N9 hs h).bind (fun n n' p1 q1 hn h => ?_) fun a _ q h=>h;subst hn;exact .ret (hA.ex .nil) h
  | false =>
    obtain ⟨w1,w2,w3⟩:=jct q.tx;simp only [cond_false];show XQ _ _ _ _ (bif noC q.tx then _ else _);cases hp:prC q.tx with
   | true =>
     obtain ⟨v1,v2⟩:=w1 hp;rw [v1,v2];simp only [cond_false,cond_true];exact (Qm hs h).bind (fun _ _ p1 q1 _ h=>.ret (hA.ex .nil) h) fun a _ q h=>h.doom
   | false =>
     cases hi:siC q.tx with
    | true =>
      obtain ⟨v1,v2⟩:=w2 hp hi;rw [v1,v2];simp only [cond_false,cond_true];refine (Qm hs h).bind (fun _ _ p1 q1 _ h => ?_) fun a _ q h => ?_
      ·unfold YV;rw [PR.bind_assoc];rw [show (LM s.size).tx p1=p1.1 from rfl,h.1];exact G6 hs h (fun p' q' hr=>.ret (hA.ex .nil) hr) fun a q' hd=>hd.doom
      ·show DmD _ (bif q8 q.tx then _ else _);rw [UI h.2.2.1];exact h.doom.bad
    | false =>
      rw [w3 hp hi];simp only [cond_false,cond_true];unfold yp;rw [show (LM s.size).tx p=p.1 from rfl,h.1];have hsm:=yM h.2.2.1;cases hm:jq q.tx with
     | none=>rw [hm] at hsm;cases hsm
     | some r =>
       obtain ⟨m,ok⟩:=r;rw [hm] at hn
       have:ok=false:=hn
       subst this;exact .pan h.bad
theorem Dr {o : LS -> PR LS ε} {o' : QS -> PR QS ε'} {g : ε -> LS -> PR LS ε} {g' : ε' -> QS -> PR QS ε'} (ho : FX s E o o') (hod : FDm s o') (hg : ∀ e e', E e e' -> FX s E (g e) (g' e')) (hgd : ∀ e, FDm s (g' e)) {e : ε} {e' : ε'} (he : E e e') {p : LS} {q : QS} (h : RQ s p q) :
  ∀ l:List ByteArray,XQd s E (Zs (LM s.size) A o g e l p) (bif ZL q l then (jo s q).bind fun _ p1=>(o' p1).bind fun x p2=>g' (A'.ex q.tx 0 [e',x]) p2 else .ret e' q)
 | []=>.ret he h
 | w :: r => by
   unfold Zs ZL qJ;rw [show (LM s.size).tx p=p.1 from rfl,h.1];cases hw:jb q.tx w with
  | true =>
    have hw:=Ze hw;simp only [cond_true];rw [PR.bind_assoc];refine (Qm hs h).bind (fun _ _ p1 q1 _ h => ?_) fun a _ q h => ?_
    ·refine (ho p1 q1 h).bind (fun x x' p2 q2 hx h => ?_) fun a x q h=>hgd _ a q h;rw [hw];exact hg _ _ (hA.ex (.cons he (.cons hx .nil))) p2 q2 h
    ·exact (hod a q h.doom).bind fun v q h=>hgd _ a q h
  | false=>exact Dr ho hod hg hgd he h r
theorem jdv {o:LS->PR LS ε} {o':QS->PR QS ε'} (ho:FX s E o o') (hod:FDm s o'):∀ (k k':Nat),k<k'->∀ e e',E e e'->FX s E (yP (LM s.size) A [yD,zc] o k e) (WU (jo s) A' o' k' e')
 | 0,_,_,_,_,_,_,_,_=>.stuck
 | k+1,0,hk,_,_,_,_,_,_=>absurd hk (Nat.not_lt_zero _)
 | k + 1, k' + 1, hk, e, e', he, p, q, h => by
   unfold yP WU opQ;rw [h.2.2.2.2.1];obtain ⟨j,rfl⟩ : ∃ j,k'=j+1:=⟨k' - 1,by omega⟩
   exact Dr hs hA ho hod (jdv ho hod k (j+1) (by omega)) (fun e a q h=>by rw [Gs h];exact h) he h _
theorem jc3 {x:LS->PR LS ε} {x':QS->PR QS ε'} (hx:FX s E x x') (hd:FDm s x') {k k':Nat} (hk:k<k'):FX s E (Gc (LM s.size) A x k) (Gq (jo s) A' x' k'):=by
 intro p q h;unfold Gc Gq;obtain ⟨j,rfl⟩ : ∃ j,k'=j+1:=⟨k' - 1,by omega⟩
 exact (My hs hA hx hd p q h).bind (fun e e' p q he h=>jdv hs hA (My hs hA hx hd) (fun a q h=>jac h) k (j+1) hk e e' he p q h) fun a e q h=>by rw [Gs h];exact h
theorem FD {o x:LS->PR LS ε} {o' x':QS->PR QS ε'} (ho:FX s E o o') (hod:FDm s o') (hx:FX s E x x') (hd:FDm s x') {k k':Nat} (hk:k<k'):FX s E (Xo (LM s.size) A o x k) (Gg (jo s) A' o' x' k'):=by
 intro p q h;unfold Xo Gg;obtain ⟨j,rfl⟩ : ∃ j,k'=j+1:=⟨k' - 1,by omega⟩
 refine (XZ hs h).bind (fun c c' p q hc h => ?_) fun a c q h => ?_
 ·subst hc;refine .cond (fun _ => ?_) fun _ => ?_
  ·exact (ho p q h).bind (fun e e' p q he h=>.ret (hA.ex (.cons he .nil)) h) fun a e q h=>h
  ·refine (jc3 hs hA hx hd hk p q h).bind (fun e e' p q he h => ?_) fun a e q h => ?_
   ·unfold opQ;rw [h.2.2.2.2.1];exact Dr hs hA (g:=fun x s3=>.ret x s3) (g':=fun x s3=>.ret x s3) (jc3 hs hA hx hd hk) (fun a q h=>Fg h) (fun e e' he p q h=>.ret he h) (fun e a q h=>h) he h _
   ·rw [HG h (by kernel_rfl)];exact h
 ·cases c with
  | true=>exact (hod a q h).bind fun v q h=>h
  | false=>exact (Fg h).bind fun v q h=>by rw [HG h (by kernel_rfl)];exact h
theorem NW {w:ByteArray} (hw:zt w=true) {o:LS->PR LS ε} {o':QS->PR QS ε'} (ho:FX s E o o') (hod:FDm s o'):∀ (k k':Nat),k<k'->∀ e e',E e e'->FX s E (yP (LM s.size) A [w] o k e) (Yx (jo s) A' w o' k' e')
 | 0,_,_,_,_,_,_,_,_=>.stuck
 | k+1,0,hk,_,_,_,_,_,_=>absurd hk (Nat.not_lt_zero _)
 | k + 1, k' + 1, hk, e, e', he, p, q, h => by
   unfold yP Yx;obtain ⟨j,rfl⟩ : ∃ j,k'=j+1:=⟨k' - 1,by omega⟩
   show XQ _ _ _ ((qJ (LM s.size) w p).bind _) _;refine (XZ hs h).bind (fun c c' p q hc h => ?_) fun a c q h => ?_
   ·subst hc;refine .cond (fun _ => ?_) fun _=>.ret he h;exact (ho p q h).bind (fun x x' p q hx h=>NW hw ho hod k (j+1) (by omega) _ _ (hA.ex (.cons he (.cons hx .nil))) p q h) fun a x q h=>by rw [Q2 hw h];exact h
   ·cases c with
    | true=>exact (hod a q h).bind fun v q h=>by rw [Q2 hw h];exact h
    | false=>exact h
theorem jak {o x:LS->PR LS ε} {o' x':QS->PR QS ε'} (ho:FX s E o o') (hod:FDm s o') (hx:FX s E x x') (hd:FDm s x') {k k':Nat} (hk:k<k'):FX s E (W8 (LM s.size) A o x k) (Bi (jo s) A' o' x' k'):=by
 intro p q h;unfold W8 Bi;obtain ⟨j,rfl⟩ : ∃ j,k'=j+1:=⟨k' - 1,by omega⟩
 exact (FD hs hA ho hod hx hd hk p q h).bind (fun e e' p q he h=>NW hs hA (by kernel_rfl) (FD hs hA ho hod hx hd hk) (fun a q h=>FQ h) k (j+1) hk e e' he p q h) fun a e q h=>by rw [Q2 (by kernel_rfl) h];exact h
theorem jkK {o x:LS->PR LS ε} {o' x':QS->PR QS ε'} (ho:FX s E o o') (hod:FDm s o') (hx:FX s E x x') (hd:FDm s x') {k k':Nat} (hk:k<k'):FX s E (U3 (LM s.size) A o x k) (Lu (jo s) A' o' x' k'):=by
 intro p q h;unfold U3 Lu;obtain ⟨j,rfl⟩ : ∃ j,k'=j+1:=⟨k' - 1,by omega⟩
 exact (jak hs hA ho hod hx hd hk p q h).bind (fun e e' p q he h=>NW hs hA (by kernel_rfl) (jak hs hA ho hod hx hd hk) (fun a q h=>MQ h) k (j+1) hk e e' he p q h) fun a e q h=>by rw [Q2 (by kernel_rfl) h];exact h
theorem jh7 {K K':Nat} (hK:K<K'):∀ d d',d<d'->FX s E (exs (LM s.size) A K d).1 (QP (jo s) A' K' d').1∧FX s E (exs (LM s.size) A K d).2 (QP (jo s) A' K' d').2
 | 0,_,_=>⟨fun _ _ _=>.stuck,fun _ _ _=>.stuck⟩
 | d+1,0,h=>absurd h (Nat.not_lt_zero _)
 | d + 1, d' + 1, h => by
   obtain ⟨i1,i2⟩:=jh7 hK d d' (by omega)
   obtain ⟨j,rfl⟩ : ∃ j,K'=j+1:=⟨K' - 1,by omega⟩
   obtain ⟨d'',rfl⟩ : ∃ j,d'=j+1:=⟨d' - 1,by omega⟩
   have hd1:FDm s (QP (jo s) A' (j+1) (d''+1)).1:=fun a q h=>(Ix h).1;have hd2:FDm s (QP (jo s) A' (j+1) (d''+1)).2:=fun a q h=>(Ix h).2;exact ⟨FD hs hA i1 hd1 i2 hd2 hK,jkK hs hA i1 hd1 i2 hd2 hK⟩
end Go.Proofs.YtiefjlcakpdfeaaGreat