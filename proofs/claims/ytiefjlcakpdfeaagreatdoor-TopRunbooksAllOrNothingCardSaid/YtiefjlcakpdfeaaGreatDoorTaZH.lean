/-
 Part TaZH of the proof: RvG RvH RvI RvJ RvK RvL.
-/
import Derived.Test.YtiefjlcakpdfeaaGreatDoorTaZG
namespace Go.Proofs.YtiefjlcakpdfeaaGreatDoor
open Go Go.Sx Go.RowKit Rb
set_option maxRecDepth 100000
def yP (B:BF) (s:RS) (x:RU):Option (Int × RU):=(yC P2 false s x).bind fun y =>
 bif y.1.2.2 != 0 then (yE false 2 (YC s.kind) y.2).bind fun z=>some (y.1.2.2,Ur false z.2 s.at_) else kG false B y.1.1 y.1.2.1 (ja y.1.1) (y.1.1+1) 0 y.2
theorem ja5 {B : BF} {n : Nat} {ρ : Val} {l : Int} {f : Nat} {i : Int} {x : RU} (h1 : lt i l = true) (h2 : jc i n = true) :
  yd P2 false B n ρ l (f+1) i x=(yP B (jh ρ i.toNat) x).bind fun w=>bif w.1 != 0 then some w else yd P2 false B n ρ l f (IntKind.wrap .i64 (i+1)) w.2:=by
 show (bif lt i l then nd (jc i n) ((yC P2 false (jh ρ i.toNat) x).bind fun y =>
   bif y.1.2.2 != 0 then (yE false 2 (YC (jh ρ i.toNat).kind) y.2).bind fun z=>some (y.1.2.2,Ur false z.2 (jh ρ i.toNat).at_)
   else (kG false B y.1.1 y.1.2.1 (ja y.1.1) (y.1.1+1) 0 y.2).bind fun w=>bif w.1 != 0 then some (w.1,w.2) else yd P2 false B n ρ l f (IntKind.wrap .i64 (i+1)) w.2) else some (0,x))=_
 rw [h1,h2];unfold yP;simp only [nd,cond_true];cases yC P2 false (jh ρ i.toNat) x with
 | none=>rfl
 | some y =>
   simp only [Option.bind];cases hy:(y.1.2.2 != 0) with
  | true =>
    simp only [cond_true];cases yE false 2 (YC (jh ρ i.toNat).kind) y.2 with
   | none=>rfl
   | some z=>simp only [hy,cond_true]
  | false=>rfl
variable {A:Sq} {ρ0 τ:Val} {F F0:Nat->Nat->Bool} {n0 e b:Nat} {x:RU}
theorem jjk (c k:Nat) (p q r s:Int) (ρ:Val):Bz 20 (jN (stA 1 c k p q r s)).cond 3 ρ=some (1,0):=by kernel_rfl
theorem Tp:jb wIf wDo=false∧jb wIf kj=false∧jb wIf qc=false∧jb qc wDo=false∧jb qc kj=false∧jb qc qc=true:=by
 refine ⟨by kernel_rfl,by kernel_rfl,by kernel_rfl,by kernel_rfl,by kernel_rfl,by kernel_rfl⟩
theorem jdg (c k:Nat) (p q r s:Int):(jN (stA 1 c k p q r s)).kind=wIf∧(jN (stA 1 c k p q r s)).bn=1∧jh (jN (stA 1 c k p q r s)).bρ 0=jN (doA c k p q):=⟨rfl,rfl,rfl⟩
theorem jd8 (c k:Nat) (p q r s:Int):(jN (stA 2 c k p q r s)).kind=qc∧(jN (stA 2 c k p q r s)).bn=1∧jh (jN (stA 2 c k p q r s)).bρ 0=jN (doA c k p q)∧(jN (stA 2 c k p q r s)).cond.v=2:=⟨rfl,rfl,rfl,rfl⟩
theorem Mh (h:Fw A ρ0 τ n0 e F b x) (hb:b<=900) (c k:Nat) (p q r s:Int):yC P2 false (jN (stA 1 c k p q r s)) x=some ((1,Zb 1 (jN (stA 1 c k p q r s)).bρ,0),zr false x):=by
 obtain ⟨k1,k2,k3,_,_,_⟩:=Tp;obtain ⟨e1,e2,e3⟩:=jdg c k p q r s;unfold yC Zs;have e4:(zr false x).sn=3:=h.sn;rw [h.few (by omega),e1,k1,k2,k3,e4]
 have e5:P2.E (jN (stA 1 c k p q r s)).cond 3 (zr false x).sρ=some (1,0):=jjk c k p q r s (zr false x).sρ;rw [e5,e2];rfl
theorem L1 (h:Fw A ρ0 τ n0 e F b x) (hb:b<=900) (c k:Nat) (p q r s:Int):yC P2 false (jN (stA 2 c k p q r s)) x=some ((2,R2 (Zb 1 (jN (stA 2 c k p q r s)).bρ),0),zr false x):=by
 obtain ⟨_,_,_,k1,k2,k3⟩:=Tp;obtain ⟨e1,e2,e3,e4⟩:=jd8 c k p q r s;unfold yC;rw [h.few (by omega),e1,k1,k2,k3,e2,e4]
 rfl
theorem jdn {B:BF} {κ:Val} {x:RU}:kG false B 1 κ (ja 1) (1+1) 0 x=(B false (J6 κ 0) (Jw κ 0) x).bind fun y=>bif y.1 != 0 then some y else some (0,y.2):=rfl
theorem RQ {B : BF} {κ : Val} {x : RU} : kG false B 2 κ (ja 2) (2 + 1) 0 x = (B false (J6 κ 0) (Jw κ 0) x).bind fun y => bif y.1 != 0 then some y else
  (B false (J6 κ 1) (Jw κ 1) y.2).bind fun z=>bif z.1 != 0 then some z else some (0,z.2):=rfl
theorem jiH {ρ:Val}:J6 (Zb 1 ρ) 0=1∧jh (Jw (Zb 1 ρ) 0) 0=jh ρ 0:=⟨rfl,Xm rfl⟩
theorem jmU {ρ:Val}:(J6 (R2 (Zb 1 ρ)) 0=1∧jh (Jw (R2 (Zb 1 ρ)) 0) 0=jh ρ 0)∧J6 (R2 (Zb 1 ρ)) 1=1∧jh (Jw (R2 (Zb 1 ρ)) 1) 0=jh ρ 0:=⟨⟨rfl,Xm rfl⟩,rfl,Xm rfl⟩
theorem b29:((29:Int) != 0)=true:=rfl
theorem jli (g : Grd ρ0 n0) (h : Fw A ρ0 τ n0 e F b x) (he : e <= 500) (hb : b <= 900) (p q : Int) (B : BF) :
  (odC τ n0 e=false->∃ y,yP B (jN (doA (A.c e) (A.k e) p q)) x=some (0,y)∧Fw A ρ0 τ n0 (e+1) (yJ F (A.c e) (A.k e)) (b+1) y) ∧
  (odC τ n0 e=true->∃ y,yP B (jN (doA (A.c e) (A.k e) p q)) x=some (29,y)∧Bw A ρ0 e F y):=by
 have hx:=h.beg (by omega)
 refine ⟨fun ho => ?_,fun ho => ?_⟩
 ·unfold yP;rw [Mc g h he (by omega) ho p q]
  exact ⟨_,rfl,hx.done p q⟩
 ·unfold yP;obtain ⟨r1,r2,r3,r4,r5,r6,r7⟩:=Wg (zr false x);have e7:=jc1 (x:=j4 (zr false x)) (by rw [r4];show x.pn<=1000;rw [h.pn];omega)
  rw [N2 g h (by omega) ho _ _ p q]
  simp only [Option.bind,b29,cond_true,Wv,e7];exact ⟨_,rfl,hx.fail _⟩
theorem ji9 (g : Grd ρ0 n0) (h : Fw A ρ0 τ n0 e F b x) (he : e <= 500) (hb : b <= 900) (p q r s : Int) (B : BF) :
  (odC τ n0 e=false->∃ y,yP (zl P2 B) (jN (stA 1 (A.c e) (A.k e) p q r s)) x=some (0,y)∧Fw A ρ0 τ n0 (e+1) (yJ F (A.c e) (A.k e)) (b+2) y) ∧
  (odC τ n0 e=true->∃ y,yP (zl P2 B) (jN (stA 1 (A.c e) (A.k e) p q r s)) x=some (29,y)∧Bw A ρ0 e F y):=by
 have hx:=h.beg (by omega)
 obtain ⟨e1,e2,e3⟩:=jdg (A.c e) (A.k e) p q r s;obtain ⟨b1,b2⟩:=jiH (ρ:=(jN (stA 1 (A.c e) (A.k e) p q r s)).bρ);rw [e3] at b2;refine ⟨fun ho => ?_,fun ho => ?_⟩
 ·unfold yP;rw [Mh h hb];simp only [Option.bind,bne_self_eq_false,cond_false];rw [jdn,b1,Hb g hx he (by omega) ho b2 B]
  exact ⟨_,rfl,(hx.beg (by omega)).done p q⟩
 ·unfold yP;rw [Mh h hb];simp only [Option.bind,bne_self_eq_false,cond_false];obtain ⟨a,h1⟩:=Ga g hx he (by omega) ho b2 B
  rw [jdn,b1,h1];exact ⟨_,rfl,(hx.beg (by omega)).fail _⟩
theorem jkL (g : Grd ρ0 n0) (h : Fw A ρ0 τ n0 e F b x) (he : e <= 499) (hb : b <= 900) (hc : A.c (e + 1) = A.c e) (hk : A.k (e + 1) = A.k e) (p q r s : Int) (B : BF) :
  (odC τ n0 e=false->odC τ n0 (e+1)=false->∃ y,yP (zl P2 B) (jN (stA 2 (A.c e) (A.k e) p q r s)) x=some (0,y)∧Fw A ρ0 τ n0 (e+2) (yJ F (A.c e) (A.k e)) (b+3) y) ∧
  (odC τ n0 e=false->odC τ n0 (e+1)=true->∃ y,yP (zl P2 B) (jN (stA 2 (A.c e) (A.k e) p q r s)) x=some (29,y)∧Bw A ρ0 (e+1) (yJ F (A.c e) (A.k e)) y) ∧
  (odC τ n0 e=true->∃ y,yP (zl P2 B) (jN (stA 2 (A.c e) (A.k e) p q r s)) x=some (29,y)∧Bw A ρ0 e F y):=by
 have hx:=h.beg (by omega)
 obtain ⟨e1,e2,e3,e4⟩:=jd8 (A.c e) (A.k e) p q r s;obtain ⟨⟨b1,b2⟩,b3,b4⟩:=jmU (ρ:=(jN (stA 2 (A.c e) (A.k e) p q r s)).bρ);rw [e3] at b2 b4
 have b4:jh (Jw (R2 (Zb 1 (jN (stA 2 (A.c e) (A.k e) p q r s)).bρ)) 1) 0=jN (doA (A.c (e+1)) (A.k (e+1)) p q):=by
  rw [hc,hk];exact b4
 have hz:=(hx.beg (by omega)).done p q
 refine ⟨fun ho ho2 => ?_,fun ho ho2 => ?_,fun ho => ?_⟩
 ·unfold yP;rw [L1 h hb];simp only [Option.bind,bne_self_eq_false,cond_false];rw [RQ,b1,b3,Hb g hx (by omega) (by omega) ho b2 B]
  simp only [Option.bind,bne_self_eq_false,cond_false];rw [Hb g hz (by omega) (by omega) ho2 b4 B]
  refine ⟨_,rfl,?_⟩;have hw:=(hz.beg (by omega)).done p q
  have hu:yJ (yJ F (A.c e) (A.k e)) (A.c (e+1)) (A.k (e+1))=yJ F (A.c e) (A.k e):=by rw [hc,hk,Oh jju]
  rw [hu] at hw;exact hw
 ·unfold yP;rw [L1 h hb];simp only [Option.bind,bne_self_eq_false,cond_false];obtain ⟨a,h1⟩:=Ga g hz (by omega) (by omega) ho2 b4 B
  rw [RQ,b1,b3,Hb g hx (by omega) (by omega) ho b2 B]
  simp only [Option.bind,bne_self_eq_false,cond_false];rw [h1];exact ⟨_,rfl,(hz.beg (by omega)).fail _⟩
 ·unfold yP;rw [L1 h hb];simp only [Option.bind,bne_self_eq_false,cond_false];obtain ⟨a,h1⟩:=Ga g hx (by omega) (by omega) ho b2 B
  rw [RQ,b1,h1];exact ⟨_,rfl,(hx.beg (by omega)).fail _⟩
def wtT (t:Nat):Nat:=bif Nat.beq t 2 then 2 else 1
section
variable (y:Nat->Nat) (F0:Nat->Nat->Bool)
def ksB (i:Nat):Nat:=y i / 2 % 3
def tsB (i:Nat):Nat:=y i / 6 % 3
def cOf (F:Nat->Nat->Bool) (v:Nat):Nat:=2*(v % 2)+bif F (v % 2) (v / 2 % 3) then 1 else 0
def FsB:Nat->Nat->Nat->Bool
 | 0=>F0
 | i+1=>yJ (FsB i) (cOf (FsB i) (y i)) (ksB y i)
def csB (i:Nat):Nat:=cOf (FsB y F0 i) (y i)
def NsB:Nat->Nat
 | 0=>0
 | i+1=>NsB i+wtT (tsB y i)
def ixR:Nat->Nat->Nat
 | 0,_=>0
 | f+1,j=>bif Nat.ble (NsB y (f+1)) j then f+1 else ixR f j
def ixB (j:Nat):Nat:=ixR y j j
end
variable {y:Nat->Nat}
theorem X2 (t:Nat):1<=wtT t∧wtT t<=2:=by unfold wtT;cases Nat.beq t 2<;>exact ⟨by decide,by decide⟩
theorem G6:∀ i d,NsB y i+d<=NsB y (i+d)
 | _,0=>lRq _
 | i, d + 1 => by
   have h1:=G6 i d;have h2:=(X2 (tsB y (i+d))).1;show _<=NsB y (i+d)+wtT (tsB y (i+d));omega
theorem Uz:∀ i,NsB y i<=2*i
 | 0=>lRq _
 | i + 1 => by
   have h1:=Uz i;have h2:=(X2 (tsB y i)).2;show NsB y i+wtT (tsB y i)<=_;omega
theorem jcN {i j:Nat} (h1:NsB y i<=j) (h2:j<NsB y (i+1)):∀ f,i<=f->ixR y f j=i
 | 0,h=>by unfold ixR;omega
 | f + 1, h => by
   unfold ixR;rcases lOq i (f+1) with h3 | h3
   ·have h4:=G6 (y:=y) (i+1) (f - i);rw [show i+1+(f - i)=f+1 by omega] at h4
    have:Nat.ble (NsB y (f+1)) j=false:=by
     cases hb:Nat.ble (NsB y (f+1)) j with
     | false=>rfl
     | true=>rw [Nat.ble_eq] at hb;omega
    rw [this];exact jcN h1 h2 f (by omega)
   ·have:i=f+1:=by omega
    subst this
    have:Nat.ble (NsB y (f+1)) j=true:=by rw [Nat.ble_eq];exact h1
    rw [this];rfl
theorem joM {i j:Nat} (h1:NsB y i<=j) (h2:j<NsB y (i+1)):ixB y j=i:=by
 have h3:=G6 (y:=y) 0 i;rw [Nat.zero_add] at h3;exact jcN h1 h2 j (by have:NsB y 0=0:=rfl;omega)
theorem Js (F:Nat->Nat->Bool) (v:Nat):cOf F v<4:=by
 unfold cOf
 have:v % 2<2:=Nat.mod_lt _ (by decide)
 cases F (v % 2) (v / 2 % 3)<;>simp only [cond_true,cond_false]<;>omega
theorem jkp (F:Nat->Nat->Bool) (v:Nat):F (cOf F v / 2) (v / 2 % 3)=!bC (cOf F v):=by
 unfold cOf bC
 have:v % 2<2:=Nat.mod_lt _ (by decide)
 cases h:F (v % 2) (v / 2 % 3) with
 | true =>
   have e1:(2*(v % 2)+1) / 2=v % 2:=by omega
   have e2:(2*(v % 2)+1) % 2=1:=by omega
   rw [cond_true,e1,e2,h];rfl
 | false =>
   have e1:(2*(v % 2)+0) / 2=v % 2:=by omega
   have e2:(2*(v % 2)+0) % 2=0:=by omega
   rw [cond_false,e1,e2,h];rfl
def sqB (y:Nat->Nat) (F0:Nat->Nat->Bool):Sq:=⟨fun j=>csB y F0 (ixB y j),fun j=>ksB y (ixB y j),fun j=>FsB y F0 (ixB y j),fun _=>Js _ _,fun _=>Nat.mod_lt _ (by decide)⟩
theorem VK {i j:Nat} (h1:NsB y i<=j) (h2:j<NsB y (i+1)):(sqB y F0).c j=csB y F0 i∧(sqB y F0).k j=ksB y i∧(sqB y F0).F j=FsB y F0 i:=by
 have h:=joM h1 h2;exact ⟨congrArg (csB y F0) h,congrArg (ksB y) h,congrArg (FsB y F0) h⟩
theorem XX (i:Nat):FsB y F0 i (csB y F0 i / 2) (ksB y i)=!bC (csB y F0 i):=jkp _ _
theorem Bj (i:Nat):FsB y F0 (i+1)=yJ (FsB y F0 i) (csB y F0 i) (ksB y i):=rfl
theorem chB:∀ i,(sqB y F0).Ch F0 (NsB y i) (FsB y F0 i)
 | 0=>rfl
 | i + 1 => by
   have h:=chB i;have hc:csB y F0 i<4:=Js _ _;have hw:=X2 (tsB y i);have hN:NsB y (i+1)=NsB y i+wtT (tsB y i):=rfl;obtain ⟨a1,a2,a3⟩:=VK (F0:=F0) (y:=y) (i:=i) (j:=NsB y i) (lRq _) (by omega)
   have h1:(sqB y F0).Ch F0 (NsB y i+1) (FsB y F0 (i+1)):=by
    refine ⟨?_,?_⟩
    ·rw [a1,a2,a3,Bj,UF hc (XX i)]
    ·rw [a3];exact h
   rcases lOq (wtT (tsB y i)) 2 with h2 | h2
   ·rw [hN,show wtT (tsB y i)=1 by omega]
    exact h1
   ·rw [hN,show wtT (tsB y i)=2 by omega]
    obtain ⟨b1,b2,b3⟩:=VK (F0:=F0) (y:=y) (i:=i) (j:=NsB y i+1) (by omega) (by omega)
    refine ⟨?_,?_⟩
    ·rw [b1,b2,b3,Bj,UF hc (XX i)]
    ·rw [b3];refine ⟨?_,?_⟩
     ·rw [a1,a2,a3,jcu hc (XX i)]
     ·rw [a3];exact h
theorem jqX {i:Nat} (h2:wtT (tsB y i)=2):(sqB y F0).Ch F0 (NsB y i+1) (yJ (FsB y F0 i) (csB y F0 i) (ksB y i)):=by
 have hc:csB y F0 i<4:=Js _ _;have hN:NsB y (i+1)=NsB y i+wtT (tsB y i):=rfl;obtain ⟨a1,a2,a3⟩:=VK (F0:=F0) (y:=y) (i:=i) (j:=NsB y i) (lRq _) (by omega)
 refine ⟨?_,?_⟩
 ·rw [a1,a2,a3,UF hc (XX i)]
 ·rw [a3];exact chB i
def WO (y:Nat->Nat) (F0:Nat->Nat->Bool) (m:Nat) (κ:Val):Prop:=∀ i,i<m->∃ p q r s,jh κ i=jN (stA (tsB y i) (csB y F0 i) (ksB y i) p q r s)
theorem jfG (g : Grd ρ0 n0) {i : Nat} (hi : i < 60) (h : Fw (sqB y F0) ρ0 τ n0 (NsB y i) (FsB y F0 i) b x) (hb : b <= 900) {q : Nat} (hq : NsB y i <= q) (h0 : ∀ j, j < q -> odC τ n0 j = false) (h1 : q < NsB y (i + 1) -> odC τ n0 q = true) (p1 q1 r1 s1 : Int) (B : BF) :
  (NsB y (i+1)<=q->∃ z b',yP (zl P2 B) (jN (stA (tsB y i) (csB y F0 i) (ksB y i) p1 q1 r1 s1)) x=some (0,z)∧Fw (sqB y F0) ρ0 τ n0 (NsB y (i+1)) (FsB y F0 (i+1)) b' z∧b'<=b+3) ∧
  (q<NsB y (i+1)->∃ z F,yP (zl P2 B) (jN (stA (tsB y i) (csB y F0 i) (ksB y i) p1 q1 r1 s1)) x=some (29,z)∧Bw (sqB y F0) ρ0 q F z∧(sqB y F0).Ch F0 q F):=by
 have hw:=X2 (tsB y i);have hN:NsB y (i+1)=NsB y i+wtT (tsB y i):=rfl;have hle:=Uz (y:=y) i;obtain ⟨a1,a2,a3⟩:=VK (F0:=F0) (y:=y) (i:=i) (j:=NsB y i) (lRq _) (by omega)
 have ht:tsB y i<3:=Nat.mod_lt _ (by decide)
 have hch:=chB (y:=y) (F0:=F0) i;rcases (by omega:tsB y i=0∨tsB y i=1∨tsB y i=2) with t0 | t0 | t0
 ·rw [t0] at hN ⊢;have hN:NsB y (i+1)=NsB y i+1:=hN;have h2:=jli g h (by omega) hb p1 q1 (zl P2 B)
  rw [a1,a2] at h2;rw [hN,Bj];refine ⟨fun hq2 => ?_,fun hq2 => ?_⟩
  ·obtain ⟨z,z1,z2⟩:=h2.1 (h0 _ (by omega))
   exact ⟨z,_,z1,z2,by omega⟩
  ·have:q=NsB y i:=by omega
   subst this;obtain ⟨z,z1,z2⟩:=h2.2 (h1 (by omega))
   exact ⟨z,_,z1,z2,hch⟩
 ·rw [t0] at hN ⊢;have hN:NsB y (i+1)=NsB y i+1:=hN;have h2:=ji9 g h (by omega) hb p1 q1 r1 s1 B
  rw [a1,a2] at h2;rw [hN,Bj];refine ⟨fun hq2 => ?_,fun hq2 => ?_⟩
  ·obtain ⟨z,z1,z2⟩:=h2.1 (h0 _ (by omega))
   exact ⟨z,_,z1,z2,by omega⟩
  ·have:q=NsB y i:=by omega
   subst this;obtain ⟨z,z1,z2⟩:=h2.2 (h1 (by omega))
   exact ⟨z,_,z1,z2,hch⟩
 ·have hch1:=jqX (y:=y) (F0:=F0) (i:=i) (by rw [t0];rfl)
  rw [t0] at hN ⊢;have hN:NsB y (i+1)=NsB y i+2:=hN;obtain ⟨b1,b2,b3⟩:=VK (F0:=F0) (y:=y) (i:=i) (j:=NsB y i+1) (by omega) (by omega)
  have h2:=jkL g h (by omega) hb (by rw [a1,b1]) (by rw [a2,b2]) p1 q1 r1 s1 B
  rw [a1,a2] at h2;rw [hN,Bj];refine ⟨fun hq2 => ?_,fun hq2 => ?_⟩
  ·obtain ⟨z,z1,z2⟩:=h2.1 (h0 _ (by omega)) (h0 _ (by omega))
   exact ⟨z,_,z1,z2,by omega⟩
  ·rcases (by omega:q=NsB y i∨q=NsB y i+1) with hq3 | hq3
   ·subst hq3;obtain ⟨z,z1,z2⟩:=h2.2.2 (h1 (by omega))
    exact ⟨z,_,z1,z2,hch⟩
   ·subst hq3;obtain ⟨z,z1,z2⟩:=h2.2.1 (h0 _ (by omega)) (h1 (by omega))
    exact ⟨z,_,z1,z2,hch1⟩
theorem It (g : Grd ρ0 n0) {m : Nat} (hm : m <= 60) {κ : Val} (hκ : WO y F0 m κ) {q : Nat} (hqm : q <= NsB y m) (h0 : ∀ j, j < q -> odC τ n0 j = false) (h1 : q < NsB y m -> odC τ n0 q = true) (B : BF) : ∀ f i x b, Fw (sqB y F0) ρ0 τ n0 (NsB y i) (FsB y F0 i) b x -> i <= m -> NsB y i <= q -> b <= 3 * i -> m + 1 <= f + i ->
  ∃ z,yd P2 false (zl P2 B) m κ (ja m) f (i:Int) x=some (bif Nat.beq q (NsB y m) then 0 else 29,z)∧((q=NsB y m->∃ b',Fw (sqB y F0) ρ0 τ n0 (NsB y m) (FsB y F0 m) b' z)∧(q<NsB y m->∃ F,Bw (sqB y F0) ρ0 q F z∧(sqB y F0).Ch F0 q F))
 | 0,i,x,b,h,h1,h2,h3,h4=>by omega
 | f + 1, i, x, b, h, hi, hq, hb, hf => by
   rcases lOq i m with hi | hi
   ·have e1:lt (i:Int) (ja m)=true:=by unfold lt ja;simp;exact hi
    have e2:jc (i:Int) m=true:=by unfold jc le lt ja;simp;omega
    have hup:=G6 (y:=y) (i+1) (m - (i+1));rw [show i+1+(m - (i+1))=m by omega] at hup
    obtain ⟨p1,q1,r1,s1,hs⟩:=hκ i hi;have hst:=jfG g (by omega) h (by omega) hq h0 (fun hh=>h1 (by omega)) p1 q1 r1 s1 B
    rw [ja5 e1 e2,Int.toNat_natCast,hs];rcases lOq q (NsB y (i+1)) with hq2 | hq2
    ·obtain ⟨z,F,z1,z2,z3⟩:=hst.2 hq2
     have e7:Nat.beq q (NsB y m)=false:=by
      cases hb:Nat.beq q (NsB y m) with
      | false=>rfl
      | true=>have:=eBq hb;omega
     rw [z1,e7];exact ⟨z,rfl,fun hh=>by omega,fun _=>⟨F,z2,z3⟩⟩
    ·obtain ⟨z,b',z1,z2,z3⟩:=hst.1 hq2;have e5:IntKind.wrap .i64 ((i:Int)+1)=((i+1:Nat):Int):=by rw [Ro.w64_id (by omega) (by omega)];omega
     obtain ⟨w,w1,w2⟩:=It g hm hκ hqm h0 h1 B f (i+1) z b' z2 (by omega) hq2 (by omega) (by omega)
     rw [z1,e5];exact ⟨w,w1,w2⟩
   ·have him:i=m:=by omega
    subst him;have hqi:q=NsB y i:=by omega
    subst hqi;unfold yd;have e1:lt (i:Int) (ja i)=false:=by unfold lt ja;simp
    rw [e1,Nat.beq_refl];exact ⟨x,rfl,fun _=>⟨b,h⟩,fun hh=>by omega⟩
end Go.Proofs.YtiefjlcakpdfeaaGreatDoor
namespace Go.Proofs.YtiefjlcakpdfeaaGreatDoor
open Go Go.Sx Go.RowKit Rb
set_option maxRecDepth 100000
section
variable {A:Sq} {ρ0 τ:Val} {F F0:Nat->Nat->Bool} {n0 e q t:Nat} {x:RU}
def uLn (A:Sq) (j:Nat):ByteArray:=jn wUndoS (lnA (kV (A.c j)) (A.k j))
structure Und (A:Sq) (ρ0:Val) (q t:Nat) (F:Nat->Nat->Bool) (x:RU):Prop where
 sn:x.sn=3
 si:SitesAre ρ0 F x.sρ
 bg:x.bg=(t:Int)
 pn:x.pn=q+1+t
 pv:∀ j,j<q->wd x.pρ j=lnA (A.c j) (A.k j)
 pf:wd x.pρ q=Z5
 pu:∀ s,s<t->wd x.pρ (q+1+s)=uLn A (q - 1 - s)
def unX (c k:Nat) (x:RU):RU:=nk true (J1 (QA (zr true x) (0,x.sρ.upds k (fC (kV c)) [.bool (bC (kV c))])) (jn wUndoS (lnA (kV c) k)))
theorem Und.next (h:Und A ρ0 q t F x) (ht:t<q) (hq:q<=500):Und A ρ0 q (t+1) (yJ F (kV (A.c (q - 1 - t))) (A.k (q - 1 - t))) (unX (A.c (q - 1 - t)) (A.k (q - 1 - t)) x) where
 sn:=h.sn
 si:=h.si.set (Xs (A.hc _)).1
 bg:=by
  show IntKind.wrap .i64 (x.bg+1)=_;rw [h.bg,jlZ (by omega)]
 pn:=by show x.pn+1=_;rw [h.pn];omega
 pv:=fun j hj=>by
  show wd (Val.cat x.pn x.pρ (qT _)) j=_;rw [HZ (by rw [h.pn];omega)]
  exact h.pv j hj
 pf:=by
  show wd (Val.cat x.pn x.pρ (qT _)) q=_;rw [HZ (by rw [h.pn];omega)]
  exact h.pf
 pu:=fun s hs=>by
  show wd (Val.cat x.pn x.pρ (qT _)) (q+1+s)=_;rcases lOq s t with h1 | h1
  ·rw [HZ (by rw [h.pn];omega)]
   exact h.pu s h1
  ·have:s=t:=by omega
   subst this;rw [← h.pn,jbN];rfl
theorem jfo (c k:Nat) (r:Int):(jN (unA c k r)).kind=wDo∧(jN (unA c k r)).wn=2:=⟨rfl,rfl⟩
theorem jk3 (h:Und A ρ0 q t F x) (g:Grd ρ0 n0) (ht:t<=400) (hq:q<=400) {c k:Nat} (hc:c<4) (hk:k<3) (r:Int):yC P2 true (jN (unA c k r)) x=some ((0,.zero,0),unX c k x):=by
 obtain ⟨k1,k2⟩:=jfo c k r;have hf:=(Xs hc).1
 have hb:lt 4096 (zr true x).bg=false:=by
  show lt 4096 (IntKind.wrap .i64 (x.bg+1))=false;rw [h.bg,jon (by omega)]
 have e5:=jic 3 x.sρ 0 0 (kV c) k hf hk;rw [M4 h.si g.hs g.hk hf hk (by omega),← jiA (p:=0) (q:=0) (r:=r) hc] at e5
 have e6:(zr true x).sn=3:=h.sn;have e7:(zr true x).sρ=x.sρ:=rfl;have j1:=Ts 0 0 _ _ hf hk;have j2:=MJ 0 0 _ _ hf hk;rw [← jiA (p:=0) (q:=0) (r:=r) hc] at j1 j2;have p1:Nat.ble ((x.pn+1)*16) 140737488355328=true:=Dw (by rw [h.pn];omega)
 have p3:Nat.ble ((1+2)*16) 140737488355328=true:=rfl;have p4:=jnW _ _ hf hk;unfold yC;rw [hb,k1,jfQ];simp only [cond_false,cond_true];unfold doS YF;simp only [cond_true,Option.bind,cond_false,k2,e6,e7,P2,e5];unfold yE;have p5:∀ z,Nat.ble (((nk true (QA (zr true x) (0,z))).pn+1)*16) 140737488355328=true:=fun _=>p1;simp only [j1,j2,nd,cond_true,cond_false,p3,p4,p5,bne_self_eq_false,Bool.not_true];rfl
theorem jmq (h:Und A ρ0 q t F x) (g:Grd ρ0 n0) (ht:t<=400) (hq:q<=400) {c k:Nat} (hc:c<4) (hk:k<3) {r:Int} {κ:Val} (hκ:jh κ 0=jN (unA c k r)) (B:BF):zl P2 B true 1 κ x=some (0,unX c k x):=by
 have e0:zl P2 B true 1 κ x=yd P2 true B 1 κ (ja 1) 2 0 x:=rfl;rw [e0];unfold yd;have e2:jh κ (0:Int).toNat=jN (unA c k r):=hκ;have e3:lt 0 (ja 1)=true:=rfl;have e4:jc 0 1=true:=rfl;have h':Und A ρ0 q t F (nk true x):=⟨h.sn,h.si,h.bg,h.pn,h.pv,h.pf,h.pu⟩;have e5:=jk3 (x:=nk true x) h' g ht hq hc hk r;rw [e2,e3,e4];simp only [nd,cond_true,e5,Option.bind,bne_self_eq_false,cond_false];rfl
theorem jdE (g : Grd ρ0 n0) (hq : q <= 400) {kρ : Val} (kv : ∀ j, j < q -> J6 kρ (j : Int) = 1 ∧ ∃ r, jh (Jw kρ (j : Int)) 0 = jN (unA (A.c j) (A.k j) r)) (B : BF) : ∀ r f t F x, Und A ρ0 q t F x -> A.Ch F0 (q - t) F -> t + r = q -> r + 1 <= f ->
  ∃ y,Qp (zl P2 B) q kρ f ((r:Int) - 1) x=some y∧Und A ρ0 q q F0 y
 | _,0,_,_,_,_,_,_,h=>by omega
 | 0, f + 1, t, F, x, h, hch, h1, h2 => by
   unfold Qp
   have:t=q:=by omega
   subst this;rw [Nat.sub_self] at hch;obtain rfl:F=F0:=hch;exact ⟨nk true x,rfl,⟨h.sn,h.si,h.bg,h.pn,h.pv,h.pf,h.pu⟩⟩
 | r + 1, f + 1, t, F, x, h, hch, h1, h2 => by
   unfold Qp;have e0:(((r+1:Nat):Int) - 1)=(r:Int):=by omega
   have e1:le 0 (r:Int)=true:=by unfold le;simp
   have e2:jc (r:Int) q=true:=by unfold jc le lt ja;simp;omega
   have e3:q - 1 - t=r:=by omega
   obtain ⟨k1,r',k2⟩:=kv r (by omega)
   have h':Und A ρ0 q t F (nk true x):=⟨h.sn,h.si,h.bg,h.pn,h.pv,h.pf,h.pu⟩;have e4:=jmq (x:=nk true x) h' g (by omega) hq (A.hc r) (A.hk r) k2 B
   have hnx:=h'.next (by omega) (by omega)
   rw [show q - t=r+1 by omega] at hch
   obtain ⟨c1,c2⟩:=hch;rw [e3,c1] at hnx;rw [show r=q - (t+1) by omega] at c2
   have hnx':Und A ρ0 q (t+1) (A.F r) (nk true (unX (A.c r) (A.k r) (nk true x))):=⟨hnx.sn,hnx.si,hnx.bg,hnx.pn,hnx.pv,hnx.pf,hnx.pu⟩;obtain ⟨y,h3,h4⟩:=jdE g hq kv B r f (t+1) _ _ hnx' (by rw [show A.F r=A.F (q - (t+1)) by rw [show r=q - (t+1) by omega]];exact c2) (by omega) (by omega)
   refine ⟨y,?_,h4⟩;have e5:IntKind.wrap .i64 ((r:Int) - 1)=(r:Int) - 1:=Ro.w64_id (by omega) (by omega)
   rw [e0,e1,e2,k1];simp only [nd,cond_true,e4,Option.bind,e5];exact h3
end
variable {y:Nat->Nat} {ρ0 τ:Val} {F0:Nat->Nat->Bool} {n0 m:Nat}
theorem fwI (A:Sq) (hF:∀ j g,g<2->((ρ0.at j).at (6+g)).B []=F0 g j):Fw A ρ0 τ n0 0 F0 0 (TA 3 ρ0 n0 τ) where
 sn:=rfl
 si:=⟨fun _ _ _ _=>rfl,hF⟩
 bg:=rfl
 cn:=rfl
 cv:=fun j hj=>by rw [Nat.zero_add];rfl
 pn:=rfl
 pv:=fun j hj=>by omega
 kn:=rfl
 kv:=fun j hj=>by omega
structure RunIs (y:Nat->Nat) (F0:Nat->Nat->Bool) (ρ0:Val) (m q:Nat) (r:Nat × Val × Nat × Val × Int):Prop where
 sn:r.1=3
 e:r.2.2.2.2=bif Nat.beq q (NsB y m) then 0 else 29
 si:SitesAre ρ0 (bif Nat.beq q (NsB y m) then FsB y F0 m else F0) r.2.1
 pn:r.2.2.1=bif Nat.beq q (NsB y m) then q else q+1+q
 pv:∀ j,j<q->wd r.2.2.2.1 j=lnA ((sqB y F0).c j) ((sqB y F0).k j)
 pf:q<NsB y m->wd r.2.2.2.1 q=Z5
 pu:q<NsB y m->∀ s,s<q->wd r.2.2.2.1 (q+1+s)=uLn (sqB y F0) (q - 1 - s)
theorem Iu (hF : ∀ j g, g < 2 -> ((ρ0.at j).at (6 + g)).B [] = F0 g j) (g : Grd ρ0 n0) (hm : m <= 60) {κ : Val} (hκ : WO y F0 m κ) {q : Nat} (hqm : q <= NsB y m) (h0 : ∀ j, j < q -> odC τ n0 j = false) (h1 : q < NsB y m -> odC τ n0 q = true)
  {C:ChF} {name:ByteArray} (hC:C name m κ 3 ρ0=some (0,0)):∃ r,WR C Ha name m κ 3 ρ0 n0 τ=some r∧RunIs y F0 ρ0 m q (r.sn,r.sρ,r.pn,r.pρ,r.e):=by
 obtain ⟨z,z1,z2,z3⟩:=It g hm hκ hqm h0 h1 (We P2 18) (m+1) 0 _ 0 (fwI _ hF) (by omega) (Nat.zero_le _) (by omega) (by omega)
 have hN:=Uz (y:=y) m;have e0:Ha false m κ (TA 3 ρ0 n0 τ)=some (bif Nat.beq q (NsB y m) then 0 else 29,z):=z1;unfold WR;rw [hC,g.hs];simp only [Option.bind,bne_self_eq_false,cond_false,nd,cond_true,e0];rcases lOq q (NsB y m) with hq | hq
 ·obtain ⟨F,w1,w2⟩:=z3 hq
  have e7:Nat.beq q (NsB y m)=false:=by
   cases hb:Nat.beq q (NsB y m) with
   | false=>rfl
   | true=>have:=eBq hb;omega
  have hu:Und (sqB y F0) ρ0 q 0 F (Wb z):=⟨w1.sn,w1.si,rfl,w1.pn,w1.pv,w1.pf,fun s hs=>by omega⟩
  obtain ⟨v,v1,v2⟩:=jdE (F0:=F0) g (by omega) w1.kv (We P2 19) q (q+1) 0 F _ hu w2 (by omega) (by omega)
  have e2:IntKind.wrap .i64 (ja q - 1)=(q:Int) - 1:=by show IntKind.wrap .i64 ((q:Int) - 1)=_;exact Ro.w64_id (by omega) (by omega)
  have e3:((29:Int)==0)=false:=rfl;have e4:Qp Ha q z.kρ (q+1) ((q:Int) - 1) (Wb z)=some v:=v1;rw [e7];simp only [cond_false,e3,w1.kn,e2,e4];refine ⟨_,rfl,?_⟩;constructor
  ·exact v2.sn
  ·rw [e7];rfl
  ·rw [e7];exact v2.si
  ·rw [e7];exact v2.pn
  ·exact v2.pv
  ·exact fun _=>v2.pf
  ·exact fun _=>v2.pu
 ·have hq:q=NsB y m:=by omega
  subst hq;obtain ⟨b',w1⟩:=z2 rfl;rw [Nat.beq_refl];simp only [cond_true,beq_self_eq_true];refine ⟨_,rfl,?_⟩;constructor
  ·exact w1.sn
  ·rw [Nat.beq_refl];rfl
  ·rw [Nat.beq_refl];exact w1.si
  ·rw [Nat.beq_refl];exact w1.pn
  ·exact w1.pv
  ·exact fun hh=>absurd hh (Nat.lt_irrefl _)
  ·exact fun hh=>absurd hh (Nat.lt_irrefl _)
end Go.Proofs.YtiefjlcakpdfeaaGreatDoor
namespace Go.Proofs.YtiefjlcakpdfeaaGreatDoor
open Go Go.Sx Go.RowKit Rb
set_option maxRecDepth 100000
theorem Rw (a b:ByteArray):(jn a b).size=a.size+b.size:=by
 show (a.data.toList++b.data.toList).toArray.size=a.data.size+b.data.size
 simp
def je1 (c k:Nat):ByteArray:=jrc (onC c) (VH (k:Int)) (Y4 c)
def pcT (t c k:Nat):ByteArray:=match t with
 | 0=>jn (je1 c k) wNl
 | 1=>jn (jn WA (je1 c k)) GF
 | _=>jn (jn WV (je1 c k)) wRE
theorem jgk:∀ t c k,t<3->c<4->k<3->Nat.ble (pcT t c k).size 200=true:=L5 (c43 (by and_intros<;>kernel_rfl)) (c43 (by and_intros<;>kernel_rfl)) (c43 (by and_intros<;>kernel_rfl))
def jhj (g:CPt->Tree (XE × DPt)) (x:CPt) (f:Nat) (t c k:Nat):Option (XE × DPt) :=
 bif jc x.i x.n then (bif qu x.t (pcT t c k) then (g (VS x f (pcT t c k) (wtT t:Nat))).sel else none) else none
def TxE (t:Nat) (c k:Nat):Prop:=∀ (g:CPt->Tree (XE × DPt)) (x:CPt) (f:Nat) (u:Int),u=(t:Int)->(txtTu u g x f (VH (k:Int)) (onC c) (Y4 c)).sel=jhj g x f t c k
 where
 txtTu (u:Int) (g:CPt->Tree (XE × DPt)) (x:CPt) (f:Nat) (th on off:ByteArray):Tree (XE × DPt) :=
 let s1:=jn Ik on
 let s2:=jn s1 th
 let s3:=jn s2 wUB
 let s4:=jn s3 off
 let s5:=jn s4 th
 let st:=jn s5 wEB
 .need (qu Ik on) (.need (qu s1 th) (.need (qu s2 wUB) (.need (qu s3 off) (.need (qu s4 th) (.need (qu s5 wEB) (.need (jc x.i x.n) (.need true (.need true
  (.br (u==0) (.need (qu st wNl) (.need (qu x.t (jn st wNl)) (g (VS x f (jn st wNl) 1))))
  (.br (u==1) (.need (qu WA st) (.need (qu (jn WA st) GF) (.need (qu x.t (jn (jn WA st) GF)) (g (VS x f (jn (jn WA st) GF) 1)))))
  (.need (qu WV st) (.need (qu (jn WV st) wRE) (.need (qu x.t (jn (jn WV st) wRE)) (g (VS x f (jn (jn WV st) wRE) 2)))))))))))))))
theorem jk6:∀ t c k,t<3->c<4->k<3->TxE t c k:=L5 (c43 (by and_intros<;>rintro g x f _ rfl<;>kernel_rfl)) (c43 (by and_intros<;>rintro g x f _ rfl<;>kernel_rfl)) (c43 (by and_intros<;>rintro g x f _ rfl<;>kernel_rfl))
theorem jkh {g : CPt -> Tree (XE × DPt)} {x : CPt} (f : Nat) {t c k : Nat} (ht : t < 3) (hc : c < 4) (hk : k < 3) (h : tA3 x.ξ x.i = (t : Int)) :
  (UI g x f (VH (k:Int)) (onC c) (Y4 c)).sel=jhj g x f t c k :=
 jk6 t c k ht hc hk g x f _ h
def Tm (v:Nat):Bool:=(IntKind.wrap .i64 ((IntKind.wrap .u8 ((v:Int).tdiv 2)).tmod 3)==((v / 2 % 3:Nat):Int))&&((IntKind.wrap .u8 ((v:Int).tdiv 6)).tmod 3==((v / 6 % 3:Nat):Int))&&((((v:Int).tmod 2==0))==Nat.beq (v % 2) 0)
theorem jhb:Dv Tm 256=true:=by kernel_rfl
theorem jjl {v:Nat} (h:v<256):Tm v=true:=U0 jhb v h
theorem jiZ:∀ k:Nat,k<3->qu TU (Dg (k:Int))=true∧qu (jn TU (Dg (k:Int))) spc=true
 | 0,_=>⟨by kernel_rfl,by kernel_rfl⟩
 | 1,_=>⟨by kernel_rfl,by kernel_rfl⟩
 | 2,_=>⟨by kernel_rfl,by kernel_rfl⟩
 | k+3,h=>by omega
def yB (ξ:Val) (j:Nat):Nat:=(((ξ.at j).at 0).N []).toNat
section
variable (y:Nat->Nat) (F0:Nat->Nat->Bool)
def pcB (i:Nat):ByteArray:=pcT (tsB y i) (csB y F0 i) (ksB y i)
def txB:Nat->ByteArray
 | 0=>wHd
 | i+1=>jn (txB i) (pcB y F0 i)
end
theorem R9 {y:Nat->Nat} {F0:Nat->Nat->Bool} (i:Nat):(pcB y F0 i).size<=200:=by
 have:=jgk (tsB y i) (csB y F0 i) (ksB y i) (Nat.mod_lt _ (by decide)) (Js _ _) (Nat.mod_lt _ (by decide))
 rw [Nat.ble_eq] at this;exact this
theorem W9 {y:Nat->Nat} {F0:Nat->Nat->Bool}:∀ i,(txB y F0 i).size<=100+200*i
 | 0 => by
   have:Nat.ble wHd.size 100=true:=by kernel_rfl
   rw [Nat.ble_eq] at this;exact this
 | i + 1 => by
   have h1:=W9 (y:=y) (F0:=F0) i;have h2:=R9 (y:=y) (F0:=F0) i;show (jn (txB y F0 i) (pcB y F0 i)).size<=_;rw [Rw];omega
theorem I7 {a b:ByteArray} (h:a.size+b.size<=100000):qu a b=true:=by
 unfold qu;rw [Nat.ble_eq];omega
structure PtI (n:Nat) (ξ:Val) (F0:Nat->Nat->Bool) (ρ0:Val) (i:Nat) (x:CPt):Prop where
 fn:x.n=n
 fx:x.ξ=ξ
 k:x.k=3
 si:SitesAre ρ0 (FsB (yB ξ) F0 i) x.ρ
 t:x.t=txB (yB ξ) F0 i
 s:x.s=((NsB (yB ξ) i:Nat):Int)
 fi:x.i=(i:Int)
variable {n:Nat} {ξ ρ0:Val} {F0:Nat->Nat->Bool} {i:Nat} {x:CPt}
theorem PtI.step (h : PtI n ξ F0 ρ0 i x) (hi : i < n) (hn : n <= 60) (hb : 0 <= ((ξ.at i).at 0).N [] ∧ ((ξ.at i).at 0).N [] < 256) (g : CPt -> Tree (XE × DPt)) :
  ∃ x',PtI n ξ F0 ρ0 (i+1) x'∧(rPt g x).sel=(g x').sel:=by
 have hv:((ξ.at i).at 0).N []=((yB ξ i:Nat):Int):=by unfold yB;omega
 have hv2:yB ξ i<256:=by unfold yB;omega
 have hbo:=jjl hv2;unfold Tm at hbo;rw [aTq,aTq,beq_iff_eq,beq_iff_eq,beq_iff_eq] at hbo;obtain ⟨⟨o1,o2⟩,o3⟩:=hbo
 have hbA:bA x.ξ x.i=((yB ξ i:Nat):Int):=by
  unfold bA;rw [h.fx,h.fi,Int.toNat_natCast,hv]
 have hkA:kA x.ξ x.i=((ksB (yB ξ) i:Nat):Int):=by
  unfold kA;rw [hbA];exact o1
 have htA:tA3 x.ξ x.i=((tsB (yB ξ) i:Nat):Int):=by
  unfold tA3;rw [hbA];exact o2
 have hk3:ksB (yB ξ) i<3:=Nat.mod_lt _ (by decide)
 have ht3:tsB (yB ξ) i<3:=Nat.mod_lt _ (by decide)
 have hc4:csB (yB ξ) F0 i<4:=Js _ _;have e1:lt x.i (ja x.n)=true:=by rw [h.fi,h.fn];unfold lt ja;simp;exact hi
 have e2:jc x.i x.n=true:=by rw [h.fi,h.fn];unfold jc le lt ja;simp;omega
 have e3:jc ((ksB (yB ξ) i:Nat):Int) x.k=true:=by rw [h.k];unfold jc le lt ja;simp;omega
 obtain ⟨d1,d2⟩:=jiZ _ hk3;have sz:=W9 (y:=yB ξ) (F0:=F0) i;have sp:=R9 (y:=yB ξ) (F0:=F0) i;have e4:qu x.t (pcB (yB ξ) F0 i)=true:=by rw [h.t];exact I7 (by omega)
 have f6:=h.si.fl (ksB (yB ξ) i) 0 (by decide)
 have f7:=h.si.fl (ksB (yB ξ) i) 1 (by decide)
 have hoff:=XX (y:=yB ξ) (F0:=F0) i
 have fin:∀ f,f=fC (csB (yB ξ) F0 i)->((x.ρ.at (ksB (yB ξ) i)).at f).B []=(!bC (csB (yB ξ) F0 i))->PtI n ξ F0 ρ0 (i+1) (VS x f (pcB (yB ξ) F0 i) (wtT (tsB (yB ξ) i):Nat)):=by
  intro f hf hfl;refine ⟨h.fn,h.fx,h.k,?_,?_,?_,?_⟩
  ·show SitesAre ρ0 _ (x.ρ.upds (kA x.ξ x.i).toNat f [.bool (!(((x.ρ.at (kA x.ξ x.i).toNat).at f).B []))]);rw [hkA,Int.toNat_natCast,hfl,Bool.not_not,hf,Bj];exact h.si.set hc4
  ·show jn x.t (pcB (yB ξ) F0 i)=_;rw [h.t];rfl
  ·show IntKind.wrap .i64 (x.s+_)=_;have hN:=Uz (y:=yB ξ) i;have hw:=(X2 (tsB (yB ξ) i)).2;rw [h.s,Ro.w64_id (by omega) (by omega)]
   show _=((NsB (yB ξ) i+wtT (tsB (yB ξ) i):Nat):Int);omega
  ·show IntKind.wrap .i64 (x.i+1)=_;rw [h.fi,Ro.w64_id (by omega) (by omega)]
   omega
 have go:∀ f,f=fC (csB (yB ξ) F0 i)->((x.ρ.at (ksB (yB ξ) i)).at f).B []=(!bC (csB (yB ξ) F0 i))->∃ x',PtI n ξ F0 ρ0 (i+1) x'∧(UI g x f (VH ((ksB (yB ξ) i:Nat):Int)) (onC (csB (yB ξ) F0 i)) (Y4 (csB (yB ξ) F0 i))).sel=(g x').sel:=by
  intro f hf hfl;refine ⟨_,fin f hf hfl,?_⟩;rw [jkh f ht3 hc4 hk3 htA];unfold jhj;rw [e2];have e4:qu x.t (pcT (tsB (yB ξ) i) (csB (yB ξ) F0 i) (ksB (yB ξ) i))=true:=e4;rw [e4];rfl
 unfold rPt;simp only [hkA,hbA,j9,jG,j3,e1,e2,e3,d1,d2,cond_true,Int.toNat_natCast,o3];have hm:yB ξ i % 2=0∨yB ξ i % 2=1:=by omega
 have hcs:csB (yB ξ) F0 i=2*(yB ξ i % 2)+bif FsB (yB ξ) F0 i (yB ξ i % 2) (ksB (yB ξ) i) then 1 else 0:=rfl;rcases hm with hm | hm
 ·rw [hm] at hcs ⊢;rw [f6];show ∃ x',_∧(bif FsB (yB ξ) F0 i 0 (ksB (yB ξ) i) then _ else _)=_;cases hf:FsB (yB ξ) F0 i 0 (ksB (yB ξ) i) with
  | true =>
    rw [hf] at hcs f6;rw [hcs] at go;exact go 6 rfl f6
  | false =>
    rw [hf] at hcs f6;rw [hcs] at go;exact go 6 rfl f6
 ·rw [hm] at hcs ⊢;rw [f7];show ∃ x',_∧(bif FsB (yB ξ) F0 i 1 (ksB (yB ξ) i) then _ else _)=_;cases hf:FsB (yB ξ) F0 i 1 (ksB (yB ξ) i) with
  | true =>
    rw [hf] at hcs f7;rw [hcs] at go;exact go 7 rfl f7
  | false =>
    rw [hf] at hcs f7;rw [hcs] at go;exact go 7 rfl f7
theorem PtI.all (hn:n<=60) (hb:∀ i,i<n->0<=((ξ.at i).at 0).N []∧((ξ.at i).at 0).N []<256):∀ f i x,PtI n ξ F0 ρ0 i x->i<=n->n+1<=f+i->∃ x',PtI n ξ F0 ρ0 n x'∧(gPt f x).sel=some (.exit 0,jgu x')
 | 0,i,x,h,h1,h2=>by omega
 | f + 1, i, x, h, h1, h2 => by
   show ∃ x',_∧(rPt (gPt f) x).sel=_;rcases lOq i n with hi | hi
   ·obtain ⟨x1,p1,p2⟩:=h.step hi hn (hb i hi) (gPt f);obtain ⟨x2,p3,p4⟩:=PtI.all hn hb f (i+1) x1 p1 hi (by omega)
    exact ⟨x2,p3,p2.trans p4⟩
   ·have:i=n:=by omega
    subst this;refine ⟨x,h,?_⟩;have e1:lt x.i (ja x.n)=false:=by rw [h.fi,h.fn];unfold lt ja;simp
    unfold rPt;simp only [j9,e1,cond_false];rfl
theorem jgh (hn : n <= 60) (hb : ∀ i, i < n -> 0 <= ((ξ.at i).at 0).N [] ∧ ((ξ.at i).at 0).N [] < 256) (b : Int) (m : Nat) (τ : Val) (hF : ∀ j g, g < 2 -> (((y5 b).at j).at (6 + g)).B [] = F0 g j) :
  ∃ ρ',qG n ξ b m τ=some ⟨3,ρ',txB (yB ξ) F0 n,((NsB (yB ξ) n:Nat):Int)⟩∧SitesAre (y5 b) (FsB (yB ξ) F0 n) ρ':=by
 have h0:PtI n ξ F0 (y5 b) 0 (R7 n ξ b m τ):=⟨rfl,rfl,rfl,⟨fun _ _ _ _=>rfl,hF⟩,rfl,rfl,rfl⟩;obtain ⟨x,h1,h2⟩:=PtI.all hn hb (n+1) 0 _ h0 (Nat.zero_le _) (by omega)
 refine ⟨x.ρ,?_,h1.si⟩;unfold qG ptO;have e:(R7 n ξ b m τ).n+1=n+1:=rfl;rw [e,h2];have sz:=W9 (y:=yB ξ) (F0:=F0) n;have ez:Nat.ble wEnd.size 10=true:=by kernel_rfl
 rw [Nat.ble_eq] at ez;have e2:qu (txB (yB ξ) F0 n) wEnd=true:=I7 (by omega)
 simp only [Option.map,Option.bind,jgu,h1.t,h1.s,h1.k,e2,nd,cond_true]
def isZ:Option (Int × Bool)->Bool
 | some (_,b)=>!b
 | none=>false
theorem Fv {o:Option (Int × Bool)} (h:isZ o=true):∃ a,o=some (a,false):=by
 unfold isZ at h;split at h
 ·rename_i a b;cases b with
  | false=>exact ⟨a,rfl⟩
  | true=>cases h
 ·cases h
def jaE:Option (Int × Int)->Bool
 | some (a,b)=>le 0 a&&le a 3&&(le 0 b&&le b 3)
 | none=>false
theorem Oo {o:Option (Int × Int)} (h:jaE o=true):∃ a b,o=some (a,b)∧0<=a∧a<=3∧0<=b∧b<=3:=by
 unfold jaE at h;split at h
 ·rename_i a b;rw [aTq,aTq,aTq] at h;exact ⟨a,b,rfl,Wr.1 h.1.1,Wr.1 h.1.2,Wr.1 h.2.1,Wr.1 h.2.2⟩
 ·cases h
def Lo (s:RS):Bool:=jaE (cntF 10000 s.bn s.bρ)&&jaE (cntF 10000 s.en s.eρ)&&(Ye s&&Q1 s&&((bif yf s.kind then QD 40 s.cond 1 else some 0)==some 0)&&(JD 40 10000 s.bn s.bρ==some 0)&&(JD 40 10000 s.en s.eρ==some 0)) &&
 ((VC 40 s 3==some false)&&isZ (KW 40 10000 s.bn s.bρ 3)&&isZ (KW 40 10000 s.en s.eρ 3))
def OkT (t c k:Nat):Prop:=∀ p q r s:Int,Lo (jN (stA t c k p q r s))=true
theorem jjP:∀ t c k,t<3->c<4->k<3->OkT t c k:=L5 (c43 (by and_intros<;>intro p q r s<;>kernel_rfl)) (c43 (by and_intros<;>intro p q r s<;>kernel_rfl)) (c43 (by and_intros<;>intro p q r s<;>kernel_rfl))
variable {y:Nat->Nat} {F0:Nat->Nat->Bool} {m:Nat} {κ:Val}
theorem jbR (h:WO y F0 m κ) {i:Nat} (hi:i<m):Lo (jh κ i)=true:=by
 obtain ⟨p,q,r,s,e⟩:=h i hi;rw [e];exact jjP _ _ _ (Nat.mod_lt _ (by decide)) (Js _ _) (Nat.mod_lt _ (by decide)) p q r s
theorem FQ {i m:Nat} (hi:i<m):lt (i:Int) (ja m)=true∧jc (i:Int) m=true:=by
 constructor
 ·unfold lt ja;simp;exact hi
 ·unfold jc le lt ja;simp;omega
theorem jcE (m:Nat):lt (m:Int) (ja m)=false:=by unfold lt ja;simp
theorem ND {i:Nat} (hi:i<=1000):IntKind.wrap .i64 ((i:Int)+1)=((i+1:Nat):Int):=by rw [Ro.w64_id (by omega) (by omega)];omega
theorem jcY (hm:m<=60) (h:WO y F0 m κ):∀ f (i:Nat) (a b:Int),i<=m->m+1<=f+i->0<=a->a<=10*i->0<=b->b<=10->∃ a' b',Qx (cntF 10000) m κ (ja m) f (i:Int) a b=some (a',b')∧0<=a'∧a'<=1000∧0<=b'∧b'<=10
 | 0,i,a,b,h1,h2,_,_,_,_=>by omega
 | f + 1, i, a, b, h1, h2, h3, h4, h5, h6 => by
   unfold Qx;rcases lOq i m with hi | hi
   ·have hk:=jbR h hi;unfold Lo at hk;simp only [aTq] at hk;obtain ⟨⟨⟨c1,c2⟩,_⟩,_⟩:=hk;obtain ⟨a1,x,e1,r1,r2,r3,r4⟩:=Oo c1;obtain ⟨b1,z,e2,r5,r6,r7,r8⟩:=Oo c2;obtain ⟨t1,t2⟩:=FQ hi;have e1:cntF 10000 (K7 κ i) (KU κ i)=some (a1,x):=e1;have e2:cntF 10000 (Xb κ i) (Xh κ i)=some (b1,z):=e2;rw [t1,t2,Int.toNat_natCast,e1,e2,ND (by omega)]
    simp only [cond_true]
    have ha:jbT a a1 b1=a+1+a1+b1:=by
     unfold jbT;rw [Ro.w64_id (x:=a+1) (by omega) (by omega),Ro.w64_id (x:=a+1+a1) (by omega) (by omega),Ro.w64_id (by omega) (by omega)]
    have hb:0<=DC b x z∧DC b x z<=10:=by
     have hmx:∀ u v:Int,Xg u v=u∨Xg u v=v:=by
      intro u v;unfold Xg;cases lt u v<;>simp
     unfold DC;have hz:0<=Xg x z∧Xg x z<=3:=by rcases hmx x z with e | e<;>rw [e]<;>omega
     rw [Ro.w64_id (by omega) (by omega)]
     rcases hmx b (1+Xg x z) with e | e<;>rw [e]<;>omega
    exact jcY hm h f (i+1) _ _ (by omega) (by omega) (by omega) (by omega) hb.1 hb.2
   ·have:i=m:=by omega
    subst this;rw [jcE];exact ⟨a,b,rfl,h3,by omega,h5,h6⟩
theorem jen (hm:m<=60) (h:WO y F0 m κ):∀ f (i:Nat),i<=m->m+1<=f+i->Jn 40 (JD 40 10000) m κ (ja m) f (i:Int)=some 0
 | 0,i,h1,h2=>by omega
 | f + 1, i, h1, h2 => by
   unfold Jn;rcases lOq i m with hi | hi
   ·have hk:=jbR h hi;unfold Lo at hk;simp only [aTq,beq_iff_eq] at hk;obtain ⟨⟨⟨_,_⟩,⟨⟨⟨d1,d2⟩,d3⟩,d4⟩,d5⟩,_⟩:=hk;obtain ⟨t1,t2⟩:=FQ hi;rw [t1,t2,Int.toNat_natCast,ND (by omega)]
    simp only [cond_true,cond_false,d1,d2,d3,d4,d5,Bool.not_true,bne_self_eq_false];exact jen hm h f (i+1) (by omega) (by omega)
   ·have:i=m:=by omega
    subst this;rw [jcE];rfl
theorem jdR (hm:m<=60) (h:WO y F0 m κ):∀ f (i:Nat),i<=m->m+1<=f+i->Yb 40 (KW 40 10000) m κ (ja m) 3 f (i:Int)=some (0,false)
 | 0,i,h1,h2=>by omega
 | f + 1, i, h1, h2 => by
   unfold Yb;rcases lOq i m with hi | hi
   ·have hk:=jbR h hi;unfold Lo at hk;simp only [aTq,beq_iff_eq] at hk;obtain ⟨_,⟨d1,d2⟩,d3⟩:=hk;obtain ⟨a1,d2⟩:=Fv d2;obtain ⟨a2,d3⟩:=Fv d3;obtain ⟨t1,t2⟩:=FQ hi;rw [t1,t2,Int.toNat_natCast,ND (by omega)]
    simp only [cond_true,cond_false,nd,d1,d2,d3,Option.bind];exact jdR hm h f (i+1) (by omega) (by omega)
   ·have:i=m:=by omega
    subst this;rw [jcE];rfl
def qO:ByteArray:=bs [98,111,111,107]
theorem Bb:Jj qO=true∧yg qO=true:=⟨by kernel_rfl,by kernel_rfl⟩
theorem UB (hm:m<=60) (h:WO y F0 m κ):jz 40 10001 qO m κ=some 0:=by
 obtain ⟨a,b,e1,r1,r2,r3,r4⟩:=jcY hm h (m+1) 0 0 0 (by omega) (by omega) (by omega) (by omega) (by omega) (by omega)
 have e1:cntF 10001 m κ=some (a,b):=e1;have e2:JD 40 10001 m κ=some 0:=jen hm h (m+1) 0 (by omega) (by omega)
 have h1:lt 4096 a=false:=by unfold lt;simp;omega
 have h2:lt 16 b=false:=by unfold lt;simp;omega
 unfold jz;rw [Bb.1,Bb.2,e1,e2];simp only [h1,h2,cond_true,cond_false,Bool.not_true]
theorem Tr (hm:m<=60) (h:WO y F0 m κ) {ρ:Val} (hs:qi 3 ρ=true) (hc:Ro.ckE ⟨3,ρ⟩=0):k8 qO m κ 3 ρ=some (0,0):=by
 have e3:KW 40 10001 m κ (ja 3)=some (0,false):=jdR hm h (m+1) 0 (by omega) (by omega)
 unfold k8 X9;rw [hs,hc,UB hm h,e3];rfl
inductive Lex:List UInt8->List ByteArray->Prop where
 | nil {cs:List UInt8} (h:qI false cs=[]):Lex cs []
 | word {cs l:List UInt8} {c:UInt8} {ts:List ByteArray} (h:qI false cs=c::l) (hc:qM c=true) (ht:Lex (l.dropWhile qM) ts):Lex cs (⟨⟨c::l.takeWhile qM⟩⟩::ts)
 | sign {cs l:List UInt8} {c:UInt8} {ts:List ByteArray} (h:qI false cs=c::l) (hc:qM c=false) (hs:WB c=true) (ht:Lex l ts):Lex cs (⟨⟨[c]⟩⟩::ts)
theorem Lex.skip {cs cs':List UInt8} {ts:List ByteArray} (h:qI false cs=qI false cs') (hl:Lex cs' ts):Lex cs ts:=by
 cases hl with
 | nil h1=>exact .nil (h.trans h1)
 | word h1 h2 h3=>exact .word (h.trans h1) h2 h3
 | sign h1 h2 h3 h4=>exact .sign (h.trans h1) h2 h3 h4
def RLx (p:LS) (q:TS):Prop:=p.1=q.1∧Lex p.2.1 q.2
theorem jqf {N:Nat} {p:LS} {q:TS} (h:RLx p q):PRel (fun _ _=>True) RLx (fun _ _=>True) ((LM N).adv p) (TM.adv q):=by
 obtain ⟨_,h1⟩:=h;obtain ⟨t0,ts⟩:=q;show PRel _ _ _ (Iv N (qI false p.2.1)) _;cases h1 with
 | nil h2 =>
   rw [h2];exact .ret trivial ⟨rfl,.nil rfl⟩
 | word h2 hc ht =>
   rw [h2,ZY,hc];exact .ret trivial ⟨rfl,ht⟩
 | sign h2 hc hs ht =>
   rw [h2,ZY,hc,hs];exact .ret trivial ⟨rfl,ht⟩
theorem jix (N:Nat):MRel (fun _ _=>True) (LM N) TM RLx where
 tx:=fun h=>h.1
 pos:=fun _=>trivial
 adv:=jqf
def UE:Nat->List UInt8->Option (List ByteArray × List UInt8)
 | 0,cs=>some ([],cs)
 | k+1,cs=>match qI false cs with
  | []=>none
  | c :: l => bif qM c then (UE k (l.dropWhile qM)).map fun y => (⟨⟨c :: l.takeWhile qM⟩⟩ :: y.1, y.2)
    else bif WB c then (UE k l).map fun y=>(⟨⟨[c]⟩⟩::y.1,y.2) else none
theorem YK:∀ (k:Nat) (cs:List UInt8) (ts:List ByteArray) (r:List UInt8) (us:List ByteArray),UE k cs=some (ts,r)->Lex r us->Lex cs (ts++us)
 | 0,cs,ts,r,us,h,hl=>by cases h;exact hl
 | k + 1, cs, ts, r, us, h, hl => by
   unfold UE at h;split at h
   ·cases h
   ·rename_i c l hs;cases hc:qM c with
    | true =>
      rw [hc] at h;simp only [cond_true] at h;cases hk:UE k (l.dropWhile qM) with
     | none=>rw [hk] at h;cases h
     | some y =>
       rw [hk] at h;cases h;exact .word hs hc (YK k _ _ _ _ hk hl)
    | false =>
      rw [hc] at h;simp only [cond_false] at h;cases hg:WB c with
     | false=>rw [hg] at h;cases h
     | true =>
       rw [hg] at h;simp only [cond_true] at h;cases hk:UE k l with
      | none=>rw [hk] at h;cases h
      | some y =>
        rw [hk] at h;cases h;exact .sign hs hc hg (YK k _ _ _ _ hk hl)
def O0 (k:Nat):ByteArray:=bs [UInt8.ofNat (48+k)]
def tkD (c k:Nat):List ByteArray:=[wDo,onC c,sW k,Yn,zj,wDo,Y4 c,sW k,z8,wEnd,z8]
def jrF:List ByteArray:=[zC,wEq,O0 3,JG,zf,O0 1,wEq,O0 2]
def tkS (t c k:Nat):List ByteArray:=match t with
 | 0=>tkD c k
 | 1=>wIf::(jrF++(zj::(tkD c k++[wEnd,ZT,zj,kj,UL,z8,wEnd])))
 | _=>qc::O0 2::zj::(tkD c k++[wEnd])
def tkN (t:Nat):Nat:=match t with
 | 0=>11
 | 1=>28
 | _=>15
def PcL (t c k:Nat):Prop:=∀ r:List UInt8,UE (tkN t) (lst (pcT t c k)++r)=some (tkS t c k,10::r)
theorem jkR:∀ t c k,t<3->c<4->k<3->PcL t c k:=L5 (c43 (by and_intros<;>intro r<;>kernel_rfl)) (c43 (by and_intros<;>intro r<;>kernel_rfl)) (c43 (by and_intros<;>intro r<;>kernel_rfl))
section
variable (y:Nat->Nat) (F0:Nat->Nat->Bool)
def ar (i:Nat):List ByteArray:=tkS (tsB y i) (csB y F0 i) (ksB y i)
def flT (tk:Nat->List ByteArray):Nat->List ByteArray
 | 0=>[]
 | i+1=>flT tk i++tk i
end
variable {y:Nat->Nat} {F0:Nat->Nat->Bool}
theorem jo1 (i:Nat) {r:List UInt8} {us:List ByteArray} (h:Lex r us):Lex (lst (pcB y F0 i)++r) (ar y F0 i++us) :=
 YK _ _ _ _ _ (jkR _ _ _ (Nat.mod_lt _ (by decide)) (Js _ _) (Nat.mod_lt _ (by decide)) r) (.skip (by rfl) h)
def tkH:List ByteArray:=[zq,qO,zj]
def jrD:List UInt8:=[32,35,32,115,116,101,112,115,32,97,110,100,32,119,104,97,116,32,117,110,100,111,101,115,32,116,104,101,109,10]
theorem job {r:List UInt8} {us:List ByteArray} (h:Lex r us):Lex (lst wHd++r) (tkH++us) :=
 YK 3 _ _ (jrD++r) _ (by kernel_rfl) (.skip (by kernel_rfl) h)
theorem jdZ:∀ (i:Nat) {r:List UInt8} {us:List ByteArray},Lex r us->Lex (lst (txB y F0 i)++r) (tkH++(flT (ar y F0) i++us))
 | 0,r,us,h=>job h
 | i + 1, r, us, h => by
   have e1:lst (txB y F0 (i+1))++r=lst (txB y F0 i)++(lst (pcB y F0 i)++r):=by
    show (lst (txB y F0 i)++lst (pcB y F0 i))++r=_;rw [List.append_assoc]
   have e2:flT (ar y F0) (i+1)++us=flT (ar y F0) i++(ar y F0 i++us):=by
    show (flT (ar y F0) i++ar y F0 i)++us=_;rw [List.append_assoc]
   rw [e1,e2];exact jdZ i (jo1 i h)
def txE (y:Nat->Nat) (F0:Nat->Nat->Bool) (n:Nat):ByteArray:=jn (txB y F0 n) wEnd
theorem jj2 (n:Nat):Lex (lst (txE y F0 n)) (tkH++(flT (ar y F0) n++[wEnd])):=by
 have e:lst (txE y F0 n)=lst (txB y F0 n)++lst wEnd:=rfl;rw [e];refine jdZ n ?_;exact .sign (c:=125) (l:=[]) (by rfl) (by rfl) (by rfl) (.nil rfl)
def stZ (t c k:Nat):AstS:=stA t c k 0 0 0 0
def StP (t c k:Nat):Prop:=∀ r:List ByteArray,(sts TM AF 10000 10000).1 (zH (tkS t c k++r))=.ret (stZ t c k) (zH r)
theorem jiM:∀ t c k,t<3->c<4->k<3->StP t c k:=L5 (c43 (by and_intros<;>intro r<;>kernel_rfl)) (c43 (by and_intros<;>intro r<;>kernel_rfl)) (c43 (by and_intros<;>intro r<;>kernel_rfl))
theorem jhN (t c k:Nat) (ht:t<3) (r:List ByteArray):jb (TM.tx (zH (tkS t c k++r))) wEnd=false:=by
 match t,ht with
 | 0,_=>show jb wDo wEnd=false;kernel_rfl
 | 1,_=>show jb wIf wEnd=false;kernel_rfl
 | 2,_=>show jb qc wEnd=false;kernel_rfl
theorem Ov {st : TS -> PR TS AstS} : ∀ (k : Nat) (l : List (List ByteArray × AstS)) (r : List ByteArray), l.length < k -> (∀ p ∈ l, (∀ r, st (zH (p.1 ++ r)) = .ret p.2 (zH r)) ∧ ∀ r, jb (TM.tx (zH (p.1 ++ r))) wEnd = false) ->
  zO TM st k (zH ((l.map (·.1)).flatten++wEnd::r))=.ret (l.map (·.2)) (zH r)
 | 0,_,_,h,_=>by omega
 | k + 1, [], r, _, _ => by
   show zO TM st (k+1) (zH (wEnd::r))=_;unfold zO;rw [jdL (kO _)];rfl
 | k + 1, p :: l, r, h, hp => by
   obtain ⟨h1,h2⟩:=hp p List.mem_cons_self;have e:((p::l).map (·.1)).flatten++wEnd::r=p.1++((l.map (·.1)).flatten++wEnd::r):=by simp
   rw [e];unfold zO;rw [jma (h2 _)];simp only [PR.ret_bind,cond_false];rw [h1];simp only [PR.ret_bind];rw [Ov k l r (by simp only [List.length_cons] at h;omega) fun q hq=>hp q (List.mem_cons_of_mem _ hq)]
   rfl
variable (y:Nat->Nat) (F0:Nat->Nat->Bool)
def zOf (i:Nat):AstS:=stZ (tsB y i) (csB y F0 i) (ksB y i)
def V1 (n:Nat):List AstS:=(List.range n).map (zOf y F0)
variable {y F0}
theorem TD {tk:Nat->List ByteArray}:∀ n,flT tk n=(((List.range n).map fun i=>(tk i,zOf y F0 i)).map (·.1)).flatten
 | 0=>rfl
 | n + 1 => by
   show flT tk n++tk n=_;rw [TD n,List.range_succ]
   simp
theorem jmW {tk:Nat->List ByteArray} (n:Nat):V1 y F0 n=((List.range n).map fun i=>(tk i,zOf y F0 i)).map (·.2):=by
 unfold V1;rw [List.map_map];rfl
def DJ (y:Nat->Nat) (F0:Nat->Nat->Bool) (tk:Nat->List ByteArray):Prop:=∀ i,(∀ r,(sts TM AF 10000 10000).1 (zH (tk i++r))=.ret (zOf y F0 i) (zH r))∧∀ r,jb (TM.tx (zH (tk i++r))) wEnd=false
variable {tk:Nat->List ByteArray}
theorem jiS (h:DJ y F0 tk) {n:Nat} (hn:n<=60):yv TM (sts TM AF 10000 10000).2 (bs [],tkH++(flT tk n++[wEnd]))=.ret (qO,V1 y F0 n) (zH []):=by
 unfold yv;have e0:TM.adv (bs [],tkH++(flT tk n++[wEnd]))=.ret () (zH (zq::qO::zj::(flT tk n++[wEnd]))):=rfl;rw [e0];simp only [PR.ret_bind];rw [Di];simp only [PR.ret_bind];rw [jit,Bb.1];simp only [cond_true];rw [jpl Bb.2];simp only [PR.ret_bind];have e1:(sts TM AF 10000 10000).2 (zH (zj::(flT tk n++[wEnd])))=Z3 TM (sts TM AF 10000 10000).1 10000 (zH (zj::(flT tk n++[wEnd]))):=by kernel_rfl
 rw [e1];unfold Z3;rw [Di];simp only [PR.ret_bind];rw [TD (y:=y) (F0:=F0),Ov 10000 _ [] (by simp only [List.length_map,List.length_range];omega) fun p hp => ?_]
 ·rw [← jmW];rfl
 ·obtain ⟨i,_,rfl⟩:=List.mem_map.1 hp;exact h i
theorem jk0 (h:DJ y F0 tk) {n N:Nat} (hn:n<=60) {s:List UInt8} (hs:Lex s (tkH++(flT tk n++[wEnd]))):∃ x q,Wm N s=.ret (qO,x) q∧All2 SR x (V1 y F0 n):=by
 have h:=OA (jix N) (BB (jix N) jpt 10000 10000).2 (bs [],s,0) (bs [],tkH++(flT tk n++[wEnd])) ⟨rfl,hs⟩;rw [jiS ‹_› hn] at h;have e:Wm N s=yv (LM N) (sts (LM N) AF 10000 10000).2 (bs [],s,0):=rfl;rw [e];cases hb:yv (LM N) (sts (LM N) AF 10000 10000).2 (bs [],s,0) with
 | stuck=>rw [hb] at h;cases h
 | pan a=>rw [hb] at h;cases h
 | ret v s' =>
   rw [hb] at h;cases h with
  | ret hv hs =>
    obtain ⟨v1,v2⟩:=v;obtain ⟨rfl,ha⟩:=hv;exact ⟨v2,s',rfl,ha⟩
theorem jkQ:DJ y F0 (ar y F0):=fun i=>⟨fun r=>jiM _ _ _ (Nat.mod_lt _ (by decide)) (Js _ _) (Nat.mod_lt _ (by decide)) r,fun r=>jhN _ _ _ (Nat.mod_lt _ (by decide)) r⟩
theorem Lq {l:List AstS} {a:AstS} (h:All2 SR l [a]):∃ b,l=[b]∧SR b a:=by
 cases h with
 | cons h1 h2=>cases h2;exact ⟨_,rfl,h1⟩
theorem jpU {a:AstS} {c k:Nat} (h:SR a (unA c k 0)):∃ q,a=unA c k q:=by
 cases h with
 | mk h1 h2=>cases h1;cases h2;exact ⟨_,rfl⟩
theorem jbq {a:AstS} {c k:Nat} (h:SR a (doA c k 0 0)):∃ p q,a=doA c k p q:=by
 cases h with
 | mk h1 h2 =>
   cases h2;obtain ⟨b,rfl,g1⟩:=Lq h1;obtain ⟨q,rfl⟩:=jpU g1;exact ⟨_,q,rfl⟩
theorem jnL {a:AstS} (h:SR a (.mk kj [UL] noX [] [] 0)):∃ r,a=.mk kj [UL] noX [] [] r:=by
 cases h with
 | mk h1 h2=>cases h1;cases h2;exact ⟨_,rfl⟩
theorem jp9 {a:AstS} {c k:Nat} (h:SR a (stZ 1 c k)):∃ p q r s,a=stA 1 c k p q r s:=by
 have h:SR a (.mk wIf [] cdA [doA c k 0 0] [.mk kj [UL] noX [] [] 0] 0):=h;cases h with
 | mk h1 h2 =>
   obtain ⟨b,rfl,g1⟩:=Lq h1;obtain ⟨p,q,rfl⟩:=jbq g1;obtain ⟨b,rfl,g2⟩:=Lq h2;obtain ⟨r,rfl⟩:=jnL g2;exact ⟨p,q,r,_,rfl⟩
theorem jp6 {a:AstS} {c k:Nat} (h:SR a (stZ 2 c k)):∃ p q r s,a=stA 2 c k p q r s:=by
 have h:SR a (.mk qc [] n2A [doA c k 0 0] [] 0):=h;cases h with
 | mk h1 h2 =>
   cases h2;obtain ⟨b,rfl,g1⟩:=Lq h1;obtain ⟨p,q,rfl⟩:=jbq g1;exact ⟨p,q,0,_,rfl⟩
theorem jp0 {a:AstS}:∀ {t c k:Nat},t<3->SR a (stZ t c k)->∃ p q r s,a=stA t c k p q r s
 | 0, c, k, _, h => by
   obtain ⟨p,q,e⟩:=jbq (c:=c) (k:=k) h;exact ⟨p,q,0,0,e⟩
 | 1,c,k,_,h=>jp9 h
 | 2,c,k,_,h=>jp6 h
 | t+3,_,_,h,_=>by omega
theorem jcX {α β:Type} {R:α->β->Prop} {l:List α} {r:List β} (h:All2 R l r):∀ {i:Nat} {b:β},nth r i=some b->∃ a,nth l i=some a∧R a b:=by
 induction h with
 | nil=>intro i b hb;simp [nth] at hb
 | cons h1 _ ih =>
   intro i b hb;cases i with
  | zero =>
    rename_i a b' _ _ _
    have:b'=b:=by simpa [nth] using hb
    subst this;exact ⟨a,rfl,h1⟩
  | succ i=>exact ih hb
theorem jnN {n i:Nat} (hi:i<n):nth (V1 y F0 n) i=some (zOf y F0 i):=by
 unfold V1;rw [jd,List.getElem?_map,List.getElem?_range hi];rfl
def IsB (y:Nat->Nat) (F0:Nat->Nat->Bool) (n:Nat) (x:List AstS):Prop:=x.length=n∧∀ i a,nth x i=some a->∃ p q r s,a=stA (tsB y i) (csB y F0 i) (ksB y i) p q r s
theorem jn6 {n:Nat} {x:List AstS} (h:All2 SR x (V1 y F0 n)):IsB y F0 n x:=by
 have hl:x.length=n:=by rw [h.length];simp [V1]
 refine ⟨hl,fun i a ha => ?_⟩
 have hi:i<n:=by
  rw [← hl];rw [jd] at ha;exact (List.getElem?_eq_some_iff.1 ha).1
 obtain ⟨b,h1,h2⟩:=jcX h (jnN hi);rw [ha] at h1;cases h1;exact jp0 (Nat.mod_lt _ (by decide)) h2
theorem OW {n:Nat} {x:List AstS} (h:IsB y F0 n x) {κ:Val} (hκ:LieL x κ):WO y F0 n κ:=fun i hi=>by
 obtain ⟨a,ha⟩:=qX x i (by rw [h.1];exact hi)
 obtain ⟨p,q,r,s,rfl⟩:=h.2 i a ha;exact ⟨p,q,r,s,jjB hκ ha⟩
end Go.Proofs.YtiefjlcakpdfeaaGreatDoor