/-
 Part TpZH of the proof: RuI RuJ.
-/
import Derived.Test.YtiefjlcakpdfeaaGreatDoorTpZG
namespace Go.Proofs.YtiefjlcakpdfeaaGreatDoor
open Go Go.Sx Go.RowKit Rb
set_option maxRecDepth 100000
theorem jnv {w:ByteArray} (h:j7 w=4):w=jO:=by
 rcases YY w with ⟨h1,_⟩ | ⟨h1,_⟩ | ⟨h1,_⟩ | ⟨h1,_⟩ | ⟨_,h2,_⟩ | ⟨h1,_⟩
 ·omega
 ·omega
 ·omega
 ·omega
 ·unfold Yd at h2;cases hc:(jb w j8||(jb w jW||(jb w zg||(jb w qS||(jb w qe||(jb w zI||(jb w qU||jb w qq))))))) with
  | true=>rw [hc] at h2;simp only [cond_true] at h2;exact absurd h2 (by decide)
  | false =>
    rw [hc] at h2;simp only [cond_false] at h2;cases hn:jb w jO with
   | true=>exact qW hn
   | false =>
     rw [hn] at h2;simp only [cond_false] at h2;cases hb:(jb w wOr||(jb w z8||(jb w wEq||(jb w wLt||(jb w wGt||(jb w zZ||jb w qJ)))))) with
    | true=>rw [hb] at h2;exact absurd h2 (by decide)
    | false=>rw [hb] at h2;exact absurd h2 (by decide)
 ·omega
theorem Yg {c:Bool} {x:Int} {o:Option Int} (h:(bif c then some x else o)=some 0) (hx:c=true->x ≠ 0):c=false∧o=some 0:=by
 cases c with
 | true=>exact absurd (Option.some.inj h) (hx rfl)
 | false=>exact ⟨rfl,h⟩
theorem ne0 {x:Int}:(x != 0)=true->x ≠ 0:=fun h=>by simpa using h
theorem OP {R:RE} {n:Nat} {ρ:Val} {d:Int} (hn:n<=2):∀ (k i:Nat),i<=n->n+1<=k+i->YG R n ρ (ja n) d k (i:Int)=some 0->∀ j,i<=j->j<n->R (jR ρ j) (IntKind.wrap .i64 (d+1))=some 0
 | 0,i,h1,h2,_=>by omega
 | k + 1, i, h1, h2, h => by
   intro j hj1 hj2;unfold YG at h;rw [yg.2 (show (i:Int)<ja n by rw [t64];omega),inR (show i<n by omega),Int.toNat_natCast,zp (by omega)] at h
   simp only [cond_true] at h;cases hr:R (jR ρ i) (IntKind.wrap .i64 (d+1)) with
  | none=>rw [hr] at h;cases h
  | some y =>
    rw [hr] at h;obtain ⟨h3,h4⟩:=Yg h ne0;have hy:y=0:=by simpa using h3
    subst hy;rcases Nat.eq_or_lt_of_le hj1 with e | e
    ·subst e;exact hr
    ·exact OP hn k (i+1) (by omega) (by omega) h4 j e hj2
theorem M6 {y:RX} (h:B3 y=false):j7 y.op ≠ 0∧(y.n:Int)=KO (j7 y.op)∧0<=y.v∧y.v<=Bd (j7 y.op):=by
 unfold B3 at h;simp only at h;cases h0 : !(!(Nat.beq (j7 y.op) 0)) with
 | true=>rw [h0] at h;cases h
 | false =>
   rw [h0] at h;cases h3:(ja y.n != KO (j7 y.op)) with
  | true=>rw [h3] at h;cases h
  | false =>
    rw [h3] at h;cases h4:lt y.v 0 with
   | true=>rw [h4] at h;cases h
   | false =>
     rw [h4] at h;simp only [cond_false] at h;refine ⟨fun e => ?_,?_,?_,?_⟩
     ·rw [e] at h0;cases h0
     ·simp only [t64] at h3;simpa using h3
     ·have:¬ (y.v<0):=fun h=>by rw [yg.2 h] at h4;cases h4
      omega
     ·have:¬ (Bd (j7 y.op)<y.v):=fun h'=>by rw [yg.2 h'] at h;cases h
      omega
theorem jhj:∀ (f:Nat) (e:AstX) (y:RX) (dep:Nat),QO e y->1<=dep->dep<=33->Jb f y (dep:Int)=some 0->WX (34 - dep) e
 | 0,_,_,_,_,_,_,h=>by cases h
 | f + 1, .mk op v l, y, dep, hy, h1, h2, h => by
   have h:Xx (Jb f) y (dep:Int)=some 0:=h;unfold Xx at h;obtain ⟨hb,h⟩:=Yg h fun _=>by decide
   obtain ⟨hd,h⟩:=Yg h fun _=>by decide
   have hd':¬ (32<(dep:Int)):=fun h=>by rw [yg.2 h] at hd;cases hd
   have hop:y.op=op:=hy.1;have hv:y.v=v:=hy.2.1;have hn:y.n=l.length:=hy.2.2.1.trans (kr l);obtain ⟨b1,b2,b3,b4⟩:=M6 hb;rw [hop] at b1 b2 b4;rw [hv] at b3 b4;rw [hn] at b2 h;have hk2:=(RI (j7 op)).2;have hln:l.length<=2:=by omega
   have key:∀ j a,nth l j=some a->WX (34 - (dep+1)) a:=fun j a ha=>by
    have:=OP hln (l.length+1) 0 (by omega) (by omega) h j (by omega) (jq ha)
    rw [zp (by omega)] at this
    exact jhj f a _ (dep+1) (Zz hy ha) (by omega) (by omega) this
   obtain ⟨m,hm⟩ : ∃ m,34 - dep=m+1:=⟨33 - dep,by omega⟩
   have hm2:34 - (dep+1)=m:=by omega
   rw [hm];rw [hm2] at key;rcases YY op with ⟨c1,_⟩ | ⟨c1,_,_,c4⟩ | ⟨c1,_⟩ | ⟨c1,_⟩ | ⟨c1,_⟩ | ⟨c1,_⟩
   ·exact absurd c1 b1
   ·rw [c1] at b2 b4;have hl:l=[]:=List.length_eq_zero_iff.1 (by have b2:(l.length:Int)=0:=b2;omega)
    subst hl;rw [qW c4];exact .num b3 b4
   ·rw [c1] at b2 b4;have hl:l=[]:=List.length_eq_zero_iff.1 (by have b2:(l.length:Int)=0:=b2;omega)
    subst hl;exact .site c1 b3 b4
   ·rw [c1] at b2 b4;have hl:l=[]:=List.length_eq_zero_iff.1 (by have b2:(l.length:Int)=0:=b2;omega)
    subst hl;have b4:v<=0:=b4;obtain rfl:v=0:=by omega
    exact .plain c1
   ·rw [c1] at b2 b4;have b2:(l.length:Int)=1:=b2;have b4:v<=0:=b4;obtain rfl:v=0:=by omega
    match l,b2,key with
    | [a],_,key=>rw [jnv c1];exact .neg (key 0 a rfl)
    | [],b2,_=>cases b2
    | _::_::_,b2,_=>exact absurd b2 (by simp only [List.length_cons];omega)
   ·rw [c1] at b2 b4;have b2:(l.length:Int)=2:=b2;have b4:v<=0:=b4;obtain rfl:v=0:=by omega
    match l,b2,key with
    | [a,b],_,key=>exact .bin c1 (key 0 a rfl) (key 1 b rfl)
    | [],b2,_=>cases b2
    | [_],b2,_=>cases b2
    | _::_::_::_,b2,_=>exact absurd b2 (by simp only [List.length_cons];omega)
theorem Dl {e:AstX} {y:RX} (hy:QO e y) (h:Zk y=true):e=noX:=by
 obtain ⟨op,v,l⟩:=e;have hn:y.n=l.length:=hy.2.2.1.trans (kr l);unfold Zk at h;rw [hy.1,hy.2.1,hn] at h;cases h1:jb (AstX.den (.mk op v l)).op (bs []) with
 | false=>rw [h1] at h;cases h
 | true =>
   rw [h1] at h;cases h2:(AstX.den (.mk op v l)).v==0 with
  | false=>rw [h2] at h;cases h
  | true =>
    rw [h2] at h;have h3:l.length=0:=Nat.eq_of_beq_eq_true h;have h4:op=bs []:=qW h1;have h5:v=0:=by have:(v==0)=true:=h2;simpa using this
    rw [h4,h5,List.length_eq_zero_iff.1 h3]
def LieW (w:List ByteArray) (ρ:Val):Prop:=∀ j u,nth w j=some u->wAt ρ j=u
theorem LieW.box (w:List ByteArray) (n:Nat):LieW w (.ofC (.sl [.str] n (zj w))):=fun j u h=>by
 show (((zj w).at j).at 0).S []=u;rw [JW w j u h];rfl
theorem Ia {m:Nat} {κ:Val} {n:Nat} {ρ:Val} (hm:m<=10000):∀ (k i:Nat),i<=m->m+1<=k+i->eqL m κ n ρ (ja m) k (i:Int)=some true->∀ j,i<=j->j<m->qn (nAt κ j) (wAt ρ j)=true
 | 0,i,h1,h2,_=>by omega
 | k + 1, i, h1, h2, h => by
   intro j hj1 hj2;unfold eqL at h;rw [yg.2 (show (i:Int)<ja m by rw [t64];omega),inR (show i<m by omega),Int.toNat_natCast,zp (by omega)] at h
   simp only [cond_true] at h;cases h3:jc (i:Int) n with
  | false=>rw [h3] at h;cases h
  | true =>
   rw [h3] at h;cases h4:nmD (jt (wAt ρ i)) with
  | false=>rw [h4] at h;cases h
  | true =>
   rw [h4] at h;cases h5:qn (nAt κ i) (wAt ρ i) with
  | false=>rw [h5] at h;cases h
  | true =>
   rw [h5] at h;rcases Nat.eq_or_lt_of_le hj1 with e | e
   ·subst e;exact h5
   ·exact Ia hm k (i+1) (by omega) (by omega) h j e hj2
theorem jcs (c:Nat):(qu c).length<=3:=by
 unfold qu;split<;>decide
theorem jns {w:List ByteArray} {ρ:Val} (hw:LieW w ρ) (h:obV (J0 w.length ρ)=true):∃ w0 ws,w=w0::ws∧Nat.beq (qx w0) 0=false∧All2 (fun k w=>qn k w=true) (qu (qx w0)) ws:=by
 cases w with
 | nil=>cases h
 | cons w0 ws =>
   refine ⟨w0,ws,rfl,?_⟩;have e0:wAt ρ 0=w0:=hw 0 w0 rfl;unfold J0 at h;cases h0:(ja (w0::ws).length==0) with
  | true=>rw [h0] at h;cases h
  | false =>
   rw [h0] at h;simp only [cond_false] at h;unfold WU at h;rw [e0] at h;cases h1:Nat.beq (qx w0) 0 with
  | true=>rw [h1] at h;cases h
  | false =>
   rw [h1] at h;refine ⟨rfl,?_⟩;have h:obV (BU (w0::ws).length ρ)=true:=h;unfold BU eqS at h;rw [e0] at h;have hk:=jcs (qx w0);cases h2:(ja (qu (qx w0)).length != ja ((w0::ws).length - 1)) with
  | true=>rw [h2] at h;cases h
  | false =>
   rw [h2] at h;simp only [cond_false] at h
   have hl:(qu (qx w0)).length=ws.length:=by
    simp only [t64,bne_eq_false_iff_eq,List.length_cons] at h2;omega
   refine All2.of_nth hl fun i a b ha hb => ?_;cases h3:eqL (qu (qx w0)).length (Zg (qu (qx w0))) ((w0::ws).length - 1) (ρ.from 1) (ja (qu (qx w0)).length) ((qu (qx w0)).length+1) 0 with
  | none=>rw [h3] at h;cases h
  | some y =>
   rw [h3] at h;have hy:y=true:=h;subst hy
   have:=Ia (by omega) ((qu (qx w0)).length+1) 0 (by omega) (by omega) h3 i (by omega) (jq ha)
   have e1:nAt (Zg (qu (qx w0))) i=a:=TT _ i a ha
   have e2:wAt (ρ.from 1) i=b:=by
    have:wAt (ρ.from 1) i=wAt ρ (1+i):=rfl
    rw [this,Nat.add_comm];exact hw (i+1) b hb
   rw [e1,e2] at this;exact this
theorem NX {n:Nat} {ρ:Val} (hn:n<=10000):∀ (k i:Nat),i<=n->n+1<=k+i->ooD (Kk n ρ (ja n) k (i:Int))=true->Wl (Kk n ρ (ja n) k (i:Int))=false->∀ j,i<=j->j<n->jF (wAt ρ j)=some true
 | 0,i,h1,h2,_,_=>by omega
 | k + 1, i, h1, h2, hD, h => by
   intro j hj1 hj2;unfold Kk at h hD;rw [yg.2 (show (i:Int)<ja n by rw [t64];omega),inR (show i<n by omega),Int.toNat_natCast,zp (by omega)] at h hD
   simp only [cond_true] at h hD;cases hr:jF (wAt ρ i) with
  | none=>rw [hr] at hD;cases hD
  | some b =>
    rw [hr] at h hD;cases b with
   | false =>
     exfalso
     have:Wl (some (some (i:Int)))=false:=h
     have h2:Wl (some (some (i:Int)))=le 0 (i:Int):=rfl;rw [h2,Je.2 (by omega)] at this
     cases this
   | true =>
     rcases Nat.eq_or_lt_of_le hj1 with e | e
     ·subst e;exact hr
     ·exact NX hn k (i+1) (by omega) (by omega) hD h j e hj2
theorem zK {a b:Bool} (h:(bif a then b else false)=true):a=true∧b=true:=by
 cases a with
 | true=>exact ⟨rfl,h⟩
 | false=>cases h
theorem an {α:Type} {l:List α} (h:(ja l.length==0)=true):l=[]:=by
 have:ja l.length=0:=by simpa using h
 simp only [t64] at this;exact List.length_eq_zero_iff.1 (by omega)
theorem jnB {K D : Nat} {kd : ByteArray} {w : List ByteArray} {e : AstX} {b x : List AstS} {p : Int} {s : RS} (hkd : s.kind = kd) (hwn : s.wn = w.length) (hw : LieW w s.wρ) (he : QO e s.cond) (hbn : s.bn = b.length) (hxn : s.en = x.length)
  (hK:10000<=K) (hwl:w.length<=9000) (hwu:∀ u ∈ w,u.size<=10000) (hbl:b.length<=9000) (hxl:x.length<=9000) (hb:∀ y ∈ b,WS K D y) (hx:∀ y ∈ x,WS K D y)
  (hD:QT s=true) (hV:Jy s=true) {f:Nat} (hE:ze kd=true->Jb f s.cond 1=some 0):WS K (D+1) (.mk kd w e b x p):=by
 have hwx:ze kd=true->WX 33 e:=fun h=>jhj f e s.cond 1 he (by omega) (by omega) (hE h)
 unfold Jy at hV;unfold QT at hD;rw [hkd,hwn,hbn,hxn] at hV;rw [hkd,hwn] at hD;cases k1:jb kd wDo with
 | true =>
   rw [k1] at hV;simp only [cond_true] at hV
   have:=qW k1
   subst this;obtain ⟨h1,h2⟩:=zK hV;obtain ⟨h3,h4⟩:=zK h1;obtain ⟨w0,ws,rfl,g1,g2⟩:=jns hw h3;obtain rfl:=Dl he h4;obtain rfl:=an h2;exact .dos g1 g2 (fun u hu=>hwu u (List.mem_cons_of_mem _ hu)) (by omega) hb
 | false =>
 rw [k1] at hV hD;simp only [cond_false] at hV hD;cases k2:jb kd wIf with
 | true =>
   rw [k2] at hV;simp only [cond_true] at hV
   have:=qW k2
   subst this;obtain rfl:=an hV;exact .ifs (hwx rfl) (by omega) hb (by omega) hx
 | false =>
 rw [k2] at hV hD;simp only [cond_false] at hV hD;cases k3:jb kd jK with
 | true =>
   rw [k3] at hV;simp only [cond_true] at hV
   have:=qW k3
   subst this;obtain ⟨h1,h2⟩:=zK hV;obtain ⟨h3,h4⟩:=zK h1;obtain ⟨h5,h6⟩:=zK h3;obtain rfl:=an h5;obtain rfl:=an h6;have hx1:=hwx rfl;have hop:(AstX.den e).op=j8:=by rw [← he.1];exact qW h4
   have hv:(AstX.den e).v<=99:=by rw [← he.2.1];exact Je.1 h2
   cases hx1 with
  | num g0 g1=>exact .reps g0 hv (by omega) hb
  | site hk _ _=>exact absurd (show j7 j8=2 by rw [← hop];exact hk) (by decide +kernel)
  | plain hk=>exact absurd (show j7 j8=3 by rw [← hop];exact hk) (by decide +kernel)
  | neg _=>exact absurd (show jb jO j8=true by rw [← hop];exact qh _) (by decide +kernel)
  | bin hk _ _=>exact absurd (show j7 j8=5 by rw [← hop];exact hk) (by decide +kernel)
 | false =>
 rw [k3] at hV hD;simp only [cond_false] at hV hD;cases k4:jb kd jT with
 | true =>
   rw [k4] at hV;simp only [cond_true] at hV
   have:=qW k4
   subst this;obtain ⟨h1,h2⟩:=zK hV;obtain ⟨h3,h4⟩:=zK h1;obtain rfl:=an h2;obtain rfl:=an h3;obtain rfl:=an h4;exact .reqs (hwx rfl)
 | false =>
 rw [k4] at hV hD;simp only [cond_false] at hV hD;cases k5:jb kd z6 with
 | true =>
   rw [k5] at hV hD;simp only [cond_true] at hV hD
   have:=qW k5
   subst this;obtain ⟨h1,h2⟩:=zK hV;obtain ⟨h3,h4⟩:=zK h1;obtain ⟨h5,h6⟩:=zK h3;obtain ⟨h7,h8⟩:=zK h5;obtain rfl:=an h2;obtain rfl:=an h4;obtain rfl:=Dl he h6;rw [h7] at hD;have hD:ooD (Zw w.length s.wρ)=true:=hD;have h8:Wl (Zw w.length s.wρ)=false:=by cases hq:Wl (Zw w.length s.wρ) with | false=>rfl | true=>rw [hq] at h8;cases h8
   have key:=NX (by omega) (w.length+1) 0 (by omega) (by omega) hD h8
   have hall:∀ u ∈ w,jF u=some true:=fun u hu=>by
    obtain ⟨j,hj⟩:=kR hu
    have:=key j (by omega) (jq hj)
    rw [hw j u hj] at this;exact this
   match w,h7,hall,hwl with
  | [],h7,_,_=>cases h7
  | w0::ws,_,hall,hwl=>exact .says hall (by simp only [List.length_cons] at hwl;omega)
 | false =>
 rw [k5] at hV;cases hV
theorem OF {f : Nat} {R : RBl} {n : Nat} {ρ : Val} (hn : n <= 10000) : ∀ (k i : Nat), i <= n -> n + 1 <= k + i -> Jv f R n ρ (ja n) k (i : Int) = some 0 -> ∀ j, i <= j -> j < n ->
  QT (jg ρ j)=true∧Jy (jg ρ j)=true∧(ze (jg ρ j).kind=true->Jb f (jg ρ j).cond 1=some 0)∧R (jg ρ j).bn (jg ρ j).bρ=some 0∧R (jg ρ j).en (jg ρ j).eρ=some 0
 | 0,i,h1,h2,_=>by omega
 | k + 1, i, h1, h2, h => by
   intro j hj1 hj2;unfold Jv at h;rw [yg.2 (show (i:Int)<ja n by rw [t64];omega),inR (show i<n by omega),Int.toNat_natCast,zp (by omega)] at h
   simp only [cond_true] at h;cases h3:QT (jg ρ i) with
  | false=>rw [h3] at h;cases h
  | true =>
   rw [h3] at h;simp only [cond_true] at h;obtain ⟨h4,h⟩:=Yg h fun _=>by decide
   have h4:Jy (jg ρ i)=true:=by cases hq:Jy (jg ρ i) with | true=>rfl | false=>rw [hq] at h4;cases h4
   cases h5:(bif ze (jg ρ i).kind then Jb f (jg ρ i).cond 1 else some 0) with
  | none=>rw [h5] at h;cases h
  | some y =>
   rw [h5] at h;simp only at h;obtain ⟨h6,hA⟩:=Yg h ne0;clear h;have hy:y=0:=by simpa using h6
   subst hy;cases h7:R (jg ρ i).bn (jg ρ i).bρ with
  | none=>rw [h7] at hA;cases hA
  | some y =>
   rw [h7] at hA;simp only at hA;obtain ⟨h8,hB⟩:=Yg hA ne0;clear hA;have hy:y=0:=by simpa using h8
   subst hy;cases h9:R (jg ρ i).en (jg ρ i).eρ with
  | none=>rw [h9] at hB;cases hB
  | some y =>
   rw [h9] at hB;simp only at hB;obtain ⟨h10,h⟩:=Yg hB ne0;clear hB;have hy:y=0:=by simpa using h10
   subst hy;rcases Nat.eq_or_lt_of_le hj1 with e | e
   ·subst e;refine ⟨h3,h4,fun hc => ?_,h7,h9⟩;rw [hc] at h5;exact h5
   ·exact OF hn k (i+1) (by omega) (by omega) h j e hj2
theorem ae {f K:Nat} (hK:10000<=K):∀ (d k:Nat) (l:List AstS) (ρ:Val),k<=9000->l.length<=9000->(∀ t ∈ l,DV k t)->LieL l ρ->QJ f d l.length ρ=some 0->∀ t ∈ l,WS K k t
 | 0,_,_,_,_,_,_,_,h=>by cases h
 | d + 1, k, l, ρ, hk, hl, hd, hρ, h => by
   intro t ht;obtain ⟨i,hi⟩:=kR ht;have h:Jv f (QJ f d) l.length ρ (ja l.length) (l.length+1) ((0:Nat):Int)=some 0:=h;obtain ⟨g1,g2,g3,g4,g5⟩:=OF (by omega) (l.length+1) 0 (by omega) (by omega) h i (by omega) (jq hi)
   have hdt:=hd t ht;cases hdt with
  | mk hw hu hb1 hb2 hx1 hx2 =>
   obtain ⟨a1,a2,a3,a4,a5,a6,a7,a8,a9⟩:=Zf hρ hi;rw [a5] at g4;rw [a7] at g5;exact jnB a1 a2 (by rw [a3];exact LieW.box _ _) (by rw [a4];exact ⟨rfl,rfl,rfl,fun _=>rfl⟩) a5 a7 hK (by omega) hu (by omega) (by omega) (ae hK d _ _ _ (by omega) (by omega) hb2 a6 g4) (ae hK d _ _ _ (by omega) (by omega) hx2 a8 g5) g1 g2 (fun hc=>g3 (by rw [a1];exact hc))
theorem jhD {f d k : Nat} {name : ByteArray} {l : List AstS} {ρ : Val} (hk : k <= 9000) (hl : l.length <= 9000) (hd : ∀ t ∈ l, DV k t) (hρ : LieL l ρ) (h : jz f d name l.length ρ = some 0) :
  yY name=true∧za name=true∧∀ t ∈ l,WS 10000 k t:=by
 unfold jz at h;cases h1:yY name with
 | false=>rw [h1] at h;cases h
 | true =>
 rw [h1] at h;simp only [cond_true] at h;obtain ⟨h2,h⟩:=Yg h fun _=>by decide
 have h2:za name=true:=by cases hq:za name with | true=>rfl | false=>rw [hq] at h2;cases h2
 cases hc:cntF d l.length ρ with
 | none=>rw [hc] at h;cases h
 | some y =>
 obtain ⟨a,b⟩:=y;rw [hc] at h;simp only at h;obtain ⟨_,h⟩:=Yg h fun _=>by decide
 obtain ⟨_,h⟩:=Yg h fun _=>by decide
 exact ⟨rfl,h2,ae (by omega) d k l ρ hk hl hd hρ h⟩
def jaX (n:Nat) (ρ:Val) (w:List ByteArray):Prop:=n=w.length∧∀ j u,nth w j=some u->wd ρ j=u
theorem jm4 (u:ByteArray):jaX 1 (yA u) [u]:=⟨rfl,fun j v h=>by
 cases j with
 | zero=>cases h;rfl
 | succ j=>cases h⟩
theorem jc0 (u v:ByteArray):jaX 2 (row2 u v) [u,v]:=⟨rfl,fun j w h=>by
 match j,h with
 | 0,h=>cases h;rfl
 | 1,h=>cases h;rfl
 | j+2,h=>cases h⟩
def Rp (x:PU) (t:List ByteArray):Prop:=jaX x.n x.ρ t
theorem rp0:Rp pU0 []:=⟨rfl,fun _ _ h=>by cases h⟩
abbrev yF:Nat:=1000000
theorem Hp {m:Nat} {σ:Val} {w:List ByteArray} {x:PU} {t:List ByteArray} (hx:Rp x t) (hσ:jaX m σ w) (hb:t.length+w.length<=yF):∃ y,ZI m σ x=some y∧Rp y (t++w):=by
 obtain ⟨n,ρ⟩:=x;obtain ⟨rfl,h2⟩:=hx;obtain ⟨rfl,h4⟩:=hσ
 have e:okN ⟨t.length,ρ⟩ w.length=true:=by
  unfold okN;rw [Nat.ble_eq];show (t.length+w.length)*16<=_;unfold yF at hb;omega
 unfold ZI;rw [e];refine ⟨_,rfl,?_,fun j u hj => ?_⟩
 ·show t.length+w.length=_
  simp
 ·show wd (Val.cat t.length ρ σ) j=u;unfold wd;rcases Nat.lt_or_ge j t.length with hlt | hge
  ·rw [D4 _ _ hlt];rw [yE t w j hlt] at hj;exact h2 j u hj
  ·rw [jdh _ _ (by omega)]
   rw [jd,List.getElem?_append_right hge,← jd] at hj;exact h4 _ u hj
theorem y6 {u:ByteArray} {x:PU} {t:List ByteArray} (hx:Rp x t) (hb:t.length+1<=yF):∃ y,yy u x=some y∧Rp y (t++[u]):=Hp hx (jm4 u) hb
theorem jcq (num:Int->ByteArray) (op:ByteArray) (v:Int) (l:List AstX):prX num (.mk op v l)=opT num op v (yZ num l):=by conv=>lhs;unfold prX
theorem jcJ (num:Int->ByteArray) (op:ByteArray) (v:Int) (l:List AstX):prO num (.mk op v l)=jaS l.isEmpty (opT num op v (yZ num l)):=by conv=>lhs;unfold prO
theorem WZ (num:Int->ByteArray):yZ num []=[]:=by unfold yZ;rfl
theorem QU (num:Int->ByteArray) (a:AstX) (r:List AstX):yZ num (a::r)=prO num a::yZ num r:=by conv=>lhs;unfold yZ
theorem jas (num:Int->ByteArray) (a:AstX):prX num (.mk jO 0 [a])=jO::prO num a:=by rw [jcq,QU,WZ];rfl
theorem jg3 (num:Int->ByteArray) (a:AstX):prO num (.mk jO 0 [a])=qK::((jO::prO num a)++[zr]):=by rw [jcJ,QU,WZ];rfl
theorem jaW (num:Int->ByteArray) (op:ByteArray) (a b:AstX):prX num (.mk op 0 [a,b])=prO num a++op::prO num b:=by rw [jcq,QU,QU,WZ];rfl
theorem jhh (num:Int->ByteArray) (op:ByteArray) (a b:AstX):prO num (.mk op 0 [a,b])=qK::((prO num a++op::prO num b)++[zr]):=by rw [jcJ,QU,QU,WZ];rfl
theorem L5 {num:Int->ByteArray} {d:Nat} {e:AstX} (h:WX d e):(prX num e).length+2<=4*ndX e∧(prO num e).length<=4*ndX e:=by
 have leaf:∀ (op:ByteArray) (v:Int),(qQ num op v).length<=2:=fun op v=>by
  unfold qQ;cases Nat.beq (j7 op) 1 with
  | true=>exact (by decide:1<=2)
  | false=>cases Nat.beq (j7 op) 2 with
   | true=>exact lRq _
   | false=>exact (by decide:1<=2)
 have leaf2:∀ (op:ByteArray) (v:Int),(prX num (.mk op v [])).length+2<=4*ndX (.mk op v [])∧(prO num (.mk op v [])).length<=4*ndX (.mk op v []):=fun op v=>by
  have e1:prX num (.mk op v [])=qQ num op v:=by unfold prX yZ;rfl
  have e2:prO num (.mk op v [])=qQ num op v:=by unfold prO yZ;rfl
  have:=leaf op v
  rw [e1,e2];show _+2<=4*(1+0)∧_<=4*(1+0);omega
 induction h with
 | num _ _=>exact leaf2 _ _
 | site _ _ _=>exact leaf2 _ _
 | plain _=>exact leaf2 _ _
 | neg ha ih =>
   rename_i a;have e1:prX num (.mk jO 0 [a])=jO::prO num a:=jas num a;have e2:prO num (.mk jO 0 [a])=qK::((jO::prO num a)++[zr]):=jg3 num a;rw [e1,e2];show _<=4*(1+(ndX a+0))∧_<=4*(1+(ndX a+0));simp only [List.length_cons,List.length_append,List.length_nil];omega
 | bin _ ha hb ih1 ih2 =>
   rename_i op a b _;have e1:prX num (.mk op 0 [a,b])=prO num a++op::prO num b:=jaW num op a b;have e2:prO num (.mk op 0 [a,b])=qK::((prO num a++op::prO num b)++[zr]):=jhh num op a b;rw [e1,e2];show _<=4*(1+(ndX a+(ndX b+0)))∧_<=4*(1+(ndX a+(ndX b+0)));simp only [List.length_cons,List.length_append,List.length_nil];omega
theorem ZL {num:Int->ByteArray}:∀ {l:List AstS},(∀ t ∈ l,(prS num t).length<=8*ndS t)->(prL num l).length<=8*yr l
 | [], _ => by
   have e:prL num []=[]:=by unfold prL;rfl
   rw [e];exact Nat.zero_le _
 | t :: r, h => by
   have h1:=h t List.mem_cons_self;have h2:=ZL (num:=num) (l:=r) fun y hy=>h y (List.mem_cons_of_mem _ hy);have e:prL num (t::r)=prS num t++prL num r:=by conv=>lhs;unfold prL
   rw [e,List.length_append];show _<=8*(ndS t+yr r);omega
theorem jjX {num:Int->ByteArray} {K D:Nat} {t:AstS} (h:WS K D t):(prS num t).length<=8*ndS t:=by
 have key:∀ (kd:ByteArray) (w:List ByteArray) (e:AstX) (b x:List AstS) (p:Int),((bif ze kd then prX num e else []).length<=4*ndX e)->(prL num b).length<=8*yr b->(prL num x).length<=8*yr x->(prS num (.mk kd w e b x p)).length<=8*ndS (.mk kd w e b x p):=fun kd w e b x p h1 h2 h3=>by
  have e1:prS num (.mk kd w e b x p)=kd::(w++((bif ze kd then prX num e else [])++Zx kd (qy (prL num b)) (qy (prL num x)) b.isEmpty x.isEmpty)):=by conv=>lhs;unfold prS
  rw [e1];show _<=8*(1+w.length+ndX e+yr b+yr x)
  have:=Mw e
  have hp:(Zx kd (qy (prL num b)) (qy (prL num x)) b.isEmpty x.isEmpty).length<=(prL num b).length+(prL num x).length+5:=by
   unfold Zx qy;cases jb kd wDo with
   | true=>cases b.isEmpty<;>(simp only [cond_true,cond_false,List.length_cons,List.length_append,List.length_nil];omega)
   | false=>cases jb kd wIf with
    | true=>cases x.isEmpty<;>(simp only [cond_true,cond_false,List.length_cons,List.length_append,List.length_nil];omega)
    | false=>cases jb kd jK<;>(simp only [cond_true,cond_false,List.length_cons,List.length_append,List.length_nil];omega)
  simp only [List.length_cons,List.length_append];omega
 have hz:(prL num []).length<=8*yr []:=ZL fun t ht=>by cases ht
 induction h with
 | dos _ _ _ _ _ ih=>exact key _ _ _ _ _ _ (Nat.zero_le _) (ZL ih) hz
 | ifs he _ _ _ _ ih1 ih2=>exact key _ _ _ _ _ _ (by have:=(L5 (num:=num) he).1;show (prX num _).length<=_;omega) (ZL ih1) (ZL ih2)
 | reps h0 h1 _ _ ih=>exact key _ _ _ _ _ _ (by have:=(L5 (num:=num) (WX.num (d:=0) h0 (by omega))).1;rw [show ze jK=true by kernel_rfl,cond_true];omega) (ZL ih) hz
 | reqs he=>exact key _ _ _ _ _ _ (by have:=(L5 (num:=num) he).1;show (prX num _).length<=_;omega) hz hz
 | says _ _=>exact key _ _ _ _ _ _ (Nat.zero_le _) hz hz
def OkO (O:OE) (e:AstX) (ts:List ByteArray):Prop:=∀ y x t,QO e y->Rp x t->t.length+ts.length<=yF->∃ z,O y x=some z∧Rp z (t++ts)
theorem Np {O:OE} {op:ByteArray} {v:Int} {l:List AstX} (h:OkO O (.mk op v l) (prX jj (.mk op v l))):OkO (K5 O) (.mk op v l) (prO jj (.mk op v l)):=by
 intro y x t hy hx hb;have hn:y.n=l.length:=hy.2.2.1.trans (kr l);unfold K5;rw [hn];have e0:prX jj (.mk op v l)=opT jj op v (yZ jj l):=by conv=>lhs;unfold prX
 have e1:prO jj (.mk op v l)=jaS l.isEmpty (prX jj (.mk op v l)):=by rw [e0];conv=>lhs;unfold prO
 rw [e1] at hb ⊢;cases l with
 | nil=>exact h y x t hy hx hb
 | cons a r =>
   have e2:(ja (a::r).length==0)=false:=by rw [t64];simp only [List.length_cons];rw [beq_eq_false_iff_ne];omega
   rw [e2];have e3:jaS (a::r).isEmpty (prX jj (.mk op v (a::r)))=qK::(prX jj (.mk op v (a::r))++[zr]):=rfl;rw [e3] at hb ⊢;simp only [List.length_cons,List.length_append,List.length_nil] at hb;obtain ⟨x1,h1,r1⟩:=y6 (u:=qK) hx (by omega)
   obtain ⟨x2,h2,r2⟩:=h y x1 _ hy r1 (by simp only [List.length_append,List.length_cons,List.length_nil];omega)
   obtain ⟨x3,h3,r3⟩:=y6 (u:=zr) r2 (by simp only [List.length_append,List.length_cons,List.length_nil];omega)
   refine ⟨x3,?_,?_⟩
   ·simp only [cond_false];rw [h1];show (O y x1).bind _=_;rw [h2];exact h3
   ·rw [List.append_assoc,List.append_assoc] at r3;exact r3
theorem q7 {w z:ByteArray} {c:Nat} (h:j7 w=c) (hz:Nat.beq (j7 z) c=false):jb w z=false:=by
 cases he:jb w z with
 | false=>rfl
 | true =>
   rw [qW he] at h;rw [h,Nat.beq_refl] at hz;cases hz
theorem Dv (w:ByteArray):UI w=siC w:=by
 unfold UI siC;cases jb w qS<;>cases jb w qe<;>cases jb w zI<;>cases jb w qU<;>rfl
theorem jfO {v:Int} (h0:0<=v) (h1:v<=9):(jj v).size=1:=by
 obtain ⟨i,rfl⟩ : ∃ i:Nat,v=(i:Int):=⟨v.toNat,by omega⟩
 show (Lib.itoa (i:Int)).length=1;rw [Lib.itoa_nonneg,Lib.decDigits_one (by omega)]
 rfl
theorem HD:∀ (d:Nat) (e:AstX) (k:Nat),d<=k->WX d e->OkO (prF k) e (prX jj e)
 | 0,_,_,_,h=>by cases h
 | d+1,e,0,hk,h=>by omega
 | d + 1, e, k + 1, hk, h => by
   intro y x t hy hx hb;show ∃ z,Hs (K5 (prF k)) y x=some z∧_;have leaf:∀ op v,prX jj (.mk op v [])=qQ jj op v:=fun op v=>by unfold prX yZ;rfl
   unfold Hs;cases h with
  | @num _ v h0 h1 =>
    rw [leaf] at hb ⊢;have e0:qQ jj j8 v=[jj v]:=rfl;rw [e0] at hb ⊢;rw [show jb y.op j8=true by rw [hy.1];exact qh _]
    obtain ⟨z,h2,r2⟩:=y6 (u:=jj v) hx hb;refine ⟨z,?_,r2⟩;show LP y x=_;unfold LP;have hv:y.v=v:=hy.2.1;rw [hv,Je.2 h0,Je.2 h1];exact h2
  | @site _ op v hc h0 h1 =>
    rw [leaf] at hb ⊢;have e0:qQ jj op v=[op,zh (bs [115]) (jj v)]:=by unfold qQ;rw [hc];rfl
    rw [e0] at hb ⊢;have ho:y.op=op:=hy.1;have hv:y.v=v:=hy.2.1;obtain ⟨z,h2,r2⟩:=Hp (w:=[op,zh (bs [115]) (jj v)]) hx (jc0 op (zh (bs [115]) (jj v))) hb;refine ⟨z,?_,r2⟩;rw [ho,q7 hc (by kernel_rfl)]
    show Ze _ y x=_;unfold Ze;rw [ho,q7 hc (z:=jW) (by kernel_rfl),q7 hc (z:=zg) (by kernel_rfl),q7 hc (z:=jO) (by kernel_rfl),Dv,(jhd hc).2,hv,Je.2 h0,yg.2 (show v<100 by omega)]
    have e3:Nat.ble ((bs [115]).size+(jj v).size) 9223372036854775807=true:=by rw [jfO h0 h1,Nat.ble_eq];show 1+1<=_;omega
    rw [e3];exact h2
  | @plain _ op hc =>
    rw [leaf] at hb ⊢;have e0:qQ jj op 0=[op]:=by unfold qQ;rw [hc];rfl
    rw [e0] at hb ⊢;have ho:y.op=op:=hy.1;obtain ⟨z,h2,r2⟩:=y6 (u:=op) hx hb;refine ⟨z,?_,r2⟩;rw [ho,q7 hc (by kernel_rfl)]
    show Ze _ y x=_;unfold Ze
    have hp:(bif jb op jW then true else jb op zg)=true:=by
     have:=jhc hc
     unfold prC at this;revert this;cases jb op jW<;>exact fun h=>h
    rw [ho,hp];exact h2
  | @neg _ a ha =>
    have e1:prX jj (.mk jO 0 [a])=jO::prO jj a:=jas jj a;rw [e1] at hb ⊢;simp only [List.length_cons] at hb;have ho:y.op=jO:=hy.1;have hn:y.n=1:=hy.2.2.1;have hk1:=HD d a k (by omega) ha
    obtain ⟨op',v',l'⟩:=a;have hk2:=Np hk1;obtain ⟨x1,h1,r1⟩:=y6 (u:=jO) hx (by omega)
    obtain ⟨z,h2,r2⟩:=hk2 (jR y.ρ 0) x1 _ (Zz hy rfl) r1 (by simp only [List.length_append,List.length_cons,List.length_nil];omega)
    refine ⟨z,?_,?_⟩
    ·rw [ho,show jb jO j8=false by kernel_rfl]
     show Ze _ y x=_;unfold Ze;rw [ho,show jb jO jW=false by kernel_rfl,show jb jO zg=false by kernel_rfl,qh,hn]
     show (yy jO x).bind _=_;rw [h1];exact h2
    ·rw [List.append_assoc] at r2;exact r2
  | @bin _ op a b hc ha hb' =>
    have e1:prX jj (.mk op 0 [a,b])=prO jj a++op::prO jj b:=jaW jj op a b;rw [e1] at hb ⊢;simp only [List.length_append,List.length_cons] at hb;have ho:y.op=op:=hy.1;have hn:y.n=2:=hy.2.2.1;have ka:=HD d a k (by omega) ha
    have kb:=HD d b k (by omega) hb'
    have la:QO a (jR y.ρ 0):=Zz hy rfl;have lb:QO b (jR y.ρ 1):=Zz hy rfl;obtain ⟨oa,va,ka'⟩:=a;obtain ⟨ob,vb,kb'⟩:=b;have ka:=Np ka;have kb:=Np kb;obtain ⟨x1,h1,r1⟩:=ka (jR y.ρ 0) x t la hx (by omega)
    obtain ⟨x2,h2,r2⟩:=y6 (u:=op) r1 (by simp only [List.length_append];omega)
    obtain ⟨z,h3,r3⟩:=kb (jR y.ρ 1) x2 _ lb r2 (by simp only [List.length_append,List.length_cons,List.length_nil];omega)
    refine ⟨z,?_,?_⟩
    ·rw [ho,q7 hc (by kernel_rfl)]
     show Ze _ y x=_
     have hs:UI op=false:=by
      rw [Dv];unfold siC;rw [q7 hc (by kernel_rfl),q7 hc (by kernel_rfl),q7 hc (by kernel_rfl),q7 hc (by kernel_rfl),q7 hc (by kernel_rfl)]
      rfl
     unfold Ze;rw [ho,q7 hc (z:=jW) (by kernel_rfl),q7 hc (z:=zg) (by kernel_rfl),q7 hc (z:=jO) (by kernel_rfl),hs,hn]
     show (K5 (prF k) (jR y.ρ 0) x).bind _=_;rw [h1];show (yy op x1).bind _=_;rw [h2];exact h3
    ·rw [List.append_assoc,List.append_assoc] at r3;exact r3
def jmf:AstS->RS->Prop
 | .mk kd w e b x _,s=>s.kind=kd∧s.wn=w.length∧LieW w s.wρ∧QO e s.cond∧s.bn=b.length∧LieL b s.bρ∧s.en=x.length∧LieL x s.eρ
theorem jjY {l:List AstS} {ρ:Val} (h:LieL l ρ) {i:Nat} {t:AstS} (hi:nth l i=some t):jmf t (jg ρ i):=by
 obtain ⟨kd,w,e,b,x,p⟩:=t;obtain ⟨a1,a2,a3,a4,a5,a6,a7,a8,a9⟩:=Zf h hi;exact ⟨a1,a2,by rw [a3];exact LieW.box _ _,by rw [a4];exact ⟨rfl,rfl,rfl,fun _=>rfl⟩,a5,a6,a7,a8⟩
def OkB (B:BE') (l:List AstS):Prop:=∀ ρ x t,LieL l ρ->Rp x t->t.length+(qy (prL jj l)).length<=yF->∃ z,B l.length ρ x=some z∧Rp z (t++qy (prL jj l))
def OkS (S:SE') (a:AstS):Prop:=∀ s x t,jmf a s->Rp x t->t.length+(prS jj a).length<=yF->∃ z,S s x=some z∧Rp z (t++prS jj a)
theorem jdd {B : BE'} {l : List AstS} (hB : OkB B l) {u : ByteArray} {ρ : Val} {x : PU} {t : List ByteArray} (hl : LieL l ρ) (hx : Rp x t) (hb : t.length + (bif l.isEmpty then [] else u :: qy (prL jj l)).length <= yF) :
  ∃ z,uOp B u l.length ρ x=some z∧Rp z (t++bif l.isEmpty then [] else u::qy (prL jj l)):=by
 cases l with
 | nil=>exact ⟨x,rfl,by show Rp x (t++[]);rw [List.append_nil];exact hx⟩
 | cons a r =>
   have e:lt 0 (ja (a::r).length)=true:=yg.2 (by rw [t64];simp only [List.length_cons];omega)
   unfold uOp;rw [e];have hb:t.length+((qy (prL jj (a::r))).length+1)<=yF:=hb;obtain ⟨x1,h1,r1⟩:=y6 (u:=u) hx (by omega)
   obtain ⟨x2,h2,r2⟩:=hB ρ x1 _ hl r1 (by simp only [List.length_append,List.length_cons,List.length_nil];omega)
   refine ⟨x2,?_,?_⟩
   ·show (yy u x).bind _=_;rw [h1];exact h2
   ·rw [List.append_assoc] at r2;exact r2
theorem UF {B : BE'} {kd : ByteArray} {b x : List AstS} (hB : OkB B b) (hX : OkB B x) {s : RS} (hk : s.kind = kd) (h5 : s.bn = b.length) (h6 : LieL b s.bρ) (h7 : s.en = x.length) (h8 : LieL x s.eρ) {y : PU} {t : List ByteArray} (hy : Rp y t)
  (hb:t.length+(Zx kd (qy (prL jj b)) (qy (prL jj x)) b.isEmpty x.isEmpty).length<=yF):∃ z,UQ B (uOp B) s y=some z∧Rp z (t++Zx kd (qy (prL jj b)) (qy (prL jj x)) b.isEmpty x.isEmpty):=by
 unfold UQ;unfold Zx at hb ⊢;rw [hk,h5,h7];revert hb;cases jb kd wDo with
 | true =>
   simp only [cond_true];intro hb;rw [List.length_append] at hb;simp only [List.length_cons,List.length_nil] at hb;obtain ⟨x1,h1,r1⟩:=jdd hB (u:=ar) h6 hy (by omega)
   obtain ⟨x2,h2,r2⟩:=y6 (u:=ql) r1 (by rw [List.length_append];omega)
   refine ⟨x2,?_,?_⟩
   ·rw [h1];exact h2
   ·rw [List.append_assoc] at r2;exact r2
 | false =>
 simp only [cond_false];cases jb kd wIf with
 | true =>
   simp only [cond_true];intro hb;rw [List.length_append] at hb;obtain ⟨x1,h1,r1⟩:=hB _ _ _ h6 hy (by omega)
   obtain ⟨x2,h2,r2⟩:=jdd hX (u:=yc) h8 r1 (by rw [List.length_append];omega)
   refine ⟨x2,?_,?_⟩
   ·rw [h1];exact h2
   ·rw [List.append_assoc] at r2;exact r2
 | false =>
 simp only [cond_false];cases jb kd jK with
 | true=>exact fun hb=>hB _ _ _ h6 hy hb
 | false=>exact fun hb=>y6 hy hb
theorem Wb {O:OE} {B:BE'} {kd:ByteArray} {w:List ByteArray} {e:AstX} {b x:List AstS} {p:Int} (hO:ze kd=true->OkO O e (prX jj e)) (hB:OkB B b) (hX:OkB B x):OkS (XK O B) (.mk kd w e b x p):=by
 intro s y t ⟨h1,h2,h3,h4,h5,h6,h7,h8⟩ hy hb;have e1:prS jj (.mk kd w e b x p)=kd::(w++((bif ze kd then prX jj e else [])++Zx kd (qy (prL jj b)) (qy (prL jj x)) b.isEmpty x.isEmpty)):=by conv=>lhs;unfold prS
 rw [e1] at hb ⊢;simp only [List.length_cons,List.length_append] at hb;unfold XK;rw [h1,h2];obtain ⟨x1,g1,r1⟩:=y6 (u:=kd) hy (by omega)
 obtain ⟨x2,g2,r2⟩:=Hp (w:=w) (σ:=s.wρ) (m:=w.length) r1 ⟨rfl,h3⟩ (by simp only [List.length_append,List.length_cons,List.length_nil];omega)
 rw [g1];simp only [Option.bind];rw [g2];simp only
 have fin:∀ z r,Rp z (((t++[kd])++w)++r)->Rp z (t++kd::(w++r)):=fun z r h=>by
  rw [List.append_assoc,List.append_assoc] at h;exact h
 cases hc:ze kd with
 | true =>
   rw [hc] at hb;simp only [cond_true] at hb ⊢;obtain ⟨x3,g3,r3⟩:=hO hc s.cond x2 _ h4 r2 (by simp only [List.length_append,List.length_cons,List.length_nil];omega)
   obtain ⟨z,g4,r4⟩:=UF hB hX h1 h5 h6 h7 h8 r3 (by simp only [List.length_append,List.length_cons,List.length_nil];omega)
   rw [g3];refine ⟨z,g4,fin z _ ?_⟩;rw [← List.append_assoc];exact r4
 | false =>
   rw [hc] at hb;simp only [cond_false] at hb ⊢;obtain ⟨z,g4,r4⟩:=UF hB hX h1 h5 h6 h7 h8 r2 (by simp only [List.length_append,List.length_cons,List.length_nil] at hb ⊢;omega)
   exact ⟨z,g4,fin z _ r4⟩
theorem ME {S : SE'} {l : List AstS} (hS : ∀ a ∈ l, OkS S a) {ρ : Val} (hl : LieL l ρ) (hn : l.length <= 10000) : ∀ (k i : Nat) (x : PU) (t : List ByteArray), i <= l.length -> l.length + 1 <= k + i -> Rp x t -> t.length + (prL jj (l.drop i)).length <= yF ->
  ∃ z,Qn S l.length ρ (ja l.length) k (i:Int) x=some z∧Rp z (t++prL jj (l.drop i))
 | 0,i,x,t,h1,h2,_,_=>by omega
 | k + 1, i, x, t, h1, h2, hx, hb => by
   unfold Qn;rcases Nat.lt_or_ge i l.length with hi | hi
   ·obtain ⟨a,ha⟩:=qV l i hi;have e:prL jj (l.drop i)=prS jj a++prL jj (l.drop (i+1)):=by rw [Vj ha];conv=>lhs;unfold prL
    rw [e] at hb ⊢;rw [List.length_append] at hb;rw [yg.2 (show (i:Int)<ja l.length by rw [t64];omega),inR hi,Int.toNat_natCast,zp (by omega)]
    obtain ⟨x1,h3,r3⟩:=hS a (Ja ha) (jg ρ i) x t (jjY hl ha) hx (by omega)
    obtain ⟨z,h4,r4⟩:=ME hS hl hn k (i+1) x1 _ (by omega) (by omega) r3 (by rw [List.length_append];omega)
    refine ⟨z,?_,by rw [← List.append_assoc];exact r4⟩
    simp only [nd,cond_true];rw [h3];exact h4
   ·have e1 : lt (i : Int) (ja l.length) = false := by
     cases hq:lt (i:Int) (ja l.length) with
     | false=>rfl
     | true=>have:=yg.1 hq;simp only [t64] at this;omega
    have e2:l.drop i=[]:=List.drop_of_length_le hi;have e3:prL jj []=[]:=by unfold prL;rfl
    rw [e1,e2,e3,List.append_nil];exact ⟨x,rfl,hx⟩
theorem jcB {S:SE'} {l:List AstS} (hS:∀ a ∈ l,OkS S a) (hn:l.length<=10000):OkB (U5 S) l:=by
 intro ρ x t hl hx hb;unfold U5;unfold qy at hb ⊢;simp only [List.length_cons,List.length_append,List.length_nil] at hb;obtain ⟨x1,h1,r1⟩:=y6 (u:=JR) hx (by omega)
 obtain ⟨x2,h2,r2⟩:=ME hS hl hn (l.length+1) 0 x1 _ (by omega) (by omega) r1 (by rw [List.drop_zero];simp only [List.length_append,List.length_cons,List.length_nil];omega)
 rw [List.drop_zero] at r2;obtain ⟨x3,h3,r3⟩:=y6 (u:=yD) r2 (by simp only [List.length_append,List.length_cons,List.length_nil];omega)
 refine ⟨x3,?_,?_⟩
 ·rw [h1];show (Qn S l.length ρ (ja l.length) (l.length+1) 0 x1).bind _=_;rw [show ((0:Nat):Int)=0 from rfl] at h2;rw [h2];exact h3
 ·rw [List.append_assoc,List.append_assoc] at r3;exact r3
theorem Hx {K k:Nat} (hk:33<=k) (hK:K<=10000):∀ (d:Nat) (l:List AstS),l.length<=K->(∀ t ∈ l,WS K d t)->OkB (bpF (prF k) (d+1)) l
 | d, l, hl, hw => by
   refine jcB (fun a ha => ?_) (by omega)
   have hx:∀ e,WX 33 e->OkO (prF k) e (prX jj e):=fun e he=>HD 33 e k hk he;have hz:∀ d',OkB (bpF (prF k) (d'+1)) []:=fun d'=>jcB (fun a ha=>by cases ha) (Nat.zero_le _)
   cases hw a ha with
  | @dos d' w0 ws b p hk1 ho hs hl1 hb=>exact Wb (fun h=>by cases h) (Hx hk hK d' b (by omega) hb) (hz d')
  | @ifs d' e b x p he hl1 hb hl2 hx2=>exact Wb (fun _=>hx e he) (Hx hk hK d' b (by omega) hb) (Hx hk hK d' x (by omega) hx2)
  | @reps d' v b p h0 h1 hl1 hb=>exact Wb (fun _=>hx _ (.num h0 (by omega))) (Hx hk hK d' b (by omega) hb) (hz d')
  | @reqs d' e p he=>exact Wb (fun _=>hx e he) (hz d') (hz d')
  | @says d' w0 ws p hw1 hl1=>exact Wb (fun h=>by cases h) (hz d') (hz d')
 termination_by d=>d
end Go.Proofs.YtiefjlcakpdfeaaGreatDoor