/-
 Part TaZG of the proof: RuJ RuL RvY RvE RvF.
-/
import Derived.Test.YtiefjlcakpdfeaaGreatDoorTaZF
import Derived.Test.YtiefjlcakpdfeaaGreatDoorTaZC
namespace Go.Proofs.YtiefjlcakpdfeaaGreatDoor
open Go Go.Sx Go.RowKit Rb
set_option maxRecDepth 100000
def jbc (n:Nat) (ρ:Val) (w:List ByteArray):Prop:=n=w.length∧∀ j u,nth w j=some u->wd ρ j=u
theorem joH (u:ByteArray):jbc 1 (qT u) [u]:=⟨rfl,fun j v h=>by
 cases j with
 | zero=>cases h;rfl
 | succ j=>cases h⟩
theorem jd2 (u v:ByteArray):jbc 2 (row2 u v) [u,v]:=⟨rfl,fun j w h=>by
 match j,h with
 | 0,h=>cases h;rfl
 | 1,h=>cases h;rfl
 | j+2,h=>cases h⟩
def Rp (x:PU) (t:List ByteArray):Prop:=jbc x.n x.ρ t
theorem rp0:Rp pU0 []:=⟨rfl,fun _ _ h=>by cases h⟩
abbrev yt:Nat:=1000000
theorem HH {m:Nat} {σ:Val} {w:List ByteArray} {x:PU} {t:List ByteArray} (hx:Rp x t) (hσ:jbc m σ w) (hb:t.length+w.length<=yt):∃ y,ZA m σ x=some y∧Rp y (t++w):=by
 obtain ⟨n,ρ⟩:=x;obtain ⟨rfl,h2⟩:=hx;obtain ⟨rfl,h4⟩:=hσ
 have e:okN ⟨t.length,ρ⟩ w.length=true:=by
  unfold okN;rw [Nat.ble_eq];show (t.length+w.length)*16<=_;unfold yt at hb;omega
 unfold ZA;rw [e];refine ⟨_,rfl,?_,fun j u hj => ?_⟩
 ·show t.length+w.length=_
  simp
 ·show wd (Val.cat t.length ρ σ) j=u;unfold wd;rcases lOq j t.length with hlt | hge
  ·rw [TB _ _ hlt];rw [yr t w j hlt] at hj;exact h2 j u hj
  ·rw [jc5 _ _ (by omega)]
   rw [jd,List.getElem?_append_right hge,← jd] at hj;exact h4 _ u hj
theorem yT {u:ByteArray} {x:PU} {t:List ByteArray} (hx:Rp x t) (hb:t.length+1<=yt):∃ y,yi u x=some y∧Rp y (t++[u]):=HH hx (joH u) hb
theorem jdY (num:Int->ByteArray) (op:ByteArray) (v:Int) (l:List AstX):prX num (.mk op v l)=opT num op v (YZ num l):=by conv=>lhs;unfold prX
theorem Tv (num:Int->ByteArray):YZ num []=[]:=by unfold YZ;rfl
theorem UD (num:Int->ByteArray) (a:AstX) (r:List AstX):YZ num (a::r)=prO num a::YZ num r:=by conv=>lhs;unfold YZ
theorem jpE (num:Int->ByteArray) (a:AstX):prX num (.mk zf 0 [a])=zf::prO num a:=by rw [jdY,UD,Tv];rfl
theorem jpu (num:Int->ByteArray) (op:ByteArray) (a b:AstX):prX num (.mk op 0 [a,b])=prO num a++op::prO num b:=by rw [jdY,UD,UD,Tv];rfl
def OkO (O:OE) (e:AstX) (ts:List ByteArray):Prop:=∀ y x t,V4 e y->Rp x t->t.length+ts.length<=yt->∃ z,O y x=some z∧Rp z (t++ts)
theorem LH {O:OE} {op:ByteArray} {v:Int} {l:List AstX} (h:OkO O (.mk op v l) (prX jq (.mk op v l))):OkO (KL O) (.mk op v l) (prO jq (.mk op v l)):=by
 intro y x t hy hx hb;have hn:y.n=l.length:=hy.2.2.1.trans (Ku l);unfold KL;rw [hn];have e0:prX jq (.mk op v l)=opT jq op v (YZ jq l):=by conv=>lhs;unfold prX
 have e1:prO jq (.mk op v l)=jh1 l.isEmpty (prX jq (.mk op v l)):=by rw [e0];conv=>lhs;unfold prO
 rw [e1] at hb ⊢;cases l with
 | nil=>exact h y x t hy hx hb
 | cons a r =>
   have e2:(ja (a::r).length==0)=false:=by rw [t64];simp only [List.length_cons];rw [beq_eq_false_iff_ne];omega
   rw [e2];have e3:jh1 (a::r).isEmpty (prX jq (.mk op v (a::r)))=ZI::(prX jq (.mk op v (a::r))++[Zc]):=rfl;rw [e3] at hb ⊢;simp only [List.length_cons,lAq,List.length_nil] at hb;obtain ⟨x1,h1,r1⟩:=yT (u:=ZI) hx (by omega)
   obtain ⟨x2,h2,r2⟩:=h y x1 _ hy r1 (by simp only [lAq,List.length_cons,List.length_nil];omega)
   obtain ⟨x3,h3,r3⟩:=yT (u:=Zc) r2 (by simp only [lAq,List.length_cons,List.length_nil];omega)
   refine ⟨x3,?_,?_⟩
   ·simp only [cond_false];rw [h1];show (O y x1).bind _=_;rw [h2];exact h3
   ·rw [List.append_assoc,List.append_assoc] at r3;exact r3
theorem qL {w z:ByteArray} {c:Nat} (h:zo w=c) (hz:Nat.beq (zo z) c=false):jb w z=false:=by
 cases he:jb w z with
 | false=>rfl
 | true =>
   rw [Kt he] at h;rw [h,Nat.beq_refl] at hz;cases hz
theorem Tu (w:ByteArray):U6 w=siC w:=by
 unfold U6 siC;cases jb w zy<;>cases jb w qv<;>cases jb w ym<;>cases jb w zu<;>rfl
theorem jhe {v:Int} (h0:0<=v) (h1:v<=9):(jq v).size=1:=by
 obtain ⟨i,rfl⟩ : ∃ i:Nat,v=(i:Int):=⟨v.toNat,by omega⟩
 show (Lib.itoa (i:Int)).length=1;rw [Lib.itoa_nonneg,Lib.decDigits_one (by omega)]
 rfl
theorem HQ:∀ (d:Nat) (e:AstX) (k:Nat),d<=k->WX d e->OkO (prF k) e (prX jq e)
 | 0,_,_,_,h=>by cases h
 | d+1,e,0,hk,h=>by omega
 | d + 1, e, k + 1, hk, h => by
   intro y x t hy hx hb;show ∃ z,Ly (KL (prF k)) y x=some z∧_;have leaf:∀ op v,prX jq (.mk op v [])=W6 jq op v:=fun op v=>by unfold prX YZ;rfl
   unfold Ly;cases h with
  | @num _ v h0 h1 =>
    rw [leaf] at hb ⊢;have e0:W6 jq qy v=[jq v]:=rfl;rw [e0] at hb ⊢;rw [show jb y.op qy=true by rw [hy.1];exact kO _]
    obtain ⟨z,h2,r2⟩:=yT (u:=jq v) hx hb;refine ⟨z,?_,r2⟩;show Nl y x=_;unfold Nl;have hv:y.v=v:=hy.2.1;rw [hv,Wr.2 h0,Wr.2 h1];exact h2
  | @site _ op v hc h0 h1 =>
    rw [leaf] at hb ⊢;have e0:W6 jq op v=[op,jn (bs [115]) (jq v)]:=by unfold W6;rw [hc];rfl
    rw [e0] at hb ⊢;have ho:y.op=op:=hy.1;have hv:y.v=v:=hy.2.1;obtain ⟨z,h2,r2⟩:=HH (w:=[op,jn (bs [115]) (jq v)]) hx (jd2 op (jn (bs [115]) (jq v))) hb;refine ⟨z,?_,r2⟩;rw [ho,qL hc (by kernel_rfl)]
    show Q5 _ y x=_;unfold Q5;rw [ho,qL hc (z:=qj) (by kernel_rfl),qL hc (z:=zC) (by kernel_rfl),qL hc (z:=zf) (by kernel_rfl),Tu,(jpC hc).2,hv,Wr.2 h0,TR.2 (show v<100 by omega)]
    have e3:Nat.ble ((bs [115]).size+(jq v).size) 9223372036854775807=true:=by rw [jhe h0 h1,Nat.ble_eq];show 1+1<=_;omega
    rw [e3];exact h2
  | @plain _ op hc =>
    rw [leaf] at hb ⊢;have e0:W6 jq op 0=[op]:=by unfold W6;rw [hc];rfl
    rw [e0] at hb ⊢;have ho:y.op=op:=hy.1;obtain ⟨z,h2,r2⟩:=yT (u:=op) hx hb;refine ⟨z,?_,r2⟩;rw [ho,qL hc (by kernel_rfl)]
    show Q5 _ y x=_;unfold Q5
    have hp:(bif jb op qj then true else jb op zC)=true:=by
     have:=jpZ hc
     unfold prC at this;revert this;cases jb op qj<;>exact fun h=>h
    rw [ho,hp];exact h2
  | @neg _ a ha =>
    have e1:prX jq (.mk zf 0 [a])=zf::prO jq a:=jpE jq a;rw [e1] at hb ⊢;simp only [List.length_cons] at hb;have ho:y.op=zf:=hy.1;have hn:y.n=1:=hy.2.2.1;have hk1:=HQ d a k (by omega) ha
    obtain ⟨op',v',l'⟩:=a;have hk2:=LH hk1;obtain ⟨x1,h1,r1⟩:=yT (u:=zf) hx (by omega)
    obtain ⟨z,h2,r2⟩:=hk2 (jW y.ρ 0) x1 _ (XL hy rfl) r1 (by simp only [lAq,List.length_cons,List.length_nil];omega)
    refine ⟨z,?_,?_⟩
    ·rw [ho,show jb zf qy=false by kernel_rfl]
     show Q5 _ y x=_;unfold Q5;rw [ho,show jb zf qj=false by kernel_rfl,show jb zf zC=false by kernel_rfl,kO,hn]
     show (yi zf x).bind _=_;rw [h1];exact h2
    ·rw [List.append_assoc] at r2;exact r2
  | @bin _ op a b hc ha hb' =>
    have e1:prX jq (.mk op 0 [a,b])=prO jq a++op::prO jq b:=jpu jq op a b;rw [e1] at hb ⊢;simp only [lAq,List.length_cons] at hb;have ho:y.op=op:=hy.1;have hn:y.n=2:=hy.2.2.1;have ka:=HQ d a k (by omega) ha
    have kb:=HQ d b k (by omega) hb'
    have la:V4 a (jW y.ρ 0):=XL hy rfl;have lb:V4 b (jW y.ρ 1):=XL hy rfl;obtain ⟨oa,va,ka'⟩:=a;obtain ⟨ob,vb,kb'⟩:=b;have ka:=LH ka;have kb:=LH kb;obtain ⟨x1,h1,r1⟩:=ka (jW y.ρ 0) x t la hx (by omega)
    obtain ⟨x2,h2,r2⟩:=yT (u:=op) r1 (by simp only [lAq];omega)
    obtain ⟨z,h3,r3⟩:=kb (jW y.ρ 1) x2 _ lb r2 (by simp only [lAq,List.length_cons,List.length_nil];omega)
    refine ⟨z,?_,?_⟩
    ·rw [ho,qL hc (by kernel_rfl)]
     show Q5 _ y x=_
     have hs:U6 op=false:=by
      rw [Tu];unfold siC;rw [qL hc (by kernel_rfl),qL hc (by kernel_rfl),qL hc (by kernel_rfl),qL hc (by kernel_rfl),qL hc (by kernel_rfl)]
      rfl
     unfold Q5;rw [ho,qL hc (z:=qj) (by kernel_rfl),qL hc (z:=zC) (by kernel_rfl),qL hc (z:=zf) (by kernel_rfl),hs,hn]
     show (KL (prF k) (jW y.ρ 0) x).bind _=_;rw [h1];show (yi op x1).bind _=_;rw [h2];exact h3
    ·rw [List.append_assoc,List.append_assoc] at r3;exact r3
def jne:AstS->RS->Prop
 | .mk kd w e b x _,s=>s.kind=kd∧s.wn=w.length∧LieW w s.wρ∧V4 e s.cond∧s.bn=b.length∧LieL b s.bρ∧s.en=x.length∧LieL x s.eρ
theorem jlA {l:List AstS} {ρ:Val} (h:LieL l ρ) {i:Nat} {t:AstS} (hi:nth l i=some t):jne t (jh ρ i):=by
 obtain ⟨kd,w,e,b,x,p⟩:=t;obtain ⟨a1,a2,a3,a4,a5,a6,a7,a8,a9⟩:=Y1 h hi;exact ⟨a1,a2,by rw [a3];exact LieW.box _ _,by rw [a4];exact ⟨rfl,rfl,rfl,fun _=>rfl⟩,a5,a6,a7,a8⟩
def OkB (B:BE') (l:List AstS):Prop:=∀ ρ x t,LieL l ρ->Rp x t->t.length+(Jh (prL jq l)).length<=yt->∃ z,B l.length ρ x=some z∧Rp z (t++Jh (prL jq l))
def OkS (S:SE') (a:AstS):Prop:=∀ s x t,jne a s->Rp x t->t.length+(prS jq a).length<=yt->∃ z,S s x=some z∧Rp z (t++prS jq a)
theorem jdF {B : BE'} {l : List AstS} (hB : OkB B l) {u : ByteArray} {ρ : Val} {x : PU} {t : List ByteArray} (hl : LieL l ρ) (hx : Rp x t) (hb : t.length + (bif l.isEmpty then [] else u :: Jh (prL jq l)).length <= yt) :
  ∃ z,uOp B u l.length ρ x=some z∧Rp z (t++bif l.isEmpty then [] else u::Jh (prL jq l)):=by
 cases l with
 | nil=>exact ⟨x,rfl,by show Rp x (t++[]);rw [List.append_nil];exact hx⟩
 | cons a r =>
   have e:lt 0 (ja (a::r).length)=true:=TR.2 (by rw [t64];simp only [List.length_cons];omega)
   unfold uOp;rw [e];have hb:t.length+((Jh (prL jq (a::r))).length+1)<=yt:=hb;obtain ⟨x1,h1,r1⟩:=yT (u:=u) hx (by omega)
   obtain ⟨x2,h2,r2⟩:=hB ρ x1 _ hl r1 (by simp only [lAq,List.length_cons,List.length_nil];omega)
   refine ⟨x2,?_,?_⟩
   ·show (yi u x).bind _=_;rw [h1];exact h2
   ·rw [List.append_assoc] at r2;exact r2
theorem Bo {B : BE'} {kd : ByteArray} {b x : List AstS} (hB : OkB B b) (hX : OkB B x) {s : RS} (hk : s.kind = kd) (h5 : s.bn = b.length) (h6 : LieL b s.bρ) (h7 : s.en = x.length) (h8 : LieL x s.eρ) {y : PU} {t : List ByteArray} (hy : Rp y t)
  (hb:t.length+(Hz kd (Jh (prL jq b)) (Jh (prL jq x)) b.isEmpty x.isEmpty).length<=yt):∃ z,BA B (uOp B) s y=some z∧Rp z (t++Hz kd (Jh (prL jq b)) (Jh (prL jq x)) b.isEmpty x.isEmpty):=by
 unfold BA;unfold Hz at hb ⊢;rw [hk,h5,h7];revert hb;cases jb kd wDo with
 | true =>
   simp only [cond_true];intro hb;rw [lAq] at hb;simp only [List.length_cons,List.length_nil] at hb;obtain ⟨x1,h1,r1⟩:=jdF hB (u:=Yn) h6 hy (by omega)
   obtain ⟨x2,h2,r2⟩:=yT (u:=z8) r1 (by rw [lAq];omega)
   refine ⟨x2,?_,?_⟩
   ·rw [h1];exact h2
   ·rw [List.append_assoc] at r2;exact r2
 | false =>
 simp only [cond_false];cases jb kd wIf with
 | true =>
   simp only [cond_true];intro hb;rw [lAq] at hb;obtain ⟨x1,h1,r1⟩:=hB _ _ _ h6 hy (by omega)
   obtain ⟨x2,h2,r2⟩:=jdF hX (u:=ZT) h8 r1 (by rw [lAq];omega)
   refine ⟨x2,?_,?_⟩
   ·rw [h1];exact h2
   ·rw [List.append_assoc] at r2;exact r2
 | false =>
 simp only [cond_false];cases jb kd qc with
 | true=>exact fun hb=>hB _ _ _ h6 hy hb
 | false=>exact fun hb=>yT hy hb
theorem Xx {O:OE} {B:BE'} {kd:ByteArray} {w:List ByteArray} {e:AstX} {b x:List AstS} {p:Int} (hO:yf kd=true->OkO O e (prX jq e)) (hB:OkB B b) (hX:OkB B x):OkS (XH O B) (.mk kd w e b x p):=by
 intro s y t ⟨h1,h2,h3,h4,h5,h6,h7,h8⟩ hy hb;have e1:prS jq (.mk kd w e b x p)=kd::(w++((bif yf kd then prX jq e else [])++Hz kd (Jh (prL jq b)) (Jh (prL jq x)) b.isEmpty x.isEmpty)):=by conv=>lhs;unfold prS
 rw [e1] at hb ⊢;simp only [List.length_cons,lAq] at hb;unfold XH;rw [h1,h2];obtain ⟨x1,g1,r1⟩:=yT (u:=kd) hy (by omega)
 obtain ⟨x2,g2,r2⟩:=HH (w:=w) (σ:=s.wρ) (m:=w.length) r1 ⟨rfl,h3⟩ (by simp only [lAq,List.length_cons,List.length_nil];omega)
 rw [g1];simp only [Option.bind];rw [g2];simp only
 have fin:∀ z r,Rp z (((t++[kd])++w)++r)->Rp z (t++kd::(w++r)):=fun z r h=>by
  rw [List.append_assoc,List.append_assoc] at h;exact h
 cases hc:yf kd with
 | true =>
   rw [hc] at hb;simp only [cond_true] at hb ⊢;obtain ⟨x3,g3,r3⟩:=hO hc s.cond x2 _ h4 r2 (by simp only [lAq,List.length_cons,List.length_nil];omega)
   obtain ⟨z,g4,r4⟩:=Bo hB hX h1 h5 h6 h7 h8 r3 (by simp only [lAq,List.length_cons,List.length_nil];omega)
   rw [g3];refine ⟨z,g4,fin z _ ?_⟩;rw [← List.append_assoc];exact r4
 | false =>
   rw [hc] at hb;simp only [cond_false] at hb ⊢;obtain ⟨z,g4,r4⟩:=Bo hB hX h1 h5 h6 h7 h8 r2 (by simp only [lAq,List.length_cons,List.length_nil] at hb ⊢;omega)
   exact ⟨z,g4,fin z _ r4⟩
theorem Mj {S : SE'} {l : List AstS} (hS : ∀ a ∈ l, OkS S a) {ρ : Val} (hl : LieL l ρ) (hn : l.length <= 10000) : ∀ (k i : Nat) (x : PU) (t : List ByteArray), i <= l.length -> l.length + 1 <= k + i -> Rp x t -> t.length + (prL jq (l.drop i)).length <= yt ->
  ∃ z,Qb S l.length ρ (ja l.length) k (i:Int) x=some z∧Rp z (t++prL jq (l.drop i))
 | 0,i,x,t,h1,h2,_,_=>by omega
 | k + 1, i, x, t, h1, h2, hx, hb => by
   unfold Qb;rcases lOq i l.length with hi | hi
   ·obtain ⟨a,ha⟩:=qX l i hi;have e:prL jq (l.drop i)=prS jq a++prL jq (l.drop (i+1)):=by rw [Ih ha];conv=>lhs;unfold prL
    rw [e] at hb ⊢;rw [lAq] at hb;rw [TR.2 (show (i:Int)<ja l.length by rw [t64];omega),inR hi,Int.toNat_natCast,Jk (by omega)]
    obtain ⟨x1,h3,r3⟩:=hS a (Qu ha) (jh ρ i) x t (jlA hl ha) hx (by omega)
    obtain ⟨z,h4,r4⟩:=Mj hS hl hn k (i+1) x1 _ (by omega) (by omega) r3 (by rw [lAq];omega)
    refine ⟨z,?_,by rw [← List.append_assoc];exact r4⟩
    simp only [nd,cond_true];rw [h3];exact h4
   ·have e1 : lt (i : Int) (ja l.length) = false := by
     cases hq:lt (i:Int) (ja l.length) with
     | false=>rfl
     | true=>have:=TR.1 hq;simp only [t64] at this;omega
    have e2:l.drop i=[]:=List.drop_of_length_le hi;have e3:prL jq []=[]:=by unfold prL;rfl
    rw [e1,e2,e3,List.append_nil];exact ⟨x,rfl,hx⟩
theorem jds {S:SE'} {l:List AstS} (hS:∀ a ∈ l,OkS S a) (hn:l.length<=10000):OkB (UQ S) l:=by
 intro ρ x t hl hx hb;unfold UQ;unfold Jh at hb ⊢;simp only [List.length_cons,lAq,List.length_nil] at hb;obtain ⟨x1,h1,r1⟩:=yT (u:=zj) hx (by omega)
 obtain ⟨x2,h2,r2⟩:=Mj hS hl hn (l.length+1) 0 x1 _ (by omega) (by omega) r1 (by rw [List.drop_zero];simp only [lAq,List.length_cons,List.length_nil];omega)
 rw [List.drop_zero] at r2;obtain ⟨x3,h3,r3⟩:=yT (u:=wEnd) r2 (by simp only [lAq,List.length_cons,List.length_nil];omega)
 refine ⟨x3,?_,?_⟩
 ·rw [h1];show (Qb S l.length ρ (ja l.length) (l.length+1) 0 x1).bind _=_;rw [show ((0:Nat):Int)=0 from rfl] at h2;rw [h2];exact h3
 ·rw [List.append_assoc,List.append_assoc] at r3;exact r3
theorem HF {K k:Nat} (hk:33<=k) (hK:K<=10000):∀ (d:Nat) (l:List AstS),l.length<=K->(∀ t ∈ l,WS K d t)->OkB (bpF (prF k) (d+1)) l
 | d, l, hl, hw => by
   refine jds (fun a ha => ?_) (by omega)
   have hx:∀ e,WX 33 e->OkO (prF k) e (prX jq e):=fun e he=>HQ 33 e k hk he;have hz:∀ d',OkB (bpF (prF k) (d'+1)) []:=fun d'=>jds (fun a ha=>by cases ha) (Nat.zero_le _)
   cases hw a ha with
  | @dos d' w0 ws b p hk1 ho hs hl1 hb=>exact Xx (fun h=>by cases h) (HF hk hK d' b (by omega) hb) (hz d')
  | @ifs d' e b x p he hl1 hb hl2 hx2=>exact Xx (fun _=>hx e he) (HF hk hK d' b (by omega) hb) (HF hk hK d' x (by omega) hx2)
  | @reps d' v b p h0 h1 hl1 hb=>exact Xx (fun _=>hx _ (.num h0 (by omega))) (HF hk hK d' b (by omega) hb) (hz d')
  | @reqs d' e p he=>exact Xx (fun _=>hx e he) (hz d') (hz d')
  | @says d' w0 ws p hw1 hl1=>exact Xx (fun h=>by cases h) (hz d') (hz d')
 termination_by d=>d
theorem jhX {y:PU} {t:List ByteArray} (h:Rp y t):KC y.ρ y.n=t:=by
 obtain ⟨h1,h2⟩:=h;refine List.ext_getElem? fun i => ?_;rcases lOq i y.n with hi | hi
 ·obtain ⟨u,hu⟩:=qX t i (by omega)
  rw [GD _ _ _ hi,h2 i u hu,← jd,hu]
 ·rw [List.getElem?_eq_none (by rw [y3];exact hi),List.getElem?_eq_none (by omega)]
theorem OI:∀ t:List ByteArray,Lib.joinTail [32] (t.map (·.data.toList))=zE t
 | []=>rfl
 | a :: r => by
   have:=OI r
   unfold Lib.joinTail at this ⊢;rw [List.map_cons,List.map_cons,List.flatten_cons,this];rfl
theorem MX {y:PU} {t:List ByteArray} (h:Rp y t):joinL y.n y.ρ spc=KA t:=by
 unfold joinL;rw [jhX h];cases t with
 | nil=>rfl
 | cons a r =>
   rw [List.map_cons,Lib.join_cons];exact congrArg (lst a ++ ·) (OI r)
theorem WX.dx:∀ {d:Nat} {e:AstX},WX d e->DX d e:=by
 intro d e h
 induction h with
 | num _ _=>exact .mk (Nat.zero_le _) fun x hx=>by cases hx
 | site _ _ _=>exact .mk (Nat.zero_le _) fun x hx=>by cases hx
 | plain _=>exact .mk (Nat.zero_le _) fun x hx=>by cases hx
 | neg _ ih =>
   exact .mk (by show 1<=2;omega) fun x hx=>by
    simp only [List.mem_cons,List.not_mem_nil,or_false] at hx;subst hx;exact ih
 | bin _ _ _ ih1 ih2 =>
   exact .mk (lRq 2) fun x hx=>by
    simp only [List.mem_cons,List.not_mem_nil,or_false] at hx;rcases hx with rfl | rfl
    ·exact ih1
    ·exact ih2
theorem jc2 {k:Nat} (hk:1<=k):DX k noX:=by
 obtain ⟨k,rfl⟩ : ∃ j,k=j+1:=⟨k - 1,by omega⟩
 exact .mk (Nat.zero_le _) fun x hx=>by cases hx
theorem jp1 {K:Nat}:∀ {D:Nat} {a:AstS},WS K D a->∀ {k:Nat},DV k a->DS (k+40) a:=by
 intro D a h;have st:∀ {k:Nat},k+1+40=(k+40)+1:=fun {k}=>by omega
 induction h with
 | dos hk ho hs hl hb ih =>
   intro k hd;cases hd with
  | mk hw hu hb1 hb2 hx1 hx2 =>
    rw [st];exact .mk (by omega) hu (by omega) (fun y hy=>ih y hy (hb2 y hy)) (by omega) (fun y hy=>by cases hy) (jc2 (by omega))
 | ifs he hl hb hl2 hx ih1 ih2 =>
   intro k hd;cases hd with
  | mk hw hu hb1 hb2 hx1 hx2 =>
    rw [st];exact .mk (by omega) hu (by omega) (fun y hy=>ih1 y hy (hb2 y hy)) (by omega) (fun y hy=>ih2 y hy (hx2 y hy)) (he.dx.mono (by omega))
 | reps h0 h1 hl hb ih =>
   intro k hd;cases hd with
  | mk hw hu hb1 hb2 hx1 hx2 =>
    rw [st];exact .mk (by omega) hu (by omega) (fun y hy=>ih y hy (hb2 y hy)) (by omega) (fun y hy=>by cases hy) ((WX.num (d:=0) h0 (by omega)).dx.mono (by omega))
 | reqs he =>
   intro k hd;cases hd with
  | mk hw hu hb1 hb2 hx1 hx2 =>
    rw [st];exact .mk (by omega) hu (by omega) (fun y hy=>by cases hy) (by omega) (fun y hy=>by cases hy) (he.dx.mono (by omega))
 | says hw hl =>
   intro k hd;cases hd with
  | mk hw1 hu hb1 hb2 hx1 hx2 =>
    rw [st];exact .mk (by omega) hu (by omega) (fun y hy=>by cases hy) (by omega) (fun y hy=>by cases hy) (jc2 (by omega))
theorem jh0 {P:Program} {f:Nat} {G G':List A1->Option (Bool × AV)} (h:UcOne P f (nG G)) (hg:∀ args r,G' args=some (true,r)->G args=some (true,r)):UcOne P f (nG G'):=by
 intro args r hs;refine h args r ?_
 have:=hg args r (zA hs)
 unfold nG;rw [this];rfl
def Q8:PaF:=QZ 40 10001 (blK 10000 10000)
theorem p8q:UcOne Tryz.prog 8 (nG (G8p Q8)):=jh0 (p8F 9999 10000 40 10001 (by decide)) fun args r h=>by
 unfold G8p at h;split at h
 ·exact h
 ·cases h
def P7:PrF:=Xu 40 10001 (bpF (prF 33) 301)
def S9:RBB:=U3 10000 10001
def onC:Nat->ByteArray
 | 0=>wUp
 | 1=>ZR
 | 2=>zP
 | _=>zJ
def Y4:Nat->ByteArray
 | 0=>ZR
 | 1=>wUp
 | 2=>zJ
 | _=>zP
def kV:Nat->Nat
 | 0=>1
 | 1=>0
 | 2=>3
 | _=>2
def sW (k:Nat):ByteArray:=bs [115,UInt8.ofNat (48+k)]
def unA (c k:Nat) (q:Int):AstS:=.mk wDo [Y4 c,sW k] noX [] [] q
def doA (c k:Nat) (p q:Int):AstS:=.mk wDo [onC c,sW k] noX [unA c k q] [] p
def UL:ByteArray:=bs [110,101,118,101,114]
def cdA:AstX:=.mk JG 0 [.mk wEq 0 [.mk zC 0 [],.mk qy 3 []],.mk zf 0 [.mk wEq 0 [.mk qy 1 [],.mk qy 2 []]]]
def n2A:AstX:=.mk qy 2 []
def stA (t c k:Nat) (p q r s:Int):AstS:=match t with
 | 0=>doA c k p q
 | 1=>.mk wIf [] cdA [doA c k p q] [.mk kj [UL] noX [] [] r] s
 | _=>.mk qc [] n2A [doA c k p q] [] s
def jN (a:AstS):RS:=jh (jO (AstS.dens [a])) 0
theorem jjB {l:List AstS} {ρ:Val} (h:LieL l ρ) {i:Nat} {a:AstS} (hi:nth l i=some a):jh ρ i=jN a:=by
 have e0:jh ρ i=jh (jO (AstS.dens l)) i:=Xm (h i);rw [e0];have h1:nth (AstS.dens l) i=some a.den:=by rw [Gr,hi];rfl
 have h2:nth (AstS.dens [a]) 0=some a.den:=rfl;unfold jN jh;rw [zG h1 (by omega:0<8),zG h1 (by omega:1<8),zG h1 (by omega:2<8),zG h1 (by omega:3<8),zG h1 (by omega:4<8),zG h1 (by omega:5<8),zG h1 (by omega:6<8),zG h1 (by omega:7<8)]
 rw [zG h2 (by omega:0<8),zG h2 (by omega:1<8),zG h2 (by omega:2<8),zG h2 (by omega:3<8),zG h2 (by omega:4<8),zG h2 (by omega:5<8),zG h2 (by omega:6<8),zG h2 (by omega:7<8)]
theorem c43 {P:Nat->Nat->Prop} (h:P 0 0∧P 0 1∧P 0 2∧P 1 0∧P 1 1∧P 1 2∧P 2 0∧P 2 1∧P 2 2∧P 3 0∧P 3 1∧P 3 2):∀ c k,c<4->k<3->P c k
 | 0,0,_,_=>h.1
 | 0,1,_,_=>h.2.1
 | 0,2,_,_=>h.2.2.1
 | 1,0,_,_=>h.2.2.2.1
 | 1,1,_,_=>h.2.2.2.2.1
 | 1,2,_,_=>h.2.2.2.2.2.1
 | 2,0,_,_=>h.2.2.2.2.2.2.1
 | 2,1,_,_=>h.2.2.2.2.2.2.2.1
 | 2,2,_,_=>h.2.2.2.2.2.2.2.2.1
 | 3,0,_,_=>h.2.2.2.2.2.2.2.2.2.1
 | 3,1,_,_=>h.2.2.2.2.2.2.2.2.2.2.1
 | 3,2,_,_=>h.2.2.2.2.2.2.2.2.2.2.2
 | c+4,_,h,_=>by omega
 | 0,k+3,_,h=>by omega
 | 1,k+3,_,h=>by omega
 | 2,k+3,_,h=>by omega
 | 3,k+3,_,h=>by omega
theorem L5 {P:Nat->Nat->Nat->Prop} (h0:∀ c k,c<4->k<3->P 0 c k) (h1:∀ c k,c<4->k<3->P 1 c k) (h2:∀ c k,c<4->k<3->P 2 c k):∀ t c k,t<3->c<4->k<3->P t c k
 | 0,c,k,_,hc,hk=>h0 c k hc hk
 | 1,c,k,_,hc,hk=>h1 c k hc hk
 | 2,c,k,_,hc,hk=>h2 c k hc hk
 | t+3,_,_,h,_,_=>by omega
def fC (c:Nat):Nat:=6+c / 2
def bC (c:Nat):Bool:=Nat.beq (c % 2) 0
structure SitesAre (ρ0:Val) (F:Nat->Nat->Bool) (ρ:Val):Prop where
 fix:∀ j f,f ≠ 6->f ≠ 7->(ρ.at j).at f=(ρ0.at j).at f
 fl:∀ j g,g<2->((ρ.at j).at (6+g)).B []=F g j
variable {ρ0 ρ:Val} {F:Nat->Nat->Bool} {n:Nat}
theorem SitesAre.small (h:SitesAre ρ0 F ρ):qi n ρ=qi n ρ0:=by
 unfold qi
 have:(fun i=>Nat.ble (((ρ.at i).at 4).L []) 100000)=fun i=>Nat.ble (((ρ0.at i).at 4).L []) 100000:=by
  funext i;rw [h.fix i 4 (by omega) (by omega)]
 rw [this]
theorem SitesAre.ck (h:SitesAre ρ0 F ρ):Ro.ckE ⟨n,ρ⟩=Ro.ckE ⟨n,ρ0⟩:=by
 have hn:∀ j,(Ro.siAt (ρ.at j)).a=(Ro.siAt (ρ0.at j)).a∧(Ro.siAt (ρ.at j)).r=(Ro.siAt (ρ0.at j)).r∧(Ro.siAt (ρ.at j)).e=(Ro.siAt (ρ0.at j)).e∧Ro.chkS (Ro.siAt (ρ.at j))=Ro.chkS (Ro.siAt (ρ0.at j)):=by
  intro j;unfold Ro.siAt Ro.chkS;simp only [h.fix j 0 (by omega) (by omega),h.fix j 1 (by omega) (by omega),h.fix j 2 (by omega) (by omega),h.fix j 3 (by omega) (by omega),h.fix j 4 (by omega) (by omega),h.fix j 5 (by omega) (by omega)]
  exact ⟨trivial,trivial,trivial,trivial⟩
 have hB:∀ i,Ro.fndB ⟨n,ρ⟩ (Ro.siAt (ρ.at i))=Ro.fndB ⟨n,ρ0⟩ (Ro.siAt (ρ0.at i)):=by
  intro i;funext k;unfold Ro.fndB Ro.Ses.at;rw [(hn k).1,(hn i).1]
 have hD:∀ i,Ro.fndD ⟨n,ρ⟩ (Ro.siAt (ρ.at i))=Ro.fndD ⟨n,ρ0⟩ (Ro.siAt (ρ0.at i)):=by
  intro i;funext k;unfold Ro.fndD Ro.Ses.at;rw [(hn k).2.1,(hn i).2.1,(hn k).2.2.1,(hn i).2.2.1]
 have h1:Ro.wrgS ⟨n,ρ⟩=Ro.wrgS ⟨n,ρ0⟩:=by
  funext i;unfold Ro.wrgS Ro.Ses.at;rw [(hn i).2.2.2,hB,hD]
 have h2:∀ i,Ro.wrgE ⟨n,ρ⟩ i=Ro.wrgE ⟨n,ρ0⟩ i:=by
  intro i;unfold Ro.wrgE Ro.Ses.at;rw [(hn i).2.2.2,hB]
 unfold Ro.ckE;rw [h1,h2]
def yJ (F:Nat->Nat->Bool) (c k:Nat):Nat->Nat->Bool:=fun g j=>bif Nat.beq g (c / 2)&&Nat.beq j k then bC c else F g j
theorem jdo (a:Val) (i f:Nat) (x:CV) (j g:Nat):((a.upds i f [x]).at j).at g=zn (Nat.beq j i) (zn (Nat.beq g f) (.ofC x) ((a.at i).at g)) ((a.at j).at g):=by
 show (zn (Nat.beq j i) (.byFst fun g=>zn (Nat.beq g f) (.ofC x) ((a.at j).at g)) (a.at j)).at g=_;cases h:Nat.beq j i with
 | false=>rfl
 | true =>
   have:=eBq h
   subst this;rfl
theorem SitesAre.set (h:SitesAre ρ0 F ρ) {c k:Nat} (hc:c<4):SitesAre ρ0 (yJ F c k) (ρ.upds k (fC c) [.bool (bC c)]) where
 fix:=fun j f h6 h7=>by
  rw [jdo,← h.fix j f h6 h7]
  have hf:Nat.beq f (fC c)=false:=by
   cases hb:Nat.beq f (fC c) with
   | false=>rfl
   | true =>
     have:=eBq hb
     unfold fC at this;omega
  rw [hf];cases hj:Nat.beq j k with
  | false=>rfl
  | true =>
    have:=eBq hj
    subst this;rfl
 fl:=fun j g hg=>by
  rw [jdo];unfold yJ;rw [← h.fl j g hg]
  have hf:Nat.beq (6+g) (fC c)=Nat.beq g (c / 2):=by
   unfold fC;cases hb:Nat.beq g (c / 2) with
   | true =>
     have:=eBq hb
     rw [this];exact Nat.beq_refl _
   | false =>
     cases hb2:Nat.beq (6+g) (6+c / 2) with
    | false=>rfl
    | true =>
      have:=eBq hb2
      have:g=c / 2:=by omega
      rw [this,Nat.beq_refl] at hb;cases hb
  rw [hf];cases hj:Nat.beq j k with
  | false=>cases Nat.beq g (c / 2)<;>rfl
  | true =>
    have:=eBq hj
    subst this;cases Nat.beq g (c / 2)<;>rfl
theorem jic (n:Nat) (ρ:Val) (p q:Int):∀ c k,c<4->k<3->Qt NW n ρ 2 (jN (doA c k p q)).wρ=nd (qi n ρ) (Yr n ρ k (fC c) (bC c)) :=
 c43 (by and_intros<;>kernel_rfl)
theorem M4 (h:SitesAre ρ0 F ρ) (hs:qi n ρ0=true) (hk0:Ro.ckE ⟨n,ρ0⟩=0) {c k:Nat} (hc:c<4) (hk:k<n) (_:n<=1000):nd (qi n ρ) (Yr n ρ k (fC c) (bC c))=some (0,ρ.upds k (fC c) [.bool (bC c)]):=by
 rw [h.small,hs];unfold nd Yr RB;have h2:=h.set (k:=k) hc;rw [inR hk];simp only [cond_true,Int.toNat_natCast];rw [h2.small,h2.ck,hs,hk0];rfl
theorem NL (hn:n<=1000) (hs:qi n ρ=true) (h:∀ j,j<n->L6 (ρ.at j) (ρ0.at j)=true):∀ f (i:Nat),n+1<=f+i->i<=n->Xe n ρ n ρ0 (ja n) f (i:Int)=some true
 | 0,i,h1,h2=>by omega
 | f + 1, i, h1, h2 => by
   unfold Xe;rcases lOq i n with hi | hi
   ·have e1:lt (i:Int) (ja n)=true:=by unfold lt ja;simp;exact hi
    have e2:jc (i:Int) n=true:=by unfold jc le lt ja;simp;omega
    have e3:GG (((ρ.at i).at 4).L [])=true:=by
     unfold qi at hs;rw [aTq] at hs;exact U0 hs.2 i hi
    have e4:IntKind.wrap .i64 ((i:Int)+1)=((i+1:Nat):Int):=by rw [Ro.w64_id (by omega) (by omega)];omega
    rw [e1,e2,e4];simp only [nd,cond_true,Int.toNat_natCast,e3,h i hi,Bool.not_true,cond_false];exact NL hn hs h f (i+1) (by omega) (by omega)
   ·have e1:lt (i:Int) (ja n)=false:=by unfold lt ja;simp;omega
    rw [e1];rfl
theorem jkA (h:SitesAre ρ0 F ρ) (hn:n<=100) (hs:qi n ρ0=true) (hF:∀ j g,g<2->F g j=((ρ0.at j).at (6+g)).B []):Zf n ρ n ρ0=some true:=by
 unfold Zf;have e:(ja n != ja n)=false:=by simp
 rw [e];have hs':qi n ρ=true:=by rw [h.small,hs]
 refine NL (by omega) hs' (fun j hj => ?_) (n+1) 0 (by omega) (by omega)
 unfold L6;have f6:=h.fl j 0 (by omega)
 have f7:=h.fl j 1 (by omega)
 rw [hF j 0 (by omega)] at f6
 rw [hF j 1 (by omega)] at f7
 rw [h.fix j 0 (by omega) (by omega),h.fix j 1 (by omega) (by omega),h.fix j 2 (by omega) (by omega),h.fix j 3 (by omega) (by omega),h.fix j 4 (by omega) (by omega),h.fix j 5 (by omega) (by omega),f6,f7]
 simp only [beq_self_eq_true,Ro.eqL_self,Bool.and_self]
def lnA (c k:Nat):ByteArray:=jn (jn (bs [100,111,32]) (onC c)) (jn (bs [32]) (sW k))
theorem MJ (p q:Int):∀ c k,c<4->k<3->yZ 3 (Val.cat 1 (qT wDo) (jN (doA c k p q)).wρ) spc=lnA c k :=
 c43 (by and_intros<;>kernel_rfl)
theorem Ts (p q:Int):∀ c k,c<4->k<3->kS 3 (Val.cat 1 (qT wDo) (jN (doA c k p q)).wρ) spc=true :=
 c43 (by and_intros<;>kernel_rfl)
theorem jnW:∀ c k,c<4->k<3->Nat.ble (wUndoS.size+(lnA c k).size) 9223372036854775807=true :=
 c43 (by and_intros<;>kernel_rfl)
theorem Xs {c:Nat} (hc:c<4):kV c<4∧kV c / 2=c / 2∧bC (kV c)=!(bC c)∧onC (kV c)=Y4 c:=by
 match c,hc with
 | 0,_=>exact ⟨by decide,rfl,rfl,rfl⟩
 | 1,_=>exact ⟨by decide,rfl,rfl,rfl⟩
 | 2,_=>exact ⟨by decide,rfl,rfl,rfl⟩
 | 3,_=>exact ⟨by decide,rfl,rfl,rfl⟩
theorem jiA {c k:Nat} {p q r:Int} (hc:c<4):(jN (unA c k r)).wρ=(jN (doA (kV c) k p q)).wρ:=by
 have:=(Xs hc).2.2.2
 show Val.ofC (.sl [.str] 2 (za [Y4 c,sW k]))=Val.ofC (.sl [.str] 2 (za [onC (kV c),sW k]));rw [this]
theorem jio {p:Nat} {a b:Val} {j:Nat} (h:j<p):(Val.cat p a b).at j=a.at j:=by
 show zn (Nat.blt j p) (a.at j) (b.at (j - p))=_
 have:Nat.blt j p=true:=by unfold Nat.blt;rw [Nat.ble_eq];exact h
 rw [this];rfl
theorem jir {p:Nat} {a b:Val}:(Val.cat p a b).at p=b.at 0:=by
 show zn (Nat.blt p p) (a.at p) (b.at (p - p))=_
 have:Nat.blt p p=false:=by
  cases hb:Nat.blt p p with
  | false=>rfl
  | true=>unfold Nat.blt at hb;rw [Nat.ble_eq] at hb;omega
 rw [this,Nat.sub_self];rfl
theorem HZ {p:Nat} {a:Val} {w:ByteArray} {j:Nat} (h:j<p):wd (Val.cat p a (qT w)) j=wd a j:=by unfold wd;rw [jio h]
theorem jbN {p:Nat} {a:Val} {w:ByteArray}:wd (Val.cat p a (qT w)) p=w:=by unfold wd;rw [jir];rfl
theorem Dw {m:Nat} (h:m<=1000):Nat.ble ((m+1)*16) 140737488355328=true:=by rw [Nat.ble_eq];omega
theorem jmK {m:Nat} (h:m<=1000):Nat.ble ((m+1)*24) 140737488355328=true:=by rw [Nat.ble_eq];omega
theorem jon {b:Nat} (h1:b<=1000):lt 4096 (IntKind.wrap .i64 ((b:Int)+1))=false:=by
 rw [Ro.w64_id (by omega) (by omega)]
 unfold lt;simp;omega
theorem jlZ {b:Nat} (h1:b<=1000):IntKind.wrap .i64 ((b:Int)+1)=((b+1:Nat):Int):=by
 rw [Ro.w64_id (by omega) (by omega)];omega
def Z5:ByteArray:=bs [102,97,105,108,32,100,111]
def odC (τ:Val) (n0:Nat) (j:Nat):Bool:=Nat.blt j n0&&(((τ.at j).at 0).N []).tmod 2 != 0
structure Sq where
 c:Nat->Nat
 k:Nat->Nat
 F:Nat->Nat->Nat->Bool
 hc:∀ j,c j<4
 hk:∀ j,k j<3
def Sq.Ch (A:Sq) (F0:Nat->Nat->Bool):Nat->(Nat->Nat->Bool)->Prop
 | 0,F=>F=F0
 | e+1,F=>yJ F (kV (A.c e)) (A.k e)=A.F e∧A.Ch F0 e (A.F e)
theorem UF {F:Nat->Nat->Bool} {c k:Nat} (hc:c<4) (h:F (c / 2) k=!bC c):yJ (yJ F c k) (kV c) k=F:=by
 have hf:=Xs hc;funext g j;unfold yJ;rw [hf.2.1,hf.2.2.1];cases hb:Nat.beq g (c / 2)&&Nat.beq j k with
 | false=>rfl
 | true =>
   rw [aTq] at hb;rw [eBq hb.1,eBq hb.2,h];rfl
theorem Oh {F:Nat->Nat->Bool} {c k:Nat} (h:F (c / 2) k=bC c):yJ F c k=F:=by
 funext g j;unfold yJ;cases hb:Nat.beq g (c / 2)&&Nat.beq j k with
 | false=>rfl
 | true =>
   rw [aTq] at hb;rw [eBq hb.1,eBq hb.2,h];rfl
theorem jju {F:Nat->Nat->Bool} {c k:Nat}:yJ F c k (c / 2) k=bC c:=by
 unfold yJ;rw [Nat.beq_refl,Nat.beq_refl];rfl
theorem jcu {F:Nat->Nat->Bool} {c k:Nat} (hc:c<4) (h:F (c / 2) k=!bC c):yJ F (kV c) k=F:=by
 have hf:=Xs hc;refine Oh ?_;rw [hf.2.1,hf.2.2.1,h]
structure Fw (A:Sq) (ρ0 τ:Val) (n0 e:Nat) (F:Nat->Nat->Bool) (b:Nat) (x:RU):Prop where
 sn:x.sn=3
 si:SitesAre ρ0 F x.sρ
 bg:x.bg=(b:Int)
 cn:x.cn=n0 - e
 cv:∀ j,e+j<n0->((x.cρ.at j).at 0).N []=((τ.at (e+j)).at 0).N []
 pn:x.pn=e
 pv:∀ j,j<e->wd x.pρ j=lnA (A.c j) (A.k j)
 kn:x.kn=e
 kv:∀ j,j<e->J6 x.kρ (j:Int)=1∧∃ q,jh (Jw x.kρ (j:Int)) 0=jN (unA (A.c j) (A.k j) q)
structure Bw (A:Sq) (ρ0:Val) (e:Nat) (F:Nat->Nat->Bool) (x:RU):Prop where
 sn:x.sn=3
 si:SitesAre ρ0 F x.sρ
 pn:x.pn=e+1
 pv:∀ j,j<e->wd x.pρ j=lnA (A.c j) (A.k j)
 pf:wd x.pρ e=Z5
 kn:x.kn=e
 kv:∀ j,j<e->J6 x.kρ (j:Int)=1∧∃ q,jh (Jw x.kρ (j:Int)) 0=jN (unA (A.c j) (A.k j) q)
variable {A:Sq} {ρ0 τ:Val} {F:Nat->Nat->Bool} {n0 e b:Nat} {x:RU}
def j4 (x:RU):RU:=bif x.cn==0 then x else { x with cn:=x.cn - 1,cρ:=x.cρ.from 1 }
theorem Fw.stop (h:Fw A ρ0 τ n0 e F b x) (_:n0<=1000):YF false x=some (odC τ n0 e,j4 x):=by
 unfold YF j4 odC;have h1:=h.cn;rcases lOq e n0 with hi | hi
 ·have e1:(ja x.cn==0)=false:=by unfold ja;simp;omega
  have e4:(x.cn==0)=false:=by simp;omega
  have e2:jc 0 x.cn=true:=by unfold jc le lt ja;simp;omega
  have e3:(le 0 1&&le 1 (ja x.cn))=true:=by unfold le ja;simp;omega
  have e5:Nat.blt e n0=true:=by unfold Nat.blt;rw [Nat.ble_eq];exact hi
  have cv:=h.cv 0 (by omega)
  rw [e2,e3,cv,e4,e5];simp only [cond_false,e1,Bool.true_and];rfl
 ·have e1:x.cn=0:=by omega
  have e5:Nat.blt e n0=false:=by
   cases hb:Nat.blt e n0 with
   | false=>rfl
   | true=>unfold Nat.blt at hb;rw [Nat.ble_eq] at hb;omega
  rw [e1,e5];rfl
theorem jiY (h:Fw A ρ0 τ n0 e F b x):(j4 x).cn=n0 - (e+1)∧∀ j,e+1+j<n0->(((j4 x).cρ.at j).at 0).N []=((τ.at (e+1+j)).at 0).N []:=by
 unfold j4;have h1:=h.cn;cases hc:(x.cn==0) with
 | true =>
   have:x.cn=0:=by simpa using hc
   exact ⟨by show x.cn=_;omega,fun j hj=>by omega⟩
 | false =>
   refine ⟨by show x.cn - 1=_;omega,fun j hj => ?_⟩
   show ((x.cρ.at (1+j)).at 0).N []=_;rw [h.cv (1+j) (by omega),show e+(1+j)=e+1+j by omega]
theorem Wg (x:RU):(j4 x).sn=x.sn∧(j4 x).sρ=x.sρ∧(j4 x).bg=x.bg∧(j4 x).pn=x.pn∧(j4 x).pρ=x.pρ∧(j4 x).kn=x.kn∧(j4 x).kρ=x.kρ:=by
 unfold j4;cases (x.cn==0)<;>exact ⟨rfl,rfl,rfl,rfl,rfl,rfl,rfl⟩
theorem Fw.beg (h:Fw A ρ0 τ n0 e F b x) (hb:b<=1000):Fw A ρ0 τ n0 e F (b+1) (zr false x) where
 sn:=h.sn
 si:=h.si
 bg:=by
  show IntKind.wrap .i64 (x.bg+1)=_;rw [h.bg,jlZ hb]
 cn:=h.cn
 cv:=h.cv
 pn:=h.pn
 pv:=h.pv
 kn:=h.kn
 kv:=h.kv
theorem Fw.few (h:Fw A ρ0 τ n0 e F b x) (hb:b<=1000):lt 4096 (zr false x).bg=false:=by
 show lt 4096 (IntKind.wrap .i64 (x.bg+1))=false;rw [h.bg,jon hb]
theorem Wv (c k:Nat) (p q:Int):(jN (doA c k p q)).kind=wDo:=rfl
theorem jml (c k:Nat) (p q:Int):(jN (doA c k p q)).wn=2:=rfl
def Rh (c k:Nat) (p q:Int) (x:RU):RU:=RF (J1 (QA (j4 x) (0,x.sρ.upds k (fC c) [.bool (bC c)])) (lnA c k)) (jN (doA c k p q)).bn (jN (doA c k p q)).bρ
theorem Fw.done (h:Fw A ρ0 τ n0 e F b x) (p q:Int):Fw A ρ0 τ n0 (e+1) (yJ F (A.c e) (A.k e)) b (Rh (A.c e) (A.k e) p q x):=by
 obtain ⟨r1,r2,r3,r4,r5,r6,r7⟩:=Wg x;have hs:=jiY h;refine ⟨?_,?_,?_,hs.1,hs.2,?_,fun j hj => ?_,?_,fun j hj => ?_⟩
 ·show (j4 x).sn=3;rw [r1,h.sn]
 ·exact h.si.set (A.hc e)
 ·show (j4 x).bg=_;rw [r3,h.bg]
 ·show (j4 x).pn+1=_;rw [r4,h.pn]
 ·show wd (Val.cat (j4 x).pn (j4 x).pρ (qT (lnA (A.c e) (A.k e)))) j=_;rw [r4,r5];rcases lOq j e with h1 | h1
  ·rw [HZ (by rw [h.pn];exact h1),h.pv j h1]
  ·have:j=e:=by omega
   subst this;rw [← h.pn,jbN,h.pn]
 ·show (j4 x).kn+1=_;rw [r6,h.kn]
 ·show (((Val.cat (j4 x).kn (j4 x).kρ (Val.ofFlat 1 [.sl (jm 1) (jN (doA (A.c e) (A.k e) p q)).bn (jN (doA (A.c e) (A.k e) p q)).bρ])).at (j : Int).toNat).at 0).L [] = 1 ∧
   ∃ q',jh (((Val.cat (j4 x).kn (j4 x).kρ (Val.ofFlat 1 [.sl (jm 1) (jN (doA (A.c e) (A.k e) p q)).bn (jN (doA (A.c e) (A.k e) p q)).bρ])).at (j:Int).toNat).at 0) 0=_
  rw [Int.toNat_natCast,r6,r7];rcases lOq j e with h1 | h1
  ·rw [jio (by rw [h.kn];exact h1)]
   exact h.kv j h1
  ·have:j=e:=by omega
   subst this;rw [← h.kn,jir,h.kn];exact ⟨rfl,q,rfl⟩
structure Grd (ρ0:Val) (n0:Nat):Prop where
 hs:qi 3 ρ0=true
 hk:Ro.ckE ⟨3,ρ0⟩=0
 hn:n0<=1000
theorem jmg (g:Grd ρ0 n0) (h:Fw A ρ0 τ n0 e F b x) (he:e<=500) (ho:odC τ n0 e=false) (p q:Int):doS P2 false (jN (doA (A.c e) (A.k e) p q)) x=some (0,Rh (A.c e) (A.k e) p q x):=by
 obtain ⟨r1,r2,r3,r4,r5,r6,r7⟩:=Wg x;unfold doS;rw [h.stop g.hn,ho];have e5:=jic 3 x.sρ p q (A.c e) (A.k e) (A.hc e) (A.hk e);rw [M4 h.si g.hs g.hk (A.hc e) (A.hk e) (by omega)] at e5
 simp only [Option.bind,cond_false,P2,r1,r2,h.sn,jml,e5];unfold yE;have p1:Nat.ble (((j4 x).pn+1)*16) 140737488355328=true:=Dw (by rw [r4,h.pn];omega)
 have p2:Nat.ble (((j4 x).kn+1)*24) 140737488355328=true:=jmK (by rw [r6,h.kn];omega)
 have p3:Nat.ble ((1+2)*16) 140737488355328=true:=rfl;simp only [Ts p q _ _ (A.hc e) (A.hk e),MJ p q _ _ (A.hc e) (A.hk e),nd,cond_true,cond_false,nk,QA,J1,p1,p2,p3,bne_self_eq_false,beq_self_eq_true,Bool.not_false];rfl
theorem jgJ (g:Grd ρ0 n0) (h:Fw A ρ0 τ n0 e F b x) (ho:odC τ n0 e=true) (s:RS):doS P2 false s x=some (29,j4 x):=by
 unfold doS;rw [h.stop g.hn,ho];rfl
theorem jfQ:jb wDo wDo=true:=rfl
theorem Mc (g : Grd ρ0 n0) (h : Fw A ρ0 τ n0 e F b x) (he : e <= 500) (hb : b <= 1000) (ho : odC τ n0 e = false) (p q : Int) :
  yC P2 false (jN (doA (A.c e) (A.k e) p q)) x=some ((0,.zero,0),Rh (A.c e) (A.k e) p q (zr false x)):=by
 unfold yC;rw [h.few hb,Wv,jfQ];simp only [cond_false,cond_true,jmg g (h.beg hb) he ho p q,Option.bind]
theorem N2 (g : Grd ρ0 n0) (h : Fw A ρ0 τ n0 e F b x) (hb : b <= 1000) (ho : odC τ n0 e = true) (c k : Nat) (p q : Int) :
  yC P2 false (jN (doA c k p q)) x=some ((0,.zero,29),j4 (zr false x)):=by
 unfold yC;rw [h.few hb,Wv,jfQ];simp only [cond_false,cond_true,jgJ g (h.beg hb) ho,Option.bind]
theorem jlN:yZ 2 (YC wDo) spc=Z5:=by kernel_rfl
theorem jjj:kS 2 (YC wDo) spc=true:=by kernel_rfl
theorem jc1 {x:RU} (h:x.pn<=1000):yE false 2 (YC wDo) x=some ((),J1 x Z5):=by
 unfold yE;rw [jlN,jjj];simp only [nd,cond_true,cond_false,Dw h]
def jiB (a:Int) (x:RU):RU:=Ur false (J1 (j4 x) Z5) a
theorem Fw.fail (h:Fw A ρ0 τ n0 e F b x) (a:Int):Bw A ρ0 e F (jiB a x):=by
 obtain ⟨r1,r2,r3,r4,r5,r6,r7⟩:=Wg x;refine ⟨?_,?_,?_,fun j hj => ?_,?_,?_,fun j hj => ?_⟩
 ·show (j4 x).sn=3;rw [r1,h.sn]
 ·show SitesAre ρ0 F (j4 x).sρ;rw [r2];exact h.si
 ·show (j4 x).pn+1=_;rw [r4,h.pn]
 ·show wd (Val.cat (j4 x).pn (j4 x).pρ (qT Z5)) j=_;rw [r4,r5,HZ (by rw [h.pn];exact hj),h.pv j hj]
 ·show wd (Val.cat (j4 x).pn (j4 x).pρ (qT Z5)) e=_;rw [r4,r5]
  have:=h.pn
  subst this;exact jbN
 ·show (j4 x).kn=_;rw [r6,h.kn]
 ·show J6 (j4 x).kρ (j:Int)=1∧∃ q,jh (Jw (j4 x).kρ (j:Int)) 0=_;rw [r7];exact h.kv j hj
theorem jo9 {u:Bool} {B:BF} {x:RU}:kG u B 0 .zero (ja 0) 1 0 x=some (0,nk u x):=rfl
theorem Hb (g : Grd ρ0 n0) (h : Fw A ρ0 τ n0 e F b x) (he : e <= 500) (hb : b <= 1000) (ho : odC τ n0 e = false) {κ : Val} {p q : Int} (hκ : jh κ 0 = jN (doA (A.c e) (A.k e) p q)) (B : BF) :
  zl P2 B false 1 κ x=some (0,Rh (A.c e) (A.k e) p q (zr false x)):=by
 have e0:zl P2 B false 1 κ x=yd P2 false B 1 κ (ja 1) 2 0 x:=rfl;rw [e0];unfold yd;have e2:jh κ (0:Int).toNat=jN (doA (A.c e) (A.k e) p q):=hκ;have e3:lt 0 (ja 1)=true:=rfl;have e4:jc 0 1=true:=rfl;have e5:=Mc (x:=nk false x) g h he hb ho p q;rw [e2,e3,e4];simp only [nd,cond_true,e5,Option.bind,bne_self_eq_false,cond_false];rfl
theorem Ga (g : Grd ρ0 n0) (h : Fw A ρ0 τ n0 e F b x) (he : e <= 500) (hb : b <= 1000) (ho : odC τ n0 e = true) {κ : Val} {c k : Nat} {p q : Int} (hκ : jh κ 0 = jN (doA c k p q)) (B : BF) :
  ∃ a,zl P2 B false 1 κ x=some (29,jiB a (zr false x)):=by
 have e0:zl P2 B false 1 κ x=yd P2 false B 1 κ (ja 1) 2 0 x:=rfl;rw [e0];unfold yd;have e2:jh κ (0:Int).toNat=jN (doA c k p q):=hκ;have e3:lt 0 (ja 1)=true:=rfl;have e4:jc 0 1=true:=rfl;have e5:=N2 (x:=nk false x) g h hb ho c k p q;have e6:((29:Int) != 0)=true:=rfl;obtain ⟨r1,r2,r3,r4,r5,r6,r7⟩:=Wg (zr false (nk false x));have e7:=jc1 (x:=nk false (j4 (zr false (nk false x)))) (by show (j4 (zr false (nk false x))).pn<=1000;rw [r4];show x.pn<=1000;rw [h.pn];omega)
 rw [e2,e3,e4];simp only [nd,cond_true,e5,Option.bind,e6,Wv,e7];exact ⟨_,rfl⟩
end Go.Proofs.YtiefjlcakpdfeaaGreatDoor