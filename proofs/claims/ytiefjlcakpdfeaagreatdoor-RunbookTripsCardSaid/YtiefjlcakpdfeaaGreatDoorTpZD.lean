/-
 Part TpZD of the proof: RpE RpF RpG RpH RpI RpJ RpL RuY.
-/
import Derived.Test.YtiefjlcakpdfeaaGreatDoorTpZC
import Derived.Test.YtiefjlcakpdfeaaGreatDoorTpZA
namespace Go.Proofs.YtiefjlcakpdfeaaGreatDoor
open Go Go.Sx Go.RowKit Rb
set_option maxRecDepth 100000
theorem jcx:∀ (l:List RS) (i:Nat) (t:RS),nth l i=some t->∀ f,f<8->nth (l.flatMap RS.cells) (i*8+f)=nth t.cells f
 | [],i,t,h,_,_=>by simp [nth] at h
 | a :: r, 0, t, h, f, hf => by
   have:a=t:=by simpa [nth] using h
   subst this;rw [List.flatMap_cons,jd,jd,Nat.zero_mul,Nat.zero_add,List.getElem?_append_left (by show f<8;exact hf)]
 | a :: r, i + 1, t, h, f, hf => by
   have h:nth r i=some t:=h;have hl:(RS.cells a).length=8:=rfl;rw [List.flatMap_cons,jd,List.getElem?_append_right (by rw [hl];omega),hl,← jd]
   have:(i+1)*8+f - 8=i*8+f:=by omega
   rw [this];exact jcx r i t h f hf
theorem YZ {l:List RS} {i:Nat} {t:RS} (h:nth l i=some t) {f:Nat} (hf:f<8):((jN l).at i).at f=match nth t.cells f with | some x=>.ofC x | none=>.zero:=by
 show (match nth (l.flatMap RS.cells) (i*8+f) with | some x=>Val.ofC x | none=>.zero)=_
 rw [jcx l i t h f hf]
theorem jhG {l : List RS} {i : Nat} {t : RS} (h : nth l i = some t) : (jg (jN l) i).kind = t.kind ∧ (jg (jN l) i).wn = t.wn ∧ (jg (jN l) i).wρ = .ofC (.sl [.str] t.wn t.wρ) ∧
  (jg (jN l) i).cond=⟨t.cond.op,t.cond.v,t.cond.n,.ofC (.sl (jl 0) t.cond.n t.cond.ρ)⟩∧(jg (jN l) i).bn=t.bn∧(jg (jN l) i).bρ=YE t.bn t.bρ∧(jg (jN l) i).en=t.en∧(jg (jN l) i).eρ=YE t.en t.eρ∧(jg (jN l) i).at_=t.at_:=by
 have h0:=YZ h (f:=0) (by omega)
 have h1:=YZ h (f:=1) (by omega)
 have h2:=YZ h (f:=2) (by omega)
 have h3:=YZ h (f:=3) (by omega)
 have h4:=YZ h (f:=4) (by omega)
 have h5:=YZ h (f:=5) (by omega)
 have h6:=YZ h (f:=6) (by omega)
 have h7:=YZ h (f:=7) (by omega)
 unfold jg;rw [h0,h1,h2,h3,h4,h5,h6,h7];exact ⟨rfl,rfl,rfl,rfl,rfl,rfl,rfl,rfl,rfl⟩
theorem N0 {R:RE} {n:Nat} {ρ:Val} {d:Int} (hn:n<=2) (hR:∀ i,opD (R (jR ρ i) (IntKind.wrap .i64 (d+1)))=true):∀ f (k:Nat),k<=n->n+1<=f+k->opD (YG R n ρ (ja n) d f (k:Int))=true
 | 0,k,h1,h2=>by omega
 | f + 1, k, h1, h2 => by
   unfold YG;rcases Nat.lt_or_ge k n with hk | hk
   ·have e1:lt (k:Int) (ja n)=true:=by unfold lt ja;simp;exact hk
    rw [e1,inR hk,Int.toNat_natCast,zp (by omega)]
    have:=hR k
    cases hr:R (jR ρ k) (IntKind.wrap .i64 (d+1)) with
    | none=>rw [hr] at this;cases this
    | some x =>
      simp only [cond_true];cases x != 0 with
     | true=>rfl
     | false=>exact N0 hn hR f (k+1) (by omega) (by omega)
   ·have e1:lt (k:Int) (ja n)=false:=by unfold lt ja;simp;omega
    rw [e1];rfl
theorem RI (c:Nat):0<=KO c∧KO c<=2:=by
 unfold KO;split<;>exact ⟨by decide,by decide⟩
theorem N6:∀ f (e:RX) (d:Nat),d<=33->34<=f+d->opD (Jb f e (d:Int))=true
 | 0, e, d, h1, h2 => by
   omega
 | f + 1, e, d, h1, h2 => by
   show opD (Xx (Jb f) e (d:Int))=true;unfold Xx;cases hb:B3 e with
  | true=>rfl
  | false =>
    cases hd:lt 32 (d:Int) with
   | true=>rfl
   | false =>
     have hd':d<=32:=by unfold lt at hd;simp at hd;omega
     have hn:e.n<=2:=by
      unfold B3 at hb;simp only at hb;cases h0 : !(!(Nat.beq (j7 e.op) 0)) with
      | true=>rw [h0] at hb;cases hb
      | false =>
        rw [h0] at hb;cases h3:(ja e.n != KO (j7 e.op)) with
       | true=>rw [h3] at hb;cases hb
       | false =>
         have:=RI (j7 e.op)
         unfold ja at h3;simp at h3;omega
     refine N0 hn (fun i => ?_) (e.n+1) 0 (by omega) (by omega)
     rw [zp (by omega)]
     exact N6 f _ (d+1) (by omega) (by omega)
theorem OI {n:Nat} {ρ:Val} (hn:n<=10000) (h:∀ i,i<n->(wAt ρ i).size<=10000):∀ f (k:Nat),k<=n->n+1<=f+k->ooD (Kk n ρ (ja n) f (k:Int))=true
 | 0,k,h1,h2=>by omega
 | f + 1, k, h1, h2 => by
   unfold Kk;rcases Nat.lt_or_ge k n with hk | hk
   ·have e1:lt (k:Int) (ja n)=true:=by unfold lt ja;simp;exact hk
    rw [e1,inR hk,Int.toNat_natCast,zp (by omega)]
    have:=Xw (h k hk)
    cases hr:jF (wAt ρ k) with
    | none=>rw [hr] at this;cases this
    | some x =>
      simp only [cond_true];cases x with
     | false=>rfl
     | true=>exact OI hn h f (k+1) (by omega) (by omega)
   ·have e1:lt (k:Int) (ja n)=false:=by unfold lt ja;simp;omega
    rw [e1];rfl
theorem D9 {m n:Nat} {κ ρ:Val} (hmn:m=n) (hn:n<=10000) (h:∀ i,i<n->(wAt ρ i).size<=10000):∀ f (k:Nat),k<=m->m+1<=f+k->obD (eqL m κ n ρ (ja m) f (k:Int))=true
 | 0,k,h1,h2=>by omega
 | f + 1, k, h1, h2 => by
   subst hmn;unfold eqL;rcases Nat.lt_or_ge k m with hk | hk
   ·have e1:lt (k:Int) (ja m)=true:=by unfold lt ja;simp;exact hk
    rw [e1,inR hk,Int.toNat_natCast,zp (by omega),Xj (h k hk)]
    simp only [cond_true];cases qn (nAt κ k) (wAt ρ k) with
    | false=>rfl
    | true=>exact D9 rfl hn h f (k+1) (by omega) (by omega)
   ·have e1:lt (k:Int) (ja m)=false:=by unfold lt ja;simp;omega
    rw [e1];rfl
theorem jc3 {n:Nat} {ρ:Val} (hn:n<=10000) (h:∀ i,i<n->(wAt ρ i).size<=10000):obD (J0 n ρ)=true:=by
 unfold J0;cases h0:(ja n==0) with
 | true=>rfl
 | false =>
   cases WU ρ with
  | false=>rfl
  | true =>
    show obD (BU n ρ)=true;unfold BU eqS;cases hm:(ja (qu (qx (wAt ρ 0))).length != ja (n - 1)) with
   | true=>rfl
   | false =>
     have he:(qu (qx (wAt ρ 0))).length=n - 1:=by unfold ja at hm;simp at hm;omega
     have hn0:0<n:=by unfold ja at h0;simp at h0;omega
     refine D9 he (by omega) (fun i hi => ?_) _ 0 (by omega) (by omega)
     have:wAt (ρ.from 1) i=wAt ρ (1+i):=rfl
     rw [this];exact h _ (by omega)
theorem OA {s:RS} (hn:s.wn<=10000) (h:∀ i,i<s.wn->(wAt s.wρ i).size<=10000):QT s=true:=by
 unfold QT;rw [jc3 hn h];have hb:ooD (Zw s.wn s.wρ)=true:=OI hn h _ 0 (by omega) (by omega)
 rw [hb];cases jb s.kind wDo<;>cases jb s.kind wIf<;>cases jb s.kind jK<;>cases jb s.kind jT<;>cases jb s.kind z6<;>first | rfl | simp
inductive SR:AstS->AstS->Prop where
 | mk {kd:ByteArray} {w:List ByteArray} {e:AstX} {b b' x x':List AstS} {p p':Int} (hb:All2 SR b b') (hx:All2 SR x x'):SR (.mk kd w e b x p) (.mk kd w e b' x' p')
theorem QS:∀ l:List AstS,(AstS.dens l).length=l.length
 | []=>rfl
 | a::r=>by show (AstS.dens r).length+1=r.length+1;rw [QS r]
theorem Gq:∀ (l:List AstS) (i:Nat),nth (AstS.dens l) i=(nth l i).map AstS.den
 | [],i=>by simp [AstS.dens,nth]
 | a::r,0=>rfl
 | a::r,i+1=>Gq r i
theorem Wt {α β:Type} {R:α->β->Prop}:∀ {l:List α} {r:List β},All2 R l r->∀ {i:Nat},i<l.length->∃ a b,nth l i=some a∧nth r i=some b∧R a b
 | _,_,.nil,i,h=>by simp at h
 | _,_,.cons ha hr,0,_=>⟨_,_,rfl,rfl,ha⟩
 | _,_,.cons ha hr,i+1,h=>Wt hr (i:=i) (by simpa using h)
theorem Ja {α:Type}:∀ {l:List α} {i:Nat} {a:α},nth l i=some a->a ∈ l
 | [],i,a,h=>by simp [nth] at h
 | b :: r, 0, a, h => by have : b = a := by simpa [nth] using h
                         subst this;simp
 | b::r,i+1,a,h=>List.mem_cons_of_mem _ (Ja (l:=r) (i:=i) h)
def LieL (l:List AstS) (ρ:Val):Prop:=∀ i,ρ.at i=(jN (AstS.dens l)).at i
theorem LieL.box (b:List AstS) (n:Nat):LieL b (YE n (jN (AstS.dens b))):=fun _=>rfl
theorem Zf {l : List AstS} {ρ : Val} (h : LieL l ρ) {i : Nat} {kd : ByteArray} {w : List ByteArray} {e : AstX} {b x : List AstS} {p : Int} (hi : nth l i = some (.mk kd w e b x p)) :
  (jg ρ i).kind=kd∧(jg ρ i).wn=w.length∧(jg ρ i).wρ=.ofC (.sl [.str] w.length (zj w))∧(jg ρ i).cond=⟨e.den.op,e.den.v,e.den.n,.ofC (.sl (jl 0) e.den.n e.den.ρ)⟩ ∧
  (jg ρ i).bn=b.length∧LieL b (jg ρ i).bρ∧(jg ρ i).en=x.length∧LieL x (jg ρ i).eρ∧(jg ρ i).at_=p:=by
 have hn:nth (AstS.dens l) i=some (stR kd w e.den (AstS.dens b) (AstS.dens x) p):=by rw [Gq,hi];rfl
 have e0:jg ρ i=jg (jN (AstS.dens l)) i:=jjR (h i);rw [e0];obtain ⟨a1,a2,a3,a4,a5,a6,a7,a8,a9⟩:=jhG hn;refine ⟨a1,a2,a3,a4,a5.trans (QS b),?_,a7.trans (QS x),?_,a9⟩
 ·rw [a6];exact LieL.box b _
 ·rw [a8];exact LieL.box x _
theorem BC {w:List ByteArray} (hu:∀ u ∈ w,WL u) {n:Nat}:∀ i,i<w.length->(wAt (.ofC (.sl [.str] n (zj w))) i).size<=10000:=by
 intro i hi;obtain ⟨u,hu2⟩:=qV w i hi;have h1:=JW w i u hu2
 have h2:wAt (.ofC (.sl [.str] n (zj w))) i=u:=by
  show (((zj w).at i).at 0).S []=u;rw [h1];rfl
 rw [h2];exact hu u (Ja hu2)
theorem Ib {R : RC} {n : Nat} {ρ ρ' : Val} (hn : n <= 10000) (h : ∀ i, i < n -> R (Wn ρ i) (WI ρ i) = R (Wn ρ' i) (WI ρ' i) ∧ R (Wo ρ i) (WE ρ i) = R (Wo ρ' i) (WE ρ' i) ∧ cD (R (Wn ρ i) (WI ρ i)) = true ∧ cD (R (Wo ρ i) (WE ρ i)) = true) :
  ∀ f (k:Nat) (a b:Int),k<=n->n+1<=f+k->ZP R n ρ (ja n) f (k:Int) a b=ZP R n ρ' (ja n) f (k:Int) a b∧cD (ZP R n ρ (ja n) f (k:Int) a b)=true
 | 0,k,a,b,h1,h2=>by omega
 | f + 1, k, a, b, h1, h2 => by
   unfold ZP;rcases Nat.lt_or_ge k n with hk | hk
   ·have e1:lt (k:Int) (ja n)=true:=by unfold lt ja;simp;exact hk
    obtain ⟨g1,g2,g3,g4⟩:=h k hk;rw [e1,inR hk,Int.toNat_natCast,zp (by omega),← g1,← g2]
    simp only [cond_true];cases hb:R (Wn ρ k) (WI ρ k) with
    | none=>rw [hb] at g3;cases g3
    | some y =>
      cases he:R (Wo ρ k) (WE ρ k) with
     | none=>rw [he] at g4;cases g4
     | some z=>exact Ib hn h f (k+1) _ _ (by omega) (by omega)
   ·have e1:lt (k:Int) (ja n)=false:=by unfold lt ja;simp;omega
    rw [e1];exact ⟨rfl,rfl⟩
theorem Nh:∀ (d k:Nat) (l l':List AstS) (ρ ρ':Val),k<d->All2 SR l l'->l.length<=10000->(∀ t ∈ l,DV k t)->k<=10000->LieL l ρ->LieL l' ρ'->cntF d l.length ρ=cntF d l'.length ρ'∧cD (cntF d l.length ρ)=true
 | 0,k,_,_,_,_,h,_,_,_,_,_,_=>by omega
 | d + 1, k, l, l', ρ, ρ', hk, hr, hl, hd, hk1, h1, h2 => by
   have hll:l'.length=l.length:=hr.length.symm;rw [hll];show ZP (cntF d) l.length ρ (ja l.length) (l.length+1) 0 0 0=ZP (cntF d) l.length ρ' (ja l.length) (l.length+1) 0 0 0∧cD (ZP (cntF d) l.length ρ (ja l.length) (l.length+1) 0 0 0)=true;refine Ib hl (fun i hi => ?_) (l.length+1) 0 0 0 (by omega) (by omega)
   obtain ⟨t,t',e1,e2,hs⟩:=Wt hr hi;have hdt:=hd t (Ja e1);cases hs with
  | mk hb hx =>
   cases hdt with
  | mk hw hu hb1 hb2 hx1 hx2 =>
   obtain ⟨a1,a2,a3,a4,a5,a6,a7,a8,a9⟩:=Zf h1 e1;obtain ⟨b1,b2,b3,b4,b5,b6,b7,b8,b9⟩:=Zf h2 e2;have c1:Wn ρ i=_:=a5;have c2:Wo ρ i=_:=a7;have c3:Wn ρ' i=_:=b5;have c4:Wo ρ' i=_:=b7;rw [c1,c2,c3,c4];obtain ⟨g1,g2⟩:=Nh d _ _ _ (WI ρ i) (WI ρ' i) (by omega) hb (by omega) hb2 (by omega) a6 b6
   obtain ⟨g3,g4⟩:=Nh d _ _ _ (WE ρ i) (WE ρ' i) (by omega) hx (by omega) hx2 (by omega) a8 b8
   exact ⟨g1,g3,g2,g4⟩
theorem FM {f : Nat} {R : RBl} {n : Nat} {ρ ρ' : Val} (hn : n <= 10000)
  (h:∀ i,i<n->QT (jg ρ i)=true∧QT (jg ρ' i)=true∧Jy (jg ρ i)=Jy (jg ρ' i)∧(jg ρ i).kind=(jg ρ' i).kind∧(jg ρ i).cond=(jg ρ' i).cond∧opD (Jb f (jg ρ i).cond 1)=true ∧
   R (jg ρ i).bn (jg ρ i).bρ=R (jg ρ' i).bn (jg ρ' i).bρ∧R (jg ρ i).en (jg ρ i).eρ=R (jg ρ' i).en (jg ρ' i).eρ∧opD (R (jg ρ i).bn (jg ρ i).bρ)=true∧opD (R (jg ρ i).en (jg ρ i).eρ)=true) :
  ∀ g (k:Nat),k<=n->n+1<=g+k->Jv f R n ρ (ja n) g (k:Int)=Jv f R n ρ' (ja n) g (k:Int)∧opD (Jv f R n ρ (ja n) g (k:Int))=true
 | 0,k,h1,h2=>by omega
 | g + 1, k, h1, h2 => by
   unfold Jv;rcases Nat.lt_or_ge k n with hk | hk
   ·have e1:lt (k:Int) (ja n)=true:=by unfold lt ja;simp;exact hk
    obtain ⟨g1,g2,g3,g4,g5,g6,g7,g8,g9,g10⟩:=h k hk;rw [e1,inR hk,Int.toNat_natCast,zp (by omega),g1,g2,← g3,← g4,← g5,← g7,← g8]
    simp only [cond_true];cases !Jy (jg ρ k) with
    | true=>exact ⟨rfl,rfl⟩
    | false =>
      simp only [cond_false]
      have hx:∃ x,(bif ze (jg ρ k).kind then Jb f (jg ρ k).cond 1 else some 0)=some x:=by
       cases ze (jg ρ k).kind with
       | false=>exact ⟨0,rfl⟩
       | true =>
         cases he:Jb f (jg ρ k).cond 1 with
        | none=>rw [he] at g6;cases g6
        | some x=>exact ⟨x,rfl⟩
      obtain ⟨x,hx⟩:=hx;rw [hx];simp only;cases x != 0 with
     | true=>exact ⟨rfl,rfl⟩
     | false =>
       simp only [cond_false];cases hb:R (jg ρ k).bn (jg ρ k).bρ with
      | none=>rw [hb] at g9;cases g9
      | some y =>
        simp only;cases y != 0 with
       | true=>exact ⟨rfl,rfl⟩
       | false =>
         simp only [cond_false];cases he:R (jg ρ k).en (jg ρ k).eρ with
        | none=>rw [he] at g10;cases g10
        | some z =>
          simp only;cases z != 0 with
         | true=>exact ⟨rfl,rfl⟩
         | false=>exact FM hn h g (k+1) (by omega) (by omega)
   ·have e1:lt (k:Int) (ja n)=false:=by unfold lt ja;simp;omega
    rw [e1];exact ⟨rfl,rfl⟩
theorem jib {s s':RS} (h1:s.kind=s'.kind) (h2:s.wn=s'.wn) (h3:s.wρ=s'.wρ) (h4:s.cond=s'.cond) (h5:s.bn=s'.bn) (h6:s.en=s'.en):Jy s=Jy s':=by
 unfold Jy;rw [h1,h2,h3,h4,h5,h6]
theorem NI {f:Nat} (hf:40<=f):∀ (d k:Nat) (l l':List AstS) (ρ ρ':Val),k<d->All2 SR l l'->l.length<=10000->(∀ t ∈ l,DV k t)->k<=10000->LieL l ρ->LieL l' ρ'->QJ f d l.length ρ=QJ f d l'.length ρ'∧opD (QJ f d l.length ρ)=true
 | 0,k,_,_,_,_,h,_,_,_,_,_,_=>by omega
 | d + 1, k, l, l', ρ, ρ', hk, hr, hl, hd, hk1, h1, h2 => by
   have hll:l'.length=l.length:=hr.length.symm;rw [hll];show Jv f (QJ f d) l.length ρ (ja l.length) (l.length+1) 0=Jv f (QJ f d) l.length ρ' (ja l.length) (l.length+1) 0∧opD (Jv f (QJ f d) l.length ρ (ja l.length) (l.length+1) 0)=true;refine FM hl (fun i hi => ?_) (l.length+1) 0 (by omega) (by omega)
   obtain ⟨t,t',e1,e2,hs⟩:=Wt hr hi;have hdt:=hd t (Ja e1);cases hs with
  | mk hb hx =>
   cases hdt with
  | mk hw hu hb1 hb2 hx1 hx2 =>
   obtain ⟨a1,a2,a3,a4,a5,a6,a7,a8,a9⟩:=Zf h1 e1;obtain ⟨b1,b2,b3,b4,b5,b6,b7,b8,b9⟩:=Zf h2 e2;have hlb:=hb.length;have hlx:=hx.length;obtain ⟨g1,g2⟩:=NI hf d _ _ _ (jg ρ i).bρ (jg ρ' i).bρ (by omega) hb (by omega) hb2 (by omega) a6 b6
   obtain ⟨g3,g4⟩:=NI hf d _ _ _ (jg ρ i).eρ (jg ρ' i).eρ (by omega) hx (by omega) hx2 (by omega) a8 b8
   refine ⟨?_,?_,?_,a1.trans b1.symm,a4.trans b4.symm,N6 f _ 1 (by omega) (by omega),?_,?_,?_,?_⟩
   ·refine OA (by rw [a2];omega) fun j hj => ?_
    rw [a2] at hj;rw [a3];exact BC hu j hj
   ·refine OA (by rw [b2];omega) fun j hj => ?_
    rw [b2] at hj;rw [b3];exact BC hu j hj
   ·exact jib (a1.trans b1.symm) (a2.trans b2.symm) (a3.trans b3.symm) (a4.trans b4.symm) (by rw [a5,b5,hlb]) (by rw [a7,b7,hlx])
   ·rw [a5,b5];exact g1
   ·rw [a7,b7];exact g3
   ·rw [a5];exact g2
   ·rw [a7];exact g4
theorem W5 {f d k : Nat} (hf : 40 <= f) (hk : k < d) (hk1 : k <= 10000) {name : ByteArray} (hn : name.size <= 10000) {l l' : List AstS} (hr : All2 SR l l') (hl : l.length <= 10000) (hd : ∀ t ∈ l, DV k t) :
  jz f d name l.length (jN (AstS.dens l))=jz f d name l'.length (jN (AstS.dens l'))∧opD (jz f d name l.length (jN (AstS.dens l)))=true:=by
 unfold jz;obtain ⟨g1,g2⟩:=Nh d k l l' _ _ hk hr hl hd hk1 (fun _=>rfl) (fun _=>rfl);obtain ⟨g3,g4⟩:=NI hf d k l l' _ _ hk hr hl hd hk1 (fun _=>rfl) (fun _=>rfl);rw [Ol hn,← g1,← g3];simp only [cond_true];cases !za name with
 | true=>exact ⟨trivial,rfl⟩
 | false =>
   simp only [cond_false];cases hc:cntF d l.length (jN (AstS.dens l)) with
  | none=>rw [hc] at g2;cases g2
  | some y =>
    obtain ⟨a,b⟩:=y;simp only;cases lt 4096 a with
   | true=>exact ⟨trivial,rfl⟩
   | false =>
     simp only [cond_false];cases lt 16 b with
    | true=>exact ⟨trivial,rfl⟩
    | false=>exact ⟨trivial,g4⟩
theorem SR.refl:∀ t:AstS,SR t t:=by
 suffices h:∀ n (t:AstS),SizeOf.sizeOf t<=n->SR t t from fun t=>h (SizeOf.sizeOf t) t (lRq _)
 intro n
 induction n with
 | zero=>intro t ht;cases t;simp at ht
 | succ n ih =>
   intro t ht;cases t with
  | mk kd w e b x p =>
    have hL:∀ l:List AstS,SizeOf.sizeOf l<=n->All2 SR l l:=by
     intro l
     induction l with
     | nil=>exact fun _=>.nil
     | cons a r ihr =>
       intro hl;simp at hl;exact .cons (ih a (by omega)) (ihr (by omega))
    simp at ht;exact .mk (hL b (by omega)) (hL x (by omega))
theorem SR.reflL:∀ l:List AstS,All2 SR l l
 | []=>.nil
 | a::r=>.cons (SR.refl a) (SR.reflL r)
abbrev M0:=ByteArray × List AstS × Int × Int
def jkD (x:M0):Kj:=(x.1,AstS.dens x.2.1,x.2.2)
def jao (x:ByteArray × List AstS):Int:=opN (jz 40 10001 x.1 x.2.length (jN (AstS.dens x.2)))
def jbg:PR LS (ByteArray × List AstS)->M0
 | .stuck=>(bs [],[],0,0)
 | .pan a=>(bs [],[],a,4)
 | .ret x _=>bif jao x != 0 then (bs [],[],0,jao x) else (x.1,x.2,0,0)
def Hn (s:ByteArray):M0:=bif lt 8192 (ja s.size) then (bs [],[],0,5) else jbg (WV s.size (lst s))
theorem jdG (s:ByteArray) (hs:s.size<=9000):Zq 40 10001 (blK 10000 10000) s=some (jkD (Hn s)):=by
 unfold Zq Hn;cases lt 8192 (ja s.size) with
 | true=>rfl
 | false =>
   simp only [cond_false];have h1:=jcV hs;have h2:=jfX s.size (l:=lst s) hs;show yj 40 10001 (yJ (MP s) (sts (MP s) AR 10000 10000).2 ⟨0,bs [],0⟩)=_;cases hb:WV s.size (lst s) with
  | stuck=>rw [hb] at h2;exact h2.elim
  | pan a =>
    rw [hb] at h1;cases hp:yJ (MP s) (sts (MP s) AR 10000 10000).2 ⟨0,bs [],0⟩ with
   | stuck=>rw [hp] at h1;cases h1
   | pan a'=>rw [hp] at h1;cases h1 with | pan h=>subst h;rfl
   | ret v s'=>rw [hp] at h1;cases h1
  | ret x q =>
    rw [hb] at h1 h2;obtain ⟨w1,w2,w3⟩:=h2;cases hp:yJ (MP s) (sts (MP s) AR 10000 10000).2 ⟨0,bs [],0⟩ with
   | stuck=>rw [hp] at h1;cases h1
   | pan a'=>rw [hp] at h1;cases h1
   | ret v s' =>
     rw [hp] at h1;cases h1 with
    | ret hv hs' =>
     obtain ⟨v1,v2⟩:=v;obtain ⟨x1,x2⟩:=x;obtain ⟨rfl,hl⟩:=hv;have hl:=Vb hl;simp only at hl;subst hl;have hf:=(W5 (f:=40) (d:=10001) (k:=10000) (lRq _) (by omega) (lRq _) w1 (SR.reflL x2) w2 fun t h=>(w3 t h).w).2
     unfold yj jbg jao;simp only [QS];cases he:jz 40 10001 v1 x2.length (jN (AstS.dens x2)) with
    | none=>rw [he] at hf;cases hf
    | some e =>
      simp only [opN];cases e != 0<;>rfl
theorem jnQ:ARel (fun _ _=>True) AF AF Eq SR where
 ex:=fun {op v l l'} h=>by
  have:l=l':=by
   induction h with
   | nil=>rfl
   | cons a _ ih=>rw [a,ih]
  rw [this]
 st:=fun he hb hx _=>by subst he;exact .mk hb hx
structure C98 where
 n:Nat
 ρ:Val
 m:Nat
 σ:Val
 r:Bool
 i:Int
def S98 (c:C98):St:=mkS 26 [(0,.one (.c (.sl [.str] c.n c.ρ))),(1,.one (.c (.sl [.str] c.m c.σ))),(4,.one (.c (.bool c.r))),(5,.one (.c (.int .i64 c.i)))] []
def jbM (l:List (Nat × AV)) (m:Mem):Option C98:=match l,m with
 | [(0,.one (.c (.sl [.str] n ρ))),(1,.one (.c (.sl [.str] k σ))),(4,.one (.c (.bool r))),(5,.one (.c (.int .i64 i)))],[]=>some ⟨n,ρ,k,σ,r,i⟩
 | _,_=>none
theorem jeB:∀ l m c,jbM l m=some c->mkS 26 l m=S98 c:=by
 intro l m c h;unfold jbM at h;split at h
 ·cases h;rfl
 ·cases h
def E98 (n:Nat) (b:Bool):St:=mkS n [(4,.one (.c (.bool b)))] []
def VO (l:List (Nat × AV)) (m:Mem):Option Bool:=match l,m with
 | [(4,.one (.c (.bool b)))],[]=>some b
 | _,_=>none
theorem Ua (n:Nat):∀ l m c,VO l m=some c->mkS n l m=E98 n c:=by
 intro l m c h;unfold VO at h;split at h
 ·cases h;rfl
 ·cases h
def A98:Sx.Frame C98 Bool:=⟨0,26,[0,1,4,5],jbM,S98,[4],VO,E98 26⟩
theorem a98:A98.Ok:=.of_eq jeB (Ua 26)
noncomputable abbrev H00:Hd:=⟨[],[],[],[]⟩
def r98 (g:C98->Tree (XE × Bool)) (c:C98):Tree (XE × Bool) :=
 .br (lt c.i (ja c.n)) (.need (jc c.i c.n) (.need (jc c.i c.m) (.br (!jb (wd c.ρ c.i.toNat) (wd c.σ c.i.toNat)) (.leaf (.ret,false)) (g { c with i:=IntKind.wrap .i64 (c.i+1) })))) (.leaf (.exit 0,c.r))
theorem jlc (g:C98->Tree (XE × Bool)) (c:C98):yV A98 Tryz.prog H00 10 56 0 g c=r98 g c:=by kernel_rfl
def g98 (k:Nat) (c:C98):Tree (XE × Bool) :=
 let o:=Qk c.n c.ρ c.m c.σ (ja c.n) k c.i
 .need (os1 o) (.br (ov1 false o) (.leaf (.exit 0,c.r)) (.leaf (.ret,false)))
def jg9 (r:Bool):Option Bool->Option (XE × Bool)
 | some b=>some (bif b then (.exit 0,r) else (.ret,false))
 | none=>none
theorem Mz (k:Nat) (c:C98):(g98 k c).sel=jg9 c.r (Qk c.n c.ρ c.m c.σ (ja c.n) k c.i):=by
 unfold g98;cases Qk c.n c.ρ c.m c.σ (ja c.n) k c.i with
 | none=>rfl
 | some b=>cases b<;>rfl
theorem jlh (k:Nat) (c:C98) (x:XE × Bool) (h:(g98 (k+1) c).sel=some x):(yV A98 Tryz.prog H00 10 56 0 (g98 k) c).sel=some x:=by
 rw [jlc];rw [Mz] at h;unfold Qk at h;unfold r98;simp only [qg,jG,j0,Mz];revert h;cases lt c.i (ja c.n) with
 | false=>exact fun h=>h
 | true =>
 cases jc c.i c.n with
 | false=>exact fun h=>h
 | true =>
 cases jc c.i c.m with
 | false=>exact fun h=>h
 | true =>
 cases !jb (wd c.ρ c.i.toNat) (wd c.σ c.i.toNat)<;>exact fun h=>h
theorem jks:∀ k,LCore Tryz.prog 56 0 0 S98 (E98 26) (g98 k):=LCore.fuel (A:=A98) a98 HdOk.nil 10 (fun _=>rfl) jlh
def jpK (c:C98):Tree (XE × Bool):=g98 (c.n+1) c
noncomputable abbrev H98:Hd:=⟨[],[],[((56,0),K4 A98 jpK)],[]⟩
theorem h98:HdOk Tryz.prog H98:=HdOk.lhCons HdOk.nil fun fn c b h1 h2 h3=>LCore.ok (A:=A98) a98 (fun fn c b h1 h2 h3 c0 x hx=>jks (c0.n+1) fn c b h1 h2 h3 c0 x hx) fn c b h1 h2 h3
def t98 (n:Nat) (ρ:Val) (m:Nat) (σ:Val):Tree AV :=
 let o:=Qk n ρ m σ (ja n) (n+1) 0
 .br (ja n != ja m) (.leaf (jI false)) (.need (os1 o) (.br (ov1 false o) (.leaf (jI true)) (.leaf (jI false))))
theorem jl6 (n:Nat) (ρ:Val) (m:Nat) (σ:Val):(jZ Tryz.prog H98 10 56 [.c (.sl [.str] n ρ),.c (.sl [.str] m σ)] []).vals=t98 n ρ m σ:=by kernel_rfl
theorem jju {n:Nat} {ρ:Val} {m:Nat} {σ:Val} (h:os1 (ZA n ρ m σ)=true):(t98 n ρ m σ).All (fun z=>z=jI (ov1 false (ZA n ρ m σ))):=by
 unfold t98;unfold ZA at h ⊢;revert h;cases (ja n != ja m) with
 | true=>exact fun _=>jn rfl rfl
 | false =>
   simp only [cond_false];intro h;cases ho:Qk n ρ m σ (ja n) (n+1) 0 with
  | none=>rw [ho] at h;cases h
  | some b=>cases b<;>exact jn rfl rfl
theorem p98:TcOne Tryz.prog 56 (nG G16):=qv h98 10 56 fun args r h=>by
 unfold G16 at h;split at h
 ·rename_i n ρ m σ;simp only [sIq,pIq] at h;obtain ⟨h1,rfl⟩:=h;refine ⟨rfl,_,jl6 n ρ m σ,?_⟩;exact jju h1
 ·cases h
abbrev RXX:=RX->RX->Option Bool
def G99 (R:RXX):List A1->Option (Bool × AV)
 | [.agg [.str o,.int .i64 v,.sl es n ρ],.agg [.str o',.int .i64 v',.sl es' m σ]]=>if shEq.shsEq es (jl 0)&&shEq.shsEq es' (jl 0) then some (os1 (R ⟨o,v,n,ρ⟩ ⟨o',v',m,σ⟩),jI (ov1 false (R ⟨o,v,n,ρ⟩ ⟨o',v',m,σ⟩))) else none
 | _=>none
structure C99 where
 x:RX
 y:RX
 r:Bool
 i:Int
def S99 (c:C99):St:=mkS 46 [(2,.one (.c (.ptr 0 0))),(3,.one (.c (.ptr 1 0))),(4,.one (.c (.bool c.r))),(5,.one (.c (.int .i64 c.i)))] [some (94,c.x.cells),some (94,c.y.cells)]
def jaa (l:List (Nat × AV)) (m:Mem):Option C99:=match l,m with
 | [(2, .one (.c (.ptr 0 0))), (3, .one (.c (.ptr 1 0))), (4, .one (.c (.bool r))), (5, .one (.c (.int .i64 i)))], [some (94, [.str o, .int .i64 v, .sl es n ρ]), some (94, [.str o', .int .i64 v', .sl es' k σ])] =>
   if shEq.shsEq es (jl 0)&&shEq.shsEq es' (jl 0) then some ⟨⟨o,v,n,ρ⟩,⟨o',v',k,σ⟩,r,i⟩ else none
 | _,_=>none
theorem jfM:∀ l m c,jaa l m=some c->mkS 46 l m=S99 c:=by
 intro l m c h;unfold jaa at h;split at h
 ·split at h
  ·rename_i hs;rw [aTq] at hs;cases h;rw [jm hs.1,jm hs.2];rfl
  ·cases h
 ·cases h
def A99:Sx.Frame C99 Bool:=⟨0,46,[2,3,4,5],jaa,S99,[4],VO,E98 46⟩
theorem a99:A99.Ok:=.of_eq jfM (Ua 46)
noncomputable abbrev jet (R:RXX):Hd:=⟨[(57,nG (G99 R))],[],[],[]⟩
theorem jpc {R:RXX} (hR:TcOne Tryz.prog 57 (nG (G99 R))):HdOk Tryz.prog (jet R):=HdOk.nil.tcCons hR
def r99 (R:RXX) (g:C99->Tree (XE × Bool)) (c:C99):Tree (XE × Bool) :=
 let o:=R (jR c.x.ρ c.i.toNat) (jR c.y.ρ c.i.toNat)
 .br (lt c.i (ja c.x.n)) (.need (jc c.i c.x.n) (.need (jc c.i c.y.n) (.need (os1 o) (.br (!ov1 false o) (.leaf (.ret,false)) (g { c with i:=IntKind.wrap .i64 (c.i+1) }))))) (.leaf (.exit 0,c.r))
theorem jkM (R:RXX) (g:C99->Tree (XE × Bool)) (c:C99):yV A99 Tryz.prog (jet R) 10 57 0 g c=r99 R g c:=by kernel_rfl
def ZZ (R:RXX) (x y:RX) (l:Int):Nat->Int->Option Bool
 | 0,_=>none
 | k+1,i=>bif lt i l then nd (jc i x.n) (nd (jc i y.n) ((R (jR x.ρ i.toNat) (jR y.ρ i.toNat)).bind fun b=>bif !b then some false else ZZ R x y l k (IntKind.wrap .i64 (i+1)))) else some true
def g99 (R:RXX) (k:Nat) (c:C99):Tree (XE × Bool) :=
 let o:=ZZ R c.x c.y (ja c.x.n) k c.i
 .need (os1 o) (.br (ov1 false o) (.leaf (.exit 0,c.r)) (.leaf (.ret,false)))
theorem Mg (R:RXX) (k:Nat) (c:C99):(g99 R k c).sel=jg9 c.r (ZZ R c.x c.y (ja c.x.n) k c.i):=by
 unfold g99;cases ZZ R c.x c.y (ja c.x.n) k c.i with
 | none=>rfl
 | some b=>cases b<;>rfl
theorem jlI (R:RXX) (k:Nat) (c:C99) (x:XE × Bool) (h:(g99 R (k+1) c).sel=some x):(yV A99 Tryz.prog (jet R) 10 57 0 (g99 R k) c).sel=some x:=by
 rw [jkM];rw [Mg] at h;unfold ZZ at h;unfold r99;simp only [qg,jG,j0,Mg];revert h;cases lt c.i (ja c.x.n) with
 | false=>exact fun h=>h
 | true =>
 cases jc c.i c.x.n with
 | false=>exact fun h=>h
 | true =>
 cases jc c.i c.y.n with
 | false=>exact fun h=>h
 | true =>
 simp only [nd,cond_true];cases R (jR c.x.ρ c.i.toNat) (jR c.y.ρ c.i.toNat) with
 | none=>exact fun h=>h
 | some b=>cases b<;>exact fun h=>h
theorem jmB {R:RXX} (hR:TcOne Tryz.prog 57 (nG (G99 R))):∀ k,LCore Tryz.prog 57 0 0 S99 (E98 46) (g99 R k):=LCore.fuel (A:=A99) a99 (jpc hR) 10 (fun _=>rfl) (jlI R)
def jph (R:RXX) (c:C99):Tree (XE × Bool):=g99 R (c.x.n+1) c
noncomputable abbrev H99 (R:RXX):Hd:=⟨[],[],[((57,0),K4 A99 (jph R))],[]⟩
theorem h99 {R:RXX} (hR:TcOne Tryz.prog 57 (nG (G99 R))):HdOk Tryz.prog (H99 R):=HdOk.lhCons HdOk.nil fun fn c b h1 h2 h3=>LCore.ok (A:=A99) a99 (fun fn c b h1 h2 h3 c0 x hx=>jmB hR (c0.x.n+1) fn c b h1 h2 h3 c0 x hx) fn c b h1 h2 h3
def Ff (x y:RX):Bool:=bif (bif !jb x.op y.op then true else x.v != y.v) then true else ja x.n != ja y.n
def Ws (R:RXX):RXX:=fun x y=>bif Ff x y then some false else ZZ R x y (ja x.n) (x.n+1) 0
def t99 (R:RXX) (x y:RX):Tree AV :=
 let o:=ZZ R x y (ja x.n) (x.n+1) 0
 .br (Ff x y) (.leaf (jI false)) (.need (os1 o) (.br (ov1 false o) (.leaf (jI true)) (.leaf (jI false))))
theorem jnk (R : RXX) (o : ByteArray) (v : Int) (n : Nat) (ρ : Val) (o' : ByteArray) (v' : Int) (m : Nat) (σ : Val) :
  (jZ Tryz.prog (H99 R) 10 57 [.agg [.str o,.int .i64 v,.sl (jl 0) n ρ],.agg [.str o',.int .i64 v',.sl (jl 0) m σ]] []).vals=t99 R ⟨o,v,n,ρ⟩ ⟨o',v',m,σ⟩:=by kernel_rfl
theorem jh1 {R:RXX} {x y:RX} (h:os1 (Ws R x y)=true):(t99 R x y).All (fun z=>z=jI (ov1 false (Ws R x y))):=by
 unfold t99;unfold Ws at h ⊢;revert h;cases Ff x y with
 | true=>exact fun _=>jn rfl rfl
 | false =>
   simp only [cond_false];intro h;cases ho:ZZ R x y (ja x.n) (x.n+1) 0 with
  | none=>rw [ho] at h;cases h
  | some b=>cases b<;>exact jn rfl rfl
theorem jon {R:RXX} (hR:TcOne Tryz.prog 57 (nG (G99 R))):TcOne Tryz.prog 57 (nG (G99 (Ws R))):=qv (h99 hR) 10 57 fun args r h=>by
 unfold G99 at h;split at h
 ·rename_i o v es n ρ o' v' es' m σ;split at h
  ·rename_i hs;rw [aTq] at hs;rw [jm hs.1,jm hs.2];simp only [sIq,pIq] at h;obtain ⟨h1,rfl⟩:=h;exact ⟨rfl,_,jnk R o v n ρ o' v' m σ,jh1 h1⟩
  ·cases h
 ·cases h
def U1:Nat->RXX
 | 0=>fun _ _=>none
 | f+1=>Ws (U1 f)
theorem p99:∀ f,TcOne Tryz.prog 57 (nG (G99 (U1 f)))
 | 0 => by
   intro args r h;have h:=zG h;unfold G99 at h;split at h
   ·split at h
    ·simp only [sIq,pIq] at h;have h1:os1 (none:Option Bool)=true:=h.1;cases h1
    ·cases h
   ·cases h
 | f+1=>jon (p99 f)
abbrev RBB:=Nat->Val->Nat->Val->Option Bool
def G43 (R:RBB):List A1->Option (Bool × AV)
 | [.c (.sl es n ρ),.c (.sl es' m σ)]=>if shEq.shsEq es (jl 1)&&shEq.shsEq es' (jl 1) then some (os1 (R n ρ m σ),jI (ov1 false (R n ρ m σ))) else none
 | _=>none
def S43 (c:C98):St:=mkS 64 [(0,.one (.c (.sl (jl 1) c.n c.ρ))),(1,.one (.c (.sl (jl 1) c.m c.σ))),(4,.one (.c (.bool c.r))),(5,.one (.c (.int .i64 c.i)))] []
def jaE (l:List (Nat × AV)) (m:Mem):Option C98:=match l,m with
 | [(0,.one (.c (.sl es n ρ))),(1,.one (.c (.sl es' k σ))),(4,.one (.c (.bool r))),(5,.one (.c (.int .i64 i)))],[]=>if shEq.shsEq es (jl 1)&&shEq.shsEq es' (jl 1) then some ⟨n,ρ,k,σ,r,i⟩ else none
 | _,_=>none
theorem jgX:∀ l m c,jaE l m=some c->mkS 64 l m=S43 c:=by
 intro l m c h;unfold jaE at h;split at h
 ·split at h
  ·rename_i hs;rw [aTq] at hs;cases h;rw [jm hs.1,jm hs.2];rfl
  ·cases h
 ·cases h
def A43:Sx.Frame C98 Bool:=⟨0,64,[0,1,4,5],jaE,S43,[4],VO,E98 64⟩
theorem a43:A43.Ok:=.of_eq jgX (Ua 64)
noncomputable abbrev Nl (X:RXX) (R:RBB):Hd:=⟨[(56,nG G16),(57,nG (G99 X))],[(33,nG (G43 R))],[],[]⟩
theorem jmZ {X:RXX} (hX:TcOne Tryz.prog 57 (nG (G99 X))) {R:RBB} (hR:jo Tryz.prog 33 (nG (G43 R))):HdOk Tryz.prog (Nl X R):=((HdOk.nil.ucCons hR).tcCons hX).tcCons p98
def jf9 (s t:RS):Bool:=!jb s.kind t.kind
def jev (s t:RS):Bool:=bif jf9 s t then true else !ov1 false (ZA s.wn s.wρ t.wn t.wρ)
def jfF (X:RXX) (s t:RS):Bool:=bif jev s t then true else !ov1 false (X s.cond t.cond)
def jgN (X:RXX) (R:RBB) (s t:RS):Bool:=bif jfF X s t then true else !ov1 false (R s.bn s.bρ t.bn t.bρ)
def jax (X:RXX) (R:RBB) (s t:RS):Bool:=bif jgN X R s t then true else !ov1 false (R s.en s.eρ t.en t.eρ)
def jbS (s t:RS):Bool:=!((jf9 s t==false)&&true)||os1 (ZA s.wn s.wρ t.wn t.wρ)
def ja9 (X:RXX) (s t:RS):Bool:=!((jev s t==false)&&true)||os1 (X s.cond t.cond)
def ja8 (X:RXX) (R:RBB) (s t:RS):Bool:=!((jfF X s t==false)&&true)||os1 (R s.bn s.bρ t.bn t.bρ)
def jav (X:RXX) (R:RBB) (s t:RS):Bool:=!((jgN X R s t==false)&&true)||os1 (R s.en s.eρ t.en t.eρ)
def Dr (X:RXX) (R:RBB) (s t:RS):Option Bool:=nd (jbS s t) (nd (ja9 X s t) (nd (ja8 X R s t) (nd (jav X R s t) (some (jax X R s t)))))
def r43 (X:RXX) (R:RBB) (g:C98->Tree (XP × Bool)) (c:C98):Tree (XP × Bool) :=
 let s:=jg c.ρ c.i.toNat
 let t:=jg c.σ c.i.toNat
 .br (lt c.i (ja c.n)) (.need (jc c.i c.n) (.need (jc c.i c.m) (.need (jbS s t) (.need (ja9 X s t) (.need (ja8 X R s t) (.need (jav X R s t)
   (.br (jax X R s t) (.leaf (.ret,false)) (g { c with i:=IntKind.wrap .i64 (c.i+1) })))))))) (.leaf (.exit 0,c.r))
theorem jlD (X:RXX) (R:RBB) (g:C98->Tree (XP × Bool)) (c:C98):jQ A43 Tryz.prog (Nl X R) X0 10 33 0 g c=r43 X R g c:=by kernel_rfl
def Z6 (X:RXX) (R:RBB) (n:Nat) (ρ:Val) (m:Nat) (σ:Val) (l:Int):Nat->Int->Option Bool
 | 0,_=>none
 | k+1,i=>bif lt i l then nd (jc i n) (nd (jc i m) ((Dr X R (jg ρ i.toNat) (jg σ i.toNat)).bind fun c=>bif c then some false else Z6 X R n ρ m σ l k (IntKind.wrap .i64 (i+1)))) else some true
def g43 (X:RXX) (R:RBB) (k:Nat) (c:C98):Tree (XP × Bool) :=
 let o:=Z6 X R c.n c.ρ c.m c.σ (ja c.n) k c.i
 .need (os1 o) (.br (ov1 false o) (.leaf (.exit 0,c.r)) (.leaf (.ret,false)))
def jnE (r:Bool):Option Bool->Option (XP × Bool)
 | some b=>some (bif b then (.exit 0,r) else (.ret,false))
 | none=>none
theorem IZ (X:RXX) (R:RBB) (k:Nat) (c:C98):(g43 X R k c).sel=jnE c.r (Z6 X R c.n c.ρ c.m c.σ (ja c.n) k c.i):=by
 unfold g43;cases Z6 X R c.n c.ρ c.m c.σ (ja c.n) k c.i with
 | none=>rfl
 | some b=>cases b<;>rfl
theorem jlL (X:RXX) (R:RBB) (k:Nat) (c:C98) (x:XP × Bool) (h:(g43 X R (k+1) c).sel=some x):(jQ A43 Tryz.prog (Nl X R) X0 10 33 0 (g43 X R k) c).sel=some x:=by
 rw [jlD];rw [IZ] at h;unfold Z6 Dr at h;unfold r43;simp only [qg,jG,j0,IZ];revert h;cases lt c.i (ja c.n) with
 | false=>exact fun h=>h
 | true =>
 cases jc c.i c.n with
 | false=>exact fun h=>h
 | true =>
 cases jc c.i c.m with
 | false=>exact fun h=>h
 | true =>
 cases jbS (jg c.ρ c.i.toNat) (jg c.σ c.i.toNat) with
 | false=>exact fun h=>h
 | true =>
 cases ja9 X (jg c.ρ c.i.toNat) (jg c.σ c.i.toNat) with
 | false=>exact fun h=>h
 | true =>
 cases ja8 X R (jg c.ρ c.i.toNat) (jg c.σ c.i.toNat) with
 | false=>exact fun h=>h
 | true =>
 cases jav X R (jg c.ρ c.i.toNat) (jg c.σ c.i.toNat) with
 | false=>exact fun h=>h
 | true =>
 cases jax X R (jg c.ρ c.i.toNat) (jg c.σ c.i.toNat)<;>exact fun h=>h
theorem jnm {X:RXX} (hX:TcOne Tryz.prog 57 (nG (G99 X))) {R:RBB} (hR:jo Tryz.prog 33 (nG (G43 R))):∀ k,CoreOk Tryz.prog 33 0 0 S43 (E98 64) (g43 X R k) :=
 CoreOk.fuel (A:=A43) a43 (jmZ hX hR) x0 10 (fun _=>rfl) (jlL X R)
def jle (X:RXX) (R:RBB) (c:C98):Tree (XP × Bool):=g43 X R (c.n+1) c
abbrev X43 (X:RXX) (R:RBB):HdP:=⟨[],[],[],[((33,0),qZ A43 (jle X R))],[],0,[]⟩
theorem x43 {X:RXX} (hX:TcOne Tryz.prog 57 (nG (G99 X))) {R:RBB} (hR:jo Tryz.prog 33 (nG (G43 R))):XOk Tryz.prog (X43 X R) :=
 XOk.lxCons XOk.nil (CoreOk.lx (g:=jle X R) a43 fun fn c b h1 h2 h3 c0 x hx=>jnm hX hR _ fn c b h1 h2 h3 c0 x hx)
def KW (X:RXX) (R:RBB):RBB:=fun n ρ m σ=>bif ja n != ja m then some false else Z6 X R n ρ m σ (ja n) (n+1) 0
def t43 (X:RXX) (R:RBB) (n:Nat) (ρ:Val) (m:Nat) (σ:Val):Tree AV :=
 let o:=Z6 X R n ρ m σ (ja n) (n+1) 0
 .br (ja n != ja m) (.leaf (jI false)) (.need (os1 o) (.br (ov1 false o) (.leaf (jI true)) (.leaf (jI false))))
theorem jkE (X:RXX) (R:RBB) (n:Nat) (ρ:Val) (m:Nat) (σ:Val):qj Tryz.prog (Nl X R) (X43 X R) 10 33 [.c (.sl (jl 1) n ρ),.c (.sl (jl 1) m σ)]=t43 X R n ρ m σ:=by kernel_rfl
theorem jhF {X:RXX} {R:RBB} {n:Nat} {ρ:Val} {m:Nat} {σ:Val} (h:os1 (KW X R n ρ m σ)=true):(t43 X R n ρ m σ).All (fun z=>leA z (jI (ov1 false (KW X R n ρ m σ)))):=by
 unfold t43;unfold KW at h ⊢;revert h;cases (ja n != ja m) with
 | true=>exact fun _=>jn rfl leA.refl
 | false =>
   simp only [cond_false];intro h;cases ho:Z6 X R n ρ m σ (ja n) (n+1) 0 with
  | none=>rw [ho] at h;cases h
  | some b=>cases b<;>exact jn rfl leA.refl
theorem TA {R:RBB} {args:List A1} {r:AV} (h:G43 R args=some (true,r)):∃ n ρ m σ,args=[.c (.sl (jl 1) n ρ),.c (.sl (jl 1) m σ)]∧os1 (R n ρ m σ)=true∧r=jI (ov1 false (R n ρ m σ)):=by
 unfold G43 at h;split at h
 ·rename_i es n ρ es' m σ;split at h
  ·rename_i hs;rw [aTq] at hs;rw [jm hs.1,jm hs.2];simp only [sIq,pIq] at h;exact ⟨n,ρ,m,σ,rfl,h.1,h.2.symm⟩
  ·cases h
 ·cases h
theorem u43 {X:RXX} {R:RBB} {args:List A1} {r:AV} (h:G43 (KW X R) args=some (true,r)):(qj Tryz.prog (Nl X R) (X43 X R) 10 33 args).All (fun x=>leA x r):=by
 obtain ⟨n,ρ,m,σ,e1,h1,e2⟩:=TA h;rw [e1,e2,jkE];exact jhF h1
theorem joQ {X:RXX} (hX:TcOne Tryz.prog 57 (nG (G99 X))) {R:RBB} (hR:jo Tryz.prog 33 (nG (G43 R))):jo Tryz.prog 33 (nG (G43 (KW X R))):=by
 refine j3 (H:=Nl X R) (X:=X43 X R) (jmZ hX hR) (x43 hX hR) 10 33 ?_;intro args r h;exact u43 h
def al (f:Nat):Nat->RBB
 | 0=>fun _ _ _ _=>none
 | d+1=>KW (U1 f) (al f d)
theorem p43 (f:Nat):∀ d,jo Tryz.prog 33 (nG (G43 (al f d)))
 | 0 => by
   intro args r h;obtain ⟨n,ρ,m,σ,_,h1,_⟩:=TA (zG h);cases h1
 | d+1=>joQ (p99 f) (p43 f d)
def G10 (R:RBB):List A1->Option (Bool × AV)
 | [.agg [.str a,.sl es n ρ],.agg [.str b,.sl es' m σ]]=>if shEq.shsEq es (jl 1)&&shEq.shsEq es' (jl 1) then some (!((jb a b==true)&&true)||os1 (R n ρ m σ),jI (bif jb a b then ov1 false (R n ρ m σ) else false)) else none
 | _=>none
noncomputable abbrev H10 (R:RBB):Hd:=⟨[],[(33,nG (G43 R))],[],[]⟩
theorem h10 {R:RBB} (hR:jo Tryz.prog 33 (nG (G43 R))):HdOk Tryz.prog (H10 R):=HdOk.nil.ucCons hR
theorem jlk (R : RBB) (a : ByteArray) (n : Nat) (ρ : Val) (b : ByteArray) (m : Nat) (σ : Val) :
  qf Tryz.prog (H10 R) 10 9 [.agg [.str a,.sl (jl 1) n ρ],.agg [.str b,.sl (jl 1) m σ]]=.need (!((jb a b==true)&&true)||os1 (R n ρ m σ)) (.leaf (jI (bif jb a b then ov1 false (R n ρ m σ) else false))):=by kernel_rfl
theorem jeG {R:RBB} {args:List A1} {r:AV} (h:G10 R args=some (true,r)):∃ a n ρ b m σ,args=[.agg [.str a,.sl (jl 1) n ρ],.agg [.str b,.sl (jl 1) m σ]]∧(!((jb a b==true)&&true)||os1 (R n ρ m σ))=true∧r=jI (bif jb a b then ov1 false (R n ρ m σ) else false):=by
 unfold G10 at h;split at h
 ·rename_i a es n ρ b es' m σ;split at h
  ·rename_i hs;rw [aTq] at hs;rw [jm hs.1,jm hs.2];simp only [sIq,pIq] at h;exact ⟨a,n,ρ,b,m,σ,rfl,h.1,h.2.symm⟩
  ·cases h
 ·cases h
theorem p10 {R:RBB} (hR:jo Tryz.prog 33 (nG (G43 R))):jo Tryz.prog 9 (nG (G10 R)):=by
 refine zF (H:=H10 R) (h10 hR) 10 9 ?_;intro args r h;obtain ⟨a,n,ρ,b,m,σ,e1,h1,e2⟩:=jeG h;rw [e1,e2,jlk,h1];exact ⟨rfl,leA.refl⟩
theorem kr:∀ l:List AstX,(AstX.dens l).length=l.length
 | []=>rfl
 | a::r=>by show (AstX.dens r).length+1=r.length+1;rw [kr r]
theorem Ur:∀ (l:List AstX) (i:Nat),nth (AstX.dens l) i=(nth l i).map AstX.den
 | [],i=>by simp [AstX.dens,nth]
 | a::r,0=>rfl
 | a::r,i+1=>Ur r i
theorem jcF:∀ (l:List RX) (i:Nat) (t:RX),nth l i=some t->∀ f,f<3->nth (l.flatMap RX.cells) (i*3+f)=nth t.cells f
 | [],i,t,h,_,_=>by simp [nth] at h
 | a :: r, 0, t, h, f, hf => by
   have:a=t:=by simpa [nth] using h
   subst this;rw [List.flatMap_cons,jd,jd,Nat.zero_mul,Nat.zero_add,List.getElem?_append_left (by show f<3;exact hf)]
 | a :: r, i + 1, t, h, f, hf => by
   have h:nth r i=some t:=h;have hl:(RX.cells a).length=3:=rfl;rw [List.flatMap_cons,jd,List.getElem?_append_right (by rw [hl];omega),hl,← jd]
   have:(i+1)*3+f - 3=i*3+f:=by omega
   rw [this];exact jcF r i t h f hf
theorem GK {l:List RX} {i:Nat} {t:RX} (h:nth l i=some t) {f:Nat} (hf:f<3):((Val.ofFlat 3 (l.flatMap RX.cells)).at i).at f=match nth t.cells f with | some x=>.ofC x | none=>.zero:=by
 show (match nth (l.flatMap RX.cells) (i*3+f) with | some x=>Val.ofC x | none=>.zero)=_
 rw [jcF l i t h f hf]
def QO (e:AstX) (x:RX):Prop:=x.op=e.den.op∧x.v=e.den.v∧x.n=e.den.n∧∀ i,x.ρ.at i=e.den.ρ.at i
theorem Zz {op:ByteArray} {v:Int} {l:List AstX} {x:RX} (h:QO (.mk op v l) x) {i:Nat} {e:AstX} (hi:nth l i=some e):QO e (jR x.ρ i):=by
 have hn:nth (AstX.dens l) i=some e.den:=by rw [Ur,hi];rfl
 have h0:=GK hn (f:=0) (by omega)
 have h1:=GK hn (f:=1) (by omega)
 have h2:=GK hn (f:=2) (by omega)
 have e0:x.ρ.at i=(Val.ofFlat 3 ((AstX.dens l).flatMap RX.cells)).at i:=h.2.2.2 i;unfold jR;rw [e0,h0,h1,h2];exact ⟨rfl,rfl,rfl,fun _=>rfl⟩
theorem FV {R:RXX} {x y:RX} {n:Nat} (hx:x.n=n) (hy:y.n=n) (hn:n<=2) (h:∀ i,i<n->R (jR x.ρ i) (jR y.ρ i)=some true):∀ f (k:Nat),k<=n->n+1<=f+k->ZZ R x y (ja n) f (k:Int)=some true
 | 0,k,h1,h2=>by omega
 | f + 1, k, h1, h2 => by
   unfold ZZ;rcases Nat.lt_or_ge k n with hk | hk
   ·have e1:lt (k:Int) (ja n)=true:=by unfold lt ja;simp;exact hk
    rw [e1,hx,hy,inR hk,Int.toNat_natCast,zp (by omega),h k hk]
    simp only [cond_true,nd,Option.bind,Bool.not_true,cond_false];exact FV hx hy hn h f (k+1) (by omega) (by omega)
   ·have e1:lt (k:Int) (ja n)=false:=by unfold lt ja;simp;omega
    rw [e1];rfl
theorem qh (a:ByteArray):jb a a=true:=(qX a a).2 rfl
theorem Mt:∀ (f k:Nat) (e:AstX) (x y:RX),k<=f->DX k e->QO e x->QO e y->U1 f x y=some true
 | 0, k, e, x, y, hk, hd, _, _ => by
   cases hd with
  | mk hl h=>omega
 | f + 1, k, e, x, y, hk, hd, hx, hy => by
   cases hd with
  | mk hl h =>
   rename_i k op v l;show Ws (U1 f) x y=some true;unfold Ws;have hn:x.n=l.length:=hx.2.2.1.trans (kr l);have hn':y.n=l.length:=hy.2.2.1.trans (kr l)
   have e1:Ff x y=false:=by
    unfold Ff;rw [hx.1,hy.1,hx.2.1,hy.2.1,hn,hn',qh]
    simp
   rw [e1,hn];simp only [cond_false];refine FV hn hn' hl (fun i hi => ?_) (l.length+1) 0 (by omega) (by omega)
   obtain ⟨a,ha⟩:=qV l i hi;exact Mt f k a _ _ (by omega) (h a (Ja ha)) (Zz hx ha) (Zz hy ha)
theorem TH {X:RXX} {R:RBB} {n:Nat} {ρ σ:Val} (hn:n<=10000) (h:∀ i,i<n->Dr X R (jg ρ i) (jg σ i)=some false):∀ f (k:Nat),k<=n->n+1<=f+k->Z6 X R n ρ n σ (ja n) f (k:Int)=some true
 | 0,k,h1,h2=>by omega
 | f + 1, k, h1, h2 => by
   unfold Z6;rcases Nat.lt_or_ge k n with hk | hk
   ·have e1:lt (k:Int) (ja n)=true:=by unfold lt ja;simp;exact hk
    rw [e1,inR hk,Int.toNat_natCast,zp (by omega),h k hk]
    simp only [cond_true,nd,Option.bind,cond_false];exact TH hn h f (k+1) (by omega) (by omega)
   ·have e1:lt (k:Int) (ja n)=false:=by unfold lt ja;simp;omega
    rw [e1];rfl
theorem jh3 {X:RXX} {R:RBB} {s t:RS} (h1:s.kind=t.kind) (h2:ZA s.wn s.wρ t.wn t.wρ=some true) (h3:X s.cond t.cond=some true) (h4:R s.bn s.bρ t.bn t.bρ=some true) (h5:R s.en s.eρ t.en t.eρ=some true):Dr X R s t=some false:=by
 unfold Dr jbS ja9 ja8 jav jax jgN jfF jev jf9;rw [h1,h2,h3,h4,h5,qh];rfl
theorem NO {f:Nat} (hf:10000<=f):∀ (d k:Nat) (l l':List AstS) (ρ ρ':Val),k<d->All2 SR l l'->l.length<=10000->(∀ t ∈ l,DS k t)->k<=10000->LieL l ρ->LieL l' ρ'->al f d l.length ρ l'.length ρ'=some true
 | 0,k,_,_,_,_,h,_,_,_,_,_,_=>by omega
 | d + 1, k, l, l', ρ, ρ', hk, hr, hl, hd, hk1, h1, h2 => by
   have hll:l'.length=l.length:=hr.length.symm;rw [hll];show KW (U1 f) (al f d) l.length ρ l.length ρ'=some true;unfold KW;have e1:(ja l.length != ja l.length)=false:=by simp
   rw [e1];simp only [cond_false];refine TH hl (fun i hi => ?_) (l.length+1) 0 (by omega) (by omega)
   obtain ⟨t,t',e1,e2,hs⟩:=Wt hr hi;have hdt:=hd t (Ja e1);cases hs with
  | mk hb hx =>
   cases hdt with
  | mk hw hu hb1 hb2 hx1 hx2 he =>
   obtain ⟨a1,a2,a3,a4,a5,a6,a7,a8,a9⟩:=Zf h1 e1;obtain ⟨b1,b2,b3,b4,b5,b6,b7,b8,b9⟩:=Zf h2 e2;refine jh3 (a1.trans b1.symm) ?_ ?_ ?_ ?_
   ·rw [a2,b2,a3,b3];exact jh7 rfl (by omega) fun _ _=>rfl
   ·refine Mt f _ _ _ _ (by omega) he ?_ ?_
    ·rw [a4];exact ⟨rfl,rfl,rfl,fun _=>rfl⟩
    ·rw [b4];exact ⟨rfl,rfl,rfl,fun _=>rfl⟩
   ·rw [a5,b5];exact NO hf d _ _ _ _ _ (by omega) hb (by omega) hb2 (by omega) a6 b6
   ·rw [a7,b7];exact NO hf d _ _ _ _ _ (by omega) hx (by omega) hx2 (by omega) a8 b8
theorem PR.ret_bind {σ α β:Type} {v:α} {s:σ} {f:α->σ->PR σ β}:(PR.ret v s).bind f=f v s:=rfl
def Yd (w:ByteArray):Int :=
 bif (jb w j8||(jb w jW||(jb w zg||(jb w qS||(jb w qe||(jb w zI||(jb w qU||jb w qq))))))) then 0
 else bif jb w jO then 1
 else bif (jb w wOr||(jb w z8||(jb w wEq||(jb w wLt||(jb w wGt||(jb w zZ||jb w qJ)))))) then 2 else -1
def ZO (w:ByteArray):Bool:=bif jb w qS then true else bif jb w qe then true else bif jb w zI then true else bif jb w qU then true else jb w qq
theorem qW {x y:ByteArray} (h:jb x y=true):x=y:=(qX _ _).1 h
theorem jmK {t w:ByteArray} (hn:nmO (jt t)=true) (hw:nmO (jt w)=false):jb t w=false:=by
 cases h:jb t w with
 | false=>rfl
 | true=>rw [qW h,hw] at hn;cases hn
def prC (t:ByteArray):Bool:=jb t jW||jb t zg
def siC (t:ByteArray):Bool:=jb t qS||(jb t qe||(jb t zI||(jb t qU||jb t qq)))
def noC (t:ByteArray):Bool:=bif jb t j8 then true else Yd t != 0
theorem HZ (t:ByteArray):(prC t=true->noC t=false∧ZO t=false)∧(prC t=false->siC t=true->noC t=false∧ZO t=true)∧(prC t=false->siC t=false->noC t=true):=by
 refine ⟨fun h => ?_,fun _ h => ?_,fun h1 h2 => ?_⟩
 ·unfold prC at h;rw [Bool.or_eq_true] at h;rcases h with h | h<;>(rw [qW h];exact ⟨by kernel_rfl,by kernel_rfl⟩)
 ·unfold siC at h;rw [Bool.or_eq_true,Bool.or_eq_true,Bool.or_eq_true,Bool.or_eq_true] at h;rcases h with h | h | h | h | h<;>(rw [qW h];exact ⟨by kernel_rfl,by kernel_rfl⟩)
 ·unfold prC at h1;unfold siC at h2;unfold noC Yd;simp only [Bool.or_eq_false_iff] at h1 h2;obtain ⟨c1,c2⟩:=h1;obtain ⟨c3,c4,c5,c6,c7⟩:=h2;rw [c1,c2,c3,c4,c5,c6,c7];cases jb t j8 with
  | true=>rfl
  | false =>
    simp only [Bool.or_false,cond_false];cases jb t jO with
   | true=>rfl
   | false =>
     simp only [cond_false];cases (jb t wOr||(jb t z8||(jb t wEq||(jb t wLt||(jb t wGt||(jb t zZ||jb t qJ))))))<;>rfl
def Gf:List Bool->Bool
 | []=>false
 | [c]=>c
 | c::r=>c||Gf r
def eqs (w:ByteArray) (l:List ByteArray):List Bool:=l.map (jb w)
theorem KA {w:ByteArray}:∀ {l:List ByteArray},Gf (eqs w l)=true->w ∈ l
 | [],h=>by cases h
 | [x], h => by
   have h:jb w x=true:=h;rw [(qX _ _).1 h];exact List.mem_cons_self
 | x :: y :: r, h => by
   have h:(jb w x||Gf (eqs w (y::r)))=true:=h;rw [Bool.or_eq_true] at h;rcases h with h | h
   ·rw [(qX _ _).1 h];exact List.mem_cons_self
   ·exact List.mem_cons_of_mem _ (KA h)
theorem YY (w : ByteArray) : (j7 w = 0 ∧ Yd w = -1) ∨ (j7 w = 1 ∧ Yd w = 0 ∧ ZO w = false ∧ jb w j8 = true) ∨ (j7 w = 2 ∧ Yd w = 0 ∧ ZO w = true ∧ jb w j8 = false)
  ∨ (j7 w=3∧Yd w=0∧ZO w=false∧jb w j8=false)∨(j7 w=4∧Yd w=1∧ZO w=false∧jb w j8=false)∨(j7 w=5∧Yd w=2∧ZO w=false∧jb w j8=false):=by
 cases h:Gf (eqs w [j8,jW,zg,qS,qe,zI,qU,qq,jO,wOr,z8,wEq,wLt,wGt,zZ,qJ]) with
 | true =>
   have:=KA h
   simp only [List.mem_cons,List.not_mem_nil,or_false] at this;rcases this with rfl | rfl | rfl | rfl | rfl | rfl | rfl | rfl | rfl | rfl | rfl | rfl | rfl | rfl | rfl | rfl
   ·exact .inr (.inl ⟨rfl,rfl,rfl,rfl⟩)
   ·exact .inr (.inr (.inr (.inl ⟨rfl,rfl,rfl,rfl⟩)))
   ·exact .inr (.inr (.inr (.inl ⟨rfl,rfl,rfl,rfl⟩)))
   ·exact .inr (.inr (.inl ⟨rfl,rfl,rfl,rfl⟩))
   ·exact .inr (.inr (.inl ⟨rfl,rfl,rfl,rfl⟩))
   ·exact .inr (.inr (.inl ⟨rfl,rfl,rfl,rfl⟩))
   ·exact .inr (.inr (.inl ⟨rfl,rfl,rfl,rfl⟩))
   ·exact .inr (.inr (.inl ⟨rfl,rfl,rfl,rfl⟩))
   ·exact .inr (.inr (.inr (.inr (.inl ⟨rfl,rfl,rfl,rfl⟩))))
   ·exact .inr (.inr (.inr (.inr (.inr ⟨rfl,rfl,rfl,rfl⟩))))
   ·exact .inr (.inr (.inr (.inr (.inr ⟨rfl,rfl,rfl,rfl⟩))))
   ·exact .inr (.inr (.inr (.inr (.inr ⟨rfl,rfl,rfl,rfl⟩))))
   ·exact .inr (.inr (.inr (.inr (.inr ⟨rfl,rfl,rfl,rfl⟩))))
   ·exact .inr (.inr (.inr (.inr (.inr ⟨rfl,rfl,rfl,rfl⟩))))
   ·exact .inr (.inr (.inr (.inr (.inr ⟨rfl,rfl,rfl,rfl⟩))))
   ·exact .inr (.inr (.inr (.inr (.inr ⟨rfl,rfl,rfl,rfl⟩))))
 | false =>
   have h:(jb w j8||(jb w jW||(jb w zg||(jb w qS||(jb w qe||(jb w zI||(jb w qU||(jb w qq||(jb w jO||(jb w wOr||(jb w z8||(jb w wEq||(jb w wLt||(jb w wGt||(jb w zZ||jb w qJ)))))))))))))))=false:=h;simp only [Bool.or_eq_false_iff] at h;obtain ⟨h1,h2,h3,h4,h5,h6,h7,h8,h9,h10,h11,h12,h13,h14,h15,h16⟩:=h;refine .inl ⟨?_,?_⟩
   ·unfold j7;rw [h1,h2,h3,h4,h5,h6,h7,h8,h9,h10,h11,h12,h13,h14,h15,h16];rfl
   ·unfold Yd;rw [h1,h2,h3,h4,h5,h6,h7,h8,h9,h10,h11,h12,h13,h14,h15,h16];rfl
end Go.Proofs.YtiefjlcakpdfeaaGreatDoor