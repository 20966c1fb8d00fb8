/-
 Part PaZE of the proof: RpB RpC RpD RdK RpE.
-/
import Derived.Test.YtiefjlcakpdfeaaGreatPaY
import Derived.Test.YtiefjlcakpdfeaaGreatPaZD
import Derived.Lib.IndexLaws
namespace Go.Proofs.YtiefjlcakpdfeaaGreat
open Go Go.Sx Go.RowKit Rb
set_option maxRecDepth 100000
def spC (c:UInt8):Bool:=isSp (c.toNat:Int)
def za (c:UInt8):Bool:=yE (c.toNat:Int)
def KT (c:UInt8):Bool:=kL (c.toNat:Int)
def isC (n:Int) (c:UInt8):Bool:=(c.toNat:Int)==n
def qG:Bool->List UInt8->List UInt8
 | _,[]=>[]
 | true,c::r=>bif isC 10 c then qG false r else qG true r
 | false,c::r=>bif spC c then qG false r else bif isC 35 c then qG true r else c::r
abbrev LS:=ByteArray × List UInt8 × Int
def DY (N:Nat):List UInt8->PR LS Unit
 | []=>.ret () (bs [],[],(N:Int))
 | c::r=>bif za c then .ret () (⟨⟨c::r.takeWhile za⟩⟩,r.dropWhile za,(N:Int) - (r.length+1:Nat)) else bif KT c then .ret () (⟨⟨[c]⟩⟩,r,(N:Int) - (r.length+1:Nat)) else .pan ((N:Int) - (r.length+1:Nat))
theorem KR (N:Nat) (c:UInt8) (r:List UInt8):DY N (c::r)=bif za c then .ret () (⟨⟨c::r.takeWhile za⟩⟩,r.dropWhile za,(N:Int) - (r.length+1:Nat)) else bif KT c then .ret () (⟨⟨[c]⟩⟩,r,(N:Int) - (r.length+1:Nat)) else .pan ((N:Int) - (r.length+1:Nat)):=rfl
def LM (N:Nat):Mach LS:=⟨Prod.fst,fun q=>q.2.2,fun q=>DY N (qG false q.2.1)⟩
variable {s:ByteArray}
abbrev lst (s:ByteArray):List UInt8:=s.data.toList
theorem yo:(lst s).length=s.size:=rfl
theorem Q4 {k:Nat} (h:k<s.size):∃ c,(lst s).drop k=c::(lst s).drop (k+1)∧jr s k=(c.toNat:Int):=by
 have h':k<(lst s).length:=h;refine ⟨(lst s)[k],List.drop_eq_getElem_cons h',?_⟩;unfold jr;rw [jd,List.getElem?_eq_getElem h']
theorem zF {k:Nat} (h:k<=100000):IntKind.wrap .i64 ((k:Int)+1)=((k+1:Nat):Int):=by rw [Ro.w64_id (by omega) (by omega)];omega
theorem ltS {k:Nat}:lt (k:Int) (ja s.size)=Nat.blt k s.size:=by
 unfold lt ja;cases h:Nat.blt k s.size with
 | true=>unfold Nat.blt at h;rw [Nat.ble_eq] at h;simp;omega
 | false =>
   have:¬ (k+1<=s.size):=by
    intro h2
    have:Nat.blt k s.size=true:=by unfold Nat.blt;rw [Nat.ble_eq];exact h2
    rw [this] at h;cases h
   simp;omega
theorem MH:∀ (l:List UInt8),(∀ k:Nat,l[k]? ≠ some 10)->qG true l=[]
 | [],_=>rfl
 | c :: r, h => by
   have h0:isC 10 c=false:=by
    have:=h 0
    unfold isC;cases hc:((c.toNat:Int)==10) with
    | false=>rfl
    | true =>
      have h2:c.toNat=10:=by have:=eq_of_beq hc;omega
      have h3:c=10:=UInt8.toNat_inj.1 (by rw [h2];rfl)
      exact absurd (by rw [h3];rfl) this
   unfold qG;rw [h0];exact MH r fun k=>by have:=h (k+1);simpa using this
theorem TJ:∀ (l:List UInt8) (i:Nat),l[i]? = some 10->(∀ k,k<i->l[k]? ≠ some 10)->qG true l=qG false (l.drop i)
 | [],i,h,_=>by simp at h
 | c :: r, 0, h, _ => by
   have:c=10:=by simpa using h
   subst this;rfl
 | c :: r, i + 1, h, h2 => by
   have h0:isC 10 c=false:=by
    have:=h2 0 (by omega)
    unfold isC;cases hc:((c.toNat:Int)==10) with
    | false=>rfl
    | true =>
      have h2:c.toNat=10:=by have:=eq_of_beq hc;omega
      have h3:c=10:=UInt8.toNat_inj.1 (by rw [h2];rfl)
      exact absurd (by rw [h3];rfl) this
   have e:qG true (c::r)=qG true r:=by
    show (bif isC 10 c then qG false r else qG true r)=_;rw [h0];rfl
   rw [e,List.drop_succ_cons];exact TJ r i (by simpa using h) fun k hk=>by have:=h2 (k+1) (by omega);simpa using this
theorem WK (hs:s.size<=10000):∀ f k,k<=s.size->s.size+1<=f+k->∃ (b:Bool) (k':Nat),QD f s (k:Int)=some (b,(k':Int))∧k<=k'∧k'<=s.size∧(lst s).drop k'=qG false ((lst s).drop k)
 | 0,k,h1,h2=>by omega
 | f + 1, k, h1, h2 => by
   unfold QD;rw [ltS];rcases Nat.lt_or_ge k s.size with hk | hk
   ·obtain ⟨c,e1,e2⟩:=Q4 hk;have hr:jc (k:Int) s.size=true:=by unfold jc le lt ja;simp;omega
    rw [YW hk,hr,Int.toNat_natCast,e2,e1];simp only [cond_true];cases hsp:isSp (c.toNat:Int) with
    | true =>
      obtain ⟨b,k',h3,h4,h5,h6⟩:=WK hs f (k+1) (by omega) (by omega)
      refine ⟨b,k',?_,by omega,h5,?_⟩
      ·rw [zF (by omega)];exact h3
      ·rw [h6];show _=(bif spC c then _ else _);unfold spC;rw [hsp];rfl
    | false =>
      simp only [cond_false];cases h35:((c.toNat:Int)==35) with
     | false =>
       refine ⟨true,k,rfl,lRq _,h1,?_⟩;rw [e1];show _=(bif spC c then _ else bif isC 35 c then _ else _);unfold spC isC;rw [hsp,h35];rfl
     | true =>
       have hc:(le 0 (k:Int)&&le (k:Int) (ja s.size)&&le (ja s.size) (ja s.size))=true:=by unfold le ja;simp;omega
       rw [hc];simp only [cond_true]
       have hsub:(zm s (k:Int).toNat s.size).data.toList=(lst s).drop k:=by
        unfold zm;rw [Int.toNat_natCast];show ((lst s).take s.size).drop k=_;rw [List.take_of_length_le (by rw [yo];exact lRq _)]
       have h10:isC 10 c=false:=by
        have:(c.toNat:Int)=35:=by simpa using h35
        unfold isC;rw [this];rfl
       have hrest:qG false (c::(lst s).drop (k+1))=qG true ((lst s).drop k):=by
        rw [e1];show (bif spC c then _ else bif isC 35 c then _ else _)=(bif isC 10 c then _ else _);unfold spC isC at *;rw [hsp,h35,h10];rfl
       rw [hrest];have hge:=Lib.indexByte_ge ((lst s).drop k) 10;rcases Int.lt_or_le (Lib.indexByte ((lst s).drop k) 10) 0 with hi | hi
       ·have hi1:Lib.indexByte ((lst s).drop k) 10=-1:=by omega
        have hn:=Lib.indexByte_none hi1
        have hN:L9 s (k:Int)=((s.size:Nat):Int):=by
         unfold L9 B8;rw [hsub,hi1];show (bif lt (-1) 0 then _ else _)=_
         have:lt (-1) 0=true:=rfl
         rw [this];simp only [cond_true];show IntKind.wrap .i64 ((k:Int)+IntKind.wrap .i64 ((s.size:Int) - k))=_;rw [Ro.w64_id (x:=(s.size:Int) - k) (by omega) (by omega),Ro.w64_id (by omega) (by omega)]
         omega
        obtain ⟨b,k',h3,h4,h5,h6⟩:=WK hs f s.size (lRq _) (by omega)
        refine ⟨b,k',by rw [hN];exact h3,by omega,h5,?_⟩
        rw [h6,MH _ hn,List.drop_of_length_le (by rw [yo];exact lRq _)]
        rfl
       ·obtain ⟨o,ho⟩ : ∃ o:Nat,Lib.indexByte ((lst s).drop k) 10=(o:Int):=⟨(Lib.indexByte ((lst s).drop k) 10).toNat,by omega⟩
        obtain ⟨g1,g2⟩:=Lib.indexByte_some ho
        have hlt:k+o<s.size:=by
         have:o<((lst s).drop k).length:=by
          rcases Nat.lt_or_ge o ((lst s).drop k).length with h | h
          ·exact h
          ·rw [List.getElem?_eq_none h] at g1;cases g1
         rw [List.length_drop,yo] at this;omega
        have ho1:1<=o:=by
         rcases Nat.lt_or_ge 0 o with h | h
         ·exact h
         ·have:o=0:=by omega
          subst this;rw [e1] at g1
          have:c=10:=by simpa using g1
          subst this;cases h10
        have hN:L9 s (k:Int)=((k+o:Nat):Int):=by
         unfold L9 B8;rw [hsub,ho]
         have:lt (o:Int) 0=false:=by unfold lt;simp
         rw [this];simp only [cond_false];rw [Ro.w64_id (by omega) (by omega)]
         omega
        obtain ⟨b,k',h3,h4,h5,h6⟩:=WK hs f (k+o) (by omega) (by omega)
        refine ⟨b,k',by rw [hN];exact h3,by omega,h5,?_⟩
        rw [h6,TJ _ o g1 g2,List.drop_drop]
   ·have:k=s.size:=by omega
    subst this;rw [KO (lRq _)];refine ⟨false,s.size,rfl,lRq _,lRq _,?_⟩;rw [List.drop_of_length_le (by rw [yo];exact lRq _)]
    rfl
theorem NV (hs:s.size<=10000):∀ f k,k<=s.size->s.size+1<=f+k->∃ k':Nat,Jw f s (k:Int)=some (k':Int)∧k<=k'∧k'<=s.size∧((lst s).drop k).dropWhile za=(lst s).drop k'∧((lst s).drop k).takeWhile za=((lst s).take k').drop k∧(((lst s).drop k).head?.any za=true->k<k')
 | 0,k,h1,h2=>by omega
 | f + 1, k, h1, h2 => by
   unfold Jw;rw [ltS];rcases Nat.lt_or_ge k s.size with hk | hk
   ·obtain ⟨c,e1,e2⟩:=Q4 hk;have hr:jc (k:Int) s.size=true:=by unfold jc le lt ja;simp;omega
    rw [YW hk,hr,Int.toNat_natCast,e2,e1];simp only [cond_true];cases hw:yE (c.toNat:Int) with
    | true =>
      obtain ⟨k',h3,h4,h5,h6,h7,_⟩:=NV hs f (k+1) (by omega) (by omega)
      have hw':za c=true:=hw;refine ⟨k',by rw [zF (by omega)];exact h3,by omega,h5,?_,?_,fun _=>by omega⟩
      ·rw [List.dropWhile_cons,hw',if_pos rfl,h6]
      ·rw [List.takeWhile_cons,hw',if_pos rfl,h7];have e3:((lst s).take k').drop k=(((lst s).drop k).take (k' - k)):=by rw [List.drop_take]
       have e4:((lst s).take k').drop (k+1)=(((lst s).drop (k+1)).take (k' - (k+1))):=by rw [List.drop_take]
       rw [e3,e4,e1]
       have:k' - k=(k' - (k+1))+1:=by omega
       rw [this,List.take_succ_cons]
    | false =>
      have hw':za c=false:=hw;refine ⟨k,rfl,lRq _,h1,?_,?_,?_⟩
      ·rw [List.dropWhile_cons,hw',if_neg (by simp)]
       exact e1.symm
      ·rw [List.takeWhile_cons,hw',if_neg (by simp),List.drop_take,Nat.sub_self,List.take_zero]
      ·intro h;simp [hw'] at h
   ·have:k=s.size:=by omega
    subst this;rw [KO (lRq _)];have e:(lst s).drop s.size=[]:=List.drop_of_length_le (by rw [yo];exact lRq _)
    refine ⟨s.size,rfl,lRq _,lRq _,?_,?_,?_⟩
    ·rw [e];rfl
    ·rw [e,List.drop_take,Nat.sub_self,List.take_zero];rfl
    ·rw [e];intro h;cases h
def RML (s:ByteArray) (p:PS) (q:LS):Prop:=p.tx=q.1∧p.pos=q.2.2∧∃ k:Nat,p.nx=(k:Int)∧k<=s.size∧q.2.1=(lst s).drop k
theorem w32 (c:UInt8):IntKind.wrap .i32 (c.toNat:Int)=(c.toNat:Int):=by
 have:=c.toNat_lt
 have h:∀ n:Nat,n<256->IntKind.wrap .i32 (n:Int)=(n:Int):=by
  intro n hn;simp only [IntKind.wrap,IntKind.bits,IntKind.signed]
  simp;omega
 exact h _ this
theorem jmU (hs:s.size<=10000) {p:PS} {q:LS} (h:RML s p q):PRel Eq (RML s) (fun _ _=>True) (k9 s p) (DY s.size (qG false q.2.1)):=by
 obtain ⟨_,_,k,hk1,hk2,hk3⟩:=h;obtain ⟨b,st,h1,h2,h3,h4⟩:=WK hs (s.size+1) k hk2 (by omega)
 obtain ⟨n,g1,g2,g3,g4,g5,g6⟩:=NV hs (s.size+1) st h3 (by omega)
 have e1:Z7 s p.nx=some (b,(st:Int)):=by unfold Z7;rw [hk1];exact h1
 have e2:Fs s (st:Int)=some (n:Int):=g1;unfold k9 jg6;rw [e1];simp only [e2];rw [hk3,← h4];have hcut:kJ s (st:Int) (n:Int)=true:=by unfold kJ le ja;simp;omega
 rcases Nat.lt_or_ge st s.size with hst | hst
 ·obtain ⟨c,e3,e4⟩:=Q4 hst;have hpos:(st:Int)=(s.size:Int) - (((lst s).drop (st+1)).length+1:Nat):=by rw [List.length_drop,yo];omega
  rw [e3] at g4 g5 g6 ⊢;cases hw:za c with
  | true =>
    have hlt:=g6 (by simp [hw])
    have hne:((n:Int)==(st:Int))=false:=by simp;omega
    rw [hne];simp only [cond_false,hcut,cond_true,Int.toNat_natCast];rw [KR,hw];refine .ret trivial ⟨?_,hpos,n,rfl,g3,?_⟩
    ·show zm s st n=_;unfold zm;rw [← g5,List.takeWhile_cons,hw];rfl
    ·show List.dropWhile za _=_;rw [← g4,List.dropWhile_cons,hw];rfl
  | false =>
    have hn:n=st:=by
     rw [List.takeWhile_cons,hw,if_neg (by simp),List.drop_take] at g5
     have:=congrArg List.length g5
     rw [List.length_take,List.length_drop,yo] at this;simp at this;omega
    subst hn;have hlt:lt (n:Int) (ja s.size)=true:=by rw [ltS];exact YW hst
    have hr:jc (n:Int) s.size=true:=by unfold jc le lt ja;simp;omega
    have h256:lt (c.toNat:Int) 256=true:=by have:=c.toNat_lt;unfold lt;simp;omega
    have h0:le 0 (c.toNat:Int)=true:=by unfold le;simp
    rw [beq_self_eq_true,hlt,hr,Int.toNat_natCast,e4,w32,h256,h0];simp only [cond_true,Bool.and_self];rw [KR,hw];simp only [cond_false];have hsg:KT c=kL (c.toNat:Int):=rfl;rw [← hsg];cases hsc:KT c with
   | false=>exact .pan hpos
   | true =>
     have hcut2:kJ s (n:Int) ((n+1:Nat):Int)=true:=by unfold kJ le ja;simp;omega
     simp only [cond_true,zF (show n<=100000 by omega),hcut2,Int.toNat_natCast]
     refine .ret trivial ⟨?_,hpos,n+1,rfl,by omega,rfl⟩
     show zm s n (n+1)=_;unfold zm;rw [List.drop_take];show (⟨⟨((lst s).drop n).take (n+1 - n)⟩⟩ : ByteArray)=_;rw [e3,show n+1 - n=1 by omega]
     rfl
 ·have:st=s.size:=by omega
  subst this;have hn:n=s.size:=by omega
  subst hn;have e:(lst s).drop s.size=[]:=List.drop_of_length_le (by rw [yo];exact lRq _)
  have hlt:lt (s.size:Int) (ja s.size)=false:=by rw [ltS];exact KO (lRq _)
  rw [beq_self_eq_true,hlt,e];simp only [cond_true,cond_false,hcut,Int.toNat_natCast];refine .ret trivial ⟨?_,rfl,s.size,rfl,lRq _,e.symm⟩;show zm s s.size s.size=bs [];unfold zm;rw [List.drop_take,Nat.sub_self,List.take_zero];rfl
theorem joi (hs:s.size<=10000):MRel Eq (MP s) (LM s.size) (RML s) where
 tx:=fun h=>h.1
 pos:=fun h=>h.2.1
 adv:=jmU hs
end Go.Proofs.YtiefjlcakpdfeaaGreat
namespace Go.Proofs.YtiefjlcakpdfeaaGreat
open Go Go.Sx Go.RowKit Rb
set_option maxRecDepth 100000
section
variable {σ α β ε τ:Type}
def okP (x:PR σ α) (Q:α->σ->Prop):Prop:=match x with
 | .stuck=>False
 | .pan _=>True
 | .ret v s=>Q v s
theorem okP.bind {x:PR σ α} {f:α->σ->PR σ β} {Q:α->σ->Prop} {Q':β->σ->Prop} (h:okP x Q) (hf:∀ v s,Q v s->okP (f v s) Q'):okP (x.bind f) Q':=by
 cases x with
 | stuck=>exact h
 | pan a=>exact trivial
 | ret v s=>exact hf v s h
theorem okP.cond {c:Bool} {x y:PR σ α} {Q:α->σ->Prop} (h1:c=true->okP x Q) (h2:c=false->okP y Q):okP (bif c then x else y) Q:=by
 cases c with
 | true=>exact h1 rfl
 | false=>exact h2 rfl
theorem okP.mono {x:PR σ α} {Q Q':α->σ->Prop} (h:okP x Q) (hq:∀ v s,Q v s->Q' v s):okP x Q':=by
 cases x with
 | stuck=>exact h
 | pan a=>exact trivial
 | ret v s=>exact hq v s h
def zC (t:ByteArray):Nat:=bif jb t (bs []) then 0 else 1
theorem U7 (t:ByteArray):zC t<=1:=by unfold zC;cases jb t (bs [])<;>decide
theorem qZ {t:ByteArray} {f:ByteArray->Bool} (h:f t=true) (h0:f (bs [])=false):zC t=1:=by
 unfold zC;cases he:jb t (bs []) with
 | false=>rfl
 | true =>
   rw [(zr _ _).1 he,h0] at h;cases h
structure MOk (M:Mach σ) (I:σ->Prop) (μ:σ->Nat) (W:ByteArray->Prop):Prop where
 tok:∀ s,I s->W (M.tx s)
 adv:∀ s,I s->okP (M.adv s) fun _ s'=>I s'∧μ s'+zC (M.tx s)<=μ s
 num:∀ s,I s->nmD (jq (M.tx s))=true
 wrd:∀ s,I s->obD (jB (M.tx s))=true
 nam:∀ s,I s->yg (M.tx s)=true
structure AOk (A:Alg ε τ) (W:ByteArray->Prop) (DE:Nat->ε->Prop) (DT:Nat->τ->Prop):Prop where
 ex:∀ {k op v l},l.length<=2->(∀ x ∈ l,DE k x)->DE (k+1) (A.ex op v l)
 em:∀ {k k' e},k<=k'->DE k e->DE k' e
 st:∀ {k kd w e b x p},w.length<=k->(∀ u ∈ w,W u)->DE k e->b.length<=k->(∀ y ∈ b,DT k y)->x.length<=k->(∀ y ∈ x,DT k y)->DT (k+1) (A.st kd w e b x p)
 tm:∀ {k k' t},k<=k'->DT k t->DT k' t
variable {M:Mach σ} {I:σ->Prop} {μ:σ->Nat} {W:ByteArray->Prop} (hM:MOk M I μ W)
include hM
theorem Js {t:ByteArray} (ht:jb t (bs [])=false) {s:σ} (h:I s):okP (qJ M t s) fun c s'=>I s'∧μ s'+(bif c then 1 else 0)<=μ s:=by
 unfold qJ;refine .cond (fun hc => ?_) fun _=>⟨h,lRq _⟩;refine (hM.adv s h).bind fun _ s' h2=>⟨h2.1,?_⟩
 have:zC (M.tx s)=1:=by rw [(zr _ _).1 hc];unfold zC;rw [ht];rfl
 simp only [cond_true];omega
theorem ym {t:ByteArray} (ht:jb t (bs [])=false) {s:σ} (h:I s):okP (qR M t s) fun _ s'=>I s'∧μ s'+1<=μ s:=by
 unfold qR;refine (Js hM ht h).bind fun c s' h2 => ?_;cases c with
 | true=>exact h2
 | false=>exact trivial
theorem Z0 {ok:Bool} {s:σ} (h:I s) (hk:ok=true->zC (M.tx s)=1):okP (qy M ok s) fun w s'=>I s'∧μ s'+1<=μ s∧W w:=by
 unfold qy;refine .cond (fun hc => ?_) fun _=>trivial;refine (hM.adv s h).bind fun _ s' h2=>⟨h2.1,?_,hM.tok s h⟩
 have:=hk hc
 omega
omit hM in
theorem jjd {w:ByteArray} (h:nmO (jq w)=true):zC w=1:=qZ (f:=fun w=>nmO (jq w)) h (by kernel_rfl)
theorem Us {most:Int} {s:σ} (h:I s):okP (yp M most s) fun _ s'=>I s'∧μ s'+1<=μ s:=by
 unfold yp;have h1:=hM.num s h;cases hn:jq (M.tx s) with
 | none=>rw [hn] at h1;cases h1
 | some y =>
   obtain ⟨n,ok⟩:=y;refine (Z0 hM h fun hc => ?_).bind fun _ s' h2=>⟨h2.1,h2.2.1⟩
   have:ok=true:=by cases ok<;>first | rfl | cases hc
   subst this;exact jjd (by rw [hn];rfl)
omit hM in
theorem jfh {w:ByteArray} (h:q8 w=true):zC w=1:=qZ (f:=q8) h (by kernel_rfl)
theorem jkO {s:σ} (h:I s):okP (YV M s) fun _ s'=>I s'∧μ s'+1<=μ s:=by
 unfold YV;exact (Z0 hM h fun hc=>jfh hc).bind fun _ s' h2=>⟨h2.1,h2.2.1⟩
theorem GG {s:σ} (h:I s):okP (kp M s) fun w s'=>I s'∧μ s'+1<=μ s∧W w:=by
 unfold kp;have h1:=hM.wrd s h;cases hn:jB (M.tx s) with
 | none=>rw [hn] at h1;cases h1
 | some y =>
   refine Z0 hM h fun hc=>qZ (f:=fun w=>obV (jB w)) (by rw [hn];exact hc) (by kernel_rfl)
omit hM in
theorem ag {k:Int} {w:ByteArray} (h:qp k w=true):zC w=1:=by
 refine qZ (f:=qp k) h ?_;unfold qp;have e1:nmO (jq (bs []))=false:=by kernel_rfl
 have e2:q8 (bs [])=false:=by kernel_rfl
 have e3:jb (bs []) an=false:=by kernel_rfl
 rw [e1,e2,e3];cases k==1<;>cases k==2<;>rfl
theorem jdc {k:Int} {s:σ} (h:I s):okP (J9 M k s) fun w s'=>I s'∧μ s'+1<=μ s∧W w:=by
 unfold J9;rw [hM.num s h];exact Z0 hM h fun hc=>ag hc
theorem Lr:∀ (l:List Int) {s:σ},I s->okP (zo M l s) fun w s'=>I s'∧μ s'+w.length<=μ s∧∀ u ∈ w,W u
 | [],_,h=>⟨h,lRq _,fun u hu=>by cases hu⟩
 | k :: r, s, h => by
   unfold zo;refine (jdc hM h).bind fun w s1 h1=>(Lr r h1.1).bind fun l s2 h2=>⟨h2.1,?_,fun u hu => ?_⟩
   ·simp only [List.length_cons];omega
   ·rcases List.mem_cons.1 hu with rfl | hu
    ·exact h1.2.2
    ·exact h2.2.2 u hu
theorem V4 {s:σ} (h:I s):okP (zG M s) fun w s'=>I s'∧μ s'+1<=μ s∧μ s'+w.length<=μ s∧∀ u ∈ w,W u:=by
 unfold zG;refine (Z0 hM h fun hc=>qZ (f:=fun w=>!(Nat.beq (jZ w) 0)) hc (by kernel_rfl)).bind fun w s1 h1=>(Lr hM _ h1.1).bind fun l s2 h2=>⟨h2.1,by omega,?_,fun u hu => ?_⟩
 ·simp only [List.length_cons];omega
 ·rcases List.mem_cons.1 hu with rfl | hu
  ·exact h1.2.2
  ·exact h2.2.2 u hu
variable {A:Alg ε τ} {DE:Nat->ε->Prop} {DT:Nat->τ->Prop} (hA:AOk A W DE DT)
include hA
abbrev FE (I:σ->Prop) (μ:σ->Nat) (DE:Nat->ε->Prop) (m:Nat) (f:σ->PR σ ε):Prop:=∀ s,I s->μ s<m->okP (f s) fun e s'=>I s'∧μ s'+1<=μ s∧DE (μ s - μ s') e
theorem DG {m B : Nat} {o : σ -> PR σ ε} (ho : FE I μ DE m o) {g : ε -> σ -> PR σ ε} {j : Nat}
  (hg:∀ e s1,I s1->μ s1<j->μ s1<=B->DE (B - μ s1) e->okP (g e s1) fun e' s'=>I s'∧μ s'<=μ s1∧DE (B - μ s') e') :
  ∀ (l:List ByteArray),(∀ w ∈ l,jb w (bs [])=false)->∀ {e:ε} {s:σ},I s->μ s<=j->μ s<m->μ s<=B->DE (B - μ s) e ->
  okP (Zs M A o g e l s) fun e' s'=>I s'∧μ s'<=μ s∧DE (B - μ s') e'
 | [],_,_,_,h,_,_,_,hd=>⟨h,lRq _,hd⟩
 | w :: r, hw, e, s, h, hj, hm, hB, hd => by
   unfold Zs;refine (Js hM (hw w (by simp)) h).bind fun c s1 h1 => ?_
   cases c with
  | true =>
    simp only [cond_true] at h1 ⊢;refine (ho s1 h1.1 (by omega)).bind fun x s2 h2 => ?_
    refine (hg _ s2 h2.1 (by omega) (by omega) ?_).mono fun e' s' h3=>⟨h3.1,by omega,h3.2.2⟩
    have:B - μ s2=(B - μ s2 - 1)+1:=by omega
    rw [this];refine hA.ex (by simp) fun y hy => ?_
    rcases List.mem_cons.1 hy with rfl | hy
    ·exact hA.em (by omega) hd
    ·rcases List.mem_cons.1 hy with rfl | hy
     ·exact hA.em (by omega) h2.2.2
     ·cases hy
  | false =>
    simp only [cond_false] at h1 ⊢;exact (DG ho hg r (fun w hw'=>hw w (by simp [hw'])) h1.1 (by omega) (by omega) (by omega) (hA.em (by omega) hd)).mono fun e' s' h3=>⟨h3.1,by omega,h3.2.2⟩
theorem DC {m B : Nat} {o : σ -> PR σ ε} (ho : FE I μ DE m o) {ops : List ByteArray} (hops : ∀ w ∈ ops, jb w (bs []) = false) : ∀ (k : Nat) (e : ε) (s : σ), I s -> μ s < k -> μ s < m -> μ s <= B -> DE (B - μ s) e ->
  okP (yP M A ops o k e s) fun e' s'=>I s'∧μ s'<=μ s∧DE (B - μ s') e'
 | 0,_,_,_,h,_,_,_=>by omega
 | k + 1, e, s, h, hk, hm, hB, hd => by
   show okP (Zs M A o (yP M A ops o k) e ops s) _;exact DG hM hA ho (j:=μ s) (fun e s1 h1 h2 h3 h4=>DC ho hops k e s1 h1 (by omega) (by omega) h3 h4) ops hops h (lRq _) hm hB hd
theorem jkf {m m':Nat} {x:σ->PR σ ε} (hx:FE I μ DE m' x) (hm:m<=m'+1):FE I μ DE m (Zh M A x):=by
 intro s h hs
 have hnil:∀ (k:Nat) (op:ByteArray) (v:Int),0<k->DE k (A.ex op v []):=fun k op v hk=>by
  have:k=(k - 1)+1:=by omega
  rw [this];exact hA.ex (Nat.zero_le _) fun y hy=>by cases hy
 unfold Zh;refine .cond (fun hc => ?_) fun _=>.cond (fun hc => ?_) fun _=>.cond (fun hc => ?_) fun _ => ?_
 ·have ht:zC (M.tx s)=1:=qZ (f:=fun w=>jb w qT||jb w yA) hc (by kernel_rfl)
  refine (hM.adv s h).bind fun _ s1 h1=>⟨h1.1,by omega,hnil _ _ _ (by omega)⟩
 ·have ht:zC (M.tx s)=1:=qZ (f:=fun w=>jb w zA||(jb w qq||(jb w yh||(jb w zD||jb w qB)))) hc (by kernel_rfl)
  refine (hM.adv s h).bind fun _ s1 h1=>(jkO hM h1.1).bind fun n s2 h2=>⟨h2.1,by omega,hnil _ _ _ (by omega)⟩
 ·have ht:zC (M.tx s)=1:=qZ (f:=fun w=>jb w Y0) hc (by kernel_rfl)
  refine (hM.adv s h).bind fun _ s1 h1=>(hx s1 h1.1 (by omega)).bind fun e s2 h2=>(ym hM (by kernel_rfl) h2.1).bind fun _ s3 h3=>⟨h3.1,by omega,hA.em (by omega) h2.2.2⟩
 ·refine (Us hM h).bind fun n s1 h1=>⟨h1.1,by omega,hnil _ _ _ (by omega)⟩
omit hM hA in
theorem jl4 {a b:ByteArray} (ha:jb a (bs [])=false) (hb:jb b (bs [])=false):∀ w ∈ [a,b],jb w (bs [])=false:=by
 intro w hw;rcases List.mem_cons.1 hw with rfl | hw
 ·exact ha
 ·rcases List.mem_cons.1 hw with rfl | hw
  ·exact hb
  ·cases hw
omit hM hA in
theorem jnK {a:ByteArray} (ha:jb a (bs [])=false):∀ w ∈ [a],jb w (bs [])=false:=by
 intro w hw;rcases List.mem_cons.1 hw with rfl | hw
 ·exact ha
 ·cases hw
theorem Um {m K:Nat} {o:σ->PR σ ε} (ho:FE I μ DE m o) {ops:List ByteArray} (hops:∀ w ∈ ops,jb w (bs [])=false) (hK:m<=K):FE I μ DE m fun s=>(o s).bind fun e s1=>yP M A ops o K e s1:=by
 intro s h hs;refine (ho s h hs).bind fun e s1 h1 => ?_;refine (DC hM hA (B:=μ s) ho hops K e s1 h1.1 (by omega) (by omega) (by omega) h1.2.2).mono fun e' s' h2=>⟨h2.1,by omega,h2.2.2⟩
theorem jnB {m m' K:Nat} {x:σ->PR σ ε} (hx:FE I μ DE m' x) (hm:m<=m'+1) (hK:m<=K):FE I μ DE m (Gc M A x K) :=
 Um hM hA (jkf hM hA hx hm) (jl4 (by kernel_rfl) (by kernel_rfl)) hK
theorem jdd {m m' K:Nat} {o x:σ->PR σ ε} (ho:FE I μ DE m' o) (hx:FE I μ DE m' x) (hm:m<=m'+1) (hK:m<=K):FE I μ DE m (Xo M A o x K):=by
 intro s h hs;unfold Xo;refine (Js hM (by kernel_rfl) h).bind fun c s1 h1 => ?_
 cases c with
 | true =>
   simp only [cond_true] at h1 ⊢;refine (ho s1 h1.1 (by omega)).bind fun e s2 h2=>⟨h2.1,by omega,?_⟩
   have:μ s - μ s2=(μ s - μ s2 - 1)+1:=by omega
   rw [this];refine hA.ex (by simp) fun y hy => ?_
   rcases List.mem_cons.1 hy with rfl | hy
   ·exact hA.em (by omega) h2.2.2
   ·cases hy
 | false =>
   simp only [cond_false] at h1 ⊢;have hsum:=jnB hM hA hx hm hK;refine (hsum s1 h1.1 (by omega)).bind fun e s2 h2 => ?_
   refine (DG hM hA (B:=μ s) (j:=μ s2) hsum (g:=fun x s3=>.ret x s3) (fun e s1 h3 _ _ h4=>⟨h3,lRq _,h4⟩) [wEq,wLt,wGt] ?_ h2.1 (lRq _) (by omega) (by omega) (hA.em (by omega) h2.2.2)).mono fun e' s' h3=>⟨h3.1,by omega,h3.2.2⟩
   intro w hw;rcases List.mem_cons.1 hw with rfl | hw
   ·kernel_rfl
   ·exact jl4 (by kernel_rfl) (by kernel_rfl) w hw
theorem jjB {m m' K:Nat} {o x:σ->PR σ ε} (ho:FE I μ DE m' o) (hx:FE I μ DE m' x) (hm:m<=m'+1) (hK:m<=K):FE I μ DE m (W8 M A o x K) :=
 Um hM hA (jdd hM hA ho hx hm hK) (jnK (by kernel_rfl)) hK
theorem jkA {m m' K:Nat} {o x:σ->PR σ ε} (ho:FE I μ DE m' o) (hx:FE I μ DE m' x) (hm:m<=m'+1) (hK:m<=K):FE I μ DE m (U3 M A o x K) :=
 Um hM hA (jjB hM hA ho hx hm hK) (jnK (by kernel_rfl)) hK
theorem Yr (K:Nat):∀ d,d<=K->FE I μ DE d (exs M A K d).1∧FE I μ DE d (exs M A K d).2
 | 0,_=>⟨fun s _ h=>by omega,fun s _ h=>by omega⟩
 | d+1,h=>⟨jdd hM hA (Yr K d (by omega)).1 (Yr K d (by omega)).2 (lRq _) h,jkA hM hA (Yr K d (by omega)).1 (Yr K d (by omega)).2 (lRq _) h⟩
abbrev FT (I:σ->Prop) (μ:σ->Nat) (DT:Nat->τ->Prop) (m:Nat) (f:σ->PR σ τ):Prop:=∀ s,I s->μ s<m->okP (f s) fun t s'=>I s'∧μ s'+1<=μ s∧DT (μ s - μ s') t
abbrev FB (I:σ->Prop) (μ:σ->Nat) (DT:Nat->τ->Prop) (m:Nat) (f:σ->PR σ (List τ)):Prop:=∀ s,I s->μ s<m->okP (f s) fun l s'=>I s'∧μ s'+1+l.length<=μ s∧∀ t ∈ l,DT (μ s - μ s') t
omit hA in
theorem GL:∀ (k:Nat) (s:σ),I s->μ s<k->okP (yX M k s) fun w s'=>I s'∧μ s'+w.length<=μ s∧∀ u ∈ w,W u
 | 0,_,_,h=>by omega
 | k + 1, s, h, hk => by
   unfold yX;refine (Js hM (by kernel_rfl) h).bind fun c s1 h1 => ?_
   cases c with
  | true=>exact ⟨h1.1,by simp only [List.length_nil];omega,fun u hu=>by cases hu⟩
  | false =>
    simp only [cond_false] at h1 ⊢;refine (GG hM h1.1).bind fun w s2 h2=>(GL k s2 h2.1 (by omega)).bind fun l s3 h3=>⟨h3.1,by simp only [List.length_cons];omega,fun u hu => ?_⟩
    rcases List.mem_cons.1 hu with rfl | hu
    ·exact h2.2.2
    ·exact h3.2.2 u hu
theorem Ov {m:Nat} {st:σ->PR σ τ} (hs:FT I μ DT m st):∀ (k:Nat) (s:σ),I s->μ s<k->μ s<m->okP (zU M st k s) fun l s'=>I s'∧μ s'+1+l.length<=μ s∧∀ t ∈ l,DT (μ s - μ s') t
 | 0,_,_,h,_=>by omega
 | k + 1, s, h, hk, hm => by
   unfold zU;refine (Js hM (by kernel_rfl) h).bind fun c s1 h1 => ?_
   cases c with
  | true=>exact ⟨h1.1,by simp only [cond_true] at h1;simp only [List.length_nil];omega,fun t ht=>by cases ht⟩
  | false =>
    simp only [cond_false] at h1 ⊢;refine (hs s1 h1.1 (by omega)).bind fun x s2 h2=>(Ov hs k s2 h2.1 (by omega) (by omega)).bind fun l s3 h3=>⟨h3.1,by simp only [List.length_cons];omega,fun t ht => ?_⟩
    rcases List.mem_cons.1 ht with rfl | ht
    ·exact hA.tm (by omega) h2.2.2
    ·exact hA.tm (by omega) (h3.2.2 t ht)
theorem jg0 {m K:Nat} {st:σ->PR σ τ} (hs:FT I μ DT m st) (hK:m<=K):FB I μ DT m (QC M st K):=by
 intro s h hm;unfold QC;refine (ym hM (by kernel_rfl) h).bind fun _ s1 h1=>(Ov hM hA hs K s1 h1.1 (by omega) (by omega)).mono fun l s' h2=>⟨h2.1,by omega,fun t ht=>hA.tm (by omega) (h2.2.2 t ht)⟩
theorem Uw {m m' K:Nat} {x:σ->PR σ ε} (hx:FE I μ DE K x) {b:σ->PR σ (List τ)} (hb:FB I μ DT m' b) (hm:m<=m'+1) (hK:m<=K):FT I μ DT m (zj M A x b K):=by
 intro s h hs
 have hst:∀ {k kd w e b x p},0<k->w.length<=k - 1->(∀ u ∈ w,W u)->DE (k - 1) e->b.length<=k - 1->(∀ y ∈ b,DT (k - 1) y)->x.length<=k - 1->(∀ y ∈ x,DT (k - 1) y)->DT k (A.st kd w e b x p):=fun {k} _ _ _ _ _ _ hk h1 h2 h3 h4 h5 h6 h7=>by
  have:k=(k - 1)+1:=by omega
  rw [this];exact hA.st h1 h2 h3 h4 h5 h6 h7
 have hnil:∀ (k:Nat) (op:ByteArray) (v:Int),0<k->DE k (A.ex op v []):=fun k op v hk=>by
  have:k=(k - 1)+1:=by omega
  rw [this];exact hA.ex (Nat.zero_le _) fun y hy=>by cases hy
 have hn:∀ k,∀ y ∈ ([]:List τ),DT k y:=fun k y hy=>by cases hy
 have hw:∀ u ∈ ([]:List ByteArray),W u:=fun u hu=>by cases hu
 have z:∀ k,([]:List τ).length<=k:=fun k=>Nat.zero_le _;have zw:∀ k,([]:List ByteArray).length<=k:=fun k=>Nat.zero_le _;unfold zj;refine .cond (fun hc => ?_) fun _=>.cond (fun hc => ?_) fun _=>.cond (fun hc => ?_) fun _=>.cond (fun hc => ?_) fun _=>.cond (fun hc => ?_) fun _=>trivial
 ·have ht:zC (M.tx s)=1:=qZ (f:=fun w=>jb w wDo) hc (by kernel_rfl)
  refine (hM.adv s h).bind fun _ s1 h1=>(V4 hM h1.1).bind fun w s2 h2=>(Js hM (by kernel_rfl) h2.1).bind fun c s3 h3 => ?_
  cases c with
  | true =>
    simp only [cond_true] at h3 ⊢;refine (hb s3 h3.1 (by omega)).bind fun l s4 h4=>(ym hM (by kernel_rfl) h4.1).bind fun _ s5 h5=>⟨h5.1,by omega,hst (by omega) (by omega) h2.2.2.2 (hnil _ _ _ (by omega)) (by omega) (fun y hy=>hA.tm (by omega) (h4.2.2 y hy)) (z _) (hn _)⟩
  | false =>
    simp only [cond_false] at h3 ⊢;refine (ym hM (by kernel_rfl) h3.1).bind fun _ s4 h4=>⟨h4.1,by omega,hst (by omega) (by omega) h2.2.2.2 (hnil _ _ _ (by omega)) (z _) (hn _) (z _) (hn _)⟩
 ·have ht:zC (M.tx s)=1:=qZ (f:=fun w=>jb w wIf) hc (by kernel_rfl)
  refine (hM.adv s h).bind fun _ s1 h1=>(hx s1 h1.1 (by omega)).bind fun e s2 h2=>(hb s2 h2.1 (by omega)).bind fun l s3 h3=>(Js hM (by kernel_rfl) h3.1).bind fun c s4 h4 => ?_
  cases c with
  | true =>
    simp only [cond_true] at h4 ⊢;refine (hb s4 h4.1 (by omega)).bind fun r s5 h5=>⟨h5.1,by omega,hst (by omega) (zw _) hw (hA.em (by omega) h2.2.2) (by omega) (fun y hy=>hA.tm (by omega) (h3.2.2 y hy)) (by omega) (fun y hy=>hA.tm (by omega) (h5.2.2 y hy))⟩
  | false =>
    simp only [cond_false] at h4 ⊢;exact ⟨h4.1,by omega,hst (by omega) (zw _) hw (hA.em (by omega) h2.2.2) (by omega) (fun y hy=>hA.tm (by omega) (h3.2.2 y hy)) (z _) (hn _)⟩
 ·have ht:zC (M.tx s)=1:=qZ (f:=fun w=>jb w qQ) hc (by kernel_rfl)
  refine (hM.adv s h).bind fun _ s1 h1=>(Us hM h1.1).bind fun n s2 h2=>(hb s2 h2.1 (by omega)).bind fun l s3 h3=>⟨h3.1,by omega,hst (by omega) (zw _) hw (hnil _ _ _ (by omega)) (by omega) (fun y hy=>hA.tm (by omega) (h3.2.2 y hy)) (z _) (hn _)⟩
 ·have ht:zC (M.tx s)=1:=qZ (f:=fun w=>jb w qo) hc (by kernel_rfl)
  refine (hM.adv s h).bind fun _ s1 h1=>(hx s1 h1.1 (by omega)).bind fun e s2 h2=>(ym hM (by kernel_rfl) h2.1).bind fun _ s3 h3=>⟨h3.1,by omega,hst (by omega) (zw _) hw (hA.em (by omega) h2.2.2) (z _) (hn _) (z _) (hn _)⟩
 ·have ht:zC (M.tx s)=1:=qZ (f:=fun w=>jb w kx) hc (by kernel_rfl)
  refine (hM.adv s h).bind fun _ s1 h1=>(GG hM h1.1).bind fun w s2 h2=>(GL hM K s2 h2.1 (by omega)).bind fun l s3 h3=>⟨h3.1,by omega,hst (by omega) (by simp only [List.length_cons];omega) (fun u hu => ?_) (hnil _ _ _ (by omega)) (z _) (hn _) (z _) (hn _)⟩
  rcases List.mem_cons.1 hu with rfl | hu
  ·exact h2.2.2
  ·exact h3.2.2 u hu
theorem Tq (K:Nat):∀ d,d<=K->FT I μ DT d (sts M A K d).1∧FB I μ DT d (sts M A K d).2
 | 0,_=>⟨fun s _ h=>by omega,fun s _ h=>by omega⟩
 | d+1,h=>⟨Uw hM hA (Yr hM hA K K (lRq _)).2 (Tq K d (by omega)).2 (lRq _) h,jg0 hM hA (Uw hM hA (Yr hM hA K K (lRq _)).2 (Tq K d (by omega)).2 (lRq _) h) h⟩
omit hA in
theorem jjU {m:Nat} {b:σ->PR σ (List τ)} (hb:FB I μ DT m b) {s:σ} (h:I s) (hs:μ s<m) (hA:AOk A W DE DT):okP (yY M b s) fun x _=>W x.1∧x.2.length<=m∧∀ t ∈ x.2,DT m t:=by
 unfold yY;refine (hM.adv s h).bind fun _ s1 h1=>(ym hM (by kernel_rfl) h1.1).bind fun _ s2 h2 => ?_
 rw [hM.nam s2 h2.1];refine (Z0 hM h2.1 fun hc=>qZ (f:=qk) hc (by kernel_rfl)).bind fun w s3 h3=>(hb s3 h3.1 (by omega)).bind fun l s4 h4 => ?_
 exact .cond (fun _=>trivial) fun _=>⟨h3.2.2,by show l.length<=m;omega,fun t ht=>hA.tm (by omega) (h4.2.2 t ht)⟩
end
end Go.Proofs.YtiefjlcakpdfeaaGreat
namespace Go.Proofs.YtiefjlcakpdfeaaGreat
open Go Go.Sx Go.RowKit Rb
set_option maxRecDepth 100000
theorem Hi {s:ByteArray} (hs:s.size<=10000):∀ f (k:Nat),k<=s.size->s.size+1<=f+k->obD (z7 f s (ja s.size) (k:Int))=true
 | 0,k,h1,h2=>by omega
 | f + 1, k, h1, h2 => by
   unfold z7;rw [ltS];rcases Nat.lt_or_ge k s.size with hk | hk
   ·have hr:jc (k:Int) s.size=true:=by unfold jc le lt ja;simp;omega
    rw [YW hk,hr,zF (by omega)]
    cases yE (jr s (k:Int).toNat) with
    | true=>exact Hi hs f (k+1) (by omega) (by omega)
    | false=>rfl
   ·rw [KO hk];rfl
theorem Yk {s:ByteArray} (hs:s.size<=10000):obD (jB s)=true:=by
 have:=Hi hs (s.size+1) 0 (by omega) (by omega)
 unfold jB;cases h:z7 (s.size+1) s (ja s.size) 0 with
 | none=>rw [show ((0:Nat):Int)=0 from rfl,h] at this;cases this
 | some b=>rfl
theorem al {s:ByteArray} (hs:s.size<=10000):∀ f (k:Nat) (n:Int),k<=s.size->s.size+1<=f+k->nfD (kZ f s (ja s.size) n (k:Int))=true
 | 0,k,n,h1,h2=>by omega
 | f + 1, k, n, h1, h2 => by
   unfold kZ;rw [ltS];rcases Nat.lt_or_ge k s.size with hk | hk
   ·have hr:jc (k:Int) s.size=true:=by unfold jc le lt ja;simp;omega
    rw [YW hk,hr,zF (by omega)]
    cases qV (jr s (k:Int).toNat) with
    | true=>exact al hs f (k+1) _ (by omega) (by omega)
    | false=>rfl
   ·rw [KO hk];rfl
theorem yM {s:ByteArray} (hs:s.size<=10000):nmD (jq s)=true:=by
 have:=al hs (s.size+1) 0 0 (by omega) (by omega)
 unfold jq;cases (bif bif jb s (bs []) then true else bif lt 1 (ja s.size) then jr s 0==48 else false then true else lt 10 (ja s.size)) with
 | true=>rfl
 | false =>
   cases h:kZ (s.size+1) s (ja s.size) 0 0 with
  | none=>rw [show ((0:Nat):Int)=0 from rfl,h] at this;cases this
  | some y =>
    obtain ⟨b,n,i⟩:=y;cases b<;>rfl
theorem jgq {s:ByteArray} (h:obV (jB s)=true):jc 0 s.size=true:=by
 unfold jB at h;cases hw:z7 (s.size+1) s (ja s.size) 0 with
 | none=>rw [hw] at h;cases h
 | some b =>
   rw [hw] at h;cases b with
  | false=>cases h
  | true =>
    have h:lt 0 (ja s.size)=true:=h;unfold lt ja at h;unfold jc le lt ja;simp at h ⊢;omega
theorem Ym {s:ByteArray} (hs:s.size<=10000):yg s=true:=by
 unfold yg;rw [Yk hs];cases h:obV (jB s) with
 | false=>rfl
 | true =>
   have:=jgq h
   rw [this]
   simp
theorem Yv:∀ (b:Bool) (l:List UInt8),(qG b l).length<=l.length
 | _,[]=>by cases ‹Bool› <;> exact lRq _
 | true, c :: r => by
   show (bif isC 10 c then qG false r else qG true r).length<=_;cases isC 10 c with
  | true=>exact Nat.le_succ_of_le (Yv false r)
  | false=>exact Nat.le_succ_of_le (Yv true r)
 | false, c :: r => by
   show (bif spC c then qG false r else bif isC 35 c then qG true r else c::r).length<=_;cases spC c with
  | true=>exact Nat.le_succ_of_le (Yv false r)
  | false =>
    cases isC 35 c with
   | true=>exact Nat.le_succ_of_le (Yv true r)
   | false=>exact lRq _
def IL (q:LS):Prop:=q.1.size<=10000∧q.2.1.length<=10000
def μL (q:LS):Nat:=q.2.1.length+zC q.1
theorem Vz (p:UInt8->Bool):∀ l:List UInt8,(l.dropWhile p).length<=l.length
 | []=>lRq _
 | c :: r => by
   rw [List.dropWhile_cons];split
   ·exact Nat.le_succ_of_le (Vz p r)
   ·exact lRq _
theorem YN (p:UInt8->Bool):∀ l:List UInt8,(l.takeWhile p).length<=l.length
 | []=>lRq _
 | c :: r => by
   rw [List.takeWhile_cons];split
   ·exact Nat.succ_le_succ (YN p r)
   ·exact Nat.zero_le _
theorem jjE (N:Nat):∀ (l:List UInt8),l.length<=10000->okP (DY N l) fun _ q=>IL q∧μL q<=l.length
 | [],_=>⟨⟨by show (0:Nat)<=10000;omega,by show (0:Nat)<=10000;omega⟩,by show 0+zC (bs [])<=0;exact Nat.le_of_eq (by kernel_rfl)⟩
 | c :: r, h => by
   have h1:=Vz za r;have h2:=YN za r;simp only [List.length_cons] at h;rw [KR];refine .cond (fun _=>⟨⟨?_,?_⟩,?_⟩) fun _=>.cond (fun _=>⟨⟨?_,?_⟩,?_⟩) fun _=>trivial
   ·show (c::r.takeWhile za).length<=_;simp only [List.length_cons];omega
   ·show (r.dropWhile za).length<=_;omega
   ·have:=U7 (⟨⟨c::r.takeWhile za⟩⟩ : ByteArray)
    show (r.dropWhile za).length+zC (⟨⟨c::r.takeWhile za⟩⟩ : ByteArray)<=r.length+1;omega
   ·show 1<=10000;omega
   ·show r.length<=_;omega
   ·have:=U7 (⟨⟨[c]⟩⟩ : ByteArray)
    show r.length+zC (⟨⟨[c]⟩⟩ : ByteArray)<=r.length+1;omega
def WL (w:ByteArray):Prop:=w.size<=10000
theorem K5 (N:Nat):MOk (LM N) IL μL WL where
 tok:=fun s h=>h.1
 adv:=fun s h=>by
  have h1:=Yv false s.2.1;refine (jjE N (qG false s.2.1) (by have:=h.2;omega)).mono fun _ q h2=>⟨h2.1,?_⟩
  have:=h2.2
  show μL q+zC s.1<=s.2.1.length+zC s.1;omega
 num:=fun s h=>yM h.1
 wrd:=fun s h=>Yk h.1
 nam:=fun s h=>Ym h.1
inductive AstX where
 | mk (op:ByteArray) (v:Int) (l:List AstX)
inductive AstS where
 | mk (kd:ByteArray) (w:List ByteArray) (e:AstX) (b x:List AstS) (p:Int)
def AF:Alg AstX AstS:=⟨.mk,.mk⟩
mutual
def AstX.den:AstX->RX
 | .mk op v l=>exR op v (AstX.dens l)
def AstX.dens:List AstX->List RX
 | []=>[]
 | a::r=>a.den::AstX.dens r
end
mutual
def AstS.den:AstS->RS
 | .mk kd w e b x p=>stR kd w e.den (AstS.dens b) (AstS.dens x) p
def AstS.dens:List AstS->List RS
 | []=>[]
 | a::r=>a.den::AstS.dens r
end
theorem Mw:∀ {l:List RX} {l':List AstX},All2 (fun x a=>x=a.den) l l'->l=AstX.dens l'
 | _,_,.nil=>rfl
 | _,_,.cons h r=>by rw [h,Mw r];rfl
theorem Vv:∀ {l:List RS} {l':List AstS},All2 (fun x a=>x=a.den) l l'->l=AstS.dens l'
 | _,_,.nil=>rfl
 | _,_,.cons h r=>by rw [h,Vv r];rfl
theorem arf:ARel Eq AR AF (fun x a=>x=a.den) (fun x a=>x=a.den) where
 ex:=fun h=>by rw [Mw h];rfl
 st:=fun he hb hx hp=>by rw [he,Vv hb,Vv hx,hp];rfl
inductive DX:Nat->AstX->Prop where
 | mk {k:Nat} {op:ByteArray} {v:Int} {l:List AstX} (hl:l.length<=2) (h:∀ x ∈ l,DX k x):DX (k+1) (.mk op v l)
theorem DX.mono:∀ {k:Nat} {e:AstX},DX k e->∀ {k'},k<=k'->DX k' e:=by
 intro k e h
 induction h with
 | mk hl h ih =>
   intro k' hk
   match k',hk with
  | k'+1,hk=>exact .mk hl fun x hx=>ih x hx (Nat.le_of_succ_le_succ hk)
inductive DS:Nat->AstS->Prop where
 | mk {k:Nat} {kd:ByteArray} {w:List ByteArray} {e:AstX} {b x:List AstS} {p:Int} (hw:w.length<=k) (hu:∀ u ∈ w,WL u) (hb:b.length<=k) (hb':∀ y ∈ b,DS k y) (hx:x.length<=k) (hx':∀ y ∈ x,DS k y) (he:DX k e):DS (k+1) (.mk kd w e b x p)
theorem DS.mono:∀ {k:Nat} {e:AstS},DS k e->∀ {k'},k<=k'->DS k' e:=by
 intro k e h
 induction h with
 | mk hw hu hb hb' hx hx' he ihb ihx =>
   intro k' hk
   match k',hk with
  | k'+1,hk=>exact .mk (by omega) hu (by omega) (fun y hy=>ihb y hy (Nat.le_of_succ_le_succ hk)) (by omega) (fun y hy=>ihx y hy (Nat.le_of_succ_le_succ hk)) (he.mono (Nat.le_of_succ_le_succ hk))
theorem Rk:AOk AF WL DX DS where
 ex:=fun h1 h2=>.mk h1 h2
 em:=fun hk h=>h.mono hk
 st:=fun h1 h2 h3 h4 h5 h6 h7=>.mk h1 h2 h4 h5 h6 h7 h3
 tm:=fun hk h=>h.mono hk
def Y1 (N:Nat) (l:List UInt8):PR LS (ByteArray × List AstS):=yY (LM N) (sts (LM N) AF 10000 10000).2 (bs [],l,0)
theorem B3 (N:Nat) {l:List UInt8} (hl:l.length<=9000):okP (Y1 N l) fun x _=>WL x.1∧x.2.length<=10000∧∀ t ∈ x.2,DS 10000 t:=by
 refine jjU (K5 N) (Tq (K5 N) Rk 10000 10000 (lRq _)).2 ⟨by show (0:Nat)<=10000;omega,by show l.length<=_;omega⟩ ?_ Rk
 show l.length+zC (bs [])<10000
 have:=U7 (bs [])
 omega
theorem jdN {s:ByteArray} (hs:s.size<=9000):PRel Eq (RML s) (fun x x'=>x.1=x'.1∧All2 (fun t a=>t=a.den) x.2 x'.2) (yY (MP s) (sts (MP s) AR 10000 10000).2 ⟨0,bs [],0⟩) (Y1 s.size (lst s)) :=
 jef (joi (by omega)) (NL (joi (by omega)) arf 10000 10000).2 _ _ ⟨rfl,rfl,0,rfl,Nat.zero_le _,rfl⟩
end Go.Proofs.YtiefjlcakpdfeaaGreat
namespace Go.Proofs.YtiefjlcakpdfeaaGreat
open Go Go.Sx Go.RowKit Rb
set_option maxRecDepth 100000
variable {n m:Nat} {ρ σ:Val}
theorem inR {k n:Nat} (h:k<n):jc (k:Int) n=true:=by unfold jc le lt ja;simp;omega
end Go.Proofs.YtiefjlcakpdfeaaGreat
namespace Go.Proofs.YtiefjlcakpdfeaaGreat
open Go Go.Sx Go.RowKit Rb
set_option maxRecDepth 100000
theorem jdB:∀ (l:List RS) (i:Nat) (t:RS),nth l i=some t->∀ f,f<8->nth (l.flatMap RS.cells) (i*8+f)=nth t.cells f
 | [],i,t,h,_,_=>by simp [nth] at h
 | a :: r, 0, t, h, f, hf => by
   have:a=t:=by simpa [nth] using h
   subst this;rw [List.flatMap_cons,jd,jd,Nat.zero_mul,Nat.zero_add,List.getElem?_append_left (by show f<8;exact hf)]
 | a :: r, i + 1, t, h, f, hf => by
   have h:nth r i=some t:=h;have hl:(RS.cells a).length=8:=rfl;rw [List.flatMap_cons,jd,List.getElem?_append_right (by rw [hl];omega),hl,← jd]
   have:(i+1)*8+f - 8=i*8+f:=by omega
   rw [this];exact jdB r i t h f hf
theorem Xi {l:List RS} {i:Nat} {t:RS} (h:nth l i=some t) {f:Nat} (hf:f<8):((jR l).at i).at f=match nth t.cells f with | some x=>.ofC x | none=>.zero:=by
 show (match nth (l.flatMap RS.cells) (i*8+f) with | some x=>Val.ofC x | none=>.zero)=_
 rw [jdB l i t h f hf]
theorem jjP {l : List RS} {i : Nat} {t : RS} (h : nth l i = some t) : (jg (jR l) i).kind = t.kind ∧ (jg (jR l) i).wn = t.wn ∧ (jg (jR l) i).wρ = .ofC (.sl [.str] t.wn t.wρ) ∧
  (jg (jR l) i).cond=⟨t.cond.op,t.cond.v,t.cond.n,.ofC (.sl (aw 0) t.cond.n t.cond.ρ)⟩∧(jg (jR l) i).bn=t.bn∧(jg (jR l) i).bρ=YH t.bn t.bρ∧(jg (jR l) i).en=t.en∧(jg (jR l) i).eρ=YH t.en t.eρ∧(jg (jR l) i).at_=t.at_:=by
 have h0:=Xi h (f:=0) (by omega)
 have h1:=Xi h (f:=1) (by omega)
 have h2:=Xi h (f:=2) (by omega)
 have h3:=Xi h (f:=3) (by omega)
 have h4:=Xi h (f:=4) (by omega)
 have h5:=Xi h (f:=5) (by omega)
 have h6:=Xi h (f:=6) (by omega)
 have h7:=Xi h (f:=7) (by omega)
 unfold jg;rw [h0,h1,h2,h3,h4,h5,h6,h7];exact ⟨rfl,rfl,rfl,rfl,rfl,rfl,rfl,rfl,rfl⟩
theorem Ot {R:RE} {n:Nat} {ρ:Val} {d:Int} (hn:n<=2) (hR:∀ i,opD (R (yd ρ i) (IntKind.wrap .i64 (d+1)))=true):∀ f (k:Nat),k<=n->n+1<=f+k->opD (Qi R n ρ (ja n) d f (k:Int))=true
 | 0,k,h1,h2=>by omega
 | f + 1, k, h1, h2 => by
   unfold Qi;rcases Nat.lt_or_ge k n with hk | hk
   ·have e1:lt (k:Int) (ja n)=true:=by unfold lt ja;simp;exact hk
    rw [e1,inR hk,Int.toNat_natCast,zF (by omega)]
    have:=hR k
    cases hr:R (yd ρ k) (IntKind.wrap .i64 (d+1)) with
    | none=>rw [hr] at this;cases this
    | some x =>
      simp only [cond_true];cases x != 0 with
     | true=>rfl
     | false=>exact Ot hn hR f (k+1) (by omega) (by omega)
   ·have e1:lt (k:Int) (ja n)=false:=by unfold lt ja;simp;omega
    rw [e1];rfl
theorem jfy (c:Nat):0<=W5 c∧W5 c<=2:=by
 unfold W5;split<;>exact ⟨by decide,by decide⟩
theorem V3:∀ f (e:RX) (d:Nat),d<=33->34<=f+d->opD (yb f e (d:Int))=true
 | 0, e, d, h1, h2 => by
   omega
 | f + 1, e, d, h1, h2 => by
   show opD (ZS (yb f) e (d:Int))=true;unfold ZS;cases hb:WV e with
  | true=>rfl
  | false =>
    cases hd:lt 32 (d:Int) with
   | true=>rfl
   | false =>
     have hd':d<=32:=by unfold lt at hd;simp at hd;omega
     have hn:e.n<=2:=by
      unfold WV at hb;simp only at hb;cases h0 : !(!(Nat.beq (kK e.op) 0)) with
      | true=>rw [h0] at hb;cases hb
      | false =>
        rw [h0] at hb;cases h3:(ja e.n != W5 (kK e.op)) with
       | true=>rw [h3] at hb;cases hb
       | false =>
         have:=jfy (kK e.op)
         unfold ja at h3;simp at h3;omega
     refine Ot hn (fun i => ?_) (e.n+1) 0 (by omega) (by omega)
     rw [zF (by omega)]
     exact V3 f _ (d+1) (by omega) (by omega)
theorem OH {n:Nat} {ρ:Val} (hn:n<=10000) (h:∀ i,i<n->(wAt ρ i).size<=10000):∀ f (k:Nat),k<=n->n+1<=f+k->ooD (Xz n ρ (ja n) f (k:Int))=true
 | 0,k,h1,h2=>by omega
 | f + 1, k, h1, h2 => by
   unfold Xz;rcases Nat.lt_or_ge k n with hk | hk
   ·have e1:lt (k:Int) (ja n)=true:=by unfold lt ja;simp;exact hk
    rw [e1,inR hk,Int.toNat_natCast,zF (by omega)]
    have:=Yk (h k hk)
    cases hr:jB (wAt ρ k) with
    | none=>rw [hr] at this;cases this
    | some x =>
      simp only [cond_true];cases x with
     | false=>rfl
     | true=>exact OH hn h f (k+1) (by omega) (by omega)
   ·have e1:lt (k:Int) (ja n)=false:=by unfold lt ja;simp;omega
    rw [e1];rfl
theorem IC {m n:Nat} {κ ρ:Val} (hmn:m=n) (hn:n<=10000) (h:∀ i,i<n->(wAt ρ i).size<=10000):∀ f (k:Nat),k<=m->m+1<=f+k->obD (eqL m κ n ρ (ja m) f (k:Int))=true
 | 0,k,h1,h2=>by omega
 | f + 1, k, h1, h2 => by
   subst hmn;unfold eqL;rcases Nat.lt_or_ge k m with hk | hk
   ·have e1:lt (k:Int) (ja m)=true:=by unfold lt ja;simp;exact hk
    rw [e1,inR hk,Int.toNat_natCast,zF (by omega),yM (h k hk)]
    simp only [cond_true];cases qp (nAt κ k) (wAt ρ k) with
    | false=>rfl
    | true=>exact IC rfl hn h f (k+1) (by omega) (by omega)
   ·have e1:lt (k:Int) (ja m)=false:=by unfold lt ja;simp;omega
    rw [e1];rfl
theorem OE {n:Nat} {ρ:Val} (hn:n<=10000) (h:∀ i,i<n->(wAt ρ i).size<=10000):obD (yq n ρ)=true:=by
 unfold yq;cases h0:(ja n==0) with
 | true=>rfl
 | false =>
   cases XH ρ with
  | false=>rfl
  | true =>
    show obD (NX n ρ)=true;unfold NX eqS;cases hm:(ja (j8 (jZ (wAt ρ 0))).length != ja (n - 1)) with
   | true=>rfl
   | false =>
     have he:(j8 (jZ (wAt ρ 0))).length=n - 1:=by unfold ja at hm;simp at hm;omega
     have hn0:0<n:=by unfold ja at h0;simp at h0;omega
     refine IC he (by omega) (fun i hi => ?_) _ 0 (by omega) (by omega)
     have:wAt (ρ.from 1) i=wAt ρ (1+i):=rfl
     rw [this];exact h _ (by omega)
theorem Uy {s:RS} (hn:s.wn<=10000) (h:∀ i,i<s.wn->(wAt s.wρ i).size<=10000):YF s=true:=by
 unfold YF;rw [OE hn h];have hb:ooD (Zj s.wn s.wρ)=true:=OH hn h _ 0 (by omega) (by omega)
 rw [hb];cases jb s.kind wDo<;>cases jb s.kind wIf<;>cases jb s.kind qQ<;>cases jb s.kind qo<;>cases jb s.kind kx<;>first | rfl | simp
inductive SR:AstS->AstS->Prop where
 | mk {kd:ByteArray} {w:List ByteArray} {e:AstX} {b b' x x':List AstS} {p p':Int} (hb:All2 SR b b') (hx:All2 SR x x'):SR (.mk kd w e b x p) (.mk kd w e b' x' p')
theorem QN:∀ l:List AstS,(AstS.dens l).length=l.length
 | []=>rfl
 | a::r=>by show (AstS.dens r).length+1=r.length+1;rw [QN r]
theorem FO:∀ (l:List AstS) (i:Nat),nth (AstS.dens l) i=(nth l i).map AstS.den
 | [],i=>by simp [AstS.dens,nth]
 | a::r,0=>rfl
 | a::r,i+1=>FO r i
theorem ao {α β:Type} {R:α->β->Prop}:∀ {l:List α} {r:List β},All2 R l r->∀ {i:Nat},i<l.length->∃ a b,nth l i=some a∧nth r i=some b∧R a b
 | _,_,.nil,i,h=>by simp at h
 | _,_,.cons ha hr,0,_=>⟨_,_,rfl,rfl,ha⟩
 | _,_,.cons ha hr,i+1,h=>ao hr (i:=i) (by simpa using h)
theorem kG {α:Type}:∀ {l:List α} {i:Nat} {a:α},nth l i=some a->a ∈ l
 | [],i,a,h=>by simp [nth] at h
 | b :: r, 0, a, h => by have : b = a := by simpa [nth] using h
                         subst this;simp
 | b::r,i+1,a,h=>List.mem_cons_of_mem _ (kG (l:=r) (i:=i) h)
def LieL (l:List AstS) (ρ:Val):Prop:=∀ i,ρ.at i=(jR (AstS.dens l)).at i
theorem LieL.box (b:List AstS) (n:Nat):LieL b (YH n (jR (AstS.dens b))):=fun _=>rfl
theorem JJ {l : List AstS} {ρ : Val} (h : LieL l ρ) {i : Nat} {kd : ByteArray} {w : List ByteArray} {e : AstX} {b x : List AstS} {p : Int} (hi : nth l i = some (.mk kd w e b x p)) :
  (jg ρ i).kind=kd∧(jg ρ i).wn=w.length∧(jg ρ i).wρ=.ofC (.sl [.str] w.length (zK w))∧(jg ρ i).cond=⟨e.den.op,e.den.v,e.den.n,.ofC (.sl (aw 0) e.den.n e.den.ρ)⟩ ∧
  (jg ρ i).bn=b.length∧LieL b (jg ρ i).bρ∧(jg ρ i).en=x.length∧LieL x (jg ρ i).eρ∧(jg ρ i).at_=p:=by
 have hn:nth (AstS.dens l) i=some (stR kd w e.den (AstS.dens b) (AstS.dens x) p):=by rw [FO,hi];rfl
 have e0:jg ρ i=jg (jR (AstS.dens l)) i:=jle (h i);rw [e0];obtain ⟨a1,a2,a3,a4,a5,a6,a7,a8,a9⟩:=jjP hn;refine ⟨a1,a2,a3,a4,a5.trans (QN b),?_,a7.trans (QN x),?_,a9⟩
 ·rw [a6];exact LieL.box b _
 ·rw [a8];exact LieL.box x _
theorem Xm {w:List ByteArray} (hu:∀ u ∈ w,WL u) {n:Nat}:∀ i,i<w.length->(wAt (.ofC (.sl [.str] n (zK w))) i).size<=10000:=by
 intro i hi;obtain ⟨u,hu2⟩:=qF w i hi;have h1:=Yw w i u hu2
 have h2:wAt (.ofC (.sl [.str] n (zK w))) i=u:=by
  show (((zK w).at i).at 0).S []=u;rw [h1];rfl
 rw [h2];exact hu u (kG hu2)
theorem TY {R : RC} {n : Nat} {ρ ρ' : Val} (hn : n <= 10000) (h : ∀ i, i < n -> R (Jz ρ i) (JI ρ i) = R (Jz ρ' i) (JI ρ' i) ∧ R (Jv ρ i) (JV ρ i) = R (Jv ρ' i) (JV ρ' i) ∧ cD (R (Jz ρ i) (JI ρ i)) = true ∧ cD (R (Jv ρ i) (JV ρ i)) = true) :
  ∀ f (k:Nat) (a b:Int),k<=n->n+1<=f+k->JY R n ρ (ja n) f (k:Int) a b=JY R n ρ' (ja n) f (k:Int) a b∧cD (JY R n ρ (ja n) f (k:Int) a b)=true
 | 0,k,a,b,h1,h2=>by omega
 | f + 1, k, a, b, h1, h2 => by
   unfold JY;rcases Nat.lt_or_ge k n with hk | hk
   ·have e1:lt (k:Int) (ja n)=true:=by unfold lt ja;simp;exact hk
    obtain ⟨g1,g2,g3,g4⟩:=h k hk;rw [e1,inR hk,Int.toNat_natCast,zF (by omega),← g1,← g2]
    simp only [cond_true];cases hb:R (Jz ρ k) (JI ρ k) with
    | none=>rw [hb] at g3;cases g3
    | some y =>
      cases he:R (Jv ρ k) (JV ρ k) with
     | none=>rw [he] at g4;cases g4
     | some z=>exact TY hn h f (k+1) _ _ (by omega) (by omega)
   ·have e1:lt (k:Int) (ja n)=false:=by unfold lt ja;simp;omega
    rw [e1];exact ⟨rfl,rfl⟩
theorem Nu:∀ (d k:Nat) (l l':List AstS) (ρ ρ':Val),k<d->All2 SR l l'->l.length<=10000->(∀ t ∈ l,DS k t)->k<=10000->LieL l ρ->LieL l' ρ'->cntF d l.length ρ=cntF d l'.length ρ'∧cD (cntF d l.length ρ)=true
 | 0,k,_,_,_,_,h,_,_,_,_,_,_=>by omega
 | d + 1, k, l, l', ρ, ρ', hk, hr, hl, hd, hk1, h1, h2 => by
   have hll:l'.length=l.length:=hr.length.symm;rw [hll];show JY (cntF d) l.length ρ (ja l.length) (l.length+1) 0 0 0=JY (cntF d) l.length ρ' (ja l.length) (l.length+1) 0 0 0∧cD (JY (cntF d) l.length ρ (ja l.length) (l.length+1) 0 0 0)=true;refine TY hl (fun i hi => ?_) (l.length+1) 0 0 0 (by omega) (by omega)
   obtain ⟨t,t',e1,e2,hs⟩:=ao hr hi;have hdt:=hd t (kG e1);cases hs with
  | mk hb hx =>
   cases hdt with
  | mk hw hu hb1 hb2 hx1 hx2 =>
   obtain ⟨a1,a2,a3,a4,a5,a6,a7,a8,a9⟩:=JJ h1 e1;obtain ⟨b1,b2,b3,b4,b5,b6,b7,b8,b9⟩:=JJ h2 e2;have c1:Jz ρ i=_:=a5;have c2:Jv ρ i=_:=a7;have c3:Jz ρ' i=_:=b5;have c4:Jv ρ' i=_:=b7;rw [c1,c2,c3,c4];obtain ⟨g1,g2⟩:=Nu d _ _ _ (JI ρ i) (JI ρ' i) (by omega) hb (by omega) hb2 (by omega) a6 b6
   obtain ⟨g3,g4⟩:=Nu d _ _ _ (JV ρ i) (JV ρ' i) (by omega) hx (by omega) hx2 (by omega) a8 b8
   exact ⟨g1,g3,g2,g4⟩
end Go.Proofs.YtiefjlcakpdfeaaGreat