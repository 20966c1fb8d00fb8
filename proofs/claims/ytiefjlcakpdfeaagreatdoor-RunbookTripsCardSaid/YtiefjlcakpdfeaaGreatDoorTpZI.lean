/-
 Part TpZI of the proof: RuK RuL RuM RuN.
-/
import Derived.Test.YtiefjlcakpdfeaaGreatDoorTpZH
import Derived.Test.YtiefjlcakpdfeaaGreatDoorTpZE
namespace Go.Proofs.YtiefjlcakpdfeaaGreatDoor
open Go Go.Sx Go.RowKit Rb
set_option maxRecDepth 100000
theorem N9:∀ u:Nat,0<u->10 ^ (Lib.nDigits u - 1)<=u:=by
 intro u
 induction u using Nat.strongRecOn with
 | _ u ih =>
   intro hu;by_cases h:u<10
   ·rw [Lib.nDigits_small h];show 1<=u;exact hu
   ·rw [Lib.nDigits_big h];have h1:=ih (u / 10) (by omega) (by omega)
    have h2:=Lib.nDigits_pos (u / 10)
    have:Lib.nDigits (u / 10)+1 - 1=(Lib.nDigits (u / 10) - 1)+1:=by omega
    rw [this,Nat.pow_succ];omega
theorem jaf {u:Nat} (h:u<10000000000):Lib.nDigits u<=10:=by
 rcases Nat.eq_zero_or_pos u with rfl | hu
 ·rw [Lib.nDigits_small (by omega)];omega
 ·have h1:=N9 u hu;rcases Nat.lt_or_ge 10 (Lib.nDigits u) with h2 | h2
  ·have:10 ^ 10<=10 ^ (Lib.nDigits u - 1):=Nat.pow_le_pow_right (by omega) (by omega)
   omega
  ·exact h2
theorem VD (u:Nat):jj (u:Int)=⟨(Lib.decDigits u).toArray⟩:=by unfold jj;rw [Lib.itoa_nonneg]
theorem YL (u:Nat):(jj (u:Int)).size=Lib.nDigits u:=by rw [VD];exact Lib.decDigits_length u
theorem jkn (u j:Nat):((Lib.dg u j).toNat:Int)=48+((u / 10 ^ j % 10:Nat):Int):=by
 unfold Lib.dg;rw [UInt8.toNat_ofNat']
 have:u / 10 ^ j % 10<10:=Nat.mod_lt _ (by omega)
 omega
theorem DK {u t:Nat} (h:t<Lib.nDigits u):jx (jj (u:Int)) t=48+((u / 10 ^ (Lib.nDigits u - 1 - t) % 10:Nat):Int):=by
 rw [VD];unfold jx;show (match nth (Lib.decDigits u) t with | some b=>(b.toNat:Int) | none=>0)=_
 rw [jd,Lib.decDigits_eq,List.getElem?_map,List.getElem?_range h];exact jkn _ _
theorem jdR {k:Nat} (h:k<10):zR (48+(k:Int))=true:=by
 unfold zR;rw [Je.2 (by omega),Je.2 (by omega)]
 rfl
theorem Ot {u : Nat} (hu : u <= 1073741824) : ∀ (f k : Nat), k <= Lib.nDigits u -> Lib.nDigits u + 1 <= f + k ->
  Qj f (jj (u:Int)) (ja (Lib.nDigits u)) ((u / 10 ^ (Lib.nDigits u - k):Nat):Int) (k:Int)=some (false,(u:Int),(Lib.nDigits u:Int))
 | 0,k,h1,h2=>by omega
 | f + 1, k, h1, h2 => by
   have hnd:=jaf (u:=u) (by omega)
   unfold Qj;rw [YL];rcases Nat.lt_or_ge k (Lib.nDigits u) with hk | hk
   ·have hm:u / 10 ^ (Lib.nDigits u - 1 - k) % 10<10:=Nat.mod_lt _ (by omega)
    rw [yg.2 (show (k:Int)<ja (Lib.nDigits u) by rw [t64];omega),inR hk,Int.toNat_natCast,DK hk,jdR hm,zp (by omega)]
    have e1:Lib.nDigits u - k=(Lib.nDigits u - 1 - k)+1:=by omega
    have e2:u / 10 ^ (Lib.nDigits u - k)=u / 10 ^ (Lib.nDigits u - 1 - k) / 10:=by rw [e1,Nat.pow_succ,Nat.div_div_eq_div_mul]
    have e3:u / 10 ^ (Lib.nDigits u - 1 - k)<=u:=Nat.div_le_self _ _;have e6:Lib.nDigits u - (k+1)=Lib.nDigits u - 1 - k:=by omega
    have key:=Ot hu f (k+1) (by omega) (by omega)
    rw [e6] at key;rw [e2];generalize u / 10 ^ (Lib.nDigits u - 1 - k)=Q at hm e3 key ⊢
    have e4:IntKind.wrap .u8 (48+((Q % 10:Nat):Int) - 48)=((Q % 10:Nat):Int):=by
     have:48+((Q % 10:Nat):Int) - 48=((Q % 10:Nat):Int):=by omega
     rw [this];generalize Q % 10=m at hm
     have:m=0∨m=1∨m=2∨m=3∨m=4∨m=5∨m=6∨m=7∨m=8∨m=9:=by omega
     rcases this with rfl | rfl | rfl | rfl | rfl | rfl | rfl | rfl | rfl | rfl<;>rfl
    have e5:10*((Q / 10:Nat):Int)+((Q % 10:Nat):Int)=(Q:Int):=by omega
    rw [e4,Ro.w64_id (x:=10*((Q / 10:Nat):Int)) (by omega) (by omega),Ro.w64_id (x:=((Q % 10:Nat):Int)) (by omega) (by omega),e5,Ro.w64_id (by omega) (by omega)]
    exact key
   ·obtain rfl:k=Lib.nDigits u:=by omega
    have e:lt ((Lib.nDigits u:Nat):Int) (ja (Lib.nDigits u))=false:=by
     cases hq:lt ((Lib.nDigits u:Nat):Int) (ja (Lib.nDigits u)) with
     | false=>rfl
     | true=>have:=yg.1 hq;simp only [t64] at this;omega
    rw [e,Nat.sub_self,Nat.pow_zero,Nat.div_one];rfl
theorem By {v:Int} (h0:0<=v) (h1:v<=1073741824):jt (jj v)=some (v,true):=by
 obtain ⟨u,rfl⟩ : ∃ u:Nat,v=(u:Int):=⟨v.toNat,by omega⟩
 have hu:u<=1073741824:=by omega
 have hnd:=jaf (u:=u) (by omega)
 have hp:=Lib.nDigits_pos u;unfold jt;rw [YL]
 have c1:jb (jj (u:Int)) (bs [])=false:=by
  cases hq:jb (jj (u:Int)) (bs []) with
  | false=>rfl
  | true =>
    have:=qW hq
    have hs:=YL u;rw [this] at hs;have hs:0=Lib.nDigits u:=hs;omega
 have c2:(bif lt 1 (ja (Lib.nDigits u)) then jx (jj (u:Int)) 0==48 else false)=false:=by
  cases hq:lt 1 (ja (Lib.nDigits u)) with
  | false=>rfl
  | true =>
    have hq:=yg.1 hq;simp only [t64] at hq;show (jx (jj (u:Int)) 0==48)=false;rw [DK (by omega),Nat.sub_zero]
    have h2:0<u:=by
     rcases Nat.eq_zero_or_pos u with rfl | h
     ·rw [Lib.nDigits_small (by omega)] at hq;omega
     ·exact h
    have h3:=N9 u h2;have h4:=Lib.lt_pow_nDigits u;have h5:Lib.nDigits u=(Lib.nDigits u - 1)+1:=by omega
    rw [h5,Nat.pow_succ] at h4;have h6:0<10 ^ (Lib.nDigits u - 1):=Nat.pow_pos (by omega)
    have h7:1<=u / 10 ^ (Lib.nDigits u - 1):=(Nat.le_div_iff_mul_le h6).2 (by omega)
    have h8:u / 10 ^ (Lib.nDigits u - 1)<10:=Nat.div_lt_of_lt_mul (by omega)
    rw [Nat.mod_eq_of_lt h8,beq_eq_false_iff_ne];omega
 have c3:lt 10 (ja (Lib.nDigits u))=false:=by
  cases hq:lt 10 (ja (Lib.nDigits u)) with
  | false=>rfl
  | true=>have:=yg.1 hq;simp only [t64] at this;omega
 rw [c1,c2,c3];simp only [cond_false];have h4:=Lib.lt_pow_nDigits u;have key:=Ot hu (Lib.nDigits u+1) 0 (by omega) (by omega)
 rw [Nat.sub_zero,Nat.div_eq_of_lt h4] at key;rw [show ((0:Nat):Int)=0 from rfl] at key;rw [key];simp only;rw [Je.2 (by omega)]
theorem jdy:∀ i:Nat,i<10->zY (zh (bs [115]) (bs [UInt8.ofNat (48+i)]))=true∧JB (zh (bs [115]) (bs [UInt8.ofNat (48+i)]))=i:=by
 intro i hi
 have:i=0∨i=1∨i=2∨i=3∨i=4∨i=5∨i=6∨i=7∨i=8∨i=9:=by omega
 rcases this with rfl | rfl | rfl | rfl | rfl | rfl | rfl | rfl | rfl | rfl<;>exact ⟨by kernel_rfl,by kernel_rfl⟩
theorem jdl {v:Int} (h0:0<=v) (h1:v<=9):∃ i:Nat,i<10∧v=i∧jj v=bs [UInt8.ofNat (48+i)]:=by
 obtain ⟨u,rfl⟩ : ∃ u:Nat,v=(u:Int):=⟨v.toNat,by omega⟩
 exact ⟨u,by omega,rfl,by rw [VD,Lib.decDigits_one (by omega)];rfl⟩
theorem numI:NumT jj where
 nv:=fun v h0 h1=>By h0 h1
 sv:=fun v h0 h1=>by
  obtain ⟨i,hi,rfl,e⟩:=jdl h0 h1;rw [e];exact jdy i hi
def jfp (t:ByteArray):Bool:=match lst t with
 | []=>false
 | c::r=>bif qm c&&r.all qm then true else r.isEmpty&&(!qm c&&KX c)
theorem jeO {t:ByteArray} (h:jfp t=true):Bj t:=by
 unfold jfp at h;split at h
 ·cases h
 ·rename_i c r e;cases hc:(qm c&&r.all qm) with
  | true =>
    rw [aTq] at hc;exact .inl ⟨c,r,e,hc.1,fun x hx=>List.all_eq_true.1 hc.2 x hx⟩
  | false =>
    rw [hc] at h;simp only [cond_false,aTq,Bool.not_eq_true'] at h;obtain ⟨h1,h2,h3⟩:=h
    have:r=[]:=List.isEmpty_iff.1 h1
    subst this;exact .inr ⟨c,e,h2,h3⟩
def wdTok (t:ByteArray):Prop:=lst t ≠ []∧∀ c ∈ lst t,qm c=true
theorem wdTok.ok {t:ByteArray} (h:wdTok t):Bj t:=by
 obtain ⟨h1,h2⟩:=h;cases hl:lst t with
 | nil=>exact absurd hl h1
 | cons c r =>
   rw [hl] at h2;exact .inl ⟨c,r,hl,h2 c List.mem_cons_self,fun x hx=>h2 x (List.mem_cons_of_mem _ hx)⟩
def qF (t:ByteArray):Prop:=Bj t∧t.size<=10000
def tkB (t:ByteArray):Bool:=jfp t&&Nat.ble t.size 100
theorem QY {t:ByteArray} (h:tkB t=true):qF t:=by
 unfold tkB at h;rw [aTq,Nat.ble_eq] at h;exact ⟨jeO h.1,by omega⟩
theorem Oq {s:ByteArray} (hs:s.size<=10000):∀ f (k:Nat),k<=s.size->s.size+1<=f+k->kI f s (ja s.size) (k:Int)=some true->∀ c ∈ (lst s).drop k,qm c=true
 | 0,k,h1,h2,_=>by omega
 | f + 1, k, h1, h2, h => by
   unfold kI at h;rw [ltS] at h;rcases Nat.lt_or_ge k s.size with hk | hk
   ·rw [WT hk,inR hk,zp (by omega),Int.toNat_natCast] at h
    simp only [cond_true] at h;obtain ⟨c,e1,e2⟩:=JV hk;rw [e2] at h;cases hw:QB (c.toNat:Int) with
    | false=>rw [hw] at h;cases h
    | true =>
      rw [hw] at h;intro x hx;rw [e1] at hx;rcases List.mem_cons.1 hx with rfl | hx
      ·exact hw
      ·exact Oq hs f (k+1) (by omega) (by omega) h x hx
   ·intro x hx;rw [List.drop_of_length_le (by rw [yx];omega)] at hx
    cases hx
theorem GM {s:ByteArray} (hs:s.size<=10000) (h:jF s=some true):qF s:=by
 have hp:=TE (s:=s) (by rw [h];rfl)
 unfold jF at h;cases hw:kI (s.size+1) s (ja s.size) 0 with
 | none=>rw [hw] at h;cases h
 | some b =>
   rw [hw] at h;cases b with
  | false=>cases h
  | true =>
    have:=Oq hs (s.size+1) 0 (by omega) (by omega) hw
    refine ⟨wdTok.ok ⟨fun e => ?_,this⟩,hs⟩
    have:(lst s).length=0:=by rw [e];rfl
    rw [yx] at this;unfold jc le lt ja at hp;simp at hp;omega
theorem Ld {c:Int} (h:zR c=true):QB c=true:=by unfold QB;rw [h,Bool.or_true]
theorem DF {s:ByteArray} (hs:s.size<=10000):∀ f (k:Nat) (n:Int),k<=s.size->s.size+1<=f+k->nfB (Qj f s (ja s.size) n (k:Int))=false->∀ c ∈ (lst s).drop k,qm c=true
 | 0,k,n,h1,h2,_=>by omega
 | f + 1, k, n, h1, h2, h => by
   unfold Qj at h;rw [ltS] at h;rcases Nat.lt_or_ge k s.size with hk | hk
   ·rw [WT hk,inR hk,zp (by omega),Int.toNat_natCast] at h
    simp only [cond_true] at h;obtain ⟨c,e1,e2⟩:=JV hk;rw [e2] at h;cases hw:zR (c.toNat:Int) with
    | false=>rw [hw] at h;cases h
    | true =>
      rw [hw] at h;intro x hx;rw [e1] at hx;rcases List.mem_cons.1 hx with rfl | hx
      ·exact Ld hw
      ·exact DF hs f (k+1) _ (by omega) (by omega) h x hx
   ·intro x hx;rw [List.drop_of_length_le (by rw [yx];omega)] at hx
    cases hx
theorem Le {s:ByteArray} (hs:s.size<=10000) (h:nmO (jt s)=true):qF s:=by
 unfold jt at h;cases hc:(bif bif jb s (bs []) then true else bif lt 1 (ja s.size) then jx s 0==48 else false then true else lt 10 (ja s.size)) with
 | true=>rw [hc] at h;cases h
 | false =>
   rw [hc] at h;simp only [cond_false] at h
   have hne:jb s (bs [])=false:=by
    cases hq:jb s (bs []) with
    | false=>rfl
    | true=>rw [hq] at hc;cases hc
   cases hn:Qj (s.size+1) s (ja s.size) 0 0 with
  | none=>rw [hn] at h;cases h
  | some y =>
    obtain ⟨b,n,i⟩:=y;cases b with
   | true=>rw [hn] at h;cases h
   | false =>
     have:=DF hs (s.size+1) 0 0 (by omega) (by omega) (by rw [show ((0:Nat):Int)=0 from rfl,hn];rfl)
     refine ⟨wdTok.ok ⟨fun e => ?_,this⟩,hs⟩
     have:s=bs []:=Fw e
     rw [this,qh] at hne;cases hne
theorem Uk {s:ByteArray} (h:zY s=true):qF s:=by
 unfold zY Rh at h;cases h1:(ja s.size != 2) with
 | true=>rw [h1] at h;cases h
 | false =>
 rw [h1] at h;simp only [cond_false] at h;have hs:s.size=2:=by simp only [t64] at h1;simp at h1;omega
 cases h2:(jx s 0 != 115) with
 | true=>rw [h2] at h;cases h
 | false =>
 rw [h2] at h;simp only [cond_false,Bool.not_not] at h;have h2:jx s 0=115:=by simpa using h2
 obtain ⟨a,e1,e2⟩:=JV (s:=s) (k:=0) (by omega)
 obtain ⟨b,e3,e4⟩:=JV (s:=s) (k:=1) (by omega)
 rw [h2] at e2;rw [e4] at h;have e5:(lst s).drop 2=[]:=List.drop_of_length_le (by rw [yx];omega)
 rw [e5] at e3;rw [List.drop_zero,e3] at e1;refine ⟨wdTok.ok ⟨fun e=>(by rw [e] at e1;cases e1),fun c hc => ?_⟩,by omega⟩
 rw [e1] at hc;simp only [List.mem_cons,List.not_mem_nil,or_false] at hc;rcases hc with rfl | rfl
 ·unfold qm;rw [← e2]
  kernel_rfl
 ·exact Ld h
theorem Dp {k:Int} {w:ByteArray} (hs:w.size<=10000) (h:qn k w=true):qF w:=by
 unfold qn at h;cases h1:k==1 with
 | true=>rw [h1] at h;exact Le hs h
 | false =>
 rw [h1] at h;simp only [cond_false] at h;cases h2:k==2 with
 | true =>
   rw [h2] at h;simp only [cond_true] at h;cases h3:zY w with
  | true=>exact Uk h3
  | false =>
    rw [h3] at h;rw [qW (show jb w O6=true from h)];exact QY (by kernel_rfl)
 | false=>rw [h2] at h;exact Uk h
theorem jgg {w:ByteArray} (h:Nat.beq (qx w) 0=false):qF w:=by
 cases h1:Gf (eqs w [k7,Q3,Q6,QZ,Jc,wUp,YS,yh,yk,kj,QH]) with
 | true =>
   have:=KA h1
   have hall:[k7,Q3,Q6,QZ,Jc,wUp,YS,yh,yk,kj,QH].all tkB=true:=by kernel_rfl
   exact QY (List.all_eq_true.1 hall w this)
 | false =>
   exfalso
   have h1:(jb w k7||(jb w Q3||(jb w Q6||(jb w QZ||(jb w Jc||(jb w wUp||(jb w YS||(jb w yh||(jb w yk||(jb w kj||jb w QH))))))))))=false:=h1;simp only [Bool.or_eq_false_iff] at h1;obtain ⟨c1,c2,c3,c4,c5,c6,c7,c8,c9,c10,c11⟩:=h1;unfold qx at h;rw [c1,c2,c3,c4,c5,c6,c7,c8,c9,c10,c11] at h;cases h
theorem GQ {w:ByteArray} (h:j7 w ≠ 0):qF w:=by
 cases h1:Gf (eqs w [j8,jW,zg,qS,qe,zI,qU,qq,jO,wOr,z8,wEq,wLt,wGt,zZ,qJ]) with
 | true =>
   have:=KA h1
   have hall:[j8,jW,zg,qS,qe,zI,qU,qq,jO,wOr,z8,wEq,wLt,wGt,zZ,qJ].all tkB=true:=by kernel_rfl
   exact QY (List.all_eq_true.1 hall w this)
 | false =>
   exfalso
   have h1:(jb w j8||(jb w jW||(jb w zg||(jb w qS||(jb w qe||(jb w zI||(jb w qU||(jb w qq||(jb w jO||(jb w wOr||(jb w z8||(jb w wEq||(jb w wLt||(jb w wGt||(jb w zZ||jb w qJ)))))))))))))))=false:=h1;simp only [Bool.or_eq_false_iff] at h1;obtain ⟨h1,h2,h3,h4,h5,h6,h7,h8,h9,h10,h11,h12,h13,h14,h15,h16⟩:=h1;refine h ?_;unfold j7;rw [h1,h2,h3,h4,h5,h6,h7,h8,h9,h10,h11,h12,h13,h14,h15,h16];rfl
theorem jgC {v:Int} (h0:0<=v) (h1:v<=1073741824):qF (jj v):=by
 refine Le ?_ (by rw [By h0 h1];rfl)
 obtain ⟨u,rfl⟩ : ∃ u:Nat,v=(u:Int):=⟨v.toNat,by omega⟩
 have:=jaf (u:=u) (by omega)
 rw [YL];omega
theorem jdr {v:Int} (h0:0<=v) (h1:v<=9):qF (zh (bs [115]) (jj v)):=Uk (numI.sv v h0 h1).1
theorem LA {d:Nat} {e:AstX} (h:WX d e):(∀ t ∈ prX jj e,qF t)∧∀ t ∈ prO jj e,qF t:=by
 have sg:∀ w ∈ [qK,zr],qF w:=fun w hw=>QY (List.all_eq_true.1 (show [qK,zr].all tkB=true by kernel_rfl) w hw)
 have leaf:∀ (op:ByteArray) (v:Int),(∀ t ∈ qQ jj op v,qF t)->(∀ t ∈ prX jj (.mk op v []),qF t)∧∀ t ∈ prO jj (.mk op v []),qF t:=fun op v h=>by
  have e1:prX jj (.mk op v [])=qQ jj op v:=by unfold prX yZ;rfl
  have e2:prO jj (.mk op v [])=qQ jj op v:=by unfold prO yZ;rfl
  rw [e1,e2];exact ⟨h,h⟩
 have par:∀ l:List ByteArray,(∀ t ∈ l,qF t)->∀ t ∈ qK::(l++[zr]),qF t:=fun l hl t ht=>by
  rcases List.mem_cons.1 ht with rfl | ht
  ·exact sg _ (by simp)
  ·rcases List.mem_append.1 ht with h | h
   ·exact hl t h
   ·simp only [List.mem_cons,List.not_mem_nil,or_false] at h;subst h;exact sg _ (by simp)
 induction h with
 | @num _ v h0 h1 =>
   exact leaf _ _ fun t ht=>by
    have:t ∈ [jj v]:=ht
    simp only [List.mem_cons,List.not_mem_nil,or_false] at this;subst this;exact jgC h0 h1
 | @site _ op v hc h0 h1 =>
   exact leaf _ _ fun t ht=>by
    have e0:qQ jj op v=[op,zh (bs [115]) (jj v)]:=by unfold qQ;rw [hc];rfl
    rw [e0] at ht;simp only [List.mem_cons,List.not_mem_nil,or_false] at ht;rcases ht with rfl | rfl
    ·exact GQ (by rw [hc];decide)
    ·exact jdr h0 h1
 | @plain _ op hc =>
   exact leaf _ _ fun t ht=>by
    have e0:qQ jj op 0=[op]:=by unfold qQ;rw [hc];rfl
    rw [e0] at ht;simp only [List.mem_cons,List.not_mem_nil,or_false] at ht;subst ht;exact GQ (by rw [hc];decide)
 | @neg _ a ha ih =>
   have e1:prX jj (.mk jO 0 [a])=jO::prO jj a:=jas jj a;have e2:prO jj (.mk jO 0 [a])=qK::((jO::prO jj a)++[zr]):=jg3 jj a
   have h:∀ t ∈ jO::prO jj a,qF t:=fun t ht=>by
    rcases List.mem_cons.1 ht with rfl | ht
    ·exact GQ (by decide +kernel)
    ·exact ih.2 t ht
   rw [e1,e2];exact ⟨h,par _ h⟩
 | @bin _ op a b hc ha hb ih1 ih2 =>
   have e1:prX jj (.mk op 0 [a,b])=prO jj a++op::prO jj b:=jaW jj op a b;have e2:prO jj (.mk op 0 [a,b])=qK::((prO jj a++op::prO jj b)++[zr]):=jhh jj op a b
   have h:∀ t ∈ prO jj a++op::prO jj b,qF t:=fun t ht=>by
    rcases List.mem_append.1 ht with ht | ht
    ·exact ih1.2 t ht
    ·rcases List.mem_cons.1 ht with rfl | ht
     ·exact GQ (by rw [hc];decide)
     ·exact ih2.2 t ht
   rw [e1,e2];exact ⟨h,par _ h⟩
theorem ZT:∀ {l:List AstS},(∀ a ∈ l,∀ t ∈ prS jj a,qF t)->∀ t ∈ prL jj l,qF t
 | [], _, t, ht => by
   have e:prL jj []=[]:=by unfold prL;rfl
   rw [e] at ht;cases ht
 | a :: r, h, t, ht => by
   have e:prL jj (a::r)=prS jj a++prL jj r:=by conv=>lhs;unfold prL
   rw [e] at ht;rcases List.mem_append.1 ht with ht | ht
   ·exact h a List.mem_cons_self t ht
   ·exact ZT (l:=r) (fun y hy=>h y (List.mem_cons_of_mem _ hy)) t ht
theorem Gd {l:List ByteArray} (h:∀ t ∈ l,qF t):∀ t ∈ qy l,qF t:=fun t ht=>by
 have sg:∀ w ∈ [JR,yD],qF w:=fun w hw=>QY (List.all_eq_true.1 (show [JR,yD].all tkB=true by kernel_rfl) w hw)
 unfold qy at ht;rcases List.mem_cons.1 ht with rfl | ht
 ·exact sg _ (by simp)
 ·rcases List.mem_append.1 ht with h' | h'
  ·exact h t h'
  ·simp only [List.mem_cons,List.not_mem_nil,or_false] at h';subst h';exact sg _ (by simp)
theorem jfx {kd:ByteArray} {b x:List ByteArray} {hb hx:Bool} (h1:∀ t ∈ b,qF t) (h2:∀ t ∈ x,qF t):∀ t ∈ Zx kd b x hb hx,qF t:=fun t ht=>by
 have sg:∀ w ∈ [ar,yc,ql],qF w:=fun w hw=>QY (List.all_eq_true.1 (show [ar,yc,ql].all tkB=true by kernel_rfl) w hw)
 have opt:∀ (c:Bool) (w:ByteArray) (l:List ByteArray),w ∈ [ar,yc,ql]->(∀ t ∈ l,qF t)->∀ t ∈ (bif c then [] else w::l),qF t:=fun c w l hw hl t ht=>by
  cases c with
  | true=>cases ht
  | false =>
    rcases List.mem_cons.1 ht with rfl | ht
    ·exact sg _ hw
    ·exact hl t ht
 unfold Zx at ht;cases hk:jb kd wDo with
 | true =>
   rw [hk] at ht;rcases List.mem_append.1 ht with ht | ht
   ·exact opt _ _ _ (by simp) h1 t ht
   ·simp only [List.mem_cons,List.not_mem_nil,or_false] at ht;subst ht;exact sg _ (by simp)
 | false =>
 rw [hk] at ht;simp only [cond_false] at ht;cases hk2:jb kd wIf with
 | true =>
   rw [hk2] at ht;rcases List.mem_append.1 ht with ht | ht
   ·exact h1 t ht
   ·exact opt _ _ _ (by simp) h2 t ht
 | false =>
 rw [hk2] at ht;simp only [cond_false] at ht;cases hk3:jb kd jK with
 | true=>rw [hk3] at ht;exact h1 t ht
 | false =>
   rw [hk3] at ht;simp only [cond_false,List.mem_cons,List.not_mem_nil,or_false] at ht;subst ht;exact sg _ (by simp)
theorem jj0 {K:Nat}:∀ {D:Nat} {a:AstS},WS K D a->∀ {k:Nat},DV k a->∀ t ∈ prS jj a,qF t:=by
 have key:∀ (kd:ByteArray) (w:List ByteArray) (e:AstX) (b x:List AstS) (p:Int),kd ∈ [wDo,wIf,jK,jT,z6]->(∀ t ∈ w,qF t)->(∀ t ∈ (bif ze kd then prX jj e else []),qF t)->(∀ t ∈ prL jj b,qF t)->(∀ t ∈ prL jj x,qF t)->∀ t ∈ prS jj (.mk kd w e b x p),qF t:=fun kd w e b x p h0 h1 h2 h3 h4 t ht=>by
  have e1:prS jj (.mk kd w e b x p)=kd::(w++((bif ze kd then prX jj e else [])++Zx kd (qy (prL jj b)) (qy (prL jj x)) b.isEmpty x.isEmpty)):=by conv=>lhs;unfold prS
  rw [e1] at ht;rcases List.mem_cons.1 ht with rfl | ht
  ·exact QY (List.all_eq_true.1 (show [wDo,wIf,jK,jT,z6].all tkB=true by kernel_rfl) _ h0)
  ·rcases List.mem_append.1 ht with ht | ht
   ·exact h1 t ht
   ·rcases List.mem_append.1 ht with ht | ht
    ·exact h2 t ht
    ·exact jfx (Gd h3) (Gd h4) t ht
 have hz:∀ t ∈ prL jj [],qF t:=ZT fun a ha=>by cases ha
 have hn:∀ t ∈ ([]:List ByteArray),qF t:=fun t ht=>by cases ht
 intro D a h
 induction h with
 | @dos _ w0 ws b p hk ho hs hl hb ih =>
   intro k hd;cases hd with
  | mk hw hu hb1 hb2 _ _ =>
   refine key _ _ _ _ _ _ (by simp) (fun t ht => ?_) hn (ZT fun a ha=>ih a ha (hb2 a ha)) hz
   rcases List.mem_cons.1 ht with rfl | ht
   ·exact jgg hk
   ·obtain ⟨j,hj⟩:=kR ht
    have:ws[j]? = some t:=by rw [← jd];exact hj
    obtain ⟨c,hc,ho⟩:=ho.nth' this;exact Dp (hs t ht) ho
 | ifs he hl hb hl2 hx ih1 ih2 =>
   intro k hd;cases hd with
  | mk hw hu hb1 hb2 hx1 hx2 =>
   exact key _ _ _ _ _ _ (by simp) hn (LA he).1 (ZT fun a ha=>ih1 a ha (hb2 a ha)) (ZT fun a ha=>ih2 a ha (hx2 a ha))
 | reps h0 h1 hl hb ih =>
   intro k hd;cases hd with
  | mk hw hu hb1 hb2 _ _ =>
   exact key _ _ _ _ _ _ (by simp) hn (LA (WX.num (d:=0) h0 (by omega))).1 (ZT fun a ha=>ih a ha (hb2 a ha)) hz
 | reqs he =>
   intro k hd;exact key _ _ _ _ _ _ (by simp) hn (LA he).1 hz hz
 | says hw hl =>
   intro k hd;cases hd with
  | mk _ hu _ _ _ _ =>
   exact key _ _ _ _ _ _ (by simp) (fun t ht=>GM (hu t ht) (hw t ht)) hn hz hz
theorem jeR {y:PU} {t:List ByteArray} (h:Rp y t):Xb y.ρ y.n=t:=by
 obtain ⟨h1,h2⟩:=h;refine List.ext_getElem? fun i => ?_;rcases Nat.lt_or_ge i y.n with hi | hi
 ·obtain ⟨u,hu⟩:=qV t i (by omega)
  rw [Gp _ _ _ hi,h2 i u hu,← jd,hu]
 ·rw [List.getElem?_eq_none (by rw [ki];exact hi),List.getElem?_eq_none (by omega)]
theorem Oe:∀ t:List ByteArray,Lib.joinTail [32] (t.map (·.data.toList))=yX t
 | []=>rfl
 | a :: r => by
   have:=Oe r
   unfold Lib.joinTail at this ⊢;rw [List.map_cons,List.map_cons,List.flatten_cons,this];rfl
theorem I8 {y:PU} {t:List ByteArray} (h:Rp y t):joinL y.n y.ρ spc=Qb t:=by
 unfold joinL;rw [jeR h];cases t with
 | nil=>rfl
 | cons a r =>
   rw [List.map_cons,Lib.join_cons];exact congrArg (lst a ++ ·) (Oe r)
theorem Ft:∀ {t:List ByteArray},(∀ u ∈ t,qF u)->(yX t).length<=10001*t.length
 | [],_=>lRq _
 | a :: r, h => by
   have h1:=(h a List.mem_cons_self).2;have h2:=Ft (t:=r) fun u hu=>h u (List.mem_cons_of_mem _ hu);show ((lst a++yX r).length+1)<=_;rw [List.length_append,yx,List.length_cons];omega
theorem jfc {t:List ByteArray} (h:∀ u ∈ t,qF u):(Qb t).length<=10001*t.length:=by
 cases t with
 | nil=>exact lRq _
 | cons a r =>
   have h1:=(h a List.mem_cons_self).2;have h2:=Ft (t:=r) fun u hu=>h u (List.mem_cons_of_mem _ hu);show (lst a++yX r).length<=_;rw [List.length_append,yx,List.length_cons];omega
def yI (nm:ByteArray) (l:List AstS):ByteArray:=⟨⟨Qb (yo jj nm l)⟩⟩
theorem jiw {y:PU} {t:List ByteArray} (h:Rp y t) (ht:∀ u ∈ t,qF u) (hl:t.length<=yF):GF y=some (bif lt 8192 (ja (⟨⟨Qb t⟩⟩ : ByteArray).size) then (bs [],5) else (⟨⟨Qb t⟩⟩,0)):=by
 have e1:Jh y.n y.ρ spc=⟨⟨Qb t⟩⟩:=by unfold Jh;rw [I8 h]
 have e2:J1 y.n y.ρ spc=true:=by
  have:=jfc ht
  unfold J1;rw [I8 h,h.1,aTq,Nat.ble_eq,Nat.ble_eq];unfold yF at hl;constructor<;>omega
 unfold GF;rw [e1,e2];rfl
structure Good (nm:ByteArray) (l:List AstS):Prop where
 hn:yY nm=true
 hi:za nm=true
 hs:nm.size<=10000
 hl:l.length<=300
 hw:∀ t ∈ l,WS 10000 300 t
 hd:∀ t ∈ l,DV 300 t
 hp:(prL jj l).length<=2400
theorem Good.tok {nm:ByteArray} {l:List AstS} (g:Good nm l):∀ u ∈ yo jj nm l,qF u:=fun u hu=>by
 unfold yo at hu;rcases List.mem_cons.1 hu with rfl | hu
 ·exact QY (by kernel_rfl)
 ·rcases List.mem_cons.1 hu with rfl | hu
  ·refine GM g.hs ?_;have h1:=g.hi;unfold za at h1;obtain ⟨h2,_⟩:=zK h1;obtain ⟨h3,_⟩:=zK h2;obtain ⟨h4,_⟩:=zK h3;obtain ⟨h5,_⟩:=zK h4;cases hq:jF u with
   | none=>rw [hq] at h5;cases h5
   | some b=>rw [hq] at h5;have:b=true:=h5;rw [this]
  ·exact Gd (ZT fun a ha=>jj0 (g.hw a ha) (g.hd a ha)) u hu
abbrev Bp:BE':=bpF (prF 33) 301
theorem GH {nm : ByteArray} {l : List AstS} (g : Good nm l) {f d : Nat} {ρ : Val} (hρ : LieL l ρ) (hf : jz f d nm l.length ρ = some 0) :
  Yx f d Bp nm l.length ρ=some (bif lt 8192 (ja (yI nm l).size) then (bs [],5) else (yI nm l,0)):=by
 have hlen:(yo jj nm l).length<=2410:=by
  have:=g.hp
  unfold yo qy;simp only [List.length_cons,List.length_append,List.length_nil];omega
 obtain ⟨x,h1,r1⟩:=Hp (w:=[kB,nm]) rp0 (jc0 kB nm) (by show 0+2<=yF;unfold yF;omega)
 obtain ⟨y,h2,r2⟩:=Hx (K:=10000) (k:=33) (lRq _) (lRq _) 300 l (by have:=g.hl;omega) g.hw ρ x _ hρ r1 (by
  have:=g.hp
  unfold qy yF;simp only [List.length_cons,List.length_append,List.length_nil];omega)
 have r3:Rp y (yo jj nm l):=r2;unfold Yx;rw [hf];simp only [opD,opN,nd,cond_true];rw [show ((0:Int) != 0)=false by decide,h1]
 show (bpF (prF 33) (300+1) l.length ρ x).bind GF=_;rw [h2];exact jiw r3 g.tok (by unfold yF;omega)
theorem jnn {a b:AstS} (h:SR a b):SR b a:=by
 suffices H:∀ n (a b:AstS),SizeOf.sizeOf a<=n->SR a b->SR b a from H _ a b (lRq _) h
 intro n
 induction n with
 | zero=>intro a b ha _;cases a;simp at ha
 | succ n ih =>
   intro a b ha h;cases h with
  | mk hb hx =>
    rename_i kd w e b b' x x' p p'
    have hL:∀ {l l':List AstS},SizeOf.sizeOf l<=n->All2 SR l l'->All2 SR l' l:=by
     intro l l' hl h
     induction h with
     | nil=>exact .nil
     | cons h1 _ ihr =>
       simp at hl;exact .cons (ih _ _ (by omega) h1) (ihr (by omega))
    simp at ha;exact .mk (hL (by omega) hb) (hL (by omega) hx)
theorem Om:∀ {l l':List AstS},All2 SR l l'->All2 SR l' l
 | _,_,.nil=>.nil
 | _,_,.cons h1 h2=>.cons (jnn h1) (Om h2)
theorem jpd {a t:AstS} (h:SR a (zS t)):SR t a:=by
 suffices H:∀ n (t a:AstS),SizeOf.sizeOf t<=n->SR a (zS t)->SR t a from H _ t a (lRq _) h
 intro n
 induction n with
 | zero=>intro t a ha _;cases t;simp at ha
 | succ n ih =>
   intro t a ht h;obtain ⟨kd,w,e,b,x,p⟩:=t;have e1:zS (.mk kd w e b x p)=.mk kd w e (zL b) (zL x) 0:=by conv=>lhs;unfold zS
   rw [e1] at h
   have hL:∀ (l l':List AstS),SizeOf.sizeOf l<=n->All2 SR l' (zL l)->All2 SR l l':=by
    intro l
    induction l with
    | nil =>
      intro l' _ h;have e:zL []=[]:=by unfold zL;rfl
      rw [e] at h;cases h;exact .nil
    | cons a r ihr =>
      intro l' hl h;have e:zL (a::r)=zS a::zL r:=by conv=>lhs;unfold zL
      rw [e] at h;simp at hl;cases h with
     | cons h1 h2=>exact .cons (ih _ _ (by omega) h1) (ihr _ (by omega) h2)
   simp at ht;cases h with
  | mk hb hx=>exact .mk (hL _ _ (by omega) hb) (hL _ _ (by omega) hx)
theorem jhi:∀ {l l':List AstS},All2 SR l' (zL l)->All2 SR l l'
 | [], l', h => by
   have e:zL []=[]:=by unfold zL;rfl
   rw [e] at h;cases h;exact .nil
 | a :: r, l', h => by
   have e:zL (a::r)=zS a::zL r:=by conv=>lhs;unfold zL
   rw [e] at h;cases h with
  | cons h1 h2=>exact .cons (jpd h1) (jhi h2)
theorem kW {α β:Type} {R:α->β->Prop} {l:List α} {r:List β} (h:All2 R l r):∀ b ∈ r,∃ a ∈ l,R a b:=by
 induction h with
 | nil=>exact fun b hb=>by cases hb
 | cons h1 _ ih =>
   intro b hb;rcases List.mem_cons.1 hb with rfl | hb
   ·exact ⟨_,List.mem_cons_self,h1⟩
   ·obtain ⟨a,ha,hr⟩:=ih b hb;exact ⟨a,List.mem_cons_of_mem _ ha,hr⟩
theorem WS.sr {K:Nat}:∀ {D:Nat} {a:AstS},WS K D a->∀ {b:AstS},SR a b->WS K D b:=by
 intro D a h
 induction h with
 | dos hk ho hs hl hb ih =>
   intro b hr;cases hr with
  | mk h1 h2 =>
    cases h2
    exact .dos hk ho hs (by have:=h1.length;omega) fun y hy=>by
     obtain ⟨a,ha,hr⟩:=kW h1 y hy;exact ih a ha hr
 | ifs he hl hb hl2 hx ih1 ih2 =>
   intro b hr;cases hr with
  | mk h1 h2 =>
    refine .ifs he (by have:=h1.length;omega) (fun y hy => ?_) (by have:=h2.length;omega) fun y hy => ?_
    ·obtain ⟨a,ha,hr⟩:=kW h1 y hy;exact ih1 a ha hr
    ·obtain ⟨a,ha,hr⟩:=kW h2 y hy;exact ih2 a ha hr
 | reps h0 h1 hl hb ih =>
   intro b hr;cases hr with
  | mk g1 g2 =>
    cases g2
    exact .reps h0 h1 (by have:=g1.length;omega) fun y hy=>by
     obtain ⟨a,ha,hr⟩:=kW g1 y hy;exact ih a ha hr
 | reqs he =>
   intro b hr;cases hr with
  | mk g1 g2=>cases g1;cases g2;exact .reqs he
 | says hw hl =>
   intro b hr;cases hr with
  | mk g1 g2=>cases g1;cases g2;exact .says hw hl
theorem DV.sr:∀ {k:Nat} {a:AstS},DV k a->∀ {b:AstS},SR a b->DV k b:=by
 intro k a h
 induction h with
 | mk hw hu hb hb' hx hx' ih1 ih2 =>
   intro b hr;cases hr with
  | mk h1 h2 =>
    refine .mk hw hu (by have:=h1.length;omega) (fun y hy => ?_) (by have:=h2.length;omega) fun y hy => ?_
    ·obtain ⟨a,ha,hr⟩:=kW h1 y hy;exact ih1 a ha hr
    ·obtain ⟨a,ha,hr⟩:=kW h2 y hy;exact ih2 a ha hr
theorem jj8 {a b:AstS} (h:SR a b):prS jj a=prS jj b:=by
 suffices H:∀ n (a b:AstS),SizeOf.sizeOf a<=n->SR a b->prS jj a=prS jj b from H _ a b (lRq _) h
 intro n
 induction n with
 | zero=>intro a b ha _;cases a;simp at ha
 | succ n ih =>
   intro a b ha h;cases h with
  | mk hb hx =>
    rename_i kd w e b b' x x' p p'
    have hL:∀ {l l':List AstS},SizeOf.sizeOf l<=n->All2 SR l l'->prL jj l=prL jj l'∧l.isEmpty=l'.isEmpty:=by
     intro l l' hl h
     induction h with
     | nil=>exact ⟨rfl,rfl⟩
     | cons h1 _ ihr =>
       simp at hl;refine ⟨?_,rfl⟩;have e1:=ih _ _ (by omega) h1
       have e2:=(ihr (by omega)).1
       conv=>lhs;unfold prL
       conv=>rhs;unfold prL
       rw [e1,e2]
    simp at ha;obtain ⟨e1,e2⟩:=hL (by omega) hb
    obtain ⟨e3,e4⟩:=hL (by omega) hx
    conv=>lhs;unfold prS
    conv=>rhs;unfold prS
    rw [e1,e2,e3,e4]
theorem jc8 {l l':List AstS} (h:All2 SR l l'):prL jj l=prL jj l':=by
 induction h with
 | nil=>rfl
 | cons h1 _ ih =>
   conv=>lhs;unfold prL
   conv=>rhs;unfold prL
   rw [jj8 h1,ih]
theorem Good.sr {nm:ByteArray} {l l':List AstS} (g:Good nm l) (h:All2 SR l l'):Good nm l' where
 hn:=g.hn
 hi:=g.hi
 hs:=g.hs
 hl:=by have:=h.length;have:=g.hl;omega
 hw:=fun t ht=>by
  obtain ⟨a,ha,hr⟩:=kW h t ht;exact (g.hw a ha).sr hr
 hd:=fun t ht=>by
  obtain ⟨a,ha,hr⟩:=kW h t ht;exact (g.hd a ha).sr hr
 hp:=by rw [← jc8 h];exact g.hp
theorem jid {nm:ByteArray} {l l':List AstS} (h:All2 SR l l'):yI nm l=yI nm l':=by unfold yI yo;rw [jc8 h]
theorem WX.dx:∀ {d:Nat} {e:AstX},WX d e->DX d e:=by
 intro d e h
 induction h with
 | num _ _=>exact .mk (Nat.zero_le _) fun x hx=>by cases hx
 | site _ _ _=>exact .mk (Nat.zero_le _) fun x hx=>by cases hx
 | plain _=>exact .mk (Nat.zero_le _) fun x hx=>by cases hx
 | neg _ ih =>
   exact .mk (by show 1<=2;omega) fun x hx=>by
    simp only [List.mem_cons,List.not_mem_nil,or_false] at hx;subst hx;exact ih
 | bin _ _ _ ih1 ih2 =>
   exact .mk (lRq 2) fun x hx=>by
    simp only [List.mem_cons,List.not_mem_nil,or_false] at hx;rcases hx with rfl | rfl
    ·exact ih1
    ·exact ih2
theorem jcG {k:Nat} (hk:1<=k):DX k noX:=by
 obtain ⟨k,rfl⟩ : ∃ j,k=j+1:=⟨k - 1,by omega⟩
 exact .mk (Nat.zero_le _) fun x hx=>by cases hx
theorem jnD {K:Nat}:∀ {D:Nat} {a:AstS},WS K D a->∀ {k:Nat},DV k a->DS (k+40) a:=by
 intro D a h;have st:∀ {k:Nat},k+1+40=(k+40)+1:=fun {k}=>by omega
 induction h with
 | dos hk ho hs hl hb ih =>
   intro k hd;cases hd with
  | mk hw hu hb1 hb2 hx1 hx2 =>
    rw [st];exact .mk (by omega) hu (by omega) (fun y hy=>ih y hy (hb2 y hy)) (by omega) (fun y hy=>by cases hy) (jcG (by omega))
 | ifs he hl hb hl2 hx ih1 ih2 =>
   intro k hd;cases hd with
  | mk hw hu hb1 hb2 hx1 hx2 =>
    rw [st];exact .mk (by omega) hu (by omega) (fun y hy=>ih1 y hy (hb2 y hy)) (by omega) (fun y hy=>ih2 y hy (hx2 y hy)) (he.dx.mono (by omega))
 | reps h0 h1 hl hb ih =>
   intro k hd;cases hd with
  | mk hw hu hb1 hb2 hx1 hx2 =>
    rw [st];exact .mk (by omega) hu (by omega) (fun y hy=>ih y hy (hb2 y hy)) (by omega) (fun y hy=>by cases hy) ((WX.num (d:=0) h0 (by omega)).dx.mono (by omega))
 | reqs he =>
   intro k hd;cases hd with
  | mk hw hu hb1 hb2 hx1 hx2 =>
    rw [st];exact .mk (by omega) hu (by omega) (fun y hy=>by cases hy) (by omega) (fun y hy=>by cases hy) (he.dx.mono (by omega))
 | says hw hl =>
   intro k hd;cases hd with
  | mk hw1 hu hb1 hb2 hx1 hx2 =>
    rw [st];exact .mk (by omega) hu (by omega) (fun y hy=>by cases hy) (by omega) (fun y hy=>by cases hy) (jcG (by omega))
theorem OC {nm:ByteArray} {l l':List AstS} (g:Good nm l) (h:All2 SR l l') (hf:jz 40 10001 nm l.length (jN (AstS.dens l))=some 0):jz 40 10001 nm l'.length (jN (AstS.dens l'))=some 0:=by
 rw [← hf];exact (W5 (f:=40) (d:=10001) (k:=300) (lRq _) (by omega) (by omega) g.hs h (by have:=g.hl;omega) g.hd).1.symm
theorem jbs {nm:ByteArray} {l:List AstS} (g:Good nm l) (hf:jz 40 10001 nm l.length (jN (AstS.dens l))=some 0) (hs:lt 8192 (ja (yI nm l).size)=false):∃ x,All2 SR l x∧Hn (yI nm l)=(nm,x,0,0):=by
 obtain ⟨x,q,h1,h2⟩:=jiF numI (D:=300) (N:=(yI nm l).size) (by omega) g.hn g.hi (by have:=g.hl;omega) g.hw (fun u hu=>(g.tok u hu).1)
 have h3:=jhi h2;refine ⟨x,h3,?_⟩;unfold Hn;rw [hs];show jbg (WV (yI nm l).size (Qb (yo jj nm l)))=_;rw [h1];have h4:=OC g h3 hf;unfold jbg jao;simp only;rw [h4];rfl
theorem jdf {nm:ByteArray} {l l':List AstS} (g:Good nm l) (h:All2 SR l l') {ρ ρ':Val} (h1:LieL l ρ) (h2:LieL l' ρ'):al 10000 10001 l.length ρ l'.length ρ'=some true :=
 NO (lRq _) 10001 340 l l' ρ ρ' (by omega) h (by have:=g.hl;omega) (fun t ht=>jnD (g.hw t ht) (g.hd t ht)) (by omega) h1 h2
theorem jfg {P:Program} {f:Nat} {G G':List A1->Option (Bool × AV)} (h:jo P f (nG G)) (hg:∀ args r,G' args=some (true,r)->G args=some (true,r)):jo P f (nG G'):=by
 intro args r hs;refine h args r ?_
 have:=hg args r (zG hs)
 unfold nG;rw [this];rfl
def Q8:PaF:=Zq 40 10001 (blK 10000 10000)
theorem p8q:jo Tryz.prog 8 (nG (G8p Q8)):=jfg (p8F 9999 10000 40 10001 (by decide)) fun args r h=>by
 unfold G8p at h;split at h
 ·exact h
 ·cases h
def P7:PrF:=Yx 40 10001 Bp
def F5:RFB:=fbF 310 40
def S9:RBB:=al 10000 10001
theorem h3t:HdOk Tryz.prog (H3t F5 P7 Q8 S9):=((((HdOk.nil.mcCons (m7 40 10001 (jmX 33 301))).ucCons (p10 (p43 10000 10001))).ucCons p8q).ucCons p7).ucCons (p5 (p17 310 40))
theorem jfA {nm : ByteArray} {n : Nat} {ρ : Val} (h : (v3 F5 P7 Q8 S9 nm n ρ).sel = some (jI true)) {F : Nat -> Prop} {W : World} {vs : List Value} (ht : Tab F W) (hargs : All2 (A1.Rel F W []) [.agg [.str nm, .sl (jl 1) n ρ]] vs) :
  Calls Tryz.prog 3 vs.toArray W (fun e W'=>e=.returned (.bool true)∧Below W.heap.size W W'):=by
 refine (T6 h3t x3 10 3 h ht hargs rfl).mono fun e w' ⟨v,he,hb,hv⟩ => ?_;subst he;cases hv;exact ⟨rfl,hb⟩
theorem joZ {nm : ByteArray} {l : List AstS} (hw : ∀ t ∈ l, BW t) {F : Nat -> Prop} {W : World} {vs : List Value} (ht : Tab F W) (hargs : All2 (A1.Rel F W []) [.agg [.str nm, .sl (jl 1) l.length (jN (AstS.dens l))]] vs) :
  Calls Tryz.prog 3 vs.toArray W (fun e W'=>e=.returned (.bool true)∧Below W.heap.size W W'):=by
 refine jfA ?_ ht hargs;have hρ:LieL l (jN (AstS.dens l)):=fun _=>rfl;generalize hq:jN (AstS.dens l)=ρ at hρ;cases hc:Xf nm with
 | false =>
   refine Jg (jde F5 P7 Q8 S9 nm l.length ρ) (HH ?_);simp only [okB,List.all_cons,List.all_nil,Wp,B6,hc];rfl
 | true =>
 obtain ⟨r,hr,hr2⟩:=jap (f:=310) (by omega) 40 l 0 hw (by omega) (by omega) ρ 300 hρ (by omega)
 have hr:F5 l.length ρ 300 0=some r:=hr;cases hr0:le 0 r with
 | false =>
   refine Jg (jde F5 P7 Q8 S9 nm l.length ρ) (HH ?_);simp only [okB,List.all_cons,List.all_nil,Wp,B6,hc,hr,os1,ov1,hr0];rfl
 | true =>
 obtain ⟨k1,k2⟩:=hr2 (Je.1 hr0);have hnd:yr l<=300:=by have:=Je.1 hr0;omega
 have hdw:∀ t ∈ l,DV 300 t:=fun t ht=>(k2 t ht).dw.mono (by have:=GB ht;omega)
 have hl:l.length<=300:=Nat.le_trans (Hr l) hnd;have hsz:nm.size<=60:=by unfold Xf at hc;have:=Je.1 hc;simp only [t64] at this;omega
 have hfew:B6 F5 nm l.length ρ=true:=by unfold B6;rw [hc,hr];exact hr0
 have hned:Wp F5 nm l.length ρ=true:=by unfold Wp;rw [hr];simp [os1]
 obtain ⟨f1,f2⟩:=W5 (f:=40) (d:=10001) (k:=300) (name:=nm) (lRq _) (by omega) (by omega) (by omega) (SR.reflL l) (by omega) hdw
 rw [hq] at f1 f2
 have errP:∀ e:Int,(e != 0)=true->P7 nm l.length ρ=some (bs [],e)->(v3 F5 P7 Q8 S9 nm l.length ρ).sel=some (jI true):=fun e he hp=>by
  have hpp:=jmH F5 P7 Q8 S9 nm l.length ρ;simp only [hp,ov1] at hpp;refine Jg hpp (HH ?_);simp only [okB,List.all_cons,List.all_nil,hned,hfew,he,os1];rfl
 cases hf:jz 40 10001 nm l.length ρ with
 | none=>rw [hf] at f2;cases f2
 | some e =>
 cases he:(e != 0) with
 | true =>
   refine errP e he ?_;show Yx 40 10001 Bp nm l.length ρ=_;unfold Yx;rw [hf];show (bif (e != 0) then _ else _)=_;rw [he];rfl
 | false =>
 have he0:e=0:=by simpa using he
 subst he0;obtain ⟨g1,g2,g3⟩:=jhD (f:=40) (d:=10001) (k:=300) (by omega) (by omega) hdw hρ hf
 have g:Good nm l:=⟨g1,g2,by omega,hl,g3,hdw,by have:=ZL (num:=jj) fun t ht=>jjX (num:=jj) (g3 t ht);omega⟩
 have hp:P7 nm l.length ρ=some (bif lt 8192 (ja (yI nm l).size) then (bs [],5) else (yI nm l,0)):=GH g hρ hf;cases hs:lt 8192 (ja (yI nm l).size) with
 | true =>
   rw [hs] at hp;exact errP 5 rfl hp
 | false =>
 rw [hs] at hp;have hp:P7 nm l.length ρ=some (yI nm l,0):=hp;have hf':jz 40 10001 nm l.length (jN (AstS.dens l))=some 0:=by rw [hq];exact hf
 obtain ⟨x,hx1,hx2⟩:=jbs g hf' hs
 have hsz2:(yI nm l).size<=9000:=by
  rcases Nat.lt_or_ge 8192 (yI nm l).size with h | h
  ·rw [yg.2 (show (8192:Int)<ja (yI nm l).size by rw [t64];omega)] at hs;cases hs
  ·omega
 have hQ:Q8 (yI nm l)=some (nm,AstS.dens x,0,0):=by
  have:=jdG (yI nm l) hsz2
  rw [hx2] at this;exact this
 have hz:P7 nm x.length (jN (AstS.dens x))=some (yI nm l,0):=by
  have:=GH (g.sr hx1) (f:=40) (d:=10001) (ρ:=jN (AstS.dens x)) (fun _=>rfl) (OC g hx1 hf')
  rw [← jid hx1,hs] at this;exact this
 have hxs:All2 SR x l:=Om hx1;have hS:S9 x.length (jN (AstS.dens x)) l.length ρ=some true:=jdf (g.sr hx1) hxs (fun _=>rfl) hρ;have hpp:=jkc F5 P7 Q8 S9 nm l.length ρ;simp only [hp,hQ,ov1,oV,oB,os1,QS,hz,jbO,jhl,hS,qh,Vh] at hpp;refine Jg hpp (HH ?_);simp only [okB,List.all_cons,List.all_nil,hned,hfew];rfl
theorem joV:∀ e k,rtT e=some k->zn Tryz.prog 12 e=some (jl k):=by
 intro e k h;unfold rtT at h;split at h
 ·rename_i he
  have:=Nat.eq_of_beq_eq_true he
  subst this;cases h;show zn Tryz.prog 12 94=some (jl 0)
  kernel_rfl
 ·split at h
  ·rename_i he
   have:=Nat.eq_of_beq_eq_true he
   subst this;cases h;show zn Tryz.prog 12 96=some (jl 1)
   kernel_rfl
  ·cases h
theorem jo1:∀ k,jl k ≠ []
 | 0=>fun h=>by cases h
 | k+1=>fun h=>by cases h
theorem jij (ρ:Val):GN Tryz.prog 24 [.str,.rt 1] ρ=.agg [.str ((ρ.at 0).S []),.sl (jl 1) ((ρ.at 1).L []) (ρ.at 1)]:=by kernel_rfl
theorem jgQ {ρ : Val} (w0 : Xk [.str, .rt 1] 0 ρ) {W : World} (ht : Tab (fun _ => False) W) {vs : List Value} (h : All2 (A1.Rel (fun _ => False) W []) [GN Tryz.prog 24 [.str, .rt 1] ρ] vs) :
  Calls Tryz.prog 3 vs.toArray W (fun e W'=>e=.returned (.bool true)∧Below W.heap.size W W'):=by
 rw [jij] at h;cases h with
 | cons h1 h2 =>
 cases h2;obtain ⟨cs,rfl,hc⟩:=h1;cases hc with
 | cons c1 hc =>
 cases hc with
 | cons c2 hc =>
 cases hc;obtain ⟨l,hl,hr,hb⟩:=(jko c2).2 _ _ rfl;have hm:∀ m,wfM m 1 ((ρ.at 1).L []) (ρ.at 1):=w0.2.1;rw [← hl] at hr;exact joZ (hb hm) ht (.cons ⟨_,rfl,.cons c1 (.cons hr .nil)⟩ .nil)
end Go.Proofs.YtiefjlcakpdfeaaGreatDoor