/-
 Part TaZE of the proof: RpC RpD RpE RpF RpG RpI RpJ.
-/
import Derived.Test.YtiefjlcakpdfeaaGreatDoorTaZD
import Derived.Test.YtiefjlcakpdfeaaGreatDoorTaZB
namespace Go.Proofs.YtiefjlcakpdfeaaGreatDoor
open Go Go.Sx Go.RowKit Rb
set_option maxRecDepth 100000
section
variable {σ α β ε τ:Type}
def okP (x:PR σ α) (Q:α->σ->Prop):Prop:=match x with
 | .stuck=>False
 | .pan _=>True
 | .ret v s=>Q v s
theorem okP.bind {x:PR σ α} {f:α->σ->PR σ β} {Q:α->σ->Prop} {Q':β->σ->Prop} (h:okP x Q) (hf:∀ v s,Q v s->okP (f v s) Q'):okP (x.bind f) Q':=by
 cases x with
 | stuck=>exact h
 | pan a=>exact trivial
 | ret v s=>exact hf v s h
theorem okP.cond {c:Bool} {x y:PR σ α} {Q:α->σ->Prop} (h1:c=true->okP x Q) (h2:c=false->okP y Q):okP (bif c then x else y) Q:=by
 cases c with
 | true=>exact h1 rfl
 | false=>exact h2 rfl
theorem okP.mono {x:PR σ α} {Q Q':α->σ->Prop} (h:okP x Q) (hq:∀ v s,Q v s->Q' v s):okP x Q':=by
 cases x with
 | stuck=>exact h
 | pan a=>exact trivial
 | ret v s=>exact hq v s h
def ya (t:ByteArray):Nat:=bif jb t (bs []) then 0 else 1
theorem NH (t:ByteArray):ya t<=1:=by unfold ya;cases jb t (bs [])<;>decide
theorem yk {t:ByteArray} {f:ByteArray->Bool} (h:f t=true) (h0:f (bs [])=false):ya t=1:=by
 unfold ya;cases he:jb t (bs []) with
 | false=>rfl
 | true =>
   rw [(ye _ _).1 he,h0] at h;cases h
structure MOk (M:Mach σ) (I:σ->Prop) (μ:σ->Nat) (W:ByteArray->Prop):Prop where
 tok:∀ s,I s->W (M.tx s)
 adv:∀ s,I s->okP (M.adv s) fun _ s'=>I s'∧μ s'+ya (M.tx s)<=μ s
 num:∀ s,I s->nmD (jE (M.tx s))=true
 wrd:∀ s,I s->obD (jV (M.tx s))=true
 nam:∀ s,I s->Jj (M.tx s)=true
structure AOk (A:Alg ε τ) (W:ByteArray->Prop) (DE:Nat->ε->Prop) (DT:Nat->τ->Prop):Prop where
 ex:∀ {k op v l},l.length<=2->(∀ x ∈ l,DE k x)->DE (k+1) (A.ex op v l)
 em:∀ {k k' e},k<=k'->DE k e->DE k' e
 st:∀ {k kd w e b x p},w.length<=k->(∀ u ∈ w,W u)->DE k e->b.length<=k->(∀ y ∈ b,DT k y)->x.length<=k->(∀ y ∈ x,DT k y)->DT (k+1) (A.st kd w e b x p)
 tm:∀ {k k' t},k<=k'->DT k t->DT k' t
variable {M:Mach σ} {I:σ->Prop} {μ:σ->Nat} {W:ByteArray->Prop} (hM:MOk M I μ W)
include hM
theorem Zq {t:ByteArray} (ht:jb t (bs [])=false) {s:σ} (h:I s):okP (qH M t s) fun c s'=>I s'∧μ s'+(bif c then 1 else 0)<=μ s:=by
 unfold qH;refine .cond (fun hc => ?_) fun _=>⟨h,lRq _⟩;refine (hM.adv s h).bind fun _ s' h2=>⟨h2.1,?_⟩
 have:ya (M.tx s)=1:=by rw [(ye _ _).1 hc];unfold ya;rw [ht];rfl
 simp only [cond_true];omega
theorem QJ {t:ByteArray} (ht:jb t (bs [])=false) {s:σ} (h:I s):okP (qJ M t s) fun _ s'=>I s'∧μ s'+1<=μ s:=by
 unfold qJ;refine (Zq hM ht h).bind fun c s' h2 => ?_;cases c with
 | true=>exact h2
 | false=>exact trivial
theorem YT {ok:Bool} {s:σ} (h:I s) (hk:ok=true->ya (M.tx s)=1):okP (qC M ok s) fun w s'=>I s'∧μ s'+1<=μ s∧W w:=by
 unfold qC;refine .cond (fun hc => ?_) fun _=>trivial;refine (hM.adv s h).bind fun _ s' h2=>⟨h2.1,?_,hM.tok s h⟩
 have:=hk hc
 omega
omit hM in
theorem jkP {w:ByteArray} (h:nmO (jE w)=true):ya w=1:=yk (f:=fun w=>nmO (jE w)) h (by kernel_rfl)
theorem N6 {most:Int} {s:σ} (h:I s):okP (kC M most s) fun _ s'=>I s'∧μ s'+1<=μ s:=by
 unfold kC;have h1:=hM.num s h;cases hn:jE (M.tx s) with
 | none=>rw [hn] at h1;cases h1
 | some y =>
   obtain ⟨n,ok⟩:=y;refine (YT hM h fun hc => ?_).bind fun _ s' h2=>⟨h2.1,h2.2.1⟩
   have:ok=true:=by cases ok<;>first | rfl | cases hc
   subst this;exact jkP (by rw [hn];rfl)
omit hM in
theorem jhn {w:ByteArray} (h:yz w=true):ya w=1:=yk (f:=yz) h (by kernel_rfl)
theorem jkH {s:σ} (h:I s):okP (Kz M s) fun _ s'=>I s'∧μ s'+1<=μ s:=by
 unfold Kz;exact (YT hM h fun hc=>jhn hc).bind fun _ s' h2=>⟨h2.1,h2.2.1⟩
theorem TP {s:σ} (h:I s):okP (JN M s) fun w s'=>I s'∧μ s'+1<=μ s∧W w:=by
 unfold JN;have h1:=hM.wrd s h;cases hn:jV (M.tx s) with
 | none=>rw [hn] at h1;cases h1
 | some y =>
   refine YT hM h fun hc=>yk (f:=fun w=>obV (jV w)) (by rw [hn];exact hc) (by kernel_rfl)
omit hM in
theorem IS {k:Int} {w:ByteArray} (h:zc k w=true):ya w=1:=by
 refine yk (f:=zc k) h ?_;unfold zc;have e1:nmO (jE (bs []))=false:=by kernel_rfl
 have e2:yz (bs [])=false:=by kernel_rfl
 have e3:jb (bs []) jaz=false:=by kernel_rfl
 rw [e1,e2,e3];cases k==1<;>cases k==2<;>rfl
theorem jdh {k:Int} {s:σ} (h:I s):okP (QU M k s) fun w s'=>I s'∧μ s'+1<=μ s∧W w:=by
 unfold QU;rw [hM.num s h];exact YT hM h fun hc=>IS hc
theorem Hr:∀ (l:List Int) {s:σ},I s->okP (yp M l s) fun w s'=>I s'∧μ s'+w.length<=μ s∧∀ u ∈ w,W u
 | [],_,h=>⟨h,lRq _,fun u hu=>by cases hu⟩
 | k :: r, s, h => by
   unfold yp;refine (jdh hM h).bind fun w s1 h1=>(Hr r h1.1).bind fun l s2 h2=>⟨h2.1,?_,fun u hu => ?_⟩
   ·simp only [List.length_cons];omega
   ·rcases List.mem_cons.1 hu with rfl | hu
    ·exact h1.2.2
    ·exact h2.2.2 u hu
theorem TY {s:σ} (h:I s):okP (z6 M s) fun w s'=>I s'∧μ s'+1<=μ s∧μ s'+w.length<=μ s∧∀ u ∈ w,W u:=by
 unfold z6;refine (YT hM h fun hc=>yk (f:=fun w=>!(Nat.beq (zL w) 0)) hc (by kernel_rfl)).bind fun w s1 h1=>(Hr hM _ h1.1).bind fun l s2 h2=>⟨h2.1,by omega,?_,fun u hu => ?_⟩
 ·simp only [List.length_cons];omega
 ·rcases List.mem_cons.1 hu with rfl | hu
  ·exact h1.2.2
  ·exact h2.2.2 u hu
variable {A:Alg ε τ} {DE:Nat->ε->Prop} {DT:Nat->τ->Prop} (hA:AOk A W DE DT)
include hA
abbrev FE (I:σ->Prop) (μ:σ->Nat) (DE:Nat->ε->Prop) (m:Nat) (f:σ->PR σ ε):Prop:=∀ s,I s->μ s<m->okP (f s) fun e s'=>I s'∧μ s'+1<=μ s∧DE (μ s - μ s') e
theorem FC {m B : Nat} {o : σ -> PR σ ε} (ho : FE I μ DE m o) {g : ε -> σ -> PR σ ε} {j : Nat}
  (hg:∀ e s1,I s1->μ s1<j->μ s1<=B->DE (B - μ s1) e->okP (g e s1) fun e' s'=>I s'∧μ s'<=μ s1∧DE (B - μ s') e') :
  ∀ (l:List ByteArray),(∀ w ∈ l,jb w (bs [])=false)->∀ {e:ε} {s:σ},I s->μ s<=j->μ s<m->μ s<=B->DE (B - μ s) e ->
  okP (Ya M A o g e l s) fun e' s'=>I s'∧μ s'<=μ s∧DE (B - μ s') e'
 | [],_,_,_,h,_,_,_,hd=>⟨h,lRq _,hd⟩
 | w :: r, hw, e, s, h, hj, hm, hB, hd => by
   unfold Ya;refine (Zq hM (hw w (by simp)) h).bind fun c s1 h1 => ?_
   cases c with
  | true =>
    simp only [cond_true] at h1 ⊢;refine (ho s1 h1.1 (by omega)).bind fun x s2 h2 => ?_
    refine (hg _ s2 h2.1 (by omega) (by omega) ?_).mono fun e' s' h3=>⟨h3.1,by omega,h3.2.2⟩
    have:B - μ s2=(B - μ s2 - 1)+1:=by omega
    rw [this];refine hA.ex (by simp) fun y hy => ?_
    rcases List.mem_cons.1 hy with rfl | hy
    ·exact hA.em (by omega) hd
    ·rcases List.mem_cons.1 hy with rfl | hy
     ·exact hA.em (by omega) h2.2.2
     ·cases hy
  | false =>
    simp only [cond_false] at h1 ⊢;exact (FC ho hg r (fun w hw'=>hw w (by simp [hw'])) h1.1 (by omega) (by omega) (by omega) (hA.em (by omega) hd)).mono fun e' s' h3=>⟨h3.1,by omega,h3.2.2⟩
theorem D4 {m B : Nat} {o : σ -> PR σ ε} (ho : FE I μ DE m o) {ops : List ByteArray} (hops : ∀ w ∈ ops, jb w (bs []) = false) : ∀ (k : Nat) (e : ε) (s : σ), I s -> μ s < k -> μ s < m -> μ s <= B -> DE (B - μ s) e ->
  okP (Jp M A ops o k e s) fun e' s'=>I s'∧μ s'<=μ s∧DE (B - μ s') e'
 | 0,_,_,_,h,_,_,_=>by omega
 | k + 1, e, s, h, hk, hm, hB, hd => by
   show okP (Ya M A o (Jp M A ops o k) e ops s) _;exact FC hM hA ho (j:=μ s) (fun e s1 h1 h2 h3 h4=>D4 ho hops k e s1 h1 (by omega) (by omega) h3 h4) ops hops h (lRq _) hm hB hd
theorem jj8 {m m':Nat} {x:σ->PR σ ε} (hx:FE I μ DE m' x) (hm:m<=m'+1):FE I μ DE m (Yk M A x):=by
 intro s h hs
 have hnil:∀ (k:Nat) (op:ByteArray) (v:Int),0<k->DE k (A.ex op v []):=fun k op v hk=>by
  have:k=(k - 1)+1:=by omega
  rw [this];exact hA.ex (Nat.zero_le _) fun y hy=>by cases hy
 unfold Yk;refine .cond (fun hc => ?_) fun _=>.cond (fun hc => ?_) fun _=>.cond (fun hc => ?_) fun _ => ?_
 ·have ht:ya (M.tx s)=1:=yk (f:=fun w=>jb w qj||jb w zC) hc (by kernel_rfl)
  refine (hM.adv s h).bind fun _ s1 h1=>⟨h1.1,by omega,hnil _ _ _ (by omega)⟩
 ·have ht:ya (M.tx s)=1:=yk (f:=fun w=>jb w zy||(jb w qv||(jb w ym||(jb w zu||jb w q7)))) hc (by kernel_rfl)
  refine (hM.adv s h).bind fun _ s1 h1=>(jkH hM h1.1).bind fun n s2 h2=>⟨h2.1,by omega,hnil _ _ _ (by omega)⟩
 ·have ht:ya (M.tx s)=1:=yk (f:=fun w=>jb w ZI) hc (by kernel_rfl)
  refine (hM.adv s h).bind fun _ s1 h1=>(hx s1 h1.1 (by omega)).bind fun e s2 h2=>(QJ hM (by kernel_rfl) h2.1).bind fun _ s3 h3=>⟨h3.1,by omega,hA.em (by omega) h2.2.2⟩
 ·refine (N6 hM h).bind fun n s1 h1=>⟨h1.1,by omega,hnil _ _ _ (by omega)⟩
omit hM hA in
theorem jl9 {a b:ByteArray} (ha:jb a (bs [])=false) (hb:jb b (bs [])=false):∀ w ∈ [a,b],jb w (bs [])=false:=by
 intro w hw;rcases List.mem_cons.1 hw with rfl | hw
 ·exact ha
 ·rcases List.mem_cons.1 hw with rfl | hw
  ·exact hb
  ·cases hw
omit hM hA in
theorem joJ {a:ByteArray} (ha:jb a (bs [])=false):∀ w ∈ [a],jb w (bs [])=false:=by
 intro w hw;rcases List.mem_cons.1 hw with rfl | hw
 ·exact ha
 ·cases hw
theorem Uc {m K:Nat} {o:σ->PR σ ε} (ho:FE I μ DE m o) {ops:List ByteArray} (hops:∀ w ∈ ops,jb w (bs [])=false) (hK:m<=K):FE I μ DE m fun s=>(o s).bind fun e s1=>Jp M A ops o K e s1:=by
 intro s h hs;refine (ho s h hs).bind fun e s1 h1 => ?_;refine (D4 hM hA (B:=μ s) ho hops K e s1 h1.1 (by omega) (by omega) (by omega) h1.2.2).mono fun e' s' h2=>⟨h2.1,by omega,h2.2.2⟩
theorem jm0 {m m' K:Nat} {x:σ->PR σ ε} (hx:FE I μ DE m' x) (hm:m<=m'+1) (hK:m<=K):FE I μ DE m (Ia M A x K) :=
 Uc hM hA (jj8 hM hA hx hm) (jl9 (by kernel_rfl) (by kernel_rfl)) hK
theorem jd9 {m m' K:Nat} {o x:σ->PR σ ε} (ho:FE I μ DE m' o) (hx:FE I μ DE m' x) (hm:m<=m'+1) (hK:m<=K):FE I μ DE m (Ui M A o x K):=by
 intro s h hs;unfold Ui;refine (Zq hM (by kernel_rfl) h).bind fun c s1 h1 => ?_
 cases c with
 | true =>
   simp only [cond_true] at h1 ⊢;refine (ho s1 h1.1 (by omega)).bind fun e s2 h2=>⟨h2.1,by omega,?_⟩
   have:μ s - μ s2=(μ s - μ s2 - 1)+1:=by omega
   rw [this];refine hA.ex (by simp) fun y hy => ?_
   rcases List.mem_cons.1 hy with rfl | hy
   ·exact hA.em (by omega) h2.2.2
   ·cases hy
 | false =>
   simp only [cond_false] at h1 ⊢;have hsum:=jm0 hM hA hx hm hK;refine (hsum s1 h1.1 (by omega)).bind fun e s2 h2 => ?_
   refine (FC hM hA (B:=μ s) (j:=μ s2) hsum (g:=fun x s3=>.ret x s3) (fun e s1 h3 _ _ h4=>⟨h3,lRq _,h4⟩) [wEq,wLt,wGt] ?_ h2.1 (lRq _) (by omega) (by omega) (hA.em (by omega) h2.2.2)).mono fun e' s' h3=>⟨h3.1,by omega,h3.2.2⟩
   intro w hw;rcases List.mem_cons.1 hw with rfl | hw
   ·kernel_rfl
   ·exact jl9 (by kernel_rfl) (by kernel_rfl) w hw
theorem jkJ {m m' K:Nat} {o x:σ->PR σ ε} (ho:FE I μ DE m' o) (hx:FE I μ DE m' x) (hm:m<=m'+1) (hK:m<=K):FE I μ DE m (HL M A o x K) :=
 Uc hM hA (jd9 hM hA ho hx hm hK) (joJ (by kernel_rfl)) hK
theorem jjN {m m' K:Nat} {o x:σ->PR σ ε} (ho:FE I μ DE m' o) (hx:FE I μ DE m' x) (hm:m<=m'+1) (hK:m<=K):FE I μ DE m (Rl M A o x K) :=
 Uc hM hA (jkJ hM hA ho hx hm hK) (joJ (by kernel_rfl)) hK
theorem Xz (K:Nat):∀ d,d<=K->FE I μ DE d (exs M A K d).1∧FE I μ DE d (exs M A K d).2
 | 0,_=>⟨fun s _ h=>by omega,fun s _ h=>by omega⟩
 | d+1,h=>⟨jd9 hM hA (Xz K d (by omega)).1 (Xz K d (by omega)).2 (lRq _) h,jjN hM hA (Xz K d (by omega)).1 (Xz K d (by omega)).2 (lRq _) h⟩
abbrev FT (I:σ->Prop) (μ:σ->Nat) (DT:Nat->τ->Prop) (m:Nat) (f:σ->PR σ τ):Prop:=∀ s,I s->μ s<m->okP (f s) fun t s'=>I s'∧μ s'+1<=μ s∧DT (μ s - μ s') t
abbrev FB (I:σ->Prop) (μ:σ->Nat) (DT:Nat->τ->Prop) (m:Nat) (f:σ->PR σ (List τ)):Prop:=∀ s,I s->μ s<m->okP (f s) fun l s'=>I s'∧μ s'+1+l.length<=μ s∧∀ t ∈ l,DT (μ s - μ s') t
omit hA in
theorem R8:∀ (k:Nat) (s:σ),I s->μ s<k->okP (kL M k s) fun w s'=>I s'∧μ s'+w.length<=μ s∧∀ u ∈ w,W u
 | 0,_,_,h=>by omega
 | k + 1, s, h, hk => by
   unfold kL;refine (Zq hM (by kernel_rfl) h).bind fun c s1 h1 => ?_
   cases c with
  | true=>exact ⟨h1.1,by simp only [List.length_nil];omega,fun u hu=>by cases hu⟩
  | false =>
    simp only [cond_false] at h1 ⊢;refine (TP hM h1.1).bind fun w s2 h2=>(R8 k s2 h2.1 (by omega)).bind fun l s3 h3=>⟨h3.1,by simp only [List.length_cons];omega,fun u hu => ?_⟩
    rcases List.mem_cons.1 hu with rfl | hu
    ·exact h2.2.2
    ·exact h3.2.2 u hu
theorem NX {m:Nat} {st:σ->PR σ τ} (hs:FT I μ DT m st):∀ (k:Nat) (s:σ),I s->μ s<k->μ s<m->okP (zO M st k s) fun l s'=>I s'∧μ s'+1+l.length<=μ s∧∀ t ∈ l,DT (μ s - μ s') t
 | 0,_,_,h,_=>by omega
 | k + 1, s, h, hk, hm => by
   unfold zO;refine (Zq hM (by kernel_rfl) h).bind fun c s1 h1 => ?_
   cases c with
  | true=>exact ⟨h1.1,by simp only [cond_true] at h1;simp only [List.length_nil];omega,fun t ht=>by cases ht⟩
  | false =>
    simp only [cond_false] at h1 ⊢;refine (hs s1 h1.1 (by omega)).bind fun x s2 h2=>(NX hs k s2 h2.1 (by omega) (by omega)).bind fun l s3 h3=>⟨h3.1,by simp only [List.length_cons];omega,fun t ht => ?_⟩
    rcases List.mem_cons.1 ht with rfl | ht
    ·exact hA.tm (by omega) h2.2.2
    ·exact hA.tm (by omega) (h3.2.2 t ht)
theorem jgg {m K:Nat} {st:σ->PR σ τ} (hs:FT I μ DT m st) (hK:m<=K):FB I μ DT m (Z3 M st K):=by
 intro s h hm;unfold Z3;refine (QJ hM (by kernel_rfl) h).bind fun _ s1 h1=>(NX hM hA hs K s1 h1.1 (by omega) (by omega)).mono fun l s' h2=>⟨h2.1,by omega,fun t ht=>hA.tm (by omega) (h2.2.2 t ht)⟩
theorem VL {m m' K:Nat} {x:σ->PR σ ε} (hx:FE I μ DE K x) {b:σ->PR σ (List τ)} (hb:FB I μ DT m' b) (hm:m<=m'+1) (hK:m<=K):FT I μ DT m (yD M A x b K):=by
 intro s h hs
 have hst:∀ {k kd w e b x p},0<k->w.length<=k - 1->(∀ u ∈ w,W u)->DE (k - 1) e->b.length<=k - 1->(∀ y ∈ b,DT (k - 1) y)->x.length<=k - 1->(∀ y ∈ x,DT (k - 1) y)->DT k (A.st kd w e b x p):=fun {k} _ _ _ _ _ _ hk h1 h2 h3 h4 h5 h6 h7=>by
  have:k=(k - 1)+1:=by omega
  rw [this];exact hA.st h1 h2 h3 h4 h5 h6 h7
 have hnil:∀ (k:Nat) (op:ByteArray) (v:Int),0<k->DE k (A.ex op v []):=fun k op v hk=>by
  have:k=(k - 1)+1:=by omega
  rw [this];exact hA.ex (Nat.zero_le _) fun y hy=>by cases hy
 have hn:∀ k,∀ y ∈ ([]:List τ),DT k y:=fun k y hy=>by cases hy
 have hw:∀ u ∈ ([]:List ByteArray),W u:=fun u hu=>by cases hu
 have z:∀ k,([]:List τ).length<=k:=fun k=>Nat.zero_le _;have zw:∀ k,([]:List ByteArray).length<=k:=fun k=>Nat.zero_le _;unfold yD;refine .cond (fun hc => ?_) fun _=>.cond (fun hc => ?_) fun _=>.cond (fun hc => ?_) fun _=>.cond (fun hc => ?_) fun _=>.cond (fun hc => ?_) fun _=>trivial
 ·have ht:ya (M.tx s)=1:=yk (f:=fun w=>jb w wDo) hc (by kernel_rfl)
  refine (hM.adv s h).bind fun _ s1 h1=>(TY hM h1.1).bind fun w s2 h2=>(Zq hM (by kernel_rfl) h2.1).bind fun c s3 h3 => ?_
  cases c with
  | true =>
    simp only [cond_true] at h3 ⊢;refine (hb s3 h3.1 (by omega)).bind fun l s4 h4=>(QJ hM (by kernel_rfl) h4.1).bind fun _ s5 h5=>⟨h5.1,by omega,hst (by omega) (by omega) h2.2.2.2 (hnil _ _ _ (by omega)) (by omega) (fun y hy=>hA.tm (by omega) (h4.2.2 y hy)) (z _) (hn _)⟩
  | false =>
    simp only [cond_false] at h3 ⊢;refine (QJ hM (by kernel_rfl) h3.1).bind fun _ s4 h4=>⟨h4.1,by omega,hst (by omega) (by omega) h2.2.2.2 (hnil _ _ _ (by omega)) (z _) (hn _) (z _) (hn _)⟩
 ·have ht:ya (M.tx s)=1:=yk (f:=fun w=>jb w wIf) hc (by kernel_rfl)
  refine (hM.adv s h).bind fun _ s1 h1=>(hx s1 h1.1 (by omega)).bind fun e s2 h2=>(hb s2 h2.1 (by omega)).bind fun l s3 h3=>(Zq hM (by kernel_rfl) h3.1).bind fun c s4 h4 => ?_
  cases c with
  | true =>
    simp only [cond_true] at h4 ⊢;refine (hb s4 h4.1 (by omega)).bind fun r s5 h5=>⟨h5.1,by omega,hst (by omega) (zw _) hw (hA.em (by omega) h2.2.2) (by omega) (fun y hy=>hA.tm (by omega) (h3.2.2 y hy)) (by omega) (fun y hy=>hA.tm (by omega) (h5.2.2 y hy))⟩
  | false =>
    simp only [cond_false] at h4 ⊢;exact ⟨h4.1,by omega,hst (by omega) (zw _) hw (hA.em (by omega) h2.2.2) (by omega) (fun y hy=>hA.tm (by omega) (h3.2.2 y hy)) (z _) (hn _)⟩
 ·have ht:ya (M.tx s)=1:=yk (f:=fun w=>jb w qc) hc (by kernel_rfl)
  refine (hM.adv s h).bind fun _ s1 h1=>(N6 hM h1.1).bind fun n s2 h2=>(hb s2 h2.1 (by omega)).bind fun l s3 h3=>⟨h3.1,by omega,hst (by omega) (zw _) hw (hnil _ _ _ (by omega)) (by omega) (fun y hy=>hA.tm (by omega) (h3.2.2 y hy)) (z _) (hn _)⟩
 ·have ht:ya (M.tx s)=1:=yk (f:=fun w=>jb w zN) hc (by kernel_rfl)
  refine (hM.adv s h).bind fun _ s1 h1=>(hx s1 h1.1 (by omega)).bind fun e s2 h2=>(QJ hM (by kernel_rfl) h2.1).bind fun _ s3 h3=>⟨h3.1,by omega,hst (by omega) (zw _) hw (hA.em (by omega) h2.2.2) (z _) (hn _) (z _) (hn _)⟩
 ·have ht:ya (M.tx s)=1:=yk (f:=fun w=>jb w kj) hc (by kernel_rfl)
  refine (hM.adv s h).bind fun _ s1 h1=>(TP hM h1.1).bind fun w s2 h2=>(R8 hM K s2 h2.1 (by omega)).bind fun l s3 h3=>⟨h3.1,by omega,hst (by omega) (by simp only [List.length_cons];omega) (fun u hu => ?_) (hnil _ _ _ (by omega)) (z _) (hn _) (z _) (hn _)⟩
  rcases List.mem_cons.1 hu with rfl | hu
  ·exact h2.2.2
  ·exact h3.2.2 u hu
theorem DN (K:Nat):∀ d,d<=K->FT I μ DT d (sts M A K d).1∧FB I μ DT d (sts M A K d).2
 | 0,_=>⟨fun s _ h=>by omega,fun s _ h=>by omega⟩
 | d+1,h=>⟨VL hM hA (Xz hM hA K K (lRq _)).2 (DN K d (by omega)).2 (lRq _) h,jgg hM hA (VL hM hA (Xz hM hA K K (lRq _)).2 (DN K d (by omega)).2 (lRq _) h) h⟩
omit hA in
theorem jkZ {m:Nat} {b:σ->PR σ (List τ)} (hb:FB I μ DT m b) {s:σ} (h:I s) (hs:μ s<m) (hA:AOk A W DE DT):okP (yv M b s) fun x _=>W x.1∧x.2.length<=m∧∀ t ∈ x.2,DT m t:=by
 unfold yv;refine (hM.adv s h).bind fun _ s1 h1=>(QJ hM (by kernel_rfl) h1.1).bind fun _ s2 h2 => ?_
 rw [hM.nam s2 h2.1];refine (YT hM h2.1 fun hc=>yk (f:=yg) hc (by kernel_rfl)).bind fun w s3 h3=>(hb s3 h3.1 (by omega)).bind fun l s4 h4 => ?_
 exact .cond (fun _=>trivial) fun _=>⟨h3.2.2,by show l.length<=m;omega,fun t ht=>hA.tm (by omega) (h4.2.2 t ht)⟩
end
end Go.Proofs.YtiefjlcakpdfeaaGreatDoor
namespace Go.Proofs.YtiefjlcakpdfeaaGreatDoor
open Go Go.Sx Go.RowKit Rb
set_option maxRecDepth 100000
theorem HP {s:ByteArray} (hs:s.size<=10000):∀ f (k:Nat),k<=s.size->s.size+1<=f+k->obD (J3 f s (ja s.size) (k:Int))=true
 | 0,k,h1,h2=>by omega
 | f + 1, k, h1, h2 => by
   unfold J3;rw [ltS];rcases lOq k s.size with hk | hk
   ·have hr:jc (k:Int) s.size=true:=by unfold jc le lt ja;simp;omega
    rw [HM hk,hr,Jk (by omega)]
    cases Kq (jB s (k:Int).toNat) with
    | true=>exact HP hs f (k+1) (by omega) (by omega)
    | false=>rfl
   ·rw [Hj hk];rfl
theorem KV {s:ByteArray} (hs:s.size<=10000):obD (jV s)=true:=by
 have:=HP hs (s.size+1) 0 (by omega) (by omega)
 unfold jV;cases h:J3 (s.size+1) s (ja s.size) 0 with
 | none=>rw [show ((0:Nat):Int)=0 from rfl,h] at this;cases this
 | some b=>rfl
theorem Oc {s:ByteArray} (hs:s.size<=10000):∀ f (k:Nat) (n:Int),k<=s.size->s.size+1<=f+k->nfD (Ka f s (ja s.size) n (k:Int))=true
 | 0,k,n,h1,h2=>by omega
 | f + 1, k, n, h1, h2 => by
   unfold Ka;rw [ltS];rcases lOq k s.size with hk | hk
   ·have hr:jc (k:Int) s.size=true:=by unfold jc le lt ja;simp;omega
    rw [HM hk,hr,Jk (by omega)]
    cases yO (jB s (k:Int).toNat) with
    | true=>exact Oc hs f (k+1) _ (by omega) (by omega)
    | false=>rfl
   ·rw [Hj hk];rfl
theorem BO {s:ByteArray} (hs:s.size<=10000):nmD (jE s)=true:=by
 have:=Oc hs (s.size+1) 0 0 (by omega) (by omega)
 unfold jE;cases (bif bif jb s (bs []) then true else bif lt 1 (ja s.size) then jB s 0==48 else false then true else lt 10 (ja s.size)) with
 | true=>rfl
 | false =>
   cases h:Ka (s.size+1) s (ja s.size) 0 0 with
  | none=>rw [show ((0:Nat):Int)=0 from rfl,h] at this;cases this
  | some y =>
    obtain ⟨b,n,i⟩:=y;cases b<;>rfl
theorem jf7 {s:ByteArray} (h:obV (jV s)=true):jc 0 s.size=true:=by
 unfold jV at h;cases hw:J3 (s.size+1) s (ja s.size) 0 with
 | none=>rw [hw] at h;cases h
 | some b =>
   rw [hw] at h;cases b with
  | false=>cases h
  | true =>
    have h:lt 0 (ja s.size)=true:=h;unfold lt ja at h;unfold jc le lt ja;simp at h ⊢;omega
theorem Om {s:ByteArray} (hs:s.size<=10000):Jj s=true:=by
 unfold Jj;rw [KV hs];cases h:obV (jV s) with
 | false=>rfl
 | true =>
   have:=jf7 h
   rw [this]
   simp
theorem Z8:∀ (b:Bool) (l:List UInt8),(qI b l).length<=l.length
 | _,[]=>by cases ‹Bool› <;> exact lRq _
 | true, c :: r => by
   show (bif isC 10 c then qI false r else qI true r).length<=_;cases isC 10 c with
  | true=>exact Nat.le_succ_of_le (Z8 false r)
  | false=>exact Nat.le_succ_of_le (Z8 true r)
 | false, c :: r => by
   show (bif spC c then qI false r else bif isC 35 c then qI true r else c::r).length<=_;cases spC c with
  | true=>exact Nat.le_succ_of_le (Z8 false r)
  | false =>
    cases isC 35 c with
   | true=>exact Nat.le_succ_of_le (Z8 true r)
   | false=>exact lRq _
def IL (q:LS):Prop:=q.1.size<=10000∧q.2.1.length<=10000
def μL (q:LS):Nat:=q.2.1.length+ya q.1
theorem Vr (p:UInt8->Bool):∀ l:List UInt8,(l.dropWhile p).length<=l.length
 | []=>lRq _
 | c :: r => by
   rw [List.dropWhile_cons];split
   ·exact Nat.le_succ_of_le (Vr p r)
   ·exact lRq _
theorem Vu (p:UInt8->Bool):∀ l:List UInt8,(l.takeWhile p).length<=l.length
 | []=>lRq _
 | c :: r => by
   rw [List.takeWhile_cons];split
   ·exact Nat.succ_le_succ (Vu p r)
   ·exact Nat.zero_le _
theorem jkE (N:Nat):∀ (l:List UInt8),l.length<=10000->okP (Iv N l) fun _ q=>IL q∧μL q<=l.length
 | [],_=>⟨⟨by show (0:Nat)<=10000;omega,by show (0:Nat)<=10000;omega⟩,by show 0+ya (bs [])<=0;exact Nat.le_of_eq (by kernel_rfl)⟩
 | c :: r, h => by
   have h1:=Vr qM r;have h2:=Vu qM r;simp only [List.length_cons] at h;rw [ZY];refine .cond (fun _=>⟨⟨?_,?_⟩,?_⟩) fun _=>.cond (fun _=>⟨⟨?_,?_⟩,?_⟩) fun _=>trivial
   ·show (c::r.takeWhile qM).length<=_;simp only [List.length_cons];omega
   ·show (r.dropWhile qM).length<=_;omega
   ·have:=NH (⟨⟨c::r.takeWhile qM⟩⟩ : ByteArray)
    show (r.dropWhile qM).length+ya (⟨⟨c::r.takeWhile qM⟩⟩ : ByteArray)<=r.length+1;omega
   ·show 1<=10000;omega
   ·show r.length<=_;omega
   ·have:=NH (⟨⟨[c]⟩⟩ : ByteArray)
    show r.length+ya (⟨⟨[c]⟩⟩ : ByteArray)<=r.length+1;omega
def WL (w:ByteArray):Prop:=w.size<=10000
theorem jin (N:Nat):MOk (LM N) IL μL WL where
 tok:=fun s h=>h.1
 adv:=fun s h=>by
  have h1:=Z8 false s.2.1;refine (jkE N (qI false s.2.1) (by have:=h.2;omega)).mono fun _ q h2=>⟨h2.1,?_⟩
  have:=h2.2
  show μL q+ya s.1<=s.2.1.length+ya s.1;omega
 num:=fun s h=>BO h.1
 wrd:=fun s h=>KV h.1
 nam:=fun s h=>Om h.1
inductive AstX where
 | mk (op:ByteArray) (v:Int) (l:List AstX)
inductive AstS where
 | mk (kd:ByteArray) (w:List ByteArray) (e:AstX) (b x:List AstS) (p:Int)
def AF:Alg AstX AstS:=⟨.mk,.mk⟩
mutual
def AstX.den:AstX->RX
 | .mk op v l=>exR op v (AstX.dens l)
def AstX.dens:List AstX->List RX
 | []=>[]
 | a::r=>a.den::AstX.dens r
end
mutual
def AstS.den:AstS->RS
 | .mk kd w e b x p=>stR kd w e.den (AstS.dens b) (AstS.dens x) p
def AstS.dens:List AstS->List RS
 | []=>[]
 | a::r=>a.den::AstS.dens r
end
theorem Mz:∀ {l:List RX} {l':List AstX},All2 (fun x a=>x=a.den) l l'->l=AstX.dens l'
 | _,_,.nil=>rfl
 | _,_,.cons h r=>by rw [h,Mz r];rfl
theorem Wq:∀ {l:List RS} {l':List AstS},All2 (fun x a=>x=a.den) l l'->l=AstS.dens l'
 | _,_,.nil=>rfl
 | _,_,.cons h r=>by rw [h,Wq r];rfl
theorem arf:ARel Eq AR AF (fun x a=>x=a.den) (fun x a=>x=a.den) where
 ex:=fun h=>by rw [Mz h];rfl
 st:=fun he hb hx hp=>by rw [he,Wq hb,Wq hx,hp];rfl
inductive DX:Nat->AstX->Prop where
 | mk {k:Nat} {op:ByteArray} {v:Int} {l:List AstX} (hl:l.length<=2) (h:∀ x ∈ l,DX k x):DX (k+1) (.mk op v l)
theorem DX.mono:∀ {k:Nat} {e:AstX},DX k e->∀ {k'},k<=k'->DX k' e:=by
 intro k e h
 induction h with
 | mk hl h ih =>
   intro k' hk
   match k',hk with
  | k'+1,hk=>exact .mk hl fun x hx=>ih x hx (Nat.le_of_succ_le_succ hk)
inductive DS:Nat->AstS->Prop where
 | mk {k:Nat} {kd:ByteArray} {w:List ByteArray} {e:AstX} {b x:List AstS} {p:Int} (hw:w.length<=k) (hu:∀ u ∈ w,WL u) (hb:b.length<=k) (hb':∀ y ∈ b,DS k y) (hx:x.length<=k) (hx':∀ y ∈ x,DS k y) (he:DX k e):DS (k+1) (.mk kd w e b x p)
theorem DS.mono:∀ {k:Nat} {e:AstS},DS k e->∀ {k'},k<=k'->DS k' e:=by
 intro k e h
 induction h with
 | mk hw hu hb hb' hx hx' he ihb ihx =>
   intro k' hk
   match k',hk with
  | k'+1,hk=>exact .mk (by omega) hu (by omega) (fun y hy=>ihb y hy (Nat.le_of_succ_le_succ hk)) (by omega) (fun y hy=>ihx y hy (Nat.le_of_succ_le_succ hk)) (he.mono (Nat.le_of_succ_le_succ hk))
inductive DV:Nat->AstS->Prop where
 | mk {k:Nat} {kd:ByteArray} {w:List ByteArray} {e:AstX} {b x:List AstS} {p:Int} (hw:w.length<=k) (hu:∀ u ∈ w,WL u) (hb:b.length<=k) (hb':∀ y ∈ b,DV k y) (hx:x.length<=k) (hx':∀ y ∈ x,DV k y):DV (k+1) (.mk kd w e b x p)
theorem DS.w {k:Nat} {t:AstS} (h:DS k t):DV k t:=by
 induction h with
 | mk hw hu hb _ hx _ _ ih1 ih2=>exact .mk hw hu hb ih1 hx ih2
theorem jie:AOk AF WL DX DS where
 ex:=fun h1 h2=>.mk h1 h2
 em:=fun hk h=>h.mono hk
 st:=fun h1 h2 h3 h4 h5 h6 h7=>.mk h1 h2 h4 h5 h6 h7 h3
 tm:=fun hk h=>h.mono hk
def Wm (N:Nat) (l:List UInt8):PR LS (ByteArray × List AstS):=yv (LM N) (sts (LM N) AF 10000 10000).2 (bs [],l,0)
theorem jeK (N:Nat) {l:List UInt8} (hl:l.length<=9000):okP (Wm N l) fun x _=>WL x.1∧x.2.length<=10000∧∀ t ∈ x.2,DS 10000 t:=by
 refine jkZ (jin N) (DN (jin N) jie 10000 10000 (lRq _)).2 ⟨by show (0:Nat)<=10000;omega,by show l.length<=_;omega⟩ ?_ jie
 show l.length+ya (bs [])<10000
 have:=NH (bs [])
 omega
theorem jcS {s:ByteArray} (hs:s.size<=9000):PRel Eq (RML s) (fun x x'=>x.1=x'.1∧All2 (fun t a=>t=a.den) x.2 x'.2) (yv (MP s) (sts (MP s) AR 10000 10000).2 ⟨0,bs [],0⟩) (Wm s.size (lst s)) :=
 OA (jpk (by omega)) (BB (jpk (by omega)) arf 10000 10000).2 _ _ ⟨rfl,rfl,0,rfl,Nat.zero_le _,rfl⟩
theorem jdi:∀ (l:List RS) (i:Nat) (t:RS),nth l i=some t->∀ f,f<8->nth (l.flatMap RS.cells) (i*8+f)=nth t.cells f
 | [],i,t,h,_,_=>by simp [nth] at h
 | a :: r, 0, t, h, f, hf => by
   have:a=t:=by simpa [nth] using h
   subst this;rw [List.flatMap_cons,jd,jd,Nat.zero_mul,Nat.zero_add,List.getElem?_append_left (by show f<8;exact hf)]
 | a :: r, i + 1, t, h, f, hf => by
   have h:nth r i=some t:=h;have hl:(RS.cells a).length=8:=rfl;rw [List.flatMap_cons,jd,List.getElem?_append_right (by rw [hl];omega),hl,← jd]
   have:(i+1)*8+f - 8=i*8+f:=by omega
   rw [this];exact jdi r i t h f hf
theorem zG {l:List RS} {i:Nat} {t:RS} (h:nth l i=some t) {f:Nat} (hf:f<8):((jO l).at i).at f=match nth t.cells f with | some x=>.ofC x | none=>.zero:=by
 show (match nth (l.flatMap RS.cells) (i*8+f) with | some x=>Val.ofC x | none=>.zero)=_
 rw [jdi l i t h f hf]
theorem jj6 {l : List RS} {i : Nat} {t : RS} (h : nth l i = some t) : (jh (jO l) i).kind = t.kind ∧ (jh (jO l) i).wn = t.wn ∧ (jh (jO l) i).wρ = .ofC (.sl [.str] t.wn t.wρ) ∧
  (jh (jO l) i).cond=⟨t.cond.op,t.cond.v,t.cond.n,.ofC (.sl (jm 0) t.cond.n t.cond.ρ)⟩∧(jh (jO l) i).bn=t.bn∧(jh (jO l) i).bρ=Yd t.bn t.bρ∧(jh (jO l) i).en=t.en∧(jh (jO l) i).eρ=Yd t.en t.eρ∧(jh (jO l) i).at_=t.at_:=by
 have h0:=zG h (f:=0) (by omega)
 have h1:=zG h (f:=1) (by omega)
 have h2:=zG h (f:=2) (by omega)
 have h3:=zG h (f:=3) (by omega)
 have h4:=zG h (f:=4) (by omega)
 have h5:=zG h (f:=5) (by omega)
 have h6:=zG h (f:=6) (by omega)
 have h7:=zG h (f:=7) (by omega)
 unfold jh;rw [h0,h1,h2,h3,h4,h5,h6,h7];exact ⟨rfl,rfl,rfl,rfl,rfl,rfl,rfl,rfl,rfl⟩
theorem Of {R:RE} {n:Nat} {ρ:Val} {d:Int} (hn:n<=2) (hR:∀ i,opD (R (jW ρ i) (IntKind.wrap .i64 (d+1)))=true):∀ f (k:Nat),k<=n->n+1<=f+k->opD (KY R n ρ (ja n) d f (k:Int))=true
 | 0,k,h1,h2=>by omega
 | f + 1, k, h1, h2 => by
   unfold KY;rcases lOq k n with hk | hk
   ·have e1:lt (k:Int) (ja n)=true:=by unfold lt ja;simp;exact hk
    rw [e1,inR hk,Int.toNat_natCast,Jk (by omega)]
    have:=hR k
    cases hr:R (jW ρ k) (IntKind.wrap .i64 (d+1)) with
    | none=>rw [hr] at this;cases this
    | some x =>
      simp only [cond_true];cases x != 0 with
     | true=>rfl
     | false=>exact Of hn hR f (k+1) (by omega) (by omega)
   ·have e1:lt (k:Int) (ja n)=false:=by unfold lt ja;simp;omega
    rw [e1];rfl
theorem jfy (c:Nat):0<=U1 c∧U1 c<=2:=by
 unfold U1;split<;>exact ⟨by decide,by decide⟩
theorem Ob:∀ f (e:RX) (d:Nat),d<=33->34<=f+d->opD (QD f e (d:Int))=true
 | 0, e, d, h1, h2 => by
   omega
 | f + 1, e, d, h1, h2 => by
   show opD (V2 (QD f) e (d:Int))=true;unfold V2;cases hb:DG e with
  | true=>rfl
  | false =>
    cases hd:lt 32 (d:Int) with
   | true=>rfl
   | false =>
     have hd':d<=32:=by unfold lt at hd;simp at hd;omega
     have hn:e.n<=2:=by
      unfold DG at hb;simp only at hb;cases h0 : !(!(Nat.beq (zo e.op) 0)) with
      | true=>rw [h0] at hb;cases hb
      | false =>
        rw [h0] at hb;cases h3:(ja e.n != U1 (zo e.op)) with
       | true=>rw [h3] at hb;cases hb
       | false =>
         have:=jfy (zo e.op)
         unfold ja at h3;simp at h3;omega
     refine Of hn (fun i => ?_) (e.n+1) 0 (by omega) (by omega)
     rw [Jk (by omega)]
     exact Ob f _ (d+1) (by omega) (by omega)
theorem NZ {n:Nat} {ρ:Val} (hn:n<=10000) (h:∀ i,i<n->(wAt ρ i).size<=10000):∀ f (k:Nat),k<=n->n+1<=f+k->ooD (Uv n ρ (ja n) f (k:Int))=true
 | 0,k,h1,h2=>by omega
 | f + 1, k, h1, h2 => by
   unfold Uv;rcases lOq k n with hk | hk
   ·have e1:lt (k:Int) (ja n)=true:=by unfold lt ja;simp;exact hk
    rw [e1,inR hk,Int.toNat_natCast,Jk (by omega)]
    have:=KV (h k hk)
    cases hr:jV (wAt ρ k) with
    | none=>rw [hr] at this;cases this
    | some x =>
      simp only [cond_true];cases x with
     | false=>rfl
     | true=>exact NZ hn h f (k+1) (by omega) (by omega)
   ·have e1:lt (k:Int) (ja n)=false:=by unfold lt ja;simp;omega
    rw [e1];rfl
theorem RV {m n:Nat} {κ ρ:Val} (hmn:m=n) (hn:n<=10000) (h:∀ i,i<n->(wAt ρ i).size<=10000):∀ f (k:Nat),k<=m->m+1<=f+k->obD (eqL m κ n ρ (ja m) f (k:Int))=true
 | 0,k,h1,h2=>by omega
 | f + 1, k, h1, h2 => by
   subst hmn;unfold eqL;rcases lOq k m with hk | hk
   ·have e1:lt (k:Int) (ja m)=true:=by unfold lt ja;simp;exact hk
    rw [e1,inR hk,Int.toNat_natCast,Jk (by omega),BO (h k hk)]
    simp only [cond_true];cases zc (nAt κ k) (wAt ρ k) with
    | false=>rfl
    | true=>exact RV rfl hn h f (k+1) (by omega) (by omega)
   ·have e1:lt (k:Int) (ja m)=false:=by unfold lt ja;simp;omega
    rw [e1];rfl
theorem jd6 {n:Nat} {ρ:Val} (hn:n<=10000) (h:∀ i,i<n->(wAt ρ i).size<=10000):obD (QX n ρ)=true:=by
 unfold QX;cases h0:(ja n==0) with
 | true=>rfl
 | false =>
   cases Uw ρ with
  | false=>rfl
  | true =>
    show obD (TW n ρ)=true;unfold TW eqS;cases hm:(ja (zZ (zL (wAt ρ 0))).length != ja (n - 1)) with
   | true=>rfl
   | false =>
     have he:(zZ (zL (wAt ρ 0))).length=n - 1:=by unfold ja at hm;simp at hm;omega
     have hn0:0<n:=by unfold ja at h0;simp at h0;omega
     refine RV he (by omega) (fun i hi => ?_) _ 0 (by omega) (by omega)
     have:wAt (ρ.from 1) i=wAt ρ (1+i):=rfl
     rw [this];exact h _ (by omega)
theorem Oe {s:RS} (hn:s.wn<=10000) (h:∀ i,i<s.wn->(wAt s.wρ i).size<=10000):Ye s=true:=by
 unfold Ye;rw [jd6 hn h];have hb:ooD (Y9 s.wn s.wρ)=true:=NZ hn h _ 0 (by omega) (by omega)
 rw [hb];cases jb s.kind wDo<;>cases jb s.kind wIf<;>cases jb s.kind qc<;>cases jb s.kind zN<;>cases jb s.kind kj<;>first | rfl | simp
inductive SR:AstS->AstS->Prop where
 | mk {kd:ByteArray} {w:List ByteArray} {e:AstX} {b b' x x':List AstS} {p p':Int} (hb:All2 SR b b') (hx:All2 SR x x'):SR (.mk kd w e b x p) (.mk kd w e b' x' p')
theorem ko:∀ l:List AstS,(AstS.dens l).length=l.length
 | []=>rfl
 | a::r=>by show (AstS.dens r).length+1=r.length+1;rw [ko r]
theorem Gr:∀ (l:List AstS) (i:Nat),nth (AstS.dens l) i=(nth l i).map AstS.den
 | [],i=>by simp [AstS.dens,nth]
 | a::r,0=>rfl
 | a::r,i+1=>Gr r i
theorem WH {α β:Type} {R:α->β->Prop}:∀ {l:List α} {r:List β},All2 R l r->∀ {i:Nat},i<l.length->∃ a b,nth l i=some a∧nth r i=some b∧R a b
 | _,_,.nil,i,h=>by simp at h
 | _,_,.cons ha hr,0,_=>⟨_,_,rfl,rfl,ha⟩
 | _,_,.cons ha hr,i+1,h=>WH hr (i:=i) (by simpa using h)
theorem Qu {α:Type}:∀ {l:List α} {i:Nat} {a:α},nth l i=some a->a ∈ l
 | [],i,a,h=>by simp [nth] at h
 | b :: r, 0, a, h => by have : b = a := by simpa [nth] using h
                         subst this;simp
 | b::r,i+1,a,h=>List.mem_cons_of_mem _ (Qu (l:=r) (i:=i) h)
def LieL (l:List AstS) (ρ:Val):Prop:=∀ i,ρ.at i=(jO (AstS.dens l)).at i
theorem LieL.box (b:List AstS) (n:Nat):LieL b (Yd n (jO (AstS.dens b))):=fun _=>rfl
theorem Y1 {l : List AstS} {ρ : Val} (h : LieL l ρ) {i : Nat} {kd : ByteArray} {w : List ByteArray} {e : AstX} {b x : List AstS} {p : Int} (hi : nth l i = some (.mk kd w e b x p)) :
  (jh ρ i).kind=kd∧(jh ρ i).wn=w.length∧(jh ρ i).wρ=.ofC (.sl [.str] w.length (za w))∧(jh ρ i).cond=⟨e.den.op,e.den.v,e.den.n,.ofC (.sl (jm 0) e.den.n e.den.ρ)⟩ ∧
  (jh ρ i).bn=b.length∧LieL b (jh ρ i).bρ∧(jh ρ i).en=x.length∧LieL x (jh ρ i).eρ∧(jh ρ i).at_=p:=by
 have hn:nth (AstS.dens l) i=some (stR kd w e.den (AstS.dens b) (AstS.dens x) p):=by rw [Gr,hi];rfl
 have e0:jh ρ i=jh (jO (AstS.dens l)) i:=Xm (h i);rw [e0];obtain ⟨a1,a2,a3,a4,a5,a6,a7,a8,a9⟩:=jj6 hn;refine ⟨a1,a2,a3,a4,a5.trans (ko b),?_,a7.trans (ko x),?_,a9⟩
 ·rw [a6];exact LieL.box b _
 ·rw [a8];exact LieL.box x _
theorem BY {w:List ByteArray} (hu:∀ u ∈ w,WL u) {n:Nat}:∀ i,i<w.length->(wAt (.ofC (.sl [.str] n (za w))) i).size<=10000:=by
 intro i hi;obtain ⟨u,hu2⟩:=qX w i hi;have h1:=QR w i u hu2
 have h2:wAt (.ofC (.sl [.str] n (za w))) i=u:=by
  show (((za w).at i).at 0).S []=u;rw [h1];rfl
 rw [h2];exact hu u (Qu hu2)
theorem Rv {R : RC} {n : Nat} {ρ ρ' : Val} (hn : n <= 10000) (h : ∀ i, i < n -> R (K7 ρ i) (KU ρ i) = R (K7 ρ' i) (KU ρ' i) ∧ R (Xb ρ i) (Xh ρ i) = R (Xb ρ' i) (Xh ρ' i) ∧ cD (R (K7 ρ i) (KU ρ i)) = true ∧ cD (R (Xb ρ i) (Xh ρ i)) = true) :
  ∀ f (k:Nat) (a b:Int),k<=n->n+1<=f+k->Qx R n ρ (ja n) f (k:Int) a b=Qx R n ρ' (ja n) f (k:Int) a b∧cD (Qx R n ρ (ja n) f (k:Int) a b)=true
 | 0,k,a,b,h1,h2=>by omega
 | f + 1, k, a, b, h1, h2 => by
   unfold Qx;rcases lOq k n with hk | hk
   ·have e1:lt (k:Int) (ja n)=true:=by unfold lt ja;simp;exact hk
    obtain ⟨g1,g2,g3,g4⟩:=h k hk;rw [e1,inR hk,Int.toNat_natCast,Jk (by omega),← g1,← g2]
    simp only [cond_true];cases hb:R (K7 ρ k) (KU ρ k) with
    | none=>rw [hb] at g3;cases g3
    | some y =>
      cases he:R (Xb ρ k) (Xh ρ k) with
     | none=>rw [he] at g4;cases g4
     | some z=>exact Rv hn h f (k+1) _ _ (by omega) (by omega)
   ·have e1:lt (k:Int) (ja n)=false:=by unfold lt ja;simp;omega
    rw [e1];exact ⟨rfl,rfl⟩
theorem NN:∀ (d k:Nat) (l l':List AstS) (ρ ρ':Val),k<d->All2 SR l l'->l.length<=10000->(∀ t ∈ l,DV k t)->k<=10000->LieL l ρ->LieL l' ρ'->cntF d l.length ρ=cntF d l'.length ρ'∧cD (cntF d l.length ρ)=true
 | 0,k,_,_,_,_,h,_,_,_,_,_,_=>by omega
 | d + 1, k, l, l', ρ, ρ', hk, hr, hl, hd, hk1, h1, h2 => by
   have hll:l'.length=l.length:=hr.length.symm;rw [hll];show Qx (cntF d) l.length ρ (ja l.length) (l.length+1) 0 0 0=Qx (cntF d) l.length ρ' (ja l.length) (l.length+1) 0 0 0∧cD (Qx (cntF d) l.length ρ (ja l.length) (l.length+1) 0 0 0)=true;refine Rv hl (fun i hi => ?_) (l.length+1) 0 0 0 (by omega) (by omega)
   obtain ⟨t,t',e1,e2,hs⟩:=WH hr hi;have hdt:=hd t (Qu e1);cases hs with
  | mk hb hx =>
   cases hdt with
  | mk hw hu hb1 hb2 hx1 hx2 =>
   obtain ⟨a1,a2,a3,a4,a5,a6,a7,a8,a9⟩:=Y1 h1 e1;obtain ⟨b1,b2,b3,b4,b5,b6,b7,b8,b9⟩:=Y1 h2 e2;have c1:K7 ρ i=_:=a5;have c2:Xb ρ i=_:=a7;have c3:K7 ρ' i=_:=b5;have c4:Xb ρ' i=_:=b7;rw [c1,c2,c3,c4];obtain ⟨g1,g2⟩:=NN d _ _ _ (KU ρ i) (KU ρ' i) (by omega) hb (by omega) hb2 (by omega) a6 b6
   obtain ⟨g3,g4⟩:=NN d _ _ _ (Xh ρ i) (Xh ρ' i) (by omega) hx (by omega) hx2 (by omega) a8 b8
   exact ⟨g1,g3,g2,g4⟩
theorem Dt {f : Nat} {R : RBl} {n : Nat} {ρ ρ' : Val} (hn : n <= 10000)
  (h:∀ i,i<n->Ye (jh ρ i)=true∧Ye (jh ρ' i)=true∧Q1 (jh ρ i)=Q1 (jh ρ' i)∧(jh ρ i).kind=(jh ρ' i).kind∧(jh ρ i).cond=(jh ρ' i).cond∧opD (QD f (jh ρ i).cond 1)=true ∧
   R (jh ρ i).bn (jh ρ i).bρ=R (jh ρ' i).bn (jh ρ' i).bρ∧R (jh ρ i).en (jh ρ i).eρ=R (jh ρ' i).en (jh ρ' i).eρ∧opD (R (jh ρ i).bn (jh ρ i).bρ)=true∧opD (R (jh ρ i).en (jh ρ i).eρ)=true) :
  ∀ g (k:Nat),k<=n->n+1<=g+k->Jn f R n ρ (ja n) g (k:Int)=Jn f R n ρ' (ja n) g (k:Int)∧opD (Jn f R n ρ (ja n) g (k:Int))=true
 | 0,k,h1,h2=>by omega
 | g + 1, k, h1, h2 => by
   unfold Jn;rcases lOq k n with hk | hk
   ·have e1:lt (k:Int) (ja n)=true:=by unfold lt ja;simp;exact hk
    obtain ⟨g1,g2,g3,g4,g5,g6,g7,g8,g9,g10⟩:=h k hk;rw [e1,inR hk,Int.toNat_natCast,Jk (by omega),g1,g2,← g3,← g4,← g5,← g7,← g8]
    simp only [cond_true];cases !Q1 (jh ρ k) with
    | true=>exact ⟨rfl,rfl⟩
    | false =>
      simp only [cond_false]
      have hx:∃ x,(bif yf (jh ρ k).kind then QD f (jh ρ k).cond 1 else some 0)=some x:=by
       cases yf (jh ρ k).kind with
       | false=>exact ⟨0,rfl⟩
       | true =>
         cases he:QD f (jh ρ k).cond 1 with
        | none=>rw [he] at g6;cases g6
        | some x=>exact ⟨x,rfl⟩
      obtain ⟨x,hx⟩:=hx;rw [hx];simp only;cases x != 0 with
     | true=>exact ⟨rfl,rfl⟩
     | false =>
       simp only [cond_false];cases hb:R (jh ρ k).bn (jh ρ k).bρ with
      | none=>rw [hb] at g9;cases g9
      | some y =>
        simp only;cases y != 0 with
       | true=>exact ⟨rfl,rfl⟩
       | false =>
         simp only [cond_false];cases he:R (jh ρ k).en (jh ρ k).eρ with
        | none=>rw [he] at g10;cases g10
        | some z =>
          simp only;cases z != 0 with
         | true=>exact ⟨rfl,rfl⟩
         | false=>exact Dt hn h g (k+1) (by omega) (by omega)
   ·have e1:lt (k:Int) (ja n)=false:=by unfold lt ja;simp;omega
    rw [e1];exact ⟨rfl,rfl⟩
theorem jjL {s s':RS} (h1:s.kind=s'.kind) (h2:s.wn=s'.wn) (h3:s.wρ=s'.wρ) (h4:s.cond=s'.cond) (h5:s.bn=s'.bn) (h6:s.en=s'.en):Q1 s=Q1 s':=by
 unfold Q1;rw [h1,h2,h3,h4,h5,h6]
theorem NR {f:Nat} (hf:40<=f):∀ (d k:Nat) (l l':List AstS) (ρ ρ':Val),k<d->All2 SR l l'->l.length<=10000->(∀ t ∈ l,DV k t)->k<=10000->LieL l ρ->LieL l' ρ'->JD f d l.length ρ=JD f d l'.length ρ'∧opD (JD f d l.length ρ)=true
 | 0,k,_,_,_,_,h,_,_,_,_,_,_=>by omega
 | d + 1, k, l, l', ρ, ρ', hk, hr, hl, hd, hk1, h1, h2 => by
   have hll:l'.length=l.length:=hr.length.symm;rw [hll];show Jn f (JD f d) l.length ρ (ja l.length) (l.length+1) 0=Jn f (JD f d) l.length ρ' (ja l.length) (l.length+1) 0∧opD (Jn f (JD f d) l.length ρ (ja l.length) (l.length+1) 0)=true;refine Dt hl (fun i hi => ?_) (l.length+1) 0 (by omega) (by omega)
   obtain ⟨t,t',e1,e2,hs⟩:=WH hr hi;have hdt:=hd t (Qu e1);cases hs with
  | mk hb hx =>
   cases hdt with
  | mk hw hu hb1 hb2 hx1 hx2 =>
   obtain ⟨a1,a2,a3,a4,a5,a6,a7,a8,a9⟩:=Y1 h1 e1;obtain ⟨b1,b2,b3,b4,b5,b6,b7,b8,b9⟩:=Y1 h2 e2;have hlb:=hb.length;have hlx:=hx.length;obtain ⟨g1,g2⟩:=NR hf d _ _ _ (jh ρ i).bρ (jh ρ' i).bρ (by omega) hb (by omega) hb2 (by omega) a6 b6
   obtain ⟨g3,g4⟩:=NR hf d _ _ _ (jh ρ i).eρ (jh ρ' i).eρ (by omega) hx (by omega) hx2 (by omega) a8 b8
   refine ⟨?_,?_,?_,a1.trans b1.symm,a4.trans b4.symm,Ob f _ 1 (by omega) (by omega),?_,?_,?_,?_⟩
   ·refine Oe (by rw [a2];omega) fun j hj => ?_
    rw [a2] at hj;rw [a3];exact BY hu j hj
   ·refine Oe (by rw [b2];omega) fun j hj => ?_
    rw [b2] at hj;rw [b3];exact BY hu j hj
   ·exact jjL (a1.trans b1.symm) (a2.trans b2.symm) (a3.trans b3.symm) (a4.trans b4.symm) (by rw [a5,b5,hlb]) (by rw [a7,b7,hlx])
   ·rw [a5,b5];exact g1
   ·rw [a7,b7];exact g3
   ·rw [a5];exact g2
   ·rw [a7];exact g4
theorem jau {f d k : Nat} (hf : 40 <= f) (hk : k < d) (hk1 : k <= 10000) {name : ByteArray} (hn : name.size <= 10000) {l l' : List AstS} (hr : All2 SR l l') (hl : l.length <= 10000) (hd : ∀ t ∈ l, DV k t) :
  jz f d name l.length (jO (AstS.dens l))=jz f d name l'.length (jO (AstS.dens l'))∧opD (jz f d name l.length (jO (AstS.dens l)))=true:=by
 unfold jz;obtain ⟨g1,g2⟩:=NN d k l l' _ _ hk hr hl hd hk1 (fun _=>rfl) (fun _=>rfl);obtain ⟨g3,g4⟩:=NR hf d k l l' _ _ hk hr hl hd hk1 (fun _=>rfl) (fun _=>rfl);rw [Om hn,← g1,← g3];simp only [cond_true];cases !yg name with
 | true=>exact ⟨trivial,rfl⟩
 | false =>
   simp only [cond_false];cases hc:cntF d l.length (jO (AstS.dens l)) with
  | none=>rw [hc] at g2;cases g2
  | some y =>
    obtain ⟨a,b⟩:=y;simp only;cases lt 4096 a with
   | true=>exact ⟨trivial,rfl⟩
   | false =>
     simp only [cond_false];cases lt 16 b with
    | true=>exact ⟨trivial,rfl⟩
    | false=>exact ⟨trivial,g4⟩
theorem SR.refl:∀ t:AstS,SR t t:=by
 suffices h:∀ n (t:AstS),SizeOf.sizeOf t<=n->SR t t from fun t=>h (SizeOf.sizeOf t) t (lRq _)
 intro n
 induction n with
 | zero=>intro t ht;cases t;simp at ht
 | succ n ih =>
   intro t ht;cases t with
  | mk kd w e b x p =>
    have hL:∀ l:List AstS,SizeOf.sizeOf l<=n->All2 SR l l:=by
     intro l
     induction l with
     | nil=>exact fun _=>.nil
     | cons a r ihr =>
       intro hl;simp at hl;exact .cons (ih a (by omega)) (ihr (by omega))
    simp at ht;exact .mk (hL b (by omega)) (hL x (by omega))
theorem SR.reflL:∀ l:List AstS,All2 SR l l
 | []=>.nil
 | a::r=>.cons (SR.refl a) (SR.reflL r)
abbrev jae:=ByteArray × List AstS × Int × Int
def jlF (x:jae):Kj:=(x.1,AstS.dens x.2.1,x.2.2)
def jak (x:ByteArray × List AstS):Int:=opN (jz 40 10001 x.1 x.2.length (jO (AstS.dens x.2)))
def jbz:PR LS (ByteArray × List AstS)->jae
 | .stuck=>(bs [],[],0,0)
 | .pan a=>(bs [],[],a,4)
 | .ret x _=>bif jak x != 0 then (bs [],[],0,jak x) else (x.1,x.2,0,0)
def Ht (s:ByteArray):jae:=bif lt 8192 (ja s.size) then (bs [],[],0,5) else jbz (Wm s.size (lst s))
theorem jg6 (s:ByteArray) (hs:s.size<=9000):QZ 40 10001 (blK 10000 10000) s=some (jlF (Ht s)):=by
 unfold QZ Ht;cases lt 8192 (ja s.size) with
 | true=>rfl
 | false =>
   simp only [cond_false];have h1:=jcS hs;have h2:=jeK s.size (l:=lst s) hs;show zX 40 10001 (yv (MP s) (sts (MP s) AR 10000 10000).2 ⟨0,bs [],0⟩)=_;cases hb:Wm s.size (lst s) with
  | stuck=>rw [hb] at h2;exact h2.elim
  | pan a =>
    rw [hb] at h1;cases hp:yv (MP s) (sts (MP s) AR 10000 10000).2 ⟨0,bs [],0⟩ with
   | stuck=>rw [hp] at h1;cases h1
   | pan a'=>rw [hp] at h1;cases h1 with | pan h=>subst h;rfl
   | ret v s'=>rw [hp] at h1;cases h1
  | ret x q =>
    rw [hb] at h1 h2;obtain ⟨w1,w2,w3⟩:=h2;cases hp:yv (MP s) (sts (MP s) AR 10000 10000).2 ⟨0,bs [],0⟩ with
   | stuck=>rw [hp] at h1;cases h1
   | pan a'=>rw [hp] at h1;cases h1
   | ret v s' =>
     rw [hp] at h1;cases h1 with
    | ret hv hs' =>
     obtain ⟨v1,v2⟩:=v;obtain ⟨x1,x2⟩:=x;obtain ⟨rfl,hl⟩:=hv;have hl:=Wq hl;simp only at hl;subst hl;have hf:=(jau (f:=40) (d:=10001) (k:=10000) (lRq _) (by omega) (lRq _) w1 (SR.reflL x2) w2 fun t h=>(w3 t h).w).2
     unfold zX jbz jak;simp only [ko];cases he:jz 40 10001 v1 x2.length (jO (AstS.dens x2)) with
    | none=>rw [he] at hf;cases hf
    | some e =>
      simp only [opN];cases e != 0<;>rfl
theorem jpt:ARel (fun _ _=>True) AF AF Eq SR where
 ex:=fun {op v l l'} h=>by
  have:l=l':=by
   induction h with
   | nil=>rfl
   | cons a _ ih=>rw [a,ih]
  rw [this]
 st:=fun he hb hx _=>by subst he;exact .mk hb hx
abbrev RXX:=RX->RX->Option Bool
def G99 (R:RXX):List A1->Option (Bool × AV)
 | [.agg [.str o,.int .i64 v,.sl es n ρ],.agg [.str o',.int .i64 v',.sl es' m σ]]=>if shEq.shsEq es (jm 0)&&shEq.shsEq es' (jm 0) then some (os1 (R ⟨o,v,n,ρ⟩ ⟨o',v',m,σ⟩),jF (ov1 false (R ⟨o,v,n,ρ⟩ ⟨o',v',m,σ⟩))) else none
 | _=>none
def WU (R:RXX) (x y:RX) (l:Int):Nat->Int->Option Bool
 | 0,_=>none
 | k+1,i=>bif lt i l then nd (jc i x.n) (nd (jc i y.n) ((R (jW x.ρ i.toNat) (jW y.ρ i.toNat)).bind fun b=>bif !b then some false else WU R x y l k (IntKind.wrap .i64 (i+1)))) else some true
def jaA (x y:RX):Bool:=bif (bif !jb x.op y.op then true else x.v != y.v) then true else ja x.n != ja y.n
def au (R:RXX):RXX:=fun x y=>bif jaA x y then some false else WU R x y (ja x.n) (x.n+1) 0
def UZ:Nat->RXX
 | 0=>fun _ _=>none
 | f+1=>au (UZ f)
abbrev RBB:=Nat->Val->Nat->Val->Option Bool
def G43 (R:RBB):List A1->Option (Bool × AV)
 | [.c (.sl es n ρ),.c (.sl es' m σ)]=>if shEq.shsEq es (jm 1)&&shEq.shsEq es' (jm 1) then some (os1 (R n ρ m σ),jF (ov1 false (R n ρ m σ))) else none
 | _=>none
def jah (s t:RS):Bool:=!jb s.kind t.kind
def TT (s t:RS):Bool:=bif jah s t then true else !ov1 false (Q9 s.wn s.wρ t.wn t.wρ)
def Im (X:RXX) (s t:RS):Bool:=bif TT s t then true else !ov1 false (X s.cond t.cond)
def DZ (X:RXX) (R:RBB) (s t:RS):Bool:=bif Im X s t then true else !ov1 false (R s.bn s.bρ t.bn t.bρ)
def jaQ (X:RXX) (R:RBB) (s t:RS):Bool:=bif DZ X R s t then true else !ov1 false (R s.en s.eρ t.en t.eρ)
def jaK (s t:RS):Bool:=!((jah s t==false)&&true)||os1 (Q9 s.wn s.wρ t.wn t.wρ)
def jb3 (X:RXX) (s t:RS):Bool:=!((TT s t==false)&&true)||os1 (X s.cond t.cond)
def jaG (X:RXX) (R:RBB) (s t:RS):Bool:=!((Im X s t==false)&&true)||os1 (R s.bn s.bρ t.bn t.bρ)
def jbW (X:RXX) (R:RBB) (s t:RS):Bool:=!((DZ X R s t==false)&&true)||os1 (R s.en s.eρ t.en t.eρ)
def Gd (X:RXX) (R:RBB) (s t:RS):Option Bool:=nd (jaK s t) (nd (jb3 X s t) (nd (jaG X R s t) (nd (jbW X R s t) (some (jaQ X R s t)))))
def Bi (X:RXX) (R:RBB) (n:Nat) (ρ:Val) (m:Nat) (σ:Val) (l:Int):Nat->Int->Option Bool
 | 0,_=>none
 | k+1,i=>bif lt i l then nd (jc i n) (nd (jc i m) ((Gd X R (jh ρ i.toNat) (jh σ i.toNat)).bind fun c=>bif c then some false else Bi X R n ρ m σ l k (IntKind.wrap .i64 (i+1)))) else some true
def UY (X:RXX) (R:RBB):RBB:=fun n ρ m σ=>bif ja n != ja m then some false else Bi X R n ρ m σ (ja n) (n+1) 0
theorem TC {R:RBB} {args:List A1} {r:AV} (h:G43 R args=some (true,r)):∃ n ρ m σ,args=[.c (.sl (jm 1) n ρ),.c (.sl (jm 1) m σ)]∧os1 (R n ρ m σ)=true∧r=jF (ov1 false (R n ρ m σ)):=by
 unfold G43 at h;split at h
 ·rename_i es n ρ es' m σ;split at h
  ·rename_i hs;rw [aTq] at hs;rw [jj hs.1,jj hs.2];simp only [sIq,pIq] at h;exact ⟨n,ρ,m,σ,rfl,h.1,h.2.symm⟩
  ·cases h
 ·cases h
def U3 (f:Nat):Nat->RBB
 | 0=>fun _ _ _ _=>none
 | d+1=>UY (UZ f) (U3 f d)
end Go.Proofs.YtiefjlcakpdfeaaGreatDoor