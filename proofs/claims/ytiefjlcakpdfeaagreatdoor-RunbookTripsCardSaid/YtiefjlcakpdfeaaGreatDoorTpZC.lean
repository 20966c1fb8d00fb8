/-
 Part TpZC of the proof: RpA RuZ RpB RpC RpD.
-/
import Derived.Test.YtiefjlcakpdfeaaGreatDoorTpY
import Derived.Test.YtiefjlcakpdfeaaGreatDoorTpZB
import Derived.Lib.IndexLaws
namespace Go.Proofs.YtiefjlcakpdfeaaGreatDoor
open Go Go.Sx Go.RowKit Rb
set_option maxRecDepth 100000
inductive PRel {σ σ' α α':Type} (RP:Int->Int->Prop) (R:σ->σ'->Prop) (V:α->α'->Prop):PR σ α->PR σ' α'->Prop where
 | stuck:PRel RP R V .stuck .stuck
 | pan {a a':Int} (h:RP a a'):PRel RP R V (.pan a) (.pan a')
 | ret {v:α} {v':α'} {s:σ} {s':σ'} (hv:V v v') (hs:R s s'):PRel RP R V (.ret v s) (.ret v' s')
section
variable {σ σ' α α' β β' ε ε' τ τ':Type} {RP:Int->Int->Prop} {R:σ->σ'->Prop}
theorem PRel.bind {V : α -> α' -> Prop} {U : β -> β' -> Prop} {x : PR σ α} {x' : PR σ' α'} {f : α -> σ -> PR σ β} {f' : α' -> σ' -> PR σ' β'} (h : PRel RP R V x x')
  (hf:∀ v v' s s',V v v'->R s s'->PRel RP R U (f v s) (f' v' s')):PRel RP R U (x.bind f) (x'.bind f'):=by
 cases h with
 | stuck=>exact .stuck
 | pan h=>exact .pan h
 | ret hv hs=>exact hf _ _ _ _ hv hs
theorem PRel.cond {V:α->α'->Prop} {c:Bool} {x y:PR σ α} {x' y':PR σ' α'} (h1:PRel RP R V x x') (h2:PRel RP R V y y'):PRel RP R V (bif c then x else y) (bif c then x' else y'):=by
 cases c with
 | true=>exact h1
 | false=>exact h2
structure MRel (RP:Int->Int->Prop) (M:Mach σ) (M':Mach σ') (R:σ->σ'->Prop):Prop where
 tx:∀ {s s'},R s s'->M.tx s=M'.tx s'
 pos:∀ {s s'},R s s'->RP (M.pos s) (M'.pos s')
 adv:∀ {s s'},R s s'->PRel RP R (fun _ _=>True) (M.adv s) (M'.adv s')
structure ARel (RP:Int->Int->Prop) (A:Alg ε τ) (A':Alg ε' τ') (E:ε->ε'->Prop) (T:τ->τ'->Prop):Prop where
 ex:∀ {op v l l'},All2 E l l'->E (A.ex op v l) (A'.ex op v l')
 st:∀ {k w e e' b b' x x' p p'},E e e'->All2 T b b'->All2 T x x'->RP p p'->T (A.st k w e b x p) (A'.st k w e' b' x' p')
variable {M:Mach σ} {M':Mach σ'} (hM:MRel RP M M' R)
include hM
theorem KY {V:α->α'->Prop} {s:σ} {s':σ'} (h:R s s'):PRel RP R V (KS M s) (KS M' s'):=.pan (hM.pos h)
theorem JP {t:ByteArray} {s:σ} {s':σ'} (h:R s s'):PRel RP R Eq (qC M t s) (qC M' t s'):=by
 unfold qC;rw [hM.tx h];exact .cond ((hM.adv h).bind fun _ _ _ _ _ h=>.ret rfl h) (.ret rfl h)
theorem Jo {t:ByteArray} {s:σ} {s':σ'} (h:R s s'):PRel RP R (fun _ _=>True) (qN M t s) (qN M' t s'):=by
 unfold qN;refine (JP hM h).bind fun c c' s s' hc h => ?_;subst hc;exact .cond (.ret trivial h) (KY hM h)
theorem Q4 {ok:Bool} {s:σ} {s':σ'} (h:R s s'):PRel RP R Eq (qD M ok s) (qD M' ok s'):=by
 unfold qD;refine .cond ((hM.adv h).bind fun _ _ _ _ _ h2=>.ret (hM.tx h) h2) (KY hM h)
theorem Bt {most:Int} {s:σ} {s':σ'} (h:R s s'):PRel RP R Eq (yw M most s) (yw M' most s'):=by
 unfold yw;rw [hM.tx h];cases jt (M'.tx s') with
 | none=>exact .stuck
 | some y=>exact (Q4 hM h).bind fun _ _ _ _ _ h=>.ret rfl h
theorem jcw {s:σ} {s':σ'} (h:R s s'):PRel RP R Eq (ZY M s) (ZY M' s'):=by
 unfold ZY;rw [hM.tx h];exact (Q4 hM h).bind fun _ _ _ _ _ h=>.ret rfl h
theorem G2 {s:σ} {s':σ'} (h:R s s'):PRel RP R Eq (kT M s) (kT M' s'):=by
 unfold kT;rw [hM.tx h];cases jF (M'.tx s') with
 | none=>exact .stuck
 | some y=>exact Q4 hM h
theorem Ii {k:Int} {s:σ} {s':σ'} (h:R s s'):PRel RP R Eq (J5 M k s) (J5 M' k s'):=by
 unfold J5;rw [hM.tx h];exact .cond (Q4 hM h) .stuck
theorem Ue:∀ (l:List Int) {s:σ} {s':σ'},R s s'->PRel RP R Eq (zU M l s) (zU M' l s')
 | [],_,_,h=>.ret rfl h
 | k :: r, s, s', h => by
   unfold zU;refine (Ii hM h).bind fun w w' s1 s1' hw h => ?_;subst hw;refine (Ue r h).bind fun l l' s2 s2' hl h => ?_;subst hl;exact .ret rfl h
theorem NA {s:σ} {s':σ'} (h:R s s'):PRel RP R Eq (zH M s) (zH M' s'):=by
 unfold zH;rw [hM.tx h];refine (Q4 hM h).bind fun w w' s1 s1' hw h => ?_;subst hw;refine (Ue hM _ h).bind fun l l' s2 s2' hl h => ?_;subst hl;exact .ret rfl h
variable {A:Alg ε τ} {A':Alg ε' τ'} {E:ε->ε'->Prop} {T:τ->τ'->Prop} (hA:ARel RP A A' E T)
include hA
abbrev zQ (RP:Int->Int->Prop) (R:σ->σ'->Prop) (V:α->α'->Prop) (f:σ->PR σ α) (f':σ'->PR σ' α'):Prop:=∀ s s',R s s'->PRel RP R V (f s) (f' s')
theorem Gr {o : σ -> PR σ ε} {o' : σ' -> PR σ' ε'} {g : ε -> σ -> PR σ ε} {g' : ε' -> σ' -> PR σ' ε'} (ho : zQ RP R E o o') (hg : ∀ e e', E e e' -> zQ RP R E (g e) (g' e')) :
  ∀ (l:List ByteArray) {e:ε} {e':ε'} {s:σ} {s':σ'},E e e'->R s s'->PRel RP R E (Ju M A o g e l s) (Ju M' A' o' g' e' l s')
 | [],_,_,_,_,he,h=>.ret he h
 | w :: r, e, e', s, s', he, h => by
   unfold Ju;refine (JP hM h).bind fun c c' s1 s1' hc h => ?_;subst hc;refine .cond ((ho _ _ h).bind fun x x' s2 s2' hx h=>hg _ _ (hA.ex (.cons he (.cons hx .nil))) _ _ h) (Gr ho hg r he h)
theorem Y2 {ops:List ByteArray} {o:σ->PR σ ε} {o':σ'->PR σ' ε'} (ho:zQ RP R E o o'):∀ (k:Nat) (e:ε) (e':ε'),E e e'->zQ RP R E (y9 M A ops o k e) (y9 M' A' ops o' k e')
 | 0,_,_,_,_,_,_=>.stuck
 | k+1,_,_,he,_,_,h=>Gr hM hA ho (Y2 ho k) ops he h
theorem Og {x:σ->PR σ ε} {x':σ'->PR σ' ε'} (hx:zQ RP R E x x'):zQ RP R E (Zv M A x) (Zv M' A' x'):=by
 intro s s' h;unfold Zv;rw [hM.tx h];refine .cond ?_ (.cond ?_ (.cond ?_ ?_))
 ·exact (hM.adv h).bind fun _ _ _ _ _ h=>.ret (hA.ex .nil) h
 ·refine (hM.adv h).bind fun _ _ _ _ _ h=>(jcw hM h).bind fun n n' _ _ hn h => ?_;subst hn;exact .ret (hA.ex .nil) h
 ·exact (hM.adv h).bind fun _ _ _ _ _ h=>(hx _ _ h).bind fun e e' _ _ he h=>(Jo hM h).bind fun _ _ _ _ _ h=>.ret he h
 ·refine (Bt hM h).bind fun n n' _ _ hn h => ?_;subst hn;exact .ret (hA.ex .nil) h
theorem D3 {x:σ->PR σ ε} {x':σ'->PR σ' ε'} (hx:zQ RP R E x x') (k:Nat):zQ RP R E (Zm M A x k) (Zm M' A' x' k):=fun s s' h =>
 (Og hM hA hx s s' h).bind fun e e' _ _ he h=>Y2 hM hA (Og hM hA hx) k e e' he _ _ h
theorem B5 {o x:σ->PR σ ε} {o' x':σ'->PR σ' ε'} (ho:zQ RP R E o o') (hx:zQ RP R E x x') (k:Nat):zQ RP R E (Jx M A o x k) (Jx M' A' o' x' k):=by
 intro s s' h;unfold Jx;refine (JP hM h).bind fun c c' s1 s1' hc h => ?_;subst hc;refine .cond ((ho _ _ h).bind fun e e' _ _ he h=>.ret (hA.ex (.cons he .nil)) h) ?_;exact (D3 hM hA hx k _ _ h).bind fun e e' _ _ he h=>Gr hM hA (D3 hM hA hx k) (fun e e' he _ _ h=>.ret he h) _ he h
theorem NV {o x:σ->PR σ ε} {o' x':σ'->PR σ' ε'} (ho:zQ RP R E o o') (hx:zQ RP R E x x') (k:Nat):zQ RP R E (QE M A o x k) (QE M' A' o' x' k):=fun s s' h =>
 (B5 hM hA ho hx k s s' h).bind fun e e' _ _ he h=>Y2 hM hA (B5 hM hA ho hx k) k e e' he _ _ h
theorem jds {o x:σ->PR σ ε} {o' x':σ'->PR σ' ε'} (ho:zQ RP R E o o') (hx:zQ RP R E x x') (k:Nat):zQ RP R E (Z0 M A o x k) (Z0 M' A' o' x' k):=fun s s' h =>
 (NV hM hA ho hx k s s' h).bind fun e e' _ _ he h=>Y2 hM hA (NV hM hA ho hx k) k e e' he _ _ h
theorem Kc (K:Nat):∀ d,zQ RP R E (exs M A K d).1 (exs M' A' K d).1∧zQ RP R E (exs M A K d).2 (exs M' A' K d).2
 | 0=>⟨fun _ _ _=>.stuck,fun _ _ _=>.stuck⟩
 | d+1=>⟨B5 hM hA (Kc K d).1 (Kc K d).2 K,jds hM hA (Kc K d).1 (Kc K d).2 K⟩
omit hA in
theorem GR:∀ (k:Nat) {s:σ} {s':σ'},R s s'->PRel RP R Eq (ye M k s) (ye M' k s')
 | 0,_,_,_=>.stuck
 | k + 1, s, s', h => by
   unfold ye;refine (JP hM h).bind fun c c' s1 s1' hc h => ?_;subst hc;refine .cond (.ret rfl h) ((G2 hM h).bind fun w w' s2 s2' hw h => ?_);subst hw;refine (GR k h).bind fun l l' s3 s3' hl h => ?_;subst hl;exact .ret rfl h
omit hA in
theorem af {st:σ->PR σ τ} {st':σ'->PR σ' τ'} (hs:zQ RP R T st st'):∀ (k:Nat),zQ RP R (All2 T) (zW M st k) (zW M' st' k)
 | 0,_,_,_=>.stuck
 | k + 1, s, s', h => by
   unfold zW;refine (JP hM h).bind fun c c' s1 s1' hc h => ?_;subst hc;exact .cond (.ret .nil h) ((hs _ _ h).bind fun x x' s2 s2' hx h=>(af hs k _ _ h).bind fun l l' s3 s3' hl h=>.ret (.cons hx hl) h)
omit hA in
theorem jaL {st:σ->PR σ τ} {st':σ'->PR σ' τ'} (hs:zQ RP R T st st') (k:Nat):zQ RP R (All2 T) (Yk M st k) (Yk M' st' k):=fun _ _ h =>
 (Jo hM h).bind fun _ _ _ _ _ h=>af hM hs k _ _ h
theorem Wc {x:σ->PR σ ε} {x':σ'->PR σ' ε'} (hx:zQ RP R E x x') {b:σ->PR σ (List τ)} {b':σ'->PR σ' (List τ')} (hb:zQ RP R (All2 T) b b') (k:Nat):zQ RP R T (qO M A x b k) (qO M' A' x' b' k):=by
 intro s s' h;have hp:=hM.pos h;have h0:E (FZ A) (FZ A'):=hA.ex .nil;unfold qO;rw [hM.tx h];refine .cond ?_ (.cond ?_ (.cond ?_ (.cond ?_ (.cond ?_ (KY hM h)))))
 ·refine (hM.adv h).bind fun _ _ _ _ _ h=>(NA hM h).bind fun w w' _ _ hw h=>(JP hM h).bind fun c c' _ _ hc h => ?_;subst hw;subst hc;refine .cond ((hb _ _ h).bind fun l l' _ _ hl h=>(Jo hM h).bind fun _ _ _ _ _ h=>.ret (hA.st h0 hl .nil hp) h) ((Jo hM h).bind fun _ _ _ _ _ h=>.ret (hA.st h0 .nil .nil hp) h)
 ·refine (hM.adv h).bind fun _ _ _ _ _ h=>(hx _ _ h).bind fun e e' _ _ he h=>(hb _ _ h).bind fun l l' _ _ hl h=>(JP hM h).bind fun c c' _ _ hc h => ?_;subst hc;exact .cond ((hb _ _ h).bind fun r r' _ _ hr h=>.ret (hA.st he hl hr hp) h) (.ret (hA.st he hl .nil hp) h)
 ·refine (hM.adv h).bind fun _ _ _ _ _ h=>(Bt hM h).bind fun n n' _ _ hn h=>(hb _ _ h).bind fun l l' _ _ hl h => ?_;subst hn;exact .ret (hA.st (hA.ex .nil) hl .nil hp) h
 ·exact (hM.adv h).bind fun _ _ _ _ _ h=>(hx _ _ h).bind fun e e' _ _ he h=>(Jo hM h).bind fun _ _ _ _ _ h=>.ret (hA.st he .nil .nil hp) h
 ·refine (hM.adv h).bind fun _ _ _ _ _ h=>(G2 hM h).bind fun w w' _ _ hw h=>(GR hM k h).bind fun l l' _ _ hl h => ?_;subst hw;subst hl;exact .ret (hA.st h0 .nil .nil hp) h
theorem U7 (K:Nat):∀ d,zQ RP R T (sts M A K d).1 (sts M' A' K d).1∧zQ RP R (All2 T) (sts M A K d).2 (sts M' A' K d).2
 | 0=>⟨fun _ _ _=>.stuck,fun _ _ _=>.stuck⟩
 | d+1=>⟨Wc hM hA (Kc hM hA K K).2 (U7 K d).2 K,jaL hM (Wc hM hA (Kc hM hA K K).2 (U7 K d).2 K) K⟩
omit hA in
theorem Ox {b:σ->PR σ (List τ)} {b':σ'->PR σ' (List τ')} (hb:zQ RP R (All2 T) b b'):zQ RP R (fun x x'=>x.1=x'.1∧All2 T x.2 x'.2) (yJ M b) (yJ M' b'):=by
 intro s s' h;unfold yJ;refine (hM.adv h).bind fun _ _ _ _ _ h=>(Jo hM h).bind fun _ _ _ _ _ h => ?_;rw [hM.tx h];refine .cond ((Q4 hM h).bind fun w w' _ _ hw h=>(hb _ _ h).bind fun l l' _ _ hl h => ?_) .stuck;subst hw;rw [hM.tx h];exact .cond (KY hM h) (.ret ⟨rfl,hl⟩ h)
end
end Go.Proofs.YtiefjlcakpdfeaaGreatDoor
namespace Go.Proofs.YtiefjlcakpdfeaaGreatDoor
open Go Go.Sx Go.RowKit Rb
theorem WT {a b:Nat} (h:a<b):Nat.blt a b=true:=by unfold Nat.blt;rw [Nat.ble_eq];exact h
theorem GG {a b:Nat} (h:b<=a):Nat.blt a b=false:=by
 cases hb:Nat.blt a b with
 | false=>rfl
 | true=>unfold Nat.blt at hb;rw [Nat.ble_eq] at hb;omega
theorem inR {k n:Nat} (h:k<n):jc (k:Int) n=true:=by unfold jc le lt ja;simp;omega
theorem jjR {κ κ':Val} {i j:Nat} (h:κ.at i=κ'.at j):jg κ i=jg κ' j:=by
 unfold jg;rw [h]
theorem IV {n:Nat} {ρ σ:Val} (hn:n<=100000) (h:∀ j,j<n->wd ρ j=wd σ j):∀ f (i:Nat),n+1<=f+i->i<=n->Qk n ρ n σ (ja n) f (i:Int)=some true
 | 0,i,h1,h2=>by omega
 | f + 1, i, h1, h2 => by
   unfold Qk;rcases Nat.lt_or_ge i n with hi | hi
   ·have e1:lt (i:Int) (ja n)=true:=by unfold lt ja;simp;exact hi
    have e4:IntKind.wrap .i64 ((i:Int)+1)=((i+1:Nat):Int):=by rw [Ro.w64_id (by omega) (by omega)];omega
    have e5:jb (wd ρ i) (wd σ i)=true:=(qX _ _).2 (h i hi);rw [e1,inR hi,e4];simp only [nd,cond_true,Int.toNat_natCast,e5,Bool.not_true,cond_false];exact IV hn h f (i+1) (by omega) (by omega)
   ·have e1:lt (i:Int) (ja n)=false:=by unfold lt ja;simp;omega
    rw [e1];rfl
theorem jh7 {a b:Nat} {ρ σ:Val} (hab:a=b) (hn:a<=100000) (h:∀ j,j<a->wd ρ j=wd σ j):ZA a ρ b σ=some true:=by
 subst hab;unfold ZA;have e:(ja a != ja a)=false:=by simp
 rw [e];exact IV hn h (a+1) 0 (by omega) (by omega)
end Go.Proofs.YtiefjlcakpdfeaaGreatDoor
namespace Go.Proofs.YtiefjlcakpdfeaaGreatDoor
open Go Go.Sx Go.RowKit Rb
set_option maxRecDepth 100000
def spC (c:UInt8):Bool:=isSp (c.toNat:Int)
def qm (c:UInt8):Bool:=QB (c.toNat:Int)
def KX (c:UInt8):Bool:=ky (c.toNat:Int)
def isC (n:Int) (c:UInt8):Bool:=(c.toNat:Int)==n
def zb:Bool->List UInt8->List UInt8
 | _,[]=>[]
 | true,c::r=>bif isC 10 c then zb false r else zb true r
 | false,c::r=>bif spC c then zb false r else bif isC 35 c then zb true r else c::r
abbrev LS:=ByteArray × List UInt8 × Int
def VE (N:Nat):List UInt8->PR LS Unit
 | []=>.ret () (bs [],[],(N:Int))
 | c::r=>bif qm c then .ret () (⟨⟨c::r.takeWhile qm⟩⟩,r.dropWhile qm,(N:Int) - (r.length+1:Nat)) else bif KX c then .ret () (⟨⟨[c]⟩⟩,r,(N:Int) - (r.length+1:Nat)) else .pan ((N:Int) - (r.length+1:Nat))
theorem Yy (N:Nat) (c:UInt8) (r:List UInt8):VE N (c::r)=bif qm c then .ret () (⟨⟨c::r.takeWhile qm⟩⟩,r.dropWhile qm,(N:Int) - (r.length+1:Nat)) else bif KX c then .ret () (⟨⟨[c]⟩⟩,r,(N:Int) - (r.length+1:Nat)) else .pan ((N:Int) - (r.length+1:Nat)):=rfl
def LM (N:Nat):Mach LS:=⟨Prod.fst,fun q=>q.2.2,fun q=>VE N (zb false q.2.1)⟩
variable {s:ByteArray}
abbrev lst (s:ByteArray):List UInt8:=s.data.toList
theorem yx:(lst s).length=s.size:=rfl
theorem JV {k:Nat} (h:k<s.size):∃ c,(lst s).drop k=c::(lst s).drop (k+1)∧jx s k=(c.toNat:Int):=by
 have h':k<(lst s).length:=h;refine ⟨(lst s)[k],List.drop_eq_getElem_cons h',?_⟩;unfold jx;rw [jd,List.getElem?_eq_getElem h']
theorem zp {k:Nat} (h:k<=100000):IntKind.wrap .i64 ((k:Int)+1)=((k+1:Nat):Int):=by rw [Ro.w64_id (by omega) (by omega)];omega
theorem ltS {k:Nat}:lt (k:Int) (ja s.size)=Nat.blt k s.size:=by
 unfold lt ja;cases h:Nat.blt k s.size with
 | true=>unfold Nat.blt at h;rw [Nat.ble_eq] at h;simp;omega
 | false =>
   have:¬ (k+1<=s.size):=by
    intro h2
    have:Nat.blt k s.size=true:=by unfold Nat.blt;rw [Nat.ble_eq];exact h2
    rw [this] at h;cases h
   simp;omega
theorem MD:∀ (l:List UInt8),(∀ k:Nat,l[k]? ≠ some 10)->zb true l=[]
 | [],_=>rfl
 | c :: r, h => by
   have h0:isC 10 c=false:=by
    have:=h 0
    unfold isC;cases hc:((c.toNat:Int)==10) with
    | false=>rfl
    | true =>
      have h2:c.toNat=10:=by have:=eq_of_beq hc;omega
      have h3:c=10:=UInt8.toNat_inj.1 (by rw [h2];rfl)
      exact absurd (by rw [h3];rfl) this
   unfold zb;rw [h0];exact MD r fun k=>by have:=h (k+1);simpa using this
theorem TK:∀ (l:List UInt8) (i:Nat),l[i]? = some 10->(∀ k,k<i->l[k]? ≠ some 10)->zb true l=zb false (l.drop i)
 | [],i,h,_=>by simp at h
 | c :: r, 0, h, _ => by
   have:c=10:=by simpa using h
   subst this;rfl
 | c :: r, i + 1, h, h2 => by
   have h0:isC 10 c=false:=by
    have:=h2 0 (by omega)
    unfold isC;cases hc:((c.toNat:Int)==10) with
    | false=>rfl
    | true =>
      have h2:c.toNat=10:=by have:=eq_of_beq hc;omega
      have h3:c=10:=UInt8.toNat_inj.1 (by rw [h2];rfl)
      exact absurd (by rw [h3];rfl) this
   have e:zb true (c::r)=zb true r:=by
    show (bif isC 10 c then zb false r else zb true r)=_;rw [h0];rfl
   rw [e,List.drop_succ_cons];exact TK r i (by simpa using h) fun k hk=>by have:=h2 (k+1) (by omega);simpa using this
theorem Wv (hs:s.size<=10000):∀ f k,k<=s.size->s.size+1<=f+k->∃ (b:Bool) (k':Nat),Qz f s (k:Int)=some (b,(k':Int))∧k<=k'∧k'<=s.size∧(lst s).drop k'=zb false ((lst s).drop k)
 | 0,k,h1,h2=>by omega
 | f + 1, k, h1, h2 => by
   unfold Qz;rw [ltS];rcases Nat.lt_or_ge k s.size with hk | hk
   ·obtain ⟨c,e1,e2⟩:=JV hk;have hr:jc (k:Int) s.size=true:=by unfold jc le lt ja;simp;omega
    rw [WT hk,hr,Int.toNat_natCast,e2,e1];simp only [cond_true];cases hsp:isSp (c.toNat:Int) with
    | true =>
      obtain ⟨b,k',h3,h4,h5,h6⟩:=Wv hs f (k+1) (by omega) (by omega)
      refine ⟨b,k',?_,by omega,h5,?_⟩
      ·rw [zp (by omega)];exact h3
      ·rw [h6];show _=(bif spC c then _ else _);unfold spC;rw [hsp];rfl
    | false =>
      simp only [cond_false];cases h35:((c.toNat:Int)==35) with
     | false =>
       refine ⟨true,k,rfl,lRq _,h1,?_⟩;rw [e1];show _=(bif spC c then _ else bif isC 35 c then _ else _);unfold spC isC;rw [hsp,h35];rfl
     | true =>
       have hc:(le 0 (k:Int)&&le (k:Int) (ja s.size)&&le (ja s.size) (ja s.size))=true:=by unfold le ja;simp;omega
       rw [hc];simp only [cond_true]
       have hsub:(kg s (k:Int).toNat s.size).data.toList=(lst s).drop k:=by
        unfold kg;rw [Int.toNat_natCast];show ((lst s).take s.size).drop k=_;rw [List.take_of_length_le (by rw [yx];exact lRq _)]
       have h10:isC 10 c=false:=by
        have:(c.toNat:Int)=35:=by simpa using h35
        unfold isC;rw [this];rfl
       have hrest:zb false (c::(lst s).drop (k+1))=zb true ((lst s).drop k):=by
        rw [e1];show (bif spC c then _ else bif isC 35 c then _ else _)=(bif isC 10 c then _ else _);unfold spC isC at *;rw [hsp,h35,h10];rfl
       rw [hrest];have hge:=Lib.indexByte_ge ((lst s).drop k) 10;rcases Int.lt_or_le (Lib.indexByte ((lst s).drop k) 10) 0 with hi | hi
       ·have hi1:Lib.indexByte ((lst s).drop k) 10=-1:=by omega
        have hn:=Lib.indexByte_none hi1
        have hN:LF s (k:Int)=((s.size:Nat):Int):=by
         unfold LF BL;rw [hsub,hi1];show (bif lt (-1) 0 then _ else _)=_
         have:lt (-1) 0=true:=rfl
         rw [this];simp only [cond_true];show IntKind.wrap .i64 ((k:Int)+IntKind.wrap .i64 ((s.size:Int) - k))=_;rw [Ro.w64_id (x:=(s.size:Int) - k) (by omega) (by omega),Ro.w64_id (by omega) (by omega)]
         omega
        obtain ⟨b,k',h3,h4,h5,h6⟩:=Wv hs f s.size (lRq _) (by omega)
        refine ⟨b,k',by rw [hN];exact h3,by omega,h5,?_⟩
        rw [h6,MD _ hn,List.drop_of_length_le (by rw [yx];exact lRq _)]
        rfl
       ·obtain ⟨o,ho⟩ : ∃ o:Nat,Lib.indexByte ((lst s).drop k) 10=(o:Int):=⟨(Lib.indexByte ((lst s).drop k) 10).toNat,by omega⟩
        obtain ⟨g1,g2⟩:=Lib.indexByte_some ho
        have hlt:k+o<s.size:=by
         have:o<((lst s).drop k).length:=by
          rcases Nat.lt_or_ge o ((lst s).drop k).length with h | h
          ·exact h
          ·rw [List.getElem?_eq_none h] at g1;cases g1
         rw [List.length_drop,yx] at this;omega
        have ho1:1<=o:=by
         rcases Nat.lt_or_ge 0 o with h | h
         ·exact h
         ·have:o=0:=by omega
          subst this;rw [e1] at g1
          have:c=10:=by simpa using g1
          subst this;cases h10
        have hN:LF s (k:Int)=((k+o:Nat):Int):=by
         unfold LF BL;rw [hsub,ho]
         have:lt (o:Int) 0=false:=by unfold lt;simp
         rw [this];simp only [cond_false];rw [Ro.w64_id (by omega) (by omega)]
         omega
        obtain ⟨b,k',h3,h4,h5,h6⟩:=Wv hs f (k+o) (by omega) (by omega)
        refine ⟨b,k',by rw [hN];exact h3,by omega,h5,?_⟩
        rw [h6,TK _ o g1 g2,List.drop_drop]
   ·have:k=s.size:=by omega
    subst this;rw [GG (lRq _)];refine ⟨false,s.size,rfl,lRq _,lRq _,?_⟩;rw [List.drop_of_length_le (by rw [yx];exact lRq _)]
    rfl
theorem IU (hs:s.size<=10000):∀ f k,k<=s.size->s.size+1<=f+k->∃ k':Nat,Vg f s (k:Int)=some (k':Int)∧k<=k'∧k'<=s.size∧((lst s).drop k).dropWhile qm=(lst s).drop k'∧((lst s).drop k).takeWhile qm=((lst s).take k').drop k∧(((lst s).drop k).head?.any qm=true->k<k')
 | 0,k,h1,h2=>by omega
 | f + 1, k, h1, h2 => by
   unfold Vg;rw [ltS];rcases Nat.lt_or_ge k s.size with hk | hk
   ·obtain ⟨c,e1,e2⟩:=JV hk;have hr:jc (k:Int) s.size=true:=by unfold jc le lt ja;simp;omega
    rw [WT hk,hr,Int.toNat_natCast,e2,e1];simp only [cond_true];cases hw:QB (c.toNat:Int) with
    | true =>
      obtain ⟨k',h3,h4,h5,h6,h7,_⟩:=IU hs f (k+1) (by omega) (by omega)
      have hw':qm c=true:=hw;refine ⟨k',by rw [zp (by omega)];exact h3,by omega,h5,?_,?_,fun _=>by omega⟩
      ·rw [List.dropWhile_cons,hw',if_pos rfl,h6]
      ·rw [List.takeWhile_cons,hw',if_pos rfl,h7];have e3:((lst s).take k').drop k=(((lst s).drop k).take (k' - k)):=by rw [List.drop_take]
       have e4:((lst s).take k').drop (k+1)=(((lst s).drop (k+1)).take (k' - (k+1))):=by rw [List.drop_take]
       rw [e3,e4,e1]
       have:k' - k=(k' - (k+1))+1:=by omega
       rw [this,List.take_succ_cons]
    | false =>
      have hw':qm c=false:=hw;refine ⟨k,rfl,lRq _,h1,?_,?_,?_⟩
      ·rw [List.dropWhile_cons,hw',if_neg (by simp)]
       exact e1.symm
      ·rw [List.takeWhile_cons,hw',if_neg (by simp),List.drop_take,Nat.sub_self,List.take_zero]
      ·intro h;simp [hw'] at h
   ·have:k=s.size:=by omega
    subst this;rw [GG (lRq _)];have e:(lst s).drop s.size=[]:=List.drop_of_length_le (by rw [yx];exact lRq _)
    refine ⟨s.size,rfl,lRq _,lRq _,?_,?_,?_⟩
    ·rw [e];rfl
    ·rw [e,List.drop_take,Nat.sub_self,List.take_zero];rfl
    ·rw [e];intro h;cases h
def RML (s:ByteArray) (p:PS) (q:LS):Prop:=p.tx=q.1∧p.pos=q.2.2∧∃ k:Nat,p.nx=(k:Int)∧k<=s.size∧q.2.1=(lst s).drop k
theorem w32 (c:UInt8):IntKind.wrap .i32 (c.toNat:Int)=(c.toNat:Int):=by
 have:=c.toNat_lt
 have h:∀ n:Nat,n<256->IntKind.wrap .i32 (n:Int)=(n:Int):=by
  intro n hn;simp only [IntKind.wrap,IntKind.bits,IntKind.signed]
  simp;omega
 exact h _ this
theorem jlw (hs:s.size<=10000) {p:PS} {q:LS} (h:RML s p q):PRel Eq (RML s) (fun _ _=>True) (Jd s p) (VE s.size (zb false q.2.1)):=by
 obtain ⟨_,_,k,hk1,hk2,hk3⟩:=h;obtain ⟨b,st,h1,h2,h3,h4⟩:=Wv hs (s.size+1) k hk2 (by omega)
 obtain ⟨n,g1,g2,g3,g4,g5,g6⟩:=IU hs (s.size+1) st h3 (by omega)
 have e1:Yc s p.nx=some (b,(st:Int)):=by unfold Yc;rw [hk1];exact h1
 have e2:Dg s (st:Int)=some (n:Int):=g1;unfold Jd jeS;rw [e1];simp only [e2];rw [hk3,← h4];have hcut:KG s (st:Int) (n:Int)=true:=by unfold KG le ja;simp;omega
 rcases Nat.lt_or_ge st s.size with hst | hst
 ·obtain ⟨c,e3,e4⟩:=JV hst;have hpos:(st:Int)=(s.size:Int) - (((lst s).drop (st+1)).length+1:Nat):=by rw [List.length_drop,yx];omega
  rw [e3] at g4 g5 g6 ⊢;cases hw:qm c with
  | true =>
    have hlt:=g6 (by simp [hw])
    have hne:((n:Int)==(st:Int))=false:=by simp;omega
    rw [hne];simp only [cond_false,hcut,cond_true,Int.toNat_natCast];rw [Yy,hw];refine .ret trivial ⟨?_,hpos,n,rfl,g3,?_⟩
    ·show kg s st n=_;unfold kg;rw [← g5,List.takeWhile_cons,hw];rfl
    ·show List.dropWhile qm _=_;rw [← g4,List.dropWhile_cons,hw];rfl
  | false =>
    have hn:n=st:=by
     rw [List.takeWhile_cons,hw,if_neg (by simp),List.drop_take] at g5
     have:=congrArg List.length g5
     rw [List.length_take,List.length_drop,yx] at this;simp at this;omega
    subst hn;have hlt:lt (n:Int) (ja s.size)=true:=by rw [ltS];exact WT hst
    have hr:jc (n:Int) s.size=true:=by unfold jc le lt ja;simp;omega
    have h256:lt (c.toNat:Int) 256=true:=by have:=c.toNat_lt;unfold lt;simp;omega
    have h0:le 0 (c.toNat:Int)=true:=by unfold le;simp
    rw [beq_self_eq_true,hlt,hr,Int.toNat_natCast,e4,w32,h256,h0];simp only [cond_true,Bool.and_self];rw [Yy,hw];simp only [cond_false];have hsg:KX c=ky (c.toNat:Int):=rfl;rw [← hsg];cases hsc:KX c with
   | false=>exact .pan hpos
   | true =>
     have hcut2:KG s (n:Int) ((n+1:Nat):Int)=true:=by unfold KG le ja;simp;omega
     simp only [cond_true,zp (show n<=100000 by omega),hcut2,Int.toNat_natCast]
     refine .ret trivial ⟨?_,hpos,n+1,rfl,by omega,rfl⟩
     show kg s n (n+1)=_;unfold kg;rw [List.drop_take];show (⟨⟨((lst s).drop n).take (n+1 - n)⟩⟩ : ByteArray)=_;rw [e3,show n+1 - n=1 by omega]
     rfl
 ·have:st=s.size:=by omega
  subst this;have hn:n=s.size:=by omega
  subst hn;have e:(lst s).drop s.size=[]:=List.drop_of_length_le (by rw [yx];exact lRq _)
  have hlt:lt (s.size:Int) (ja s.size)=false:=by rw [ltS];exact GG (lRq _)
  rw [beq_self_eq_true,hlt,e];simp only [cond_true,cond_false,hcut,Int.toNat_natCast];refine .ret trivial ⟨?_,rfl,s.size,rfl,lRq _,e.symm⟩;show kg s s.size s.size=bs [];unfold kg;rw [List.drop_take,Nat.sub_self,List.take_zero];rfl
theorem jnb (hs:s.size<=10000):MRel Eq (MP s) (LM s.size) (RML s) where
 tx:=fun h=>h.1
 pos:=fun h=>h.2.1
 adv:=jlw hs
end Go.Proofs.YtiefjlcakpdfeaaGreatDoor
namespace Go.Proofs.YtiefjlcakpdfeaaGreatDoor
open Go Go.Sx Go.RowKit Rb
set_option maxRecDepth 100000
section
variable {σ α β ε τ:Type}
def okP (x:PR σ α) (Q:α->σ->Prop):Prop:=match x with
 | .stuck=>False
 | .pan _=>True
 | .ret v s=>Q v s
theorem okP.bind {x:PR σ α} {f:α->σ->PR σ β} {Q:α->σ->Prop} {Q':β->σ->Prop} (h:okP x Q) (hf:∀ v s,Q v s->okP (f v s) Q'):okP (x.bind f) Q':=by
 cases x with
 | stuck=>exact h
 | pan a=>exact trivial
 | ret v s=>exact hf v s h
theorem okP.cond {c:Bool} {x y:PR σ α} {Q:α->σ->Prop} (h1:c=true->okP x Q) (h2:c=false->okP y Q):okP (bif c then x else y) Q:=by
 cases c with
 | true=>exact h1 rfl
 | false=>exact h2 rfl
theorem okP.mono {x:PR σ α} {Q Q':α->σ->Prop} (h:okP x Q) (hq:∀ v s,Q v s->Q' v s):okP x Q':=by
 cases x with
 | stuck=>exact h
 | pan a=>exact trivial
 | ret v s=>exact hq v s h
def yq (t:ByteArray):Nat:=bif jb t (bs []) then 0 else 1
theorem LC (t:ByteArray):yq t<=1:=by unfold yq;cases jb t (bs [])<;>decide
theorem yv {t:ByteArray} {f:ByteArray->Bool} (h:f t=true) (h0:f (bs [])=false):yq t=1:=by
 unfold yq;cases he:jb t (bs []) with
 | false=>rfl
 | true =>
   rw [(qX _ _).1 he,h0] at h;cases h
structure MOk (M:Mach σ) (I:σ->Prop) (μ:σ->Nat) (W:ByteArray->Prop):Prop where
 tok:∀ s,I s->W (M.tx s)
 adv:∀ s,I s->okP (M.adv s) fun _ s'=>I s'∧μ s'+yq (M.tx s)<=μ s
 num:∀ s,I s->nmD (jt (M.tx s))=true
 wrd:∀ s,I s->obD (jF (M.tx s))=true
 nam:∀ s,I s->yY (M.tx s)=true
structure AOk (A:Alg ε τ) (W:ByteArray->Prop) (DE:Nat->ε->Prop) (DT:Nat->τ->Prop):Prop where
 ex:∀ {k op v l},l.length<=2->(∀ x ∈ l,DE k x)->DE (k+1) (A.ex op v l)
 em:∀ {k k' e},k<=k'->DE k e->DE k' e
 st:∀ {k kd w e b x p},w.length<=k->(∀ u ∈ w,W u)->DE k e->b.length<=k->(∀ y ∈ b,DT k y)->x.length<=k->(∀ y ∈ x,DT k y)->DT (k+1) (A.st kd w e b x p)
 tm:∀ {k k' t},k<=k'->DT k t->DT k' t
variable {M:Mach σ} {I:σ->Prop} {μ:σ->Nat} {W:ByteArray->Prop} (hM:MOk M I μ W)
include hM
theorem ZJ {t:ByteArray} (ht:jb t (bs [])=false) {s:σ} (h:I s):okP (qC M t s) fun c s'=>I s'∧μ s'+(bif c then 1 else 0)<=μ s:=by
 unfold qC;refine .cond (fun hc => ?_) fun _=>⟨h,lRq _⟩;refine (hM.adv s h).bind fun _ s' h2=>⟨h2.1,?_⟩
 have:yq (M.tx s)=1:=by rw [(qX _ _).1 hc];unfold yq;rw [ht];rfl
 simp only [cond_true];omega
theorem Q1 {t:ByteArray} (ht:jb t (bs [])=false) {s:σ} (h:I s):okP (qN M t s) fun _ s'=>I s'∧μ s'+1<=μ s:=by
 unfold qN;refine (ZJ hM ht h).bind fun c s' h2 => ?_;cases c with
 | true=>exact h2
 | false=>exact trivial
theorem Y8 {ok:Bool} {s:σ} (h:I s) (hk:ok=true->yq (M.tx s)=1):okP (qD M ok s) fun w s'=>I s'∧μ s'+1<=μ s∧W w:=by
 unfold qD;refine .cond (fun hc => ?_) fun _=>trivial;refine (hM.adv s h).bind fun _ s' h2=>⟨h2.1,?_,hM.tok s h⟩
 have:=hk hc
 omega
omit hM in
theorem jjr {w:ByteArray} (h:nmO (jt w)=true):yq w=1:=yv (f:=fun w=>nmO (jt w)) h (by kernel_rfl)
theorem NY {most:Int} {s:σ} (h:I s):okP (yw M most s) fun _ s'=>I s'∧μ s'+1<=μ s:=by
 unfold yw;have h1:=hM.num s h;cases hn:jt (M.tx s) with
 | none=>rw [hn] at h1;cases h1
 | some y =>
   obtain ⟨n,ok⟩:=y;refine (Y8 hM h fun hc => ?_).bind fun _ s' h2=>⟨h2.1,h2.2.1⟩
   have:ok=true:=by cases ok<;>first | rfl | cases hc
   subst this;exact jjr (by rw [hn];rfl)
omit hM in
theorem jfk {w:ByteArray} (h:zY w=true):yq w=1:=yv (f:=zY) h (by kernel_rfl)
theorem jhL {s:σ} (h:I s):okP (ZY M s) fun _ s'=>I s'∧μ s'+1<=μ s:=by
 unfold ZY;exact (Y8 hM h fun hc=>jfk hc).bind fun _ s' h2=>⟨h2.1,h2.2.1⟩
theorem T7 {s:σ} (h:I s):okP (kT M s) fun w s'=>I s'∧μ s'+1<=μ s∧W w:=by
 unfold kT;have h1:=hM.wrd s h;cases hn:jF (M.tx s) with
 | none=>rw [hn] at h1;cases h1
 | some y =>
   refine Y8 hM h fun hc=>yv (f:=fun w=>obV (jF w)) (by rw [hn];exact hc) (by kernel_rfl)
omit hM in
theorem Io {k:Int} {w:ByteArray} (h:qn k w=true):yq w=1:=by
 refine yv (f:=qn k) h ?_;unfold qn;have e1:nmO (jt (bs []))=false:=by kernel_rfl
 have e2:zY (bs [])=false:=by kernel_rfl
 have e3:jb (bs []) O6=false:=by kernel_rfl
 rw [e1,e2,e3];cases k==1<;>cases k==2<;>rfl
theorem jdw {k:Int} {s:σ} (h:I s):okP (J5 M k s) fun w s'=>I s'∧μ s'+1<=μ s∧W w:=by
 unfold J5;rw [hM.num s h];exact Y8 hM h fun hc=>Io hc
theorem Lp:∀ (l:List Int) {s:σ},I s->okP (zU M l s) fun w s'=>I s'∧μ s'+w.length<=μ s∧∀ u ∈ w,W u
 | [],_,h=>⟨h,lRq _,fun u hu=>by cases hu⟩
 | k :: r, s, h => by
   unfold zU;refine (jdw hM h).bind fun w s1 h1=>(Lp r h1.1).bind fun l s2 h2=>⟨h2.1,?_,fun u hu => ?_⟩
   ·simp only [List.length_cons];omega
   ·rcases List.mem_cons.1 hu with rfl | hu
    ·exact h1.2.2
    ·exact h2.2.2 u hu
theorem Dm {s:σ} (h:I s):okP (zH M s) fun w s'=>I s'∧μ s'+1<=μ s∧μ s'+w.length<=μ s∧∀ u ∈ w,W u:=by
 unfold zH;refine (Y8 hM h fun hc=>yv (f:=fun w=>!(Nat.beq (qx w) 0)) hc (by kernel_rfl)).bind fun w s1 h1=>(Lp hM _ h1.1).bind fun l s2 h2=>⟨h2.1,by omega,?_,fun u hu => ?_⟩
 ·simp only [List.length_cons];omega
 ·rcases List.mem_cons.1 hu with rfl | hu
  ·exact h1.2.2
  ·exact h2.2.2 u hu
variable {A:Alg ε τ} {DE:Nat->ε->Prop} {DT:Nat->τ->Prop} (hA:AOk A W DE DT)
include hA
abbrev FE (I:σ->Prop) (μ:σ->Nat) (DE:Nat->ε->Prop) (m:Nat) (f:σ->PR σ ε):Prop:=∀ s,I s->μ s<m->okP (f s) fun e s'=>I s'∧μ s'+1<=μ s∧DE (μ s - μ s') e
theorem Tu {m B : Nat} {o : σ -> PR σ ε} (ho : FE I μ DE m o) {g : ε -> σ -> PR σ ε} {j : Nat}
  (hg:∀ e s1,I s1->μ s1<j->μ s1<=B->DE (B - μ s1) e->okP (g e s1) fun e' s'=>I s'∧μ s'<=μ s1∧DE (B - μ s') e') :
  ∀ (l:List ByteArray),(∀ w ∈ l,jb w (bs [])=false)->∀ {e:ε} {s:σ},I s->μ s<=j->μ s<m->μ s<=B->DE (B - μ s) e ->
  okP (Ju M A o g e l s) fun e' s'=>I s'∧μ s'<=μ s∧DE (B - μ s') e'
 | [],_,_,_,h,_,_,_,hd=>⟨h,lRq _,hd⟩
 | w :: r, hw, e, s, h, hj, hm, hB, hd => by
   unfold Ju;refine (ZJ hM (hw w (by simp)) h).bind fun c s1 h1 => ?_
   cases c with
  | true =>
    simp only [cond_true] at h1 ⊢;refine (ho s1 h1.1 (by omega)).bind fun x s2 h2 => ?_
    refine (hg _ s2 h2.1 (by omega) (by omega) ?_).mono fun e' s' h3=>⟨h3.1,by omega,h3.2.2⟩
    have:B - μ s2=(B - μ s2 - 1)+1:=by omega
    rw [this];refine hA.ex (by simp) fun y hy => ?_
    rcases List.mem_cons.1 hy with rfl | hy
    ·exact hA.em (by omega) hd
    ·rcases List.mem_cons.1 hy with rfl | hy
     ·exact hA.em (by omega) h2.2.2
     ·cases hy
  | false =>
    simp only [cond_false] at h1 ⊢;exact (Tu ho hg r (fun w hw'=>hw w (by simp [hw'])) h1.1 (by omega) (by omega) (by omega) (hA.em (by omega) hd)).mono fun e' s' h3=>⟨h3.1,by omega,h3.2.2⟩
theorem F4 {m B : Nat} {o : σ -> PR σ ε} (ho : FE I μ DE m o) {ops : List ByteArray} (hops : ∀ w ∈ ops, jb w (bs []) = false) : ∀ (k : Nat) (e : ε) (s : σ), I s -> μ s < k -> μ s < m -> μ s <= B -> DE (B - μ s) e ->
  okP (y9 M A ops o k e s) fun e' s'=>I s'∧μ s'<=μ s∧DE (B - μ s') e'
 | 0,_,_,_,h,_,_,_=>by omega
 | k + 1, e, s, h, hk, hm, hB, hd => by
   show okP (Ju M A o (y9 M A ops o k) e ops s) _;exact Tu hM hA ho (j:=μ s) (fun e s1 h1 h2 h3 h4=>F4 ho hops k e s1 h1 (by omega) (by omega) h3 h4) ops hops h (lRq _) hm hB hd
theorem jjD {m m':Nat} {x:σ->PR σ ε} (hx:FE I μ DE m' x) (hm:m<=m'+1):FE I μ DE m (Zv M A x):=by
 intro s h hs
 have hnil:∀ (k:Nat) (op:ByteArray) (v:Int),0<k->DE k (A.ex op v []):=fun k op v hk=>by
  have:k=(k - 1)+1:=by omega
  rw [this];exact hA.ex (Nat.zero_le _) fun y hy=>by cases hy
 unfold Zv;refine .cond (fun hc => ?_) fun _=>.cond (fun hc => ?_) fun _=>.cond (fun hc => ?_) fun _ => ?_
 ·have ht:yq (M.tx s)=1:=yv (f:=fun w=>jb w jW||jb w zg) hc (by kernel_rfl)
  refine (hM.adv s h).bind fun _ s1 h1=>⟨h1.1,by omega,hnil _ _ _ (by omega)⟩
 ·have ht:yq (M.tx s)=1:=yv (f:=fun w=>jb w qS||(jb w qe||(jb w zI||(jb w qU||jb w qq)))) hc (by kernel_rfl)
  refine (hM.adv s h).bind fun _ s1 h1=>(jhL hM h1.1).bind fun n s2 h2=>⟨h2.1,by omega,hnil _ _ _ (by omega)⟩
 ·have ht:yq (M.tx s)=1:=yv (f:=fun w=>jb w qK) hc (by kernel_rfl)
  refine (hM.adv s h).bind fun _ s1 h1=>(hx s1 h1.1 (by omega)).bind fun e s2 h2=>(Q1 hM (by kernel_rfl) h2.1).bind fun _ s3 h3=>⟨h3.1,by omega,hA.em (by omega) h2.2.2⟩
 ·refine (NY hM h).bind fun n s1 h1=>⟨h1.1,by omega,hnil _ _ _ (by omega)⟩
omit hM hA in
theorem jla {a b:ByteArray} (ha:jb a (bs [])=false) (hb:jb b (bs [])=false):∀ w ∈ [a,b],jb w (bs [])=false:=by
 intro w hw;rcases List.mem_cons.1 hw with rfl | hw
 ·exact ha
 ·rcases List.mem_cons.1 hw with rfl | hw
  ·exact hb
  ·cases hw
omit hM hA in
theorem jma {a:ByteArray} (ha:jb a (bs [])=false):∀ w ∈ [a],jb w (bs [])=false:=by
 intro w hw;rcases List.mem_cons.1 hw with rfl | hw
 ·exact ha
 ·cases hw
theorem Ub {m K:Nat} {o:σ->PR σ ε} (ho:FE I μ DE m o) {ops:List ByteArray} (hops:∀ w ∈ ops,jb w (bs [])=false) (hK:m<=K):FE I μ DE m fun s=>(o s).bind fun e s1=>y9 M A ops o K e s1:=by
 intro s h hs;refine (ho s h hs).bind fun e s1 h1 => ?_;refine (F4 hM hA (B:=μ s) ho hops K e s1 h1.1 (by omega) (by omega) (by omega) h1.2.2).mono fun e' s' h2=>⟨h2.1,by omega,h2.2.2⟩
theorem jmv {m m' K:Nat} {x:σ->PR σ ε} (hx:FE I μ DE m' x) (hm:m<=m'+1) (hK:m<=K):FE I μ DE m (Zm M A x K) :=
 Ub hM hA (jjD hM hA hx hm) (jla (by kernel_rfl) (by kernel_rfl)) hK
theorem jct {m m' K:Nat} {o x:σ->PR σ ε} (ho:FE I μ DE m' o) (hx:FE I μ DE m' x) (hm:m<=m'+1) (hK:m<=K):FE I μ DE m (Jx M A o x K):=by
 intro s h hs;unfold Jx;refine (ZJ hM (by kernel_rfl) h).bind fun c s1 h1 => ?_
 cases c with
 | true =>
   simp only [cond_true] at h1 ⊢;refine (ho s1 h1.1 (by omega)).bind fun e s2 h2=>⟨h2.1,by omega,?_⟩
   have:μ s - μ s2=(μ s - μ s2 - 1)+1:=by omega
   rw [this];refine hA.ex (by simp) fun y hy => ?_
   rcases List.mem_cons.1 hy with rfl | hy
   ·exact hA.em (by omega) h2.2.2
   ·cases hy
 | false =>
   simp only [cond_false] at h1 ⊢;have hsum:=jmv hM hA hx hm hK;refine (hsum s1 h1.1 (by omega)).bind fun e s2 h2 => ?_
   refine (Tu hM hA (B:=μ s) (j:=μ s2) hsum (g:=fun x s3=>.ret x s3) (fun e s1 h3 _ _ h4=>⟨h3,lRq _,h4⟩) [wEq,wLt,wGt] ?_ h2.1 (lRq _) (by omega) (by omega) (hA.em (by omega) h2.2.2)).mono fun e' s' h3=>⟨h3.1,by omega,h3.2.2⟩
   intro w hw;rcases List.mem_cons.1 hw with rfl | hw
   ·kernel_rfl
   ·exact jla (by kernel_rfl) (by kernel_rfl) w hw
theorem jhS {m m' K:Nat} {o x:σ->PR σ ε} (ho:FE I μ DE m' o) (hx:FE I μ DE m' x) (hm:m<=m'+1) (hK:m<=K):FE I μ DE m (QE M A o x K) :=
 Ub hM hA (jct hM hA ho hx hm hK) (jma (by kernel_rfl)) hK
theorem jic {m m' K:Nat} {o x:σ->PR σ ε} (ho:FE I μ DE m' o) (hx:FE I μ DE m' x) (hm:m<=m'+1) (hK:m<=K):FE I μ DE m (Z0 M A o x K) :=
 Ub hM hA (jhS hM hA ho hx hm hK) (jma (by kernel_rfl)) hK
theorem XW (K:Nat):∀ d,d<=K->FE I μ DE d (exs M A K d).1∧FE I μ DE d (exs M A K d).2
 | 0,_=>⟨fun s _ h=>by omega,fun s _ h=>by omega⟩
 | d+1,h=>⟨jct hM hA (XW K d (by omega)).1 (XW K d (by omega)).2 (lRq _) h,jic hM hA (XW K d (by omega)).1 (XW K d (by omega)).2 (lRq _) h⟩
abbrev FT (I:σ->Prop) (μ:σ->Nat) (DT:Nat->τ->Prop) (m:Nat) (f:σ->PR σ τ):Prop:=∀ s,I s->μ s<m->okP (f s) fun t s'=>I s'∧μ s'+1<=μ s∧DT (μ s - μ s') t
abbrev FB (I:σ->Prop) (μ:σ->Nat) (DT:Nat->τ->Prop) (m:Nat) (f:σ->PR σ (List τ)):Prop:=∀ s,I s->μ s<m->okP (f s) fun l s'=>I s'∧μ s'+1+l.length<=μ s∧∀ t ∈ l,DT (μ s - μ s') t
omit hA in
theorem Ty:∀ (k:Nat) (s:σ),I s->μ s<k->okP (ye M k s) fun w s'=>I s'∧μ s'+w.length<=μ s∧∀ u ∈ w,W u
 | 0,_,_,h=>by omega
 | k + 1, s, h, hk => by
   unfold ye;refine (ZJ hM (by kernel_rfl) h).bind fun c s1 h1 => ?_
   cases c with
  | true=>exact ⟨h1.1,by simp only [List.length_nil];omega,fun u hu=>by cases hu⟩
  | false =>
    simp only [cond_false] at h1 ⊢;refine (T7 hM h1.1).bind fun w s2 h2=>(Ty k s2 h2.1 (by omega)).bind fun l s3 h3=>⟨h3.1,by simp only [List.length_cons];omega,fun u hu => ?_⟩
    rcases List.mem_cons.1 hu with rfl | hu
    ·exact h2.2.2
    ·exact h3.2.2 u hu
theorem OH {m:Nat} {st:σ->PR σ τ} (hs:FT I μ DT m st):∀ (k:Nat) (s:σ),I s->μ s<k->μ s<m->okP (zW M st k s) fun l s'=>I s'∧μ s'+1+l.length<=μ s∧∀ t ∈ l,DT (μ s - μ s') t
 | 0,_,_,h,_=>by omega
 | k + 1, s, h, hk, hm => by
   unfold zW;refine (ZJ hM (by kernel_rfl) h).bind fun c s1 h1 => ?_
   cases c with
  | true=>exact ⟨h1.1,by simp only [cond_true] at h1;simp only [List.length_nil];omega,fun t ht=>by cases ht⟩
  | false =>
    simp only [cond_false] at h1 ⊢;refine (hs s1 h1.1 (by omega)).bind fun x s2 h2=>(OH hs k s2 h2.1 (by omega) (by omega)).bind fun l s3 h3=>⟨h3.1,by simp only [List.length_cons];omega,fun t ht => ?_⟩
    rcases List.mem_cons.1 ht with rfl | ht
    ·exact hA.tm (by omega) h2.2.2
    ·exact hA.tm (by omega) (h3.2.2 t ht)
theorem jeY {m K:Nat} {st:σ->PR σ τ} (hs:FT I μ DT m st) (hK:m<=K):FB I μ DT m (Yk M st K):=by
 intro s h hm;unfold Yk;refine (Q1 hM (by kernel_rfl) h).bind fun _ s1 h1=>(OH hM hA hs K s1 h1.1 (by omega) (by omega)).mono fun l s' h2=>⟨h2.1,by omega,fun t ht=>hA.tm (by omega) (h2.2.2 t ht)⟩
theorem VK {m m' K:Nat} {x:σ->PR σ ε} (hx:FE I μ DE K x) {b:σ->PR σ (List τ)} (hb:FB I μ DT m' b) (hm:m<=m'+1) (hK:m<=K):FT I μ DT m (qO M A x b K):=by
 intro s h hs
 have hst:∀ {k kd w e b x p},0<k->w.length<=k - 1->(∀ u ∈ w,W u)->DE (k - 1) e->b.length<=k - 1->(∀ y ∈ b,DT (k - 1) y)->x.length<=k - 1->(∀ y ∈ x,DT (k - 1) y)->DT k (A.st kd w e b x p):=fun {k} _ _ _ _ _ _ hk h1 h2 h3 h4 h5 h6 h7=>by
  have:k=(k - 1)+1:=by omega
  rw [this];exact hA.st h1 h2 h3 h4 h5 h6 h7
 have hnil:∀ (k:Nat) (op:ByteArray) (v:Int),0<k->DE k (A.ex op v []):=fun k op v hk=>by
  have:k=(k - 1)+1:=by omega
  rw [this];exact hA.ex (Nat.zero_le _) fun y hy=>by cases hy
 have hn:∀ k,∀ y ∈ ([]:List τ),DT k y:=fun k y hy=>by cases hy
 have hw:∀ u ∈ ([]:List ByteArray),W u:=fun u hu=>by cases hu
 have z:∀ k,([]:List τ).length<=k:=fun k=>Nat.zero_le _;have zw:∀ k,([]:List ByteArray).length<=k:=fun k=>Nat.zero_le _;unfold qO;refine .cond (fun hc => ?_) fun _=>.cond (fun hc => ?_) fun _=>.cond (fun hc => ?_) fun _=>.cond (fun hc => ?_) fun _=>.cond (fun hc => ?_) fun _=>trivial
 ·have ht:yq (M.tx s)=1:=yv (f:=fun w=>jb w wDo) hc (by kernel_rfl)
  refine (hM.adv s h).bind fun _ s1 h1=>(Dm hM h1.1).bind fun w s2 h2=>(ZJ hM (by kernel_rfl) h2.1).bind fun c s3 h3 => ?_
  cases c with
  | true =>
    simp only [cond_true] at h3 ⊢;refine (hb s3 h3.1 (by omega)).bind fun l s4 h4=>(Q1 hM (by kernel_rfl) h4.1).bind fun _ s5 h5=>⟨h5.1,by omega,hst (by omega) (by omega) h2.2.2.2 (hnil _ _ _ (by omega)) (by omega) (fun y hy=>hA.tm (by omega) (h4.2.2 y hy)) (z _) (hn _)⟩
  | false =>
    simp only [cond_false] at h3 ⊢;refine (Q1 hM (by kernel_rfl) h3.1).bind fun _ s4 h4=>⟨h4.1,by omega,hst (by omega) (by omega) h2.2.2.2 (hnil _ _ _ (by omega)) (z _) (hn _) (z _) (hn _)⟩
 ·have ht:yq (M.tx s)=1:=yv (f:=fun w=>jb w wIf) hc (by kernel_rfl)
  refine (hM.adv s h).bind fun _ s1 h1=>(hx s1 h1.1 (by omega)).bind fun e s2 h2=>(hb s2 h2.1 (by omega)).bind fun l s3 h3=>(ZJ hM (by kernel_rfl) h3.1).bind fun c s4 h4 => ?_
  cases c with
  | true =>
    simp only [cond_true] at h4 ⊢;refine (hb s4 h4.1 (by omega)).bind fun r s5 h5=>⟨h5.1,by omega,hst (by omega) (zw _) hw (hA.em (by omega) h2.2.2) (by omega) (fun y hy=>hA.tm (by omega) (h3.2.2 y hy)) (by omega) (fun y hy=>hA.tm (by omega) (h5.2.2 y hy))⟩
  | false =>
    simp only [cond_false] at h4 ⊢;exact ⟨h4.1,by omega,hst (by omega) (zw _) hw (hA.em (by omega) h2.2.2) (by omega) (fun y hy=>hA.tm (by omega) (h3.2.2 y hy)) (z _) (hn _)⟩
 ·have ht:yq (M.tx s)=1:=yv (f:=fun w=>jb w jK) hc (by kernel_rfl)
  refine (hM.adv s h).bind fun _ s1 h1=>(NY hM h1.1).bind fun n s2 h2=>(hb s2 h2.1 (by omega)).bind fun l s3 h3=>⟨h3.1,by omega,hst (by omega) (zw _) hw (hnil _ _ _ (by omega)) (by omega) (fun y hy=>hA.tm (by omega) (h3.2.2 y hy)) (z _) (hn _)⟩
 ·have ht:yq (M.tx s)=1:=yv (f:=fun w=>jb w jT) hc (by kernel_rfl)
  refine (hM.adv s h).bind fun _ s1 h1=>(hx s1 h1.1 (by omega)).bind fun e s2 h2=>(Q1 hM (by kernel_rfl) h2.1).bind fun _ s3 h3=>⟨h3.1,by omega,hst (by omega) (zw _) hw (hA.em (by omega) h2.2.2) (z _) (hn _) (z _) (hn _)⟩
 ·have ht:yq (M.tx s)=1:=yv (f:=fun w=>jb w z6) hc (by kernel_rfl)
  refine (hM.adv s h).bind fun _ s1 h1=>(T7 hM h1.1).bind fun w s2 h2=>(Ty hM K s2 h2.1 (by omega)).bind fun l s3 h3=>⟨h3.1,by omega,hst (by omega) (by simp only [List.length_cons];omega) (fun u hu => ?_) (hnil _ _ _ (by omega)) (z _) (hn _) (z _) (hn _)⟩
  rcases List.mem_cons.1 hu with rfl | hu
  ·exact h2.2.2
  ·exact h3.2.2 u hu
theorem TB (K:Nat):∀ d,d<=K->FT I μ DT d (sts M A K d).1∧FB I μ DT d (sts M A K d).2
 | 0,_=>⟨fun s _ h=>by omega,fun s _ h=>by omega⟩
 | d+1,h=>⟨VK hM hA (XW hM hA K K (lRq _)).2 (TB K d (by omega)).2 (lRq _) h,jeY hM hA (VK hM hA (XW hM hA K K (lRq _)).2 (TB K d (by omega)).2 (lRq _) h) h⟩
omit hA in
theorem jix {m:Nat} {b:σ->PR σ (List τ)} (hb:FB I μ DT m b) {s:σ} (h:I s) (hs:μ s<m) (hA:AOk A W DE DT):okP (yJ M b s) fun x _=>W x.1∧x.2.length<=m∧∀ t ∈ x.2,DT m t:=by
 unfold yJ;refine (hM.adv s h).bind fun _ s1 h1=>(Q1 hM (by kernel_rfl) h1.1).bind fun _ s2 h2 => ?_
 rw [hM.nam s2 h2.1];refine (Y8 hM h2.1 fun hc=>yv (f:=za) hc (by kernel_rfl)).bind fun w s3 h3=>(hb s3 h3.1 (by omega)).bind fun l s4 h4 => ?_
 exact .cond (fun _=>trivial) fun _=>⟨h3.2.2,by show l.length<=m;omega,fun t ht=>hA.tm (by omega) (h4.2.2 t ht)⟩
end
end Go.Proofs.YtiefjlcakpdfeaaGreatDoor
namespace Go.Proofs.YtiefjlcakpdfeaaGreatDoor
open Go Go.Sx Go.RowKit Rb
set_option maxRecDepth 100000
theorem GW {s:ByteArray} (hs:s.size<=10000):∀ f (k:Nat),k<=s.size->s.size+1<=f+k->obD (kI f s (ja s.size) (k:Int))=true
 | 0,k,h1,h2=>by omega
 | f + 1, k, h1, h2 => by
   unfold kI;rw [ltS];rcases Nat.lt_or_ge k s.size with hk | hk
   ·have hr:jc (k:Int) s.size=true:=by unfold jc le lt ja;simp;omega
    rw [WT hk,hr,zp (by omega)]
    cases QB (jx s (k:Int).toNat) with
    | true=>exact GW hs f (k+1) (by omega) (by omega)
    | false=>rfl
   ·rw [GG hk];rfl
theorem Xw {s:ByteArray} (hs:s.size<=10000):obD (jF s)=true:=by
 have:=GW hs (s.size+1) 0 (by omega) (by omega)
 unfold jF;cases h:kI (s.size+1) s (ja s.size) 0 with
 | none=>rw [show ((0:Nat):Int)=0 from rfl,h] at this;cases this
 | some b=>rfl
theorem Of {s:ByteArray} (hs:s.size<=10000):∀ f (k:Nat) (n:Int),k<=s.size->s.size+1<=f+k->nfD (Qj f s (ja s.size) n (k:Int))=true
 | 0,k,n,h1,h2=>by omega
 | f + 1, k, n, h1, h2 => by
   unfold Qj;rw [ltS];rcases Nat.lt_or_ge k s.size with hk | hk
   ·have hr:jc (k:Int) s.size=true:=by unfold jc le lt ja;simp;omega
    rw [WT hk,hr,zp (by omega)]
    cases zR (jx s (k:Int).toNat) with
    | true=>exact Of hs f (k+1) _ (by omega) (by omega)
    | false=>rfl
   ·rw [GG hk];rfl
theorem Xj {s:ByteArray} (hs:s.size<=10000):nmD (jt s)=true:=by
 have:=Of hs (s.size+1) 0 0 (by omega) (by omega)
 unfold jt;cases (bif bif jb s (bs []) then true else bif lt 1 (ja s.size) then jx s 0==48 else false then true else lt 10 (ja s.size)) with
 | true=>rfl
 | false =>
   cases h:Qj (s.size+1) s (ja s.size) 0 0 with
  | none=>rw [show ((0:Nat):Int)=0 from rfl,h] at this;cases this
  | some y =>
    obtain ⟨b,n,i⟩:=y;cases b<;>rfl
theorem TE {s:ByteArray} (h:obV (jF s)=true):jc 0 s.size=true:=by
 unfold jF at h;cases hw:kI (s.size+1) s (ja s.size) 0 with
 | none=>rw [hw] at h;cases h
 | some b =>
   rw [hw] at h;cases b with
  | false=>cases h
  | true =>
    have h:lt 0 (ja s.size)=true:=h;unfold lt ja at h;unfold jc le lt ja;simp at h ⊢;omega
theorem Ol {s:ByteArray} (hs:s.size<=10000):yY s=true:=by
 unfold yY;rw [Xw hs];cases h:obV (jF s) with
 | false=>rfl
 | true =>
   have:=TE h
   rw [this]
   simp
theorem Yj:∀ (b:Bool) (l:List UInt8),(zb b l).length<=l.length
 | _,[]=>by cases ‹Bool› <;> exact lRq _
 | true, c :: r => by
   show (bif isC 10 c then zb false r else zb true r).length<=_;cases isC 10 c with
  | true=>exact Nat.le_succ_of_le (Yj false r)
  | false=>exact Nat.le_succ_of_le (Yj true r)
 | false, c :: r => by
   show (bif spC c then zb false r else bif isC 35 c then zb true r else c::r).length<=_;cases spC c with
  | true=>exact Nat.le_succ_of_le (Yj false r)
  | false =>
    cases isC 35 c with
   | true=>exact Nat.le_succ_of_le (Yj true r)
   | false=>exact lRq _
def IL (q:LS):Prop:=q.1.size<=10000∧q.2.1.length<=10000
def μL (q:LS):Nat:=q.2.1.length+yq q.1
theorem Vr (p:UInt8->Bool):∀ l:List UInt8,(l.dropWhile p).length<=l.length
 | []=>lRq _
 | c :: r => by
   rw [List.dropWhile_cons];split
   ·exact Nat.le_succ_of_le (Vr p r)
   ·exact lRq _
theorem Vm (p:UInt8->Bool):∀ l:List UInt8,(l.takeWhile p).length<=l.length
 | []=>lRq _
 | c :: r => by
   rw [List.takeWhile_cons];split
   ·exact Nat.succ_le_succ (Vm p r)
   ·exact Nat.zero_le _
theorem jhW (N:Nat):∀ (l:List UInt8),l.length<=10000->okP (VE N l) fun _ q=>IL q∧μL q<=l.length
 | [],_=>⟨⟨by show (0:Nat)<=10000;omega,by show (0:Nat)<=10000;omega⟩,by show 0+yq (bs [])<=0;exact Nat.le_of_eq (by kernel_rfl)⟩
 | c :: r, h => by
   have h1:=Vr qm r;have h2:=Vm qm r;simp only [List.length_cons] at h;rw [Yy];refine .cond (fun _=>⟨⟨?_,?_⟩,?_⟩) fun _=>.cond (fun _=>⟨⟨?_,?_⟩,?_⟩) fun _=>trivial
   ·show (c::r.takeWhile qm).length<=_;simp only [List.length_cons];omega
   ·show (r.dropWhile qm).length<=_;omega
   ·have:=LC (⟨⟨c::r.takeWhile qm⟩⟩ : ByteArray)
    show (r.dropWhile qm).length+yq (⟨⟨c::r.takeWhile qm⟩⟩ : ByteArray)<=r.length+1;omega
   ·show 1<=10000;omega
   ·show r.length<=_;omega
   ·have:=LC (⟨⟨[c]⟩⟩ : ByteArray)
    show r.length+yq (⟨⟨[c]⟩⟩ : ByteArray)<=r.length+1;omega
def WL (w:ByteArray):Prop:=w.size<=10000
theorem jg8 (N:Nat):MOk (LM N) IL μL WL where
 tok:=fun s h=>h.1
 adv:=fun s h=>by
  have h1:=Yj false s.2.1;refine (jhW N (zb false s.2.1) (by have:=h.2;omega)).mono fun _ q h2=>⟨h2.1,?_⟩
  have:=h2.2
  show μL q+yq s.1<=s.2.1.length+yq s.1;omega
 num:=fun s h=>Xj h.1
 wrd:=fun s h=>Xw h.1
 nam:=fun s h=>Ol h.1
inductive AstX where
 | mk (op:ByteArray) (v:Int) (l:List AstX)
inductive AstS where
 | mk (kd:ByteArray) (w:List ByteArray) (e:AstX) (b x:List AstS) (p:Int)
def AF:Alg AstX AstS:=⟨.mk,.mk⟩
mutual
def AstX.den:AstX->RX
 | .mk op v l=>exR op v (AstX.dens l)
def AstX.dens:List AstX->List RX
 | []=>[]
 | a::r=>a.den::AstX.dens r
end
mutual
def AstS.den:AstS->RS
 | .mk kd w e b x p=>stR kd w e.den (AstS.dens b) (AstS.dens x) p
def AstS.dens:List AstS->List RS
 | []=>[]
 | a::r=>a.den::AstS.dens r
end
theorem Ma:∀ {l:List RX} {l':List AstX},All2 (fun x a=>x=a.den) l l'->l=AstX.dens l'
 | _,_,.nil=>rfl
 | _,_,.cons h r=>by rw [h,Ma r];rfl
theorem Vb:∀ {l:List RS} {l':List AstS},All2 (fun x a=>x=a.den) l l'->l=AstS.dens l'
 | _,_,.nil=>rfl
 | _,_,.cons h r=>by rw [h,Vb r];rfl
theorem arf:ARel Eq AR AF (fun x a=>x=a.den) (fun x a=>x=a.den) where
 ex:=fun h=>by rw [Ma h];rfl
 st:=fun he hb hx hp=>by rw [he,Vb hb,Vb hx,hp];rfl
inductive DX:Nat->AstX->Prop where
 | mk {k:Nat} {op:ByteArray} {v:Int} {l:List AstX} (hl:l.length<=2) (h:∀ x ∈ l,DX k x):DX (k+1) (.mk op v l)
theorem DX.mono:∀ {k:Nat} {e:AstX},DX k e->∀ {k'},k<=k'->DX k' e:=by
 intro k e h
 induction h with
 | mk hl h ih =>
   intro k' hk
   match k',hk with
  | k'+1,hk=>exact .mk hl fun x hx=>ih x hx (Nat.le_of_succ_le_succ hk)
inductive DS:Nat->AstS->Prop where
 | mk {k:Nat} {kd:ByteArray} {w:List ByteArray} {e:AstX} {b x:List AstS} {p:Int} (hw:w.length<=k) (hu:∀ u ∈ w,WL u) (hb:b.length<=k) (hb':∀ y ∈ b,DS k y) (hx:x.length<=k) (hx':∀ y ∈ x,DS k y) (he:DX k e):DS (k+1) (.mk kd w e b x p)
theorem DS.mono:∀ {k:Nat} {e:AstS},DS k e->∀ {k'},k<=k'->DS k' e:=by
 intro k e h
 induction h with
 | mk hw hu hb hb' hx hx' he ihb ihx =>
   intro k' hk
   match k',hk with
  | k'+1,hk=>exact .mk (by omega) hu (by omega) (fun y hy=>ihb y hy (Nat.le_of_succ_le_succ hk)) (by omega) (fun y hy=>ihx y hy (Nat.le_of_succ_le_succ hk)) (he.mono (Nat.le_of_succ_le_succ hk))
inductive DV:Nat->AstS->Prop where
 | mk {k:Nat} {kd:ByteArray} {w:List ByteArray} {e:AstX} {b x:List AstS} {p:Int} (hw:w.length<=k) (hu:∀ u ∈ w,WL u) (hb:b.length<=k) (hb':∀ y ∈ b,DV k y) (hx:x.length<=k) (hx':∀ y ∈ x,DV k y):DV (k+1) (.mk kd w e b x p)
theorem DS.w {k:Nat} {t:AstS} (h:DS k t):DV k t:=by
 induction h with
 | mk hw hu hb _ hx _ _ ih1 ih2=>exact .mk hw hu hb ih1 hx ih2
theorem jhp:AOk AF WL DX DS where
 ex:=fun h1 h2=>.mk h1 h2
 em:=fun hk h=>h.mono hk
 st:=fun h1 h2 h3 h4 h5 h6 h7=>.mk h1 h2 h4 h5 h6 h7 h3
 tm:=fun hk h=>h.mono hk
def WV (N:Nat) (l:List UInt8):PR LS (ByteArray × List AstS):=yJ (LM N) (sts (LM N) AF 10000 10000).2 (bs [],l,0)
theorem jfX (N:Nat) {l:List UInt8} (hl:l.length<=9000):okP (WV N l) fun x _=>WL x.1∧x.2.length<=10000∧∀ t ∈ x.2,DS 10000 t:=by
 refine jix (jg8 N) (TB (jg8 N) jhp 10000 10000 (lRq _)).2 ⟨by show (0:Nat)<=10000;omega,by show l.length<=_;omega⟩ ?_ jhp
 show l.length+yq (bs [])<10000
 have:=LC (bs [])
 omega
theorem jcV {s:ByteArray} (hs:s.size<=9000):PRel Eq (RML s) (fun x x'=>x.1=x'.1∧All2 (fun t a=>t=a.den) x.2 x'.2) (yJ (MP s) (sts (MP s) AR 10000 10000).2 ⟨0,bs [],0⟩) (WV s.size (lst s)) :=
 Ox (jnb (by omega)) (U7 (jnb (by omega)) arf 10000 10000).2 _ _ ⟨rfl,rfl,0,rfl,Nat.zero_le _,rfl⟩
end Go.Proofs.YtiefjlcakpdfeaaGreatDoor