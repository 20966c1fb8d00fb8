/-
 Part PaZI of the proof: RqE RqV RpS RqW.
-/
import Derived.Test.YtiefjlcakpdfeaaGreatPaZH
import Derived.Test.YtiefjlcakpdfeaaGreatPaS
import Derived.Shelf.Strings.IndexAny
import Derived.Laws.RangeAny
import Derived.Lib.RuneCount
import Derived.Test.YtiefjlcakpdfeaaGreatPaZG
namespace Go.Proofs.YtiefjlcakpdfeaaGreat
open Go Go.Sx Go.RowKit Rb
set_option maxRecDepth 100000
section
variable {ε τ:Type} {nx:QS->PR QS Unit} {A:Alg ε τ} {N:Nat} {a:Int} {q:QS}
theorem IX {k:Int} {w:ByteArray} (h:ya w):qp k w=false:=by
 unfold qp;rw [XM h,UI h,zR h (show zt an=true by kernel_rfl)]
 cases (k==1)<;>cases (k==2)<;>rfl
theorem OZ (h:Doom N a q):kj nx q=.ret [] (jW q):=by
 unfold kj;rcases h.2.2 with hb | ⟨hx,_⟩
 ·rw [hb];rfl
 ·rw [jfc hx];cases q.bad<;>rfl
theorem Up {k:Nat} (h:Doom N a q):yj nx (k+1) q=.ret [] q:=by
 unfold yj;rcases h.2.2 with hb | ⟨hx,_⟩
 ·rw [hb];rfl
 ·rw [Ur hx];cases q.bad<;>rfl
theorem PR.ret_bind {σ α β:Type} {v:α} {s:σ} {f:α->σ->PR σ β}:(PR.ret v s).bind f=f v s:=rfl
theorem PR.pan_bind {σ α β:Type} {a:Int} {f:α->σ->PR σ β}:(PR.pan a).bind f=.pan a:=rfl
def Jf (nx:QS->PR QS Unit) (k:Nat) (q:QS):PR QS (List ByteArray):=(yj nx k q).bind fun l q2=>(jN nx j9 q2).bind fun _ q3=>.ret l q3
theorem jcN {k:Nat} (h:Doom N a q):DmD (Doom N a) (Jf nx (k+1) q):=by
 unfold Jf;rw [Up h];show DmD _ ((jN nx j9 q).bind _);rw [zI h (by kernel_rfl)]
 exact h.bad
def ky (nx:QS->PR QS Unit) (st:QS->PR QS τ) (k:Nat) (q:QS):PR QS (List τ):=(yt st k q).bind fun l q2=>(jN nx Jx q2).bind fun _ q3=>.ret l q3
abbrev StD (N:Nat) (st:QS->PR QS τ):Prop:=∀ a q,Doom N a q->ya q.tx->DmD (fun q'=>Doom N a q'∧q'.bad=true) (st q)
theorem Vn {st:QS->PR QS τ} {k:Nat} (h:Doom N a q) (hb:q.bad=true):ky nx st (k+1) q=.ret [] (jW q):=by
 unfold ky yt;rw [hb];show (jN nx Jx q).bind _=_;rw [zI h (by kernel_rfl)]
 rfl
theorem VD {st:QS->PR QS τ} {k:Nat} (hb:q.bad=false) (he:jb q.tx Jx=false):ky nx st (k+1) q=(st q).bind fun x q1=>(ky nx st k q1).bind fun l q2=>.ret (x::l) q2:=by
 show (yt st (k+1) q).bind _=_;unfold yt;rw [hb,he];show ((st q).bind _).bind _=_;rw [PR.bind_assoc];congr 1;funext x q1;unfold ky;rw [PR.bind_assoc,PR.bind_assoc];congr 1;funext l q2;show (jN nx Jx q2).bind _=((jN nx Jx q2).bind _).bind _;rw [PR.bind_assoc];rfl
theorem Lo {st:QS->PR QS τ} (hst:StD N st) {k:Nat} (h:Doom N a q):DmD (Doom N a) (ky nx st (k+2) q):=by
 cases hb:q.bad with
 | true=>rw [Vn h hb];exact h.bad
 | false =>
   have hx:ya q.tx:=by
    rcases h.2.2 with h2 | ⟨h2,_⟩
    ·rw [hb] at h2;cases h2
    ·exact h2
   rw [VD hb (zR hx (by kernel_rfl))]
   refine (hst a q h hx).bind fun x q1 h1 => ?_;rw [Vn h1.1 h1.2];exact h1.1.bad
theorem N8 (st:QS->PR QS τ) (k:Nat) (q:QS):We nx st k q=(jN nx Uo q).bind fun _ p1=>ky nx st k p1:=rfl
theorem FG {st:QS->PR QS τ} {k:Nat} (h:Doom N a q):DmD (Doom N a) (We nx st (k+1) q):=by
 rw [N8,zI h (by kernel_rfl)]
 show DmD _ (ky nx st (k+1) (jW q));rw [Vn h.bad rfl];exact h.bad.bad
theorem FM {expr:QS->PR QS ε} {block:QS->PR QS (List τ)} {k:Nat} (h:Doom N a q) (hx:ya q.tx):DmD (fun q'=>Doom N a q'∧q'.bad=true) (ko nx A expr block k q):=by
 unfold ko;rw [zR hx (show zt wDo=true by kernel_rfl),zR hx (show zt wIf=true by kernel_rfl),zR hx (show zt qQ=true by kernel_rfl),zR hx (show zt qo=true by kernel_rfl),zR hx (show zt kx=true by kernel_rfl)]
 exact ⟨h.bad,rfl⟩
end
theorem jcZ {nx:QS->PR QS Unit} {N:Nat} {a:Int} {q:QS} (h:Stg N a q):∀ (ks:List Int) (l:List ByteArray),DmD (Doom N a) (XV nx ks l q)
 | [],_=>h.doom
 | k :: r, l => by
   unfold XV;rw [yM (Ue h.2.2.1),IX h.2.2.1];exact h.doom.bad
variable {α α' β β' γ ε ε' τ τ':Type} {s:ByteArray} (hs:s.size<=10000)
omit hs in
theorem XQ.mapL {D:Int->QS->Prop} {R:LS->QS->Prop} {V:α->α'->Prop} {V':γ->α'->Prop} {f:α->γ} {x:PR LS α} {y:PR QS α'} (h:XQ D R V x y) (hv:∀ v v',V v v'->V' (f v) v'):XQ D R V' (x.bind fun v s=>.ret (f v) s) y:=by
 cases h with
 | stuck=>exact .stuck
 | pan h=>exact .pan h
 | ret h1 h2=>exact .ret (hv _ _ h1) h2
include hs
theorem Ls:∀ (ks:List Int) (l:List ByteArray) (p:LS) (q:QS),RQ s p q->XQd s (fun r r'=>r'=l++r) (zo (LM s.size) ks p) (XV (jo s) ks l q)
 | [],l,p,q,h=>.ret (by rw [List.append_nil]) h
 | k :: r, l, p, q, h => by
   unfold zo XV J9;rw [show (LM s.size).tx p=p.1 from rfl,h.1,yM h.2.2.1];simp only [cond_true];refine G6 hs (f:=fun w s1=>(zo (LM s.size) r s1).bind fun l s2=>.ret (w::l) s2) (g:=fun q'=>XV (jo s) r (l++[q.tx]) q') (v:=[]) h (fun p' q' hr => ?_) fun a q' hd=>jcZ hd _ _;rw [h.1];refine (Ls r (l++[q.tx]) p' q' hr).mapL fun v v' hv => ?_;rw [hv,List.append_assoc];rfl
theorem DD {p:LS} {q:QS} (h:RQ s p q):XQd s Eq (zG (LM s.size) p) (kj (jo s) q):=by
 unfold zG kj;rw [show (LM s.size).tx p=p.1 from rfl,h.1,h.2.2.2.2.1];have e:∀ (x y:PR QS (List ByteArray)),(bif (bif false then true else Nat.beq (jZ q.tx) 0) then x else y)=bif !(Nat.beq (jZ q.tx) 0) then y else x:=fun x y=>by cases Nat.beq (jZ q.tx) 0<;>rfl
 rw [e];refine G6 hs (f:=fun w s1=>(zo (LM s.size) (j8 (jZ q.tx)) s1).bind fun l s2=>.ret (w::l) s2) (g:=fun q'=>XV (jo s) (j8 (jZ q.tx)) [q.tx] q') (v:=[]) h (fun p' q' hr => ?_) fun a q' hd=>jcZ hd _ _;rw [h.1];exact (Ls hs _ [q.tx] p' q' hr).mapL fun v v' hv=>hv.symm
omit hs in
theorem OW {nx:QS->PR QS Unit} {k:Nat} {q:QS} (hb:q.bad=false) (hw:jB q.tx=some true):Jf nx (k+1) q=(nx q).bind fun _ q1=>(Jf nx k q1).bind fun l q2=>.ret (q.tx::l) q2:=by
 show (yj nx (k+1) q).bind _=_;unfold yj;rw [hb,hw];show ((nx q).bind _).bind _=_;rw [PR.bind_assoc];congr 1;funext x q1;unfold Jf;rw [PR.bind_assoc,PR.bind_assoc];congr 1;funext l q2;show (jN nx j9 q2).bind _=((jN nx j9 q2).bind _).bind _;rw [PR.bind_assoc];rfl
omit hs in
theorem UD {nx:QS->PR QS Unit} {k:Nat} {q:QS} (hb:q.bad=false) (hw:jB q.tx=some false):Jf nx (k+1) q=(jN nx j9 q).bind fun _ q1=>.ret [] q1:=by
 show (yj nx (k+1) q).bind _=_;unfold yj;rw [hb,hw];rfl
theorem Tn:∀ (k k':Nat),k<k'->∀ p q,RQ s p q->XQd s Eq (yX (LM s.size) k p) (Jf (jo s) k' q)
 | 0,_,_,_,_,_=>.stuck
 | k+1,0,hk,_,_,_=>absurd hk (Nat.not_lt_zero _)
 | k + 1, k' + 1, hk, p, q, h => by
   obtain ⟨j,rfl⟩ : ∃ j,k'=j+1:=⟨k' - 1,by omega⟩
   unfold yX qJ;rw [show (LM s.size).tx p=p.1 from rfl,h.1];cases hw:jb q.tx j9 with
  | true =>
    rw [UD h.2.2.2.2.1 (by rw [Ze hw];kernel_rfl)]
    have e3:jN (jo s) j9 q=(jo s q).bind fun _ q=>.ret () q:=by
     unfold jN zE;rw [h.2.2.2.2.1,hw];show ((jo s q).bind _).bind _=_;rw [PR.bind_assoc];rfl
    rw [e3];simp only [cond_true];rw [PR.bind_assoc,PR.bind_assoc];exact (Qm hs h).bind (fun _ _ p1 q1 _ h=>.ret rfl h) fun a _ q h=>h.doom
  | false =>
    simp only [cond_false];show XQ _ _ _ ((kp (LM s.size) p).bind _) _;unfold kp;rw [show (LM s.size).tx p=p.1 from rfl,h.1];cases hi:jB q.tx with
   | none=>exact .stuck
   | some ok =>
     cases ok with
    | false =>
      rw [UD h.2.2.2.2.1 hi]
      have e3:jN (jo s) j9 q=.ret () (jW q):=by
       unfold jN zE;rw [h.2.2.2.2.1,hw];rfl
      rw [e3];exact .pan h.bad
    | true =>
      rw [OW h.2.2.2.2.1 hi];unfold qy;simp only [cond_true];rw [PR.bind_assoc];refine (Qm hs h).bind (fun _ _ p1 q1 _ hr => ?_) fun a _ q h => ?_
      ·refine (Tn k (j+1) (by omega) p1 q1 hr).bind (fun l l' p2 q2 hl h2 => ?_) fun a l q h=>h
       subst hl;refine .ret ?_ h2;show p.1::l=_;rw [h.1]
      ·exact (jcN h.doom).bind fun l q h=>h
variable {A:Alg ε τ} {A':Alg ε' τ'} {E:ε->ε'->Prop} {T:τ->τ'->Prop} (hA:ARel Eq A A' E T)
theorem TN {st:LS->PR LS τ} {st':QS->PR QS τ'} (hst:FX s T st st') (hd:StD s.size st'):∀ (k k':Nat),k+1<k'->∀ p q,RQ s p q->XQd s (All2 T) (zU (LM s.size) st k p) (ky (jo s) st' k' q)
 | 0,_,_,_,_,_=>.stuck
 | k+1,0,hk,_,_,_=>absurd hk (Nat.not_lt_zero _)
 | k + 1, k' + 1, hk, p, q, h => by
   unfold zU qJ;rw [show (LM s.size).tx p=p.1 from rfl,h.1];cases hw:jb q.tx Jx with
  | true =>
    have e1:ky (jo s) st' (k'+1) q=(jN (jo s) Jx q).bind fun _ q1=>.ret [] q1:=by
     show (yt st' (k'+1) q).bind _=_;unfold yt;rw [h.2.2.2.2.1,hw];rfl
    have e3:jN (jo s) Jx q=(jo s q).bind fun _ q=>.ret () q:=by
     unfold jN zE;rw [h.2.2.2.2.1,hw];show ((jo s q).bind _).bind _=_;rw [PR.bind_assoc];rfl
    rw [e1,e3];simp only [cond_true];rw [PR.bind_assoc,PR.bind_assoc];exact (Qm hs h).bind (fun _ _ p1 q1 _ h=>.ret .nil h) fun a _ q h=>h.doom
  | false =>
    rw [VD h.2.2.2.2.1 hw];simp only [cond_false];show XQ _ _ _ ((st p).bind _) _;obtain ⟨j,rfl⟩ : ∃ j,k'=j+2:=⟨k' - 2,by omega⟩
    refine (hst p q h).bind (fun x x' p1 q1 hx h => ?_) fun a x q h => ?_
    ·exact (TN hst hd k (j+2) (by omega) p1 q1 h).bind (fun l l' p2 q2 hl h=>.ret (.cons hx hl) h) fun a l q h=>h
    ·exact (Lo hd h).bind fun l q h=>h
theorem jgI {st:LS->PR LS τ} {st':QS->PR QS τ'} (hst:FX s T st st') (hd:StD s.size st') {k k':Nat} (hk:k+1<k'):FX s (All2 T) (QC (LM s.size) st k) (We (jo s) st' k'):=by
 intro p q h;rw [N8];unfold QC;refine (Zf hs h).bind (fun _ _ p q _ h=>TN hs hst hd k k' hk p q h) fun a _ q h => ?_;obtain ⟨j,rfl⟩ : ∃ j,k'=j+2:=⟨k' - 2,by omega⟩
 exact Lo hd h
include hA
theorem Ik {x : LS -> PR LS ε} {x' : QS -> PR QS ε'} (hx : FX s E x x') (hxd : FDm s x') {b : LS -> PR LS (List τ)} {b' : QS -> PR QS (List τ')} (hb : FX s (All2 T) b b') (hbd : FDm s b') {k k' : Nat} (hk : k + 1 < k') :
  FX s T (zj (LM s.size) A x b k) (ko (jo s) A' x' b' k'):=by
 intro p q h;unfold zj ko;have hp:p.2.2=q.pos:=h.2.1;rw [show (LM s.size).tx p=p.1 from rfl,show (LM s.size).pos p=p.2.2 from rfl,h.1];refine .cond (fun _ => ?_) fun _=>.cond (fun _ => ?_) fun _=>.cond (fun _ => ?_) fun _=>.cond (fun _ => ?_) fun _=>.cond (fun _ => ?_) fun _=>.pan h.bad
 ·refine (Qm hs h).bind (fun _ _ p1 q1 _ h => ?_) fun a _ q h => ?_
  ·refine (DD hs h).bind (fun w w' p2 q2 hw h => ?_) fun a w q h => ?_
   ·subst hw;refine (XZ hs h).bind (fun c c' p3 q3 hc h => ?_) fun a c q h => ?_
    ·subst hc;refine .cond (fun _ => ?_) fun _ => ?_
     ·refine (hb p3 q3 h).bind (fun l l' p4 q4 hl h => ?_) fun a l q h => ?_
      ·exact (Zf hs h).bind (fun _ _ p5 q5 _ h=>.ret (hA.st (hA.ex .nil) hl .nil hp) h) fun a _ q h=>h
      ·rw [zI h (by kernel_rfl)];exact h.bad
     ·exact (Zf hs h).bind (fun _ _ p5 q5 _ h=>.ret (hA.st (hA.ex .nil) .nil .nil hp) h) fun a _ q h=>h
    ·cases c with
     | true=>exact (hbd a q h).bind fun l q h=>by rw [zI h (by kernel_rfl)];exact h.bad
     | false=>rw [cond_false,zI h (by kernel_rfl)];exact h.bad
   ·rw [Ji h (by kernel_rfl)]
    show DmD _ ((jN (jo s) j9 q).bind _);rw [zI h (by kernel_rfl)];exact h.bad
  ·simp only [OZ h.doom,PR.ret_bind,Ji h.doom.bad (show zt Ha=true by kernel_rfl),cond_false,zI h.doom.bad (show zt j9=true by kernel_rfl)]
   exact h.doom.bad.bad
 ·have fin : ∀ (a : Int) (e : ε') (l : List τ') (c : Bool) (q : QS) (w : ByteArray) (z : Int), Doom s.size a q -> DmD (Doom s.size a) (bif c then (b' q).bind fun r p5 => PR.ret (A'.st w [] e l r z) p5 else .ret (A'.st w [] e l [] z) q) := fun a e l c q w z h => by
   cases c with
   | true=>exact (hbd a q h).bind fun r q h=>h
   | false=>exact h
  refine (Qm hs h).bind (fun _ _ p1 q1 _ h => ?_) fun a _ q h => ?_
  ·refine (hx p1 q1 h).bind (fun e e' p2 q2 he h => ?_) fun a e q h => ?_
   ·refine (hb p2 q2 h).bind (fun l l' p3 q3 hl h => ?_) fun a l q h => ?_
    ·refine (XZ hs h).bind (fun c c' p4 q4 hc h => ?_) fun a c q h=>fin _ _ _ _ _ _ _ h;subst hc;refine .cond (fun _ => ?_) fun _=>.ret (hA.st he hl .nil hp) h;exact (hb p4 q4 h).bind (fun r r' p5 q5 hr h=>.ret (hA.st he hl hr hp) h) fun a r q h=>h
    ·rw [Ji h (by kernel_rfl)];exact h
   ·exact (hbd a q h).bind fun l q h=>by rw [Ji h (by kernel_rfl)];exact h
  ·exact (hxd a q h.doom).bind fun e q h=>(hbd a q h).bind fun l q h=>by rw [Ji h (by kernel_rfl)];exact h
 ·refine (Qm hs h).bind (fun _ _ p1 q1 _ h => ?_) fun a _ q h => ?_
  ·refine (N9 hs h).bind (fun n n' p2 q2 hn h => ?_) fun a n q h => ?_
   ·subst hn;exact (hb p2 q2 h).bind (fun l l' p3 q3 hl h=>.ret (hA.st (hA.ex .nil) hl .nil hp) h) fun a l q h=>h
   ·exact (hbd a q h).bind fun l q h=>h
  ·rw [jbv h.doom];show DmD _ ((b' (jW q)).bind _);exact (hbd a _ h.doom.bad).bind fun l q h=>h
 ·refine (Qm hs h).bind (fun _ _ p1 q1 _ h => ?_) fun a _ q h => ?_
  ·refine (hx p1 q1 h).bind (fun e e' p2 q2 he h => ?_) fun a e q h => ?_
   ·exact (Zf hs h).bind (fun _ _ p5 q5 _ h=>.ret (hA.st he .nil .nil hp) h) fun a _ q h=>h
   ·rw [zI h (by kernel_rfl)];exact h.bad
  ·exact (hxd a q h.doom).bind fun e q h=>by rw [zI h (by kernel_rfl)];exact h.bad
 ·refine (Qm hs h).bind (fun _ _ p1 q1 _ h1 => ?_) fun a _ q h => ?_
  ·obtain ⟨j,rfl⟩ : ∃ j,k'=j+2:=⟨k' - 2,by omega⟩
   unfold kp;rw [show (LM s.size).tx p1=p1.1 from rfl,h1.1];unfold yj;rw [h1.2.2.2.2.1];simp only [cond_false];cases hi:jB q1.tx with
   | none=>exact .stuck
   | some ok =>
     cases ok with
    | false =>
      have e1:jN (jo s) j9 (jW q1)=.ret () (jW (jW q1)):=rfl;have e2:qy (LM s.size) false p1=.pan p1.2.2:=rfl;simp only [e2,PR.pan_bind,cond_false,PR.ret_bind,List.isEmpty_nil,cond_true,e1];exact .pan h1.bad.bad
    | true =>
      unfold qy;simp only [cond_true];rw [PR.bind_assoc,PR.bind_assoc];refine (Qm hs h1).bind (fun _ _ p2 q2 _ h2 => ?_) fun a _ q h => ?_
      ·rw [PR.bind_assoc]
       have e : ((yj (jo s) (j + 1) q2).bind fun l q3 => (PR.ret (q1.tx :: l) q3).bind fun w p2 => (jN (jo s) j9 (bif w.isEmpty then jW p2 else p2)).bind fun _ p3 => .ret (A'.st q.tx w (Zy A') [] [] q.pos) p3)
         = (Jf (jo s) (j+1) q2).bind fun l q3=>.ret (A'.st q.tx (q1.tx::l) (Zy A') [] [] q.pos) q3:=by
        unfold Jf;rw [PR.bind_assoc];congr 1;funext l q3;rw [PR.bind_assoc];rfl
       rw [e];refine (Tn hs k (j+1) (by omega) p2 q2 h2).bind (fun l l' p3 q3 hl h => ?_) fun a l q h=>h
       subst hl;refine .ret ?_ h;show T (A.st q.tx ((LM s.size).tx p1::l) _ [] [] _) _;rw [show (LM s.size).tx p1=p1.1 from rfl,h1.1];exact hA.st (hA.ex .nil) .nil .nil hp
      ·rw [Up h.doom];show DmD _ ((jN (jo s) j9 q).bind _);rw [zI h.doom (by kernel_rfl)];exact h.doom.bad
  ·obtain ⟨j,rfl⟩ : ∃ j,k'=j+1:=⟨k' - 1,by omega⟩
   simp only [Up h.doom,PR.ret_bind,List.isEmpty_nil,cond_true,zI h.doom.bad (show zt j9=true by kernel_rfl)]
   exact h.doom.bad.bad
theorem jim {K K':Nat} (hK:K+1<K'):∀ d d',d<d'->FX s T (sts (LM s.size) A K d).1 (Gx (jo s) A' K' d').1∧FX s (All2 T) (sts (LM s.size) A K d).2 (Gx (jo s) A' K' d').2
 | 0,_,_=>⟨fun _ _ _=>.stuck,fun _ _ _=>.stuck⟩
 | d+1,0,h=>absurd h (Nat.not_lt_zero _)
 | d + 1, d' + 1, h => by
   obtain ⟨i1,i2⟩:=jim hK d d' (by omega)
   obtain ⟨j,rfl⟩ : ∃ j,K'=j+1:=⟨K' - 1,by omega⟩
   obtain ⟨d'',rfl⟩ : ∃ j,d'=j+1:=⟨d' - 1,by omega⟩
   have hx:=(jh7 hs hA (K:=K) (K':=j+1) (by omega) K (j+1) (by omega)).2
   have hxd:FDm s (QP (jo s) A' (j+1) (j+1)).2:=fun a q h=>(Ix h).2;have hbd:FDm s (Gx (jo s) A' (j+1) (d''+1)).2:=fun a q h=>FG h;have h1:=Ik hs hA hx hxd i2 hbd hK;exact ⟨h1,jgI hs h1 (fun a q h hx=>FM h hx) hK⟩
end Go.Proofs.YtiefjlcakpdfeaaGreat
namespace Go.Proofs.YtiefjlcakpdfeaaGreat
open Go Go.Sx Go.RowKit Rb
set_option maxRecDepth 100000
theorem ZR {kd:ByteArray} {w:List ByteArray} {e:AstX} {b x:List AstS} {p:Int}:QV (AF.st kd w e b x p)=1+jG b+jG x:=by
 show QV (.mk kd w e b x p)=_;unfold QV;rfl
theorem QT:jG []=0:=by unfold jG;rfl
theorem jdx {t:AstS} {r:List AstS}:jG (t::r)=QV t+jG r:=rfl
section
variable {N:Nat}
abbrev FTt (m:Nat) (f:LS->PR LS AstS):Prop:=∀ s,IL s->μL s<m->okP (f s) fun t s'=>IL s'∧QV t+μL s'<=μL s
abbrev FBt (m:Nat) (f:LS->PR LS (List AstS)):Prop:=∀ s,IL s->μL s<m->okP (f s) fun l s'=>IL s'∧jG l+μL s'<=μL s
theorem Dz {m:Nat} {st:LS->PR LS AstS} (hs:FTt m st):∀ (k:Nat) (s:LS),IL s->μL s<k->μL s<m->okP (zU (LM N) st k s) fun l s'=>IL s'∧jG l+μL s'<=μL s
 | 0,_,_,h,_=>by omega
 | k + 1, s, h, hk, hm => by
   unfold zU;refine (Js (K5 N) (by kernel_rfl) h).bind fun c s1 h1 => ?_
   cases c with
  | true=>exact ⟨h1.1,by simp only [cond_true] at h1;rw [QT];omega⟩
  | false =>
    simp only [cond_false] at h1 ⊢;refine (hs s1 h1.1 (by omega)).bind fun x s2 h2 => ?_
    have hp:=jeH x;exact (Dz hs k s2 h2.1 (by omega) (by omega)).bind fun l s3 h3=>⟨h3.1,by rw [jdx];omega⟩
theorem jjX {m K:Nat} {st:LS->PR LS AstS} (hs:FTt m st) (hK:m<=K):FBt m (QC (LM N) st K):=by
 intro s h hm;unfold QC;exact (ym (K5 N) (by kernel_rfl) h).bind fun _ s1 h1=>(Dz hs K s1 h1.1 (by omega) (by omega)).mono fun l s' h2=>⟨h2.1,by omega⟩
theorem BH {m m' K:Nat} {x:LS->PR LS AstX} (hx:FE IL μL DX K x) {b:LS->PR LS (List AstS)} (hb:FBt m' b) (hm:m<=m'+1) (hK:m<=K):FTt m (zj (LM N) AF x b K):=by
 intro s h hs;have hM:=K5 N;unfold zj;refine .cond (fun hc => ?_) fun _=>.cond (fun hc => ?_) fun _=>.cond (fun hc => ?_) fun _=>.cond (fun hc => ?_) fun _=>.cond (fun hc => ?_) fun _=>trivial
 ·have ht:zC ((LM N).tx s)=1:=qZ (f:=fun w=>jb w wDo) hc (by kernel_rfl)
  refine (hM.adv s h).bind fun _ s1 h1=>(V4 hM h1.1).bind fun w s2 h2=>(Js hM (by kernel_rfl) h2.1).bind fun c s3 h3 => ?_
  cases c with
  | true =>
    simp only [cond_true] at h3 ⊢;exact (hb s3 h3.1 (by omega)).bind fun l s4 h4=>(ym hM (by kernel_rfl) h4.1).bind fun _ s5 h5=>⟨h5.1,by rw [ZR,QT];omega⟩
  | false =>
    simp only [cond_false] at h3 ⊢;exact (ym hM (by kernel_rfl) h3.1).bind fun _ s4 h4=>⟨h4.1,by rw [ZR,QT];omega⟩
 ·have ht:zC ((LM N).tx s)=1:=qZ (f:=fun w=>jb w wIf) hc (by kernel_rfl)
  refine (hM.adv s h).bind fun _ s1 h1=>(hx s1 h1.1 (by omega)).bind fun e s2 h2=>(hb s2 h2.1 (by omega)).bind fun l s3 h3=>(Js hM (by kernel_rfl) h3.1).bind fun c s4 h4 => ?_
  cases c with
  | true =>
    simp only [cond_true] at h4 ⊢;exact (hb s4 h4.1 (by omega)).bind fun r s5 h5=>⟨h5.1,by rw [ZR];omega⟩
  | false =>
    simp only [cond_false] at h4 ⊢;exact ⟨h4.1,by rw [ZR,QT];omega⟩
 ·have ht:zC ((LM N).tx s)=1:=qZ (f:=fun w=>jb w qQ) hc (by kernel_rfl)
  exact (hM.adv s h).bind fun _ s1 h1=>(Us hM h1.1).bind fun n s2 h2=>(hb s2 h2.1 (by omega)).bind fun l s3 h3=>⟨h3.1,by rw [ZR,QT];omega⟩
 ·have ht:zC ((LM N).tx s)=1:=qZ (f:=fun w=>jb w qo) hc (by kernel_rfl)
  exact (hM.adv s h).bind fun _ s1 h1=>(hx s1 h1.1 (by omega)).bind fun e s2 h2=>(ym hM (by kernel_rfl) h2.1).bind fun _ s3 h3=>⟨h3.1,by rw [ZR,QT];omega⟩
 ·have ht:zC ((LM N).tx s)=1:=qZ (f:=fun w=>jb w kx) hc (by kernel_rfl)
  exact (hM.adv s h).bind fun _ s1 h1=>(GG hM h1.1).bind fun w s2 h2=>(GL hM K s2 h2.1 (by omega)).bind fun l s3 h3=>⟨h3.1,by rw [ZR,QT];omega⟩
theorem jaE (K:Nat):∀ d,d<=K->FTt d (sts (LM N) AF K d).1∧FBt d (sts (LM N) AF K d).2
 | 0,_=>⟨fun s _ h=>by omega,fun s _ h=>by omega⟩
 | d+1,h=>⟨BH (Yr (K5 N) Rk K K (lRq _)).2 (jaE K d (by omega)).2 (lRq _) h,jjX (BH (Yr (K5 N) Rk K K (lRq _)).2 (jaE K d (by omega)).2 (lRq _) h) h⟩
theorem jcW (N:Nat) {l:List UInt8} (hl:l.length<=9000):okP (Y1 N l) fun x _=>jG x.2<=10000:=by
 have hM:=K5 N;have h0:IL (bs [],l,0):=⟨by show (0:Nat)<=10000;omega,by show l.length<=_;omega⟩
 have hm:μL (bs [],l,0)<10000:=by
  show l.length+zC (bs [])<10000
  have:=U7 (bs [])
  omega
 unfold Y1 yY;refine (hM.adv _ h0).bind fun _ s1 h1=>(ym hM (by kernel_rfl) h1.1).bind fun _ s2 h2 => ?_
 rw [hM.nam s2 h2.1];refine (Z0 hM h2.1 fun hc=>qZ (f:=qk) hc (by kernel_rfl)).bind fun w s3 h3=>((jaE 10000 10000 (lRq _)).2 s3 h3.1 (by omega)).bind fun l s4 h4 => ?_
 exact .cond (fun _=>trivial) fun _=>by show jG l<=10000;omega
end
section
variable {s:ByteArray} {τ τ':Type}
def Bc (a:Int) (q:QS):Prop:=q.bad=true∧q.pos=a
theorem jbY {a:Int} {q:QS} (h:Doom s.size a q):Bc a (bif (bif !q.bad then lt q.pos (ja s.size) else false) then jW q else q):=by
 cases hb:q.bad with
 | true=>exact ⟨hb,h.1⟩
 | false =>
   rcases h.2.2 with h2 | ⟨_,h2⟩
   ·rw [hb] at h2;cases h2
   ·have : lt q.pos (ja s.size) = true := by
     rw [h.1];unfold lt ja;simpa using h2
    rw [this];exact ⟨rfl,h.1⟩
theorem IE {w:ByteArray} (h:ya w):qk w=false:=by
 unfold qk;rw [Ur h];rfl
abbrev jar (nx:QS->PR QS Unit) (blk:QS->PR QS (List τ')) (N:Int) (p2:QS):PR QS (ByteArray × List τ') :=
 (bif !qk p2.tx then PR.ret () (jW p2) else .ret () p2).bind fun _ p3 => (bif !p3.bad then nx p3 else .ret () p3).bind fun _ p4 =>
   (blk p4).bind fun l p5=>.ret (p2.tx,l) (bif (bif !p5.bad then lt p5.pos N else false) then jW p5 else p5)
theorem Gi {nx : QS -> PR QS Unit} {blk : QS -> PR QS (List τ')} (hbd : FDm s blk) {a : Int} {q : QS} {w : ByteArray} (h : Doom s.size a q) (hb : q.bad = true) :
  DmD (Bc a) ((bif !q.bad then nx q else PR.ret () q).bind fun _ p4=>(blk p4).bind fun l p5=>PR.ret (w,l) (bif (bif !p5.bad then lt p5.pos (ja s.size) else false) then jW p5 else p5)):=by
 rw [hb];exact (hbd a q h).bind fun l p5 h5=>jbY h5
theorem joU {nx:QS->PR QS Unit} {blk:QS->PR QS (List τ')} (hbd:FDm s blk) {a:Int} {q:QS} (h:Doom s.size a q):DmD (Bc a) (jar nx blk (ja s.size) q):=by
 unfold jar;cases hn:qk q.tx with
 | false=>exact Gi (nx:=nx) hbd h.bad rfl
 | true =>
   have hb:q.bad=true:=by
    rcases h.2.2 with h2 | ⟨h2,_⟩
    ·exact h2
    ·rw [IE h2] at hn;cases hn
   exact Gi (nx:=nx) hbd h hb
theorem Ft {nx:QS->PR QS Unit} {blk:QS->PR QS (List τ')} (hbd:FDm s blk) {a:Int} {q:QS} (h:Doom s.size a q):DmD (Bc a) (bif yg q.tx then jar nx blk (ja s.size) q else .stuck):=by
 rw [Ym h.2.1];exact joU hbd h
theorem joK (hs : s.size <= 10000) {T : τ -> τ' -> Prop} {b : LS -> PR LS (List τ)} {b' : QS -> PR QS (List τ')} (hb : FX s (All2 T) b b') (hbd : FDm s b') {p : LS} {q : QS} (h0 : RQ0 s p q) :
  XQ Bc (fun _ q=>q.bad=false) (fun x x'=>x.1=x'.1∧All2 T x.2 x'.2) (yY (LM s.size) b p) (WT (jo s) b' (ja s.size) q):=by
 unfold yY WT;refine (jnu hs h0).bind (fun _ _ p1 q1 _ h1 => ?_) fun a _ q h => ?_
 ·refine (Zf hs h1).bind (fun _ _ p2 q2 _ h2 => ?_) fun a _ q h=>Ft hbd h;rw [show (LM s.size).tx p2=p2.1 from rfl,h2.1,Ym h2.2.2.1];simp only [cond_true];cases hn:qk q2.tx with
  | false =>
    have:=Gi (nx:=jo s) (w:=q2.tx) hbd h2.bad rfl
    show XQ _ _ _ (.pan p2.2.2) ((bif !(jW q2).bad then jo s (jW q2) else PR.ret () (jW q2)).bind fun _ p4=>(b' p4).bind fun l p5=>PR.ret (q2.tx,l) (bif (bif !p5.bad then lt p5.pos (ja s.size) else false) then jW p5 else p5));revert this;cases ((bif !(jW q2).bad then jo s (jW q2) else PR.ret () (jW q2)).bind fun _ p4=>(b' p4).bind fun l p5=>PR.ret (q2.tx,l) (bif (bif !p5.bad then lt p5.pos (ja s.size) else false) then jW p5 else p5)) with
   | ret v q'=>exact fun this=>.pan this
   | stuck=>exact fun this=>this.elim
   | pan a=>exact fun this=>this.elim
  | true =>
    show XQ _ _ _ ((((LM s.size).adv p2).bind fun _ s'=>PR.ret p2.1 s').bind _) ((bif !q2.bad then jo s q2 else PR.ret () q2).bind _);rw [h2.2.2.2.2.1,PR.bind_assoc];show XQ _ _ _ _ ((jo s q2).bind _);refine (Qm hs h2).bind (fun _ _ p3 q3 _ h3 => ?_) fun a _ q h => ?_
    ·show XQ _ _ _ ((b p3).bind _) _;refine (hb p3 q3 h3).bind (fun l l' p4 q4 hl h4 => ?_) fun a l q h=>jbY h;rw [show (LM s.size).tx p4=p4.1 from rfl,h4.1,h4.2.2.2.1,h4.2.2.2.2.1];show XQ _ _ _ (bif !!lt q4.pos (ja s.size) then YY (LM s.size) p4 else .ret (p2.1,l) p4) (.ret (q2.tx,l') (bif lt q4.pos (ja s.size) then jW q4 else q4));rw [Bool.not_not];cases lt q4.pos (ja s.size) with
     | true=>exact .pan ⟨rfl,h4.2.1.symm⟩
     | false=>exact .ret ⟨h2.1,hl⟩ h4.2.2.2.2.1
    ·exact (hbd a q h.doom).bind fun l q h=>jbY h
 ·show DmD _ ((jN (jo s) ZD q).bind _);rw [zI h.doom (by kernel_rfl)]
  exact Ft hbd h.doom.bad
end
end Go.Proofs.YtiefjlcakpdfeaaGreat
namespace Go.Proofs.YtiefjlcakpdfeaaGreat
open Go Go.Sx Go.RowKit Rb
set_option maxRecDepth 100000
theorem jc4 (ρ:Val):O5 Tryz.prog 9 [.str] ρ=.c (.str ((ρ.at 0).S [])):=by kernel_rfl
theorem Da:∀ {l':List AstX} {l:List RX},All2 (fun a x=>x=a.den) l' l->l=AstX.dens l'
 | _,_,.nil=>rfl
 | _,_,.cons h r=>by rw [h,Da r];rfl
theorem Xe:∀ {l':List AstS} {l:List RS},All2 (fun a x=>x=a.den) l' l->l=AstS.dens l'
 | _,_,.nil=>rfl
 | _,_,.cons h r=>by rw [h,Xe r];rfl
theorem afr:ARel Eq AF AR (fun a x=>x=a.den) (fun a x=>x=a.den) where
 ex:=fun h=>by rw [Da h];rfl
 st:=fun he hb hx hp=>by rw [he,Xe hb,Xe hx,hp];rfl
theorem jn8 {s:ByteArray} (hs:s.size<=10000):XQ Bc (fun _ q=>q.bad=false) (fun x x'=>x.1=x'.1∧All2 (fun a x=>x=a.den) x.2 x'.2) (Y1 s.size (lst s)) (WT (jo s) (Nl 10002 10001 s) (ja s.size) ⟨bs [],0,0,false⟩) :=
 joK hs (jim hs afr (K:=10000) (K':=10002) (by omega) 10000 10001 (by omega)).2 (fun a q h=>FG h) ⟨rfl,0,rfl,Nat.zero_le _,rfl⟩
theorem jc6 (s:ByteArray) (hs:s.size<=9000):Yq 40 10001 (Nl 10002 10001) s=some (Jk (kU s)):=by
 unfold Yq kU;cases lt 8192 (ja s.size) with
 | true=>rfl
 | false =>
   simp only [cond_false];have h1:=jn8 (s:=s) (by omega)
   have h2:=B3 s.size (l:=lst s) hs;have h3:=jcW s.size (l:=lst s) hs;cases hb:Y1 s.size (lst s) with
  | stuck=>rw [hb] at h2;exact h2.elim
  | pan a =>
    rw [hb] at h1;generalize hq:WT (jo s) (Nl 10002 10001 s) (ja s.size) ⟨bs [],0,0,false⟩=y at h1;cases h1 with
   | pan h =>
     obtain ⟨e1,e2⟩:=h;unfold W9;simp only [e1,e2,cond_true];rfl
  | ret x q =>
    rw [hb] at h1 h2 h3;obtain ⟨w1,w2,w3⟩:=h2;generalize hq:WT (jo s) (Nl 10002 10001 s) (ja s.size) ⟨bs [],0,0,false⟩=y at h1;cases h1 with
   | ret hv hr =>
     rename_i v q';obtain ⟨v1,v2⟩:=v;obtain ⟨x1,x2⟩:=x;obtain ⟨rfl,hl⟩:=hv;have hl:=Xe hl;simp only at hl;subst hl;have hf:=(HM (f:=40) (d:=10001) (k:=10000) (lRq _) (by omega) (lRq _) w1 (SR.reflL x2) w2 w3).2
     have he:=jjW (f:=40) (d:=10001) (k:=10000) (lRq _) (by omega) (lRq _) w1 w2 w3 h3
     unfold W9 jbV B9;simp only [hr,cond_false,QN,he];cases hq2:jX 40 10001 x1 x2.length (jR (AstS.dens x2)) with
    | none=>simp only at hf;rw [hq2] at hf;cases hf
    | some e =>
      simp only [opN];cases e != 0<;>rfl
def Q9:PaF:=Yq 40 10001 (Nl 10002 10001)
theorem p9q:jj Tryz.prog 9 (nG (G9p Q9)):=Dt (p9 40 10001 (jis 10002 (by decide) 10001).2) fun args r h=>by
 unfold G9p at h;split at h
 ·exact h
 ·cases h
theorem h3s:HdOk Tryz.prog (H3s Q5 Q9 R5 (atF 10001)):=((((HdOk.nil.ucCons (p11 10001)).ucCons (p10 (p43 10000 10001))).ucCons p9q).ucCons p8q).ucCons p7
theorem jqB {s:ByteArray} {F:Nat->Prop} {W:World} {vs:List Value} (hargs:All2 (A1.Rel F W []) [.c (.str s)] vs):Calls Tryz.prog 3 vs.toArray W (fun e W'=>e=.returned (.bool true)∧Below W.heap.size W W'):=by
 cases hc:lt 1000 (ja s.size) with
 | true =>
   refine VC h3s 10 3 (jod Q5 Q9 R5 (atF 10001) s) ?_ rfl hargs;simp only [okB,List.all_cons,List.all_nil,hc];rfl
 | false =>
   have hs:s.size<=1000:=by unfold lt ja at hc;simp at hc;omega
   have q1:Q5 s=some (Jk (kU s)):=jf4 s (by omega)
   have q2:Q9 s=some (Jk (kU s)):=jc6 s (by omega)
   obtain ⟨w1,w2⟩:=jei (s:=s) (by omega)
   obtain ⟨r1,r2⟩:=jpa (x:=kU s) (y:=kU s) rfl (SR.reflL _) w1 w2
   have ha:at3 (atF 10001) (Jk (kU s)) (Jk (kU s))=some true:=by
    unfold at3 Jk;simp only [QN];exact jbr 10001 10000 _ _ _ (by omega) w1 w2 (lRq _) (fun _=>rfl) (fun _=>rfl)
   have hp:=jnS Q5 Q9 R5 (atF 10001) s;simp only [q1,q2,oV,oB,r1,r2,ha,obV,obD,beq_self_eq_true] at hp;refine VC h3s 10 3 hp ?_ rfl hargs;simp only [okB,List.all_cons,List.all_nil,hc];rfl
end Go.Proofs.YtiefjlcakpdfeaaGreat