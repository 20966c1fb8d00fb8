/-
 Part TpZF of the proof: RtA RtB RtC RtD.
-/
import Derived.Test.YtiefjlcakpdfeaaGreatDoorTpZD
namespace Go.Proofs.YtiefjlcakpdfeaaGreatDoor
open Go Go.Sx Go.RowKit Rb
set_option maxRecDepth 100000
abbrev TS:=ByteArray × List ByteArray
def au:List ByteArray->TS
 | []=>(bs [],[])
 | t::r=>(t,r)
def TM:Mach TS:=⟨Prod.fst,fun _=>0,fun q=>.ret () (au q.2)⟩
theorem Ko (t:ByteArray) (r:List ByteArray):TM.adv (au (t::r))=.ret () (au r):=rfl
theorem J8 (t:ByteArray) (r:List ByteArray):TM.tx (au (t::r))=t:=rfl
theorem Yt {t w:ByteArray} {r:List ByteArray} (h:jb t w=true):qC TM w (au (t::r))=.ret true (au r):=by
 unfold qC;rw [J8,h];rfl
def notIn (r:List ByteArray) (l:List ByteArray):Prop:=∀ w ∈ l,jb (TM.tx (au r)) w=false
theorem Yq {w:ByteArray} {r:List ByteArray} (h:jb (TM.tx (au r)) w=false):qC TM w (au r)=.ret false (au r):=by
 unfold qC;rw [h];rfl
theorem VR {o:TS->PR TS AstX} {g:AstX->TS->PR TS AstX} {e:AstX} {r:List ByteArray}:∀ {l:List ByteArray},notIn r l->Ju TM AF o g e l (au r)=.ret e (au r)
 | [],_=>rfl
 | w :: l, h => by
   unfold Ju;rw [Yq (h w List.mem_cons_self)];exact VR fun x hx=>h x (List.mem_cons_of_mem _ hx)
theorem ak {o:TS->PR TS AstX} {g:AstX->TS->PR TS AstX} {e x:AstX} {w:ByteArray} {r r2:List ByteArray} (ho:o (au r)=.ret x (au r2)):∀ {l:List ByteArray},w ∈ l->Ju TM AF o g e l (au (w::r))=g (.mk w 0 [e,x]) (au r2)
 | [],h=>by cases h
 | y :: l, h => by
   unfold Ju;cases hy:jb w y with
  | true =>
    have:=(qX _ _).1 hy
    subst this;rw [Yt hy];show (o (au r)).bind _=_;rw [ho];rfl
  | false =>
    rw [Yq (r:=w::r) hy];show Ju TM AF o g e l (au (w::r))=_;refine ak ho ?_;rcases List.mem_cons.1 h with rfl | h
    ·rw [qh] at hy;cases hy
    ·exact h
theorem YO {o:TS->PR TS AstX} {ops:List ByteArray} {k:Nat} (hk:1<=k) {e:AstX} {r:List ByteArray} (h:notIn r ops):y9 TM AF ops o k e (au r)=.ret e (au r):=by
 obtain ⟨j,rfl⟩ : ∃ j,k=j+1:=⟨k - 1,by omega⟩
 exact VR h
theorem Gt {o:TS->PR TS AstX} {ops:List ByteArray} {k:Nat} (hk:2<=k) {e x:AstX} {w:ByteArray} {r r2:List ByteArray} (hw:w ∈ ops) (ho:o (au r)=.ret x (au r2)) (h:notIn r2 ops):y9 TM AF ops o k e (au (w::r))=.ret (.mk w 0 [e,x]) (au r2):=by
 obtain ⟨j,rfl⟩ : ∃ j,k=j+1:=⟨k - 1,by omega⟩
 show Ju TM AF o (y9 TM AF ops o j) e ops (au (w::r))=_;rw [ak ho hw];exact YO (by omega) h
structure NumT (num:Int->ByteArray):Prop where
 nv:∀ v,0<=v->v<=1073741824->jt (num v)=some (v,true)
 sv:∀ v,0<=v->v<=9->zY (zh (bs [115]) (num v))=true∧JB (zh (bs [115]) (num v))=v
section
variable (num:Int->ByteArray)
def qQ (op:ByteArray) (v:Int):List ByteArray :=
 bif Nat.beq (j7 op) 1 then [num v] else bif Nat.beq (j7 op) 2 then [op,zh (bs [115]) (num v)] else [op]
def opT (op:ByteArray) (v:Int):List (List ByteArray)->List ByteArray
 | []=>qQ num op v
 | [a]=>op::a
 | a::b::_=>a++op::b
def jaS (leaf:Bool) (l:List ByteArray):List ByteArray:=bif leaf then l else qK::(l++[zr])
mutual
def prX:AstX->List ByteArray
 | .mk op v l=>opT num op v (yZ l)
def yZ:List AstX->List (List ByteArray)
 | []=>[]
 | a::r=>prO a::yZ r
def prO:AstX->List ByteArray
 | .mk op v l=>jaS l.isEmpty (opT num op v (yZ l))
end
inductive WX:Nat->AstX->Prop where
 | num {d:Nat} {v:Int} (h0:0<=v) (h1:v<=1073741824):WX (d+1) (.mk j8 v [])
 | site {d:Nat} {op:ByteArray} {v:Int} (h:j7 op=2) (h0:0<=v) (h1:v<=9):WX (d+1) (.mk op v [])
 | plain {d:Nat} {op:ByteArray} (h:j7 op=3):WX (d+1) (.mk op 0 [])
 | neg {d:Nat} {a:AstX} (ha:WX d a):WX (d+1) (.mk jO 0 [a])
 | bin {d:Nat} {op:ByteArray} {a b:AstX} (h:j7 op=5) (ha:WX d a) (hb:WX d b):WX (d+1) (.mk op 0 [a,b])
theorem jhd {w:ByteArray} (h:j7 w=2):prC w=false∧siC w=true:=by
 rcases YY w with ⟨h1,_⟩ | ⟨h1,_⟩ | ⟨_,h2,h3,h4⟩ | ⟨h1,_⟩ | ⟨h1,_⟩ | ⟨h1,_⟩
 ·omega
 ·omega
 ·obtain ⟨w1,w2,w3⟩:=HZ w;have hn:noC w=false:=by unfold noC;rw [h4,h2];rfl
  cases hp:prC w with
  | true=>have:=(w1 hp).2;rw [h3] at this;cases this
  | false =>
    cases hs:siC w with
   | true=>exact ⟨rfl,rfl⟩
   | false=>rw [w3 hp hs] at hn;cases hn
 ·omega
 ·omega
 ·omega
theorem jhc {w:ByteArray} (h:j7 w=3):prC w=true:=by
 rcases YY w with ⟨h1,_⟩ | ⟨h1,_⟩ | ⟨h1,_⟩ | ⟨_,h2,h3,h4⟩ | ⟨h1,_⟩ | ⟨h1,_⟩
 ·omega
 ·omega
 ·omega
 ·obtain ⟨w1,w2,w3⟩:=HZ w;have hn:noC w=false:=by unfold noC;rw [h4,h2];rfl
  cases hp:prC w with
  | true=>rfl
  | false =>
    cases hs:siC w with
   | true=>have:=(w2 hp hs).2;rw [h3] at this;cases this
   | false=>rw [w3 hp hs] at hn;cases hn
 ·omega
 ·omega
theorem jnx {w:ByteArray} (h:j7 w=5):w ∈ [wOr]∨w ∈ [z8]∨w ∈ [wEq,wLt,wGt]∨w ∈ [zZ,qJ]:=by
 unfold j7 at h;cases h1:jb w j8 with
 | true=>rw [h1] at h;cases h
 | false =>
   rw [h1] at h;simp only [cond_false] at h;cases h2:(jb w qS||(jb w qe||(jb w zI||(jb w qU||jb w qq)))) with
  | true=>rw [h2] at h;cases h
  | false =>
    rw [h2] at h;simp only [cond_false] at h;cases h3:(jb w jW||jb w zg) with
   | true=>rw [h3] at h;cases h
   | false =>
     rw [h3] at h;simp only [cond_false] at h;cases h4:jb w jO with
    | true=>rw [h4] at h;cases h
    | false =>
      rw [h4] at h;simp only [cond_false] at h;cases h5:Gf (eqs w [wOr,z8,wEq,wLt,wGt,zZ,qJ]) with
     | true =>
       have:=KA h5
       simp only [List.mem_cons,List.not_mem_nil,or_false] at this ⊢;rcases this with h | h | h | h | h | h | h<;>simp [h]
     | false =>
       have h5:(jb w wOr||(jb w z8||(jb w wEq||(jb w wLt||(jb w wGt||(jb w zZ||jb w qJ))))))=false:=h5;rw [h5] at h;cases h
variable {num} (hn:NumT num)
include hn
theorem Zd {v:Int} (h0:0<=v) (h1:v<=1073741824) {w:ByteArray} (hw:nmO (jt w)=false):jb (num v) w=false:=jmK (by rw [hn.nv v h0 h1];rfl) hw
theorem N4 {x:TS->PR TS AstX} {d:Nat} {op:ByteArray} {v:Int} (h:WX d (.mk op v [])) (r:List ByteArray):Zv TM AF x (au (qQ num op v++r))=.ret (.mk op v []) (au r):=by
 cases h with
 | num h0 h1 =>
   have e:qQ num j8 v=[num v]:=rfl;have e1:prC (num v)=false:=by unfold prC;rw [Zd hn h0 h1 (by kernel_rfl),Zd hn h0 h1 (by kernel_rfl)];rfl
   have e2:siC (num v)=false:=by unfold siC;rw [Zd hn h0 h1 (by kernel_rfl),Zd hn h0 h1 (by kernel_rfl),Zd hn h0 h1 (by kernel_rfl),Zd hn h0 h1 (by kernel_rfl),Zd hn h0 h1 (by kernel_rfl)];rfl
   have e3:jb (num v) qK=false:=Zd hn h0 h1 (by kernel_rfl)
   have e4:le v 1073741824=true:=by unfold le;simpa using h1
   rw [e];show (bif prC (num v) then _ else bif siC (num v) then _ else bif jb (num v) qK then _ else (yw TM 1073741824 (au (num v::r))).bind _)=_;rw [e1,e2,e3];simp only [cond_false];unfold yw;rw [J8,hn.nv v h0 h1];simp only [cond_true];unfold qD;rw [e4];rfl
 | site hk h0 h1 =>
   obtain ⟨e1,e2⟩:=jhd hk;obtain ⟨s1,s2⟩:=hn.sv v h0 h1;have e:qQ num op v=[op,zh (bs [115]) (num v)]:=by unfold qQ;rw [hk];rfl
   rw [e];show (bif prC op then _ else bif siC op then (TM.adv (au (op::zh (bs [115]) (num v)::r))).bind _ else _)=_;rw [e1,e2];simp only [cond_true,cond_false,Ko];show (ZY TM (au (zh (bs [115]) (num v)::r))).bind _=_;unfold ZY qD;rw [J8,s1,s2];rfl
 | plain hk =>
   have e1:=jhc hk;have e:qQ num op 0=[op]:=by unfold qQ;rw [hk];rfl
   rw [e];show (bif prC op then (TM.adv (au (op::r))).bind _ else _)=_;rw [e1];rfl
end
end Go.Proofs.YtiefjlcakpdfeaaGreatDoor
namespace Go.Proofs.YtiefjlcakpdfeaaGreatDoor
open Go Go.Sx Go.RowKit Rb
set_option maxRecDepth 100000
def Ui (x:TS->PR TS AstX) (t:List ByteArray) (e:AstX):Prop:=(∀ s,Zv TM AF x (au (t++s))=.ret e (au s))∧∀ s,jb (TM.tx (au (t++s))) jO=false
section
variable {x one:TS->PR TS AstX} {K:Nat} (hK:2<=K) {e a b:AstX} {t ta tb s:List ByteArray} {w:ByteArray}
include hK
theorem VM (h:Ui x t e) (hs:notIn s [zZ,qJ]):Zm TM AF x K (au (t++s))=.ret e (au s):=by
 unfold Zm;rw [h.1];exact YO (by omega) hs
theorem jpL (ha:Ui x ta a) (hb:Ui x tb b) (hw:w ∈ [zZ,qJ]) (hs:notIn s [zZ,qJ]):Zm TM AF x K (au (ta++w::(tb++s)))=.ret (.mk w 0 [a,b]) (au s):=by
 unfold Zm;rw [ha.1];exact Gt hK hw (hb.1 s) hs
omit hK in
theorem Gv (h:Zm TM AF x K (au t)=.ret e (au s)) (hn:jb (TM.tx (au t)) jO=false) (hs:notIn s [wEq,wLt,wGt]):Jx TM AF one x K (au t)=.ret e (au s):=by
 unfold Jx;rw [Yq hn];show (Zm TM AF x K (au t)).bind _=_;rw [h];exact VR hs
omit hK in
theorem jo6 (h:Zm TM AF x K (au t)=.ret a (au (w::tb))) (hn:jb (TM.tx (au t)) jO=false) (hw:w ∈ [wEq,wLt,wGt]) (hb:Zm TM AF x K (au tb)=.ret b (au s)):Jx TM AF one x K (au t)=.ret (.mk w 0 [a,b]) (au s):=by
 unfold Jx;rw [Yq hn];show (Zm TM AF x K (au t)).bind _=_;rw [h];exact ak hb hw
omit hK in
theorem jpF (h:one (au t)=.ret a (au s)):Jx TM AF one x K (au (jO::t))=.ret (.mk jO 0 [a]) (au s):=by
 unfold Jx;rw [Yt (qh _)];show (one (au t)).bind _=_;rw [h];rfl
theorem UW (h:Jx TM AF one x K (au t)=.ret e (au s)) (hs:notIn s [z8]):QE TM AF one x K (au t)=.ret e (au s):=by
 unfold QE;rw [h];exact YO (by omega) hs
theorem jnr (h:Jx TM AF one x K (au t)=.ret a (au (w::tb))) (hw:w ∈ [z8]) (hb:Jx TM AF one x K (au tb)=.ret b (au s)) (hs:notIn s [z8]):QE TM AF one x K (au t)=.ret (.mk w 0 [a,b]) (au s):=by
 unfold QE;rw [h];exact Gt hK hw hb hs
theorem GY (h:QE TM AF one x K (au t)=.ret e (au s)) (hs:notIn s [wOr]):Z0 TM AF one x K (au t)=.ret e (au s):=by
 unfold Z0;rw [h];exact YO (by omega) hs
theorem jn1 (h:QE TM AF one x K (au t)=.ret a (au (w::tb))) (hw:w ∈ [wOr]) (hb:QE TM AF one x K (au tb)=.ret b (au s)) (hs:notIn s [wOr]):Z0 TM AF one x K (au t)=.ret (.mk w 0 [a,b]) (au s):=by
 unfold Z0;rw [h];exact Gt hK hw hb hs
end
abbrev allOps:List ByteArray:=[wOr,z8,wEq,wLt,wGt,zZ,qJ]
theorem notIn.sub {r l l':List ByteArray} (h:notIn r l) (hs:∀ w ∈ l',w ∈ l):notIn r l':=fun w hw=>h w (hs w hw)
theorem kY {w:ByteArray} {r l:List ByteArray} (h:l.all (fun y=>!jb w y)=true):notIn (w::r) l:=fun y hy=>by
 have:=List.all_eq_true.1 h y hy
 show jb w y=false;simpa using this
theorem O3 {l:List ByteArray} (h:l.all (fun w=>allOps.any (jb w))=true):∀ w ∈ l,w ∈ allOps:=fun w hw=>by
 have:=List.all_eq_true.1 h w hw
 obtain ⟨y,hy,he⟩:=List.any_eq_true.1 this;rw [(qX _ _).1 he];exact hy
section
variable {num:Int->ByteArray} (hn:NumT num)
include hn
theorem Oz {d:Nat} {op:ByteArray} {v:Int} (h:WX d (.mk op v [])) (s:List ByteArray):jb (TM.tx (au (qQ num op v++s))) jO=false:=by
 cases h with
 | num h0 h1=>exact Zd hn h0 h1 (by kernel_rfl)
 | site hk h0 h1 =>
   have e:qQ num op v=[op,zh (bs [115]) (num v)]:=by unfold qQ;rw [hk];rfl
   rw [e];show jb op jO=false;cases hh:jb op jO with
  | false=>rfl
  | true=>rw [(qX _ _).1 hh] at hk;cases hk
 | plain hk =>
   have e:qQ num op 0=[op]:=by unfold qQ;rw [hk];rfl
   rw [e];show jb op jO=false;cases hh:jb op jO with
  | false=>rfl
  | true=>rw [(qX _ _).1 hh] at hk;cases hk
theorem FK {x:TS->PR TS AstX} {d:Nat} {e:AstX} (h:WX d e) (hx:∀ r,notIn r allOps->x (au (prX num e++r))=.ret e (au r)):Ui x (prO num e) e:=by
 obtain ⟨op,v,l⟩:=e;cases l with
 | nil=>exact ⟨fun s=>N4 hn h s,fun s=>Oz hn h s⟩
 | cons a l =>
   have e1:prO num (.mk op v (a::l))=qK::(prX num (.mk op v (a::l))++[zr]):=by unfold prO prX;rfl
   rw [e1];refine ⟨fun s => ?_,fun s=>by show jb qK jO=false;kernel_rfl⟩
   have e2:(qK::(prX num (.mk op v (a::l))++[zr]))++s=qK::(prX num (.mk op v (a::l))++(zr::s)):=by simp
   rw [e2];show (bif prC qK then _ else bif siC qK then _ else bif jb qK qK then (TM.adv (au (qK::_))).bind _ else _)=_;have c1:prC qK=false:=by kernel_rfl
   have c2:siC qK=false:=by kernel_rfl
   rw [c1,c2,qh,Ko];show (x (au (prX num (.mk op v (a::l))++zr::s))).bind _=_;rw [hx _ (kY (by kernel_rfl))]
   simp only [PR.ret_bind];unfold qN;rw [Yt (qh _)];rfl
theorem G4 {K : Nat} (hK : 2 <= K) : ∀ (d : Nat) (e : AstX), WX d e ->
  (∀ D,2*d<=D->∀ r,notIn r allOps->(exs TM AF K D).2 (au (prX num e++r))=.ret e (au r)) ∧
  (∀ D,2*d+1<=D->∀ r,notIn r allOps->(exs TM AF K D).1 (au (prO num e++r))=.ret e (au r))
 | 0,e,h=>by cases h
 | d + 1, e, h => by
   have s1:∀ {r},notIn r allOps->notIn r [zZ,qJ]:=fun h=>h.sub (O3 (by kernel_rfl))
   have s2:∀ {r},notIn r allOps->notIn r [wEq,wLt,wGt]:=fun h=>h.sub (O3 (by kernel_rfl))
   have s3:∀ {r},notIn r allOps->notIn r [z8]:=fun h=>h.sub (O3 (by kernel_rfl))
   have s4:∀ {r},notIn r allOps->notIn r [wOr]:=fun h=>h.sub (O3 (by kernel_rfl))
   have hE:∀ D,2*(d+1)<=D->∀ r,notIn r allOps->(exs TM AF K D).2 (au (prX num e++r))=.ret e (au r):=by
    intro D hD r hr;obtain ⟨D,rfl⟩ : ∃ D',D=D'+1:=⟨D - 1,by omega⟩
    show Z0 TM AF (exs TM AF K D).1 (exs TM AF K D).2 K (au (prX num e++r))=_
    have leaf:∀ {op v},e=.mk op v []->Z0 TM AF (exs TM AF K D).1 (exs TM AF K D).2 K (au (prX num e++r))=.ret e (au r):=fun {op v} he=>by
     subst he;have e1:prX num (.mk op v [])=qQ num op v:=by unfold prX yZ;rfl
     rw [e1];have ho:Ui (exs TM AF K D).2 (qQ num op v) (.mk op v []):=⟨fun s=>N4 hn h s,fun s=>Oz hn h s⟩;exact GY hK (UW hK (Gv (VM hK ho (s1 hr)) (ho.2 r) (s2 hr)) (s3 hr)) (s4 hr)
    cases h with
    | num h0 h1=>exact leaf rfl
    | site hk h0 h1=>exact leaf rfl
    | plain hk=>exact leaf rfl
    | @neg _ a ha =>
      have e1:prX num (.mk jO 0 [a])=jO::prO num a:=by unfold prX yZ;rfl
      rw [e1];have h1:=(G4 hK d a ha).2 D (by omega) r hr
      exact GY hK (UW hK (jpF h1) (s3 hr)) (s4 hr)
    | @bin _ op a b hk ha hb =>
      have e1:prX num (.mk op 0 [a,b])=prO num a++op::prO num b:=by unfold prX yZ yZ yZ;rfl
      have e2:(prO num a++op::prO num b)++r=prO num a++op::(prO num b++r):=by simp
      rw [e1,e2];have oa:Ui (exs TM AF K D).2 (prO num a) a:=FK hn ha fun r hr=>(G4 hK d a ha).1 D (by omega) r hr
      have ob:Ui (exs TM AF K D).2 (prO num b) b:=FK hn hb fun r hr=>(G4 hK d b hb).1 D (by omega) r hr
      rcases jnx hk with hw | hw | hw | hw
      ·simp only [List.mem_cons,List.not_mem_nil,or_false] at hw;subst hw;have q:=UW hK (one:=(exs TM AF K D).1) (Gv (VM hK oa (s:=wOr::(prO num b++r)) (kY (by kernel_rfl))) (oa.2 _) (kY (by kernel_rfl))) (kY (by kernel_rfl))
       exact jn1 hK q (by simp) (UW hK (Gv (VM hK ob (s1 hr)) (ob.2 r) (s2 hr)) (s3 hr)) (s4 hr)
      ·simp only [List.mem_cons,List.not_mem_nil,or_false] at hw;subst hw;have q:=Gv (one:=(exs TM AF K D).1) (VM hK oa (s:=z8::(prO num b++r)) (kY (by kernel_rfl))) (oa.2 _) (kY (by kernel_rfl))
       exact GY hK (jnr hK q (by simp) (Gv (VM hK ob (s1 hr)) (ob.2 r) (s2 hr)) (s3 hr)) (s4 hr)
      ·have hp : notIn (op :: (prO num b ++ r)) [zZ, qJ] := by
        simp only [List.mem_cons,List.not_mem_nil,or_false] at hw;rcases hw with rfl | rfl | rfl<;>exact kY (by kernel_rfl)
       exact GY hK (UW hK (jo6 (VM hK oa hp) (oa.2 _) hw (VM hK ob (s1 hr))) (s3 hr)) (s4 hr)
      ·exact GY hK (UW hK (Gv (jpL hK oa ob hw (s1 hr)) (oa.2 _) (s2 hr)) (s3 hr)) (s4 hr)
   refine ⟨hE,fun D hD r hr => ?_⟩;obtain ⟨D,rfl⟩ : ∃ D',D=D'+1:=⟨D - 1,by omega⟩
   show Jx TM AF (exs TM AF K D).1 (exs TM AF K D).2 K (au (prO num e++r))=_;have oe:Ui (exs TM AF K D).2 (prO num e) e:=FK hn h fun r hr=>hE D (by omega) r hr
   exact Gv (VM hK oe (s1 hr)) (oe.2 r) (s2 hr)
end
end Go.Proofs.YtiefjlcakpdfeaaGreatDoor
namespace Go.Proofs.YtiefjlcakpdfeaaGreatDoor
open Go Go.Sx Go.RowKit Rb
set_option maxRecDepth 100000
section
variable (num:Int->ByteArray)
def Zx (kd:ByteArray) (b x:List ByteArray) (hb hx:Bool):List ByteArray :=
 bif jb kd wDo then (bif hb then [] else ar::b)++[ql]
 else bif jb kd wIf then b++(bif hx then [] else yc::x)
 else bif jb kd jK then b else [ql]
def qy (l:List ByteArray):List ByteArray:=JR::(l++[yD])
mutual
def prS:AstS->List ByteArray
 | .mk kd w e b x _=>kd::(w++((bif ze kd then prX num e else [])++Zx kd (qy (prL b)) (qy (prL x)) b.isEmpty x.isEmpty))
def prL:List AstS->List ByteArray
 | []=>[]
 | t::r=>prS t++prL r
end
mutual
def zS:AstS->AstS
 | .mk kd w e b x _=>.mk kd w e (zL b) (zL x) 0
def zL:List AstS->List AstS
 | []=>[]
 | t::r=>zS t::zL r
end
abbrev noX:AstX:=.mk (bs []) 0 []
inductive WS (K:Nat):Nat->AstS->Prop where
 | dos {d:Nat} {w0:ByteArray} {ws:List ByteArray} {b:List AstS} {p:Int} (hk:Nat.beq (qx w0) 0=false) (ho:All2 (fun k w=>qn k w=true) (qu (qx w0)) ws) (hs:∀ u ∈ ws,u.size<=10000) (hl:b.length<K) (hb:∀ y ∈ b,WS K d y):WS K (d+1) (.mk wDo (w0::ws) noX b [] p)
 | ifs {d:Nat} {e:AstX} {b x:List AstS} {p:Int} (he:WX 33 e) (hl:b.length<K) (hb:∀ y ∈ b,WS K d y) (hl2:x.length<K) (hx:∀ y ∈ x,WS K d y):WS K (d+1) (.mk wIf [] e b x p)
 | reps {d:Nat} {v:Int} {b:List AstS} {p:Int} (h0:0<=v) (h1:v<=99) (hl:b.length<K) (hb:∀ y ∈ b,WS K d y):WS K (d+1) (.mk jK [] (.mk j8 v []) b [] p)
 | reqs {d:Nat} {e:AstX} {p:Int} (he:WX 33 e):WS K (d+1) (.mk jT [] e [] [] p)
 | says {d:Nat} {w0:ByteArray} {ws:List ByteArray} {p:Int} (hw:∀ u ∈ w0::ws,jF u=some true) (hl:ws.length<K):WS K (d+1) (.mk z6 (w0::ws) noX [] [] p)
theorem Kw {w:ByteArray} {r:List ByteArray}:qN TM w (au (w::r))=.ret () (au r):=by
 unfold qN;rw [Yt (qh _)];rfl
theorem XH {w:ByteArray} {r:List ByteArray} {ok:Bool} (h:ok=true):qD TM ok (au (w::r))=.ret w (au r):=by
 unfold qD;rw [h];rfl
theorem OO:∀ {ks:List Int} {ws:List ByteArray} {r:List ByteArray},All2 (fun k w=>qn k w=true) ks ws->(∀ u ∈ ws,u.size<=10000)->zU TM ks (au (ws++r))=.ret ws (au r)
 | _,_,_,.nil,_=>rfl
 | k :: ks, w :: ws, r, .cons h1 h2, hs => by
   unfold zU J5;show ((bif nmD (jt w) then qD TM (qn k w) (au (w::(ws++r))) else .stuck).bind _)=_;rw [Xj (hs w List.mem_cons_self),XH h1];simp only [cond_true,PR.ret_bind];rw [OO h2 fun u hu=>hs u (List.mem_cons_of_mem _ hu)];rfl
theorem Ig {w0 : ByteArray} {ws r : List ByteArray} (hk : Nat.beq (qx w0) 0 = false) (ho : All2 (fun k w => qn k w = true) (qu (qx w0)) ws) (hs : ∀ u ∈ ws, u.size <= 10000) :
  zH TM (au (w0::(ws++r)))=.ret (w0::ws) (au r):=by
 unfold zH;rw [J8,XH (by rw [hk];rfl)]
 simp only [PR.ret_bind];rw [OO ho hs];rfl
theorem I0:∀ (k:Nat) (ws r:List ByteArray),ws.length<k->(∀ u ∈ ws,jF u=some true)->ye TM k (au (ws++ql::r))=.ret ws (au r)
 | 0,_,_,h,_=>by omega
 | k + 1, [], r, h, _ => by
   show ye TM (k+1) (au (ql::r))=_;unfold ye;rw [Yt (qh _)];rfl
 | k + 1, w :: ws, r, h, hw => by
   show ye TM (k+1) (au (w::(ws++ql::r)))=_;unfold ye;have h1:=hw w List.mem_cons_self
   have h2:jb w ql=false:=by
    cases hh:jb w ql with
    | false=>rfl
    | true =>
      rw [(qX _ _).1 hh] at h1
      have:jF ql=some false:=by kernel_rfl
      rw [this] at h1;cases h1
   rw [Yq (r:=w::(ws++ql::r)) h2];simp only [PR.ret_bind,cond_false];unfold kT;rw [J8,h1];simp only;rw [XH rfl];simp only [PR.ret_bind];rw [I0 k ws r (by simp only [List.length_cons] at h;omega) fun u hu=>hw u (List.mem_cons_of_mem _ hu)]
   rfl
variable {num}
theorem Tw (t:AstS) (r:List ByteArray):TM.tx (au (prS num t++r))=match t with | .mk kd _ _ _ _ _=>kd:=by
 obtain ⟨kd,w,e,b,x,p⟩:=t;unfold prS;rfl
theorem Mv {K d:Nat} {kd:ByteArray} {w:List ByteArray} {e:AstX} {b x:List AstS} {p:Int} (h:WS K d (.mk kd w e b x p)):kd ∈ [wDo,wIf,jK,jT,z6]:=by
 cases h<;>simp
theorem RG {kd w:ByteArray} (h:kd ∈ [wDo,wIf,jK,jT,z6]) (hw:[wDo,wIf,jK,jT,z6].all (fun y=>!jb y w)=true):jb kd w=false:=by
 have:=List.all_eq_true.1 hw kd h
 simpa using this
theorem Ow {K D:Nat} {st:TS->PR TS AstS} (hst:∀ t,WS K D t->∀ r,jb (TM.tx (au r)) yc=false->st (au (prS num t++r))=.ret (zS t) (au r)):∀ (k:Nat) (l:List AstS) (r:List ByteArray),l.length<k->(∀ t ∈ l,WS K D t)->zW TM st k (au (prL num l++yD::r))=.ret (zL l) (au r)
 | 0,_,_,h,_=>by omega
 | k + 1, [], r, h, _ => by
   have e:prL num []=[]:=by unfold prL;rfl
   rw [e];show zW TM st (k+1) (au (yD::r))=_;unfold zW;rw [Yt (qh _)];unfold zL;rfl
 | k + 1, t :: l, r, h, hw => by
   have e:prL num (t::l)++yD::r=prS num t++(prL num l++yD::r):=by
    show (prS num t++prL num l)++yD::r=_;rw [List.append_assoc]
   rw [e];have ht:=hw t List.mem_cons_self;unfold zW
   have h1:jb (TM.tx (au (prS num t++(prL num l++yD::r)))) yD=false:=by
    rw [Tw];obtain ⟨kd,w,e,b,x,p⟩:=t;exact RG (Mv ht) (by kernel_rfl)
   rw [Yq h1];simp only [PR.ret_bind,cond_false]
   have h2:jb (TM.tx (au (prL num l++yD::r))) yc=false:=by
    cases l with
    | nil =>
      have e:prL num []=[]:=by unfold prL;rfl
      rw [e];show jb yD yc=false
      kernel_rfl
    | cons y l =>
      have e:prL num (y::l)++yD::r=prS num y++(prL num l++yD::r):=by
       show (prS num y++prL num l)++yD::r=_;rw [List.append_assoc]
      rw [e,Tw];have hy:=hw y (List.mem_cons_of_mem _ List.mem_cons_self);obtain ⟨kd,w,e,b,x,p⟩:=y;exact RG (Mv hy) (by kernel_rfl)
   rw [hst t ht _ h2];simp only [PR.ret_bind];rw [Ow hst k l r (by simp only [List.length_cons] at h;omega) fun y hy=>hw y (List.mem_cons_of_mem _ hy)]
   rfl
theorem DY {K D : Nat} {st : TS -> PR TS AstS} (hst : ∀ t, WS K D t -> ∀ r, jb (TM.tx (au r)) yc = false -> st (au (prS num t ++ r)) = .ret (zS t) (au r)) {l : List AstS} {r : List ByteArray} (hl : l.length < K) (hw : ∀ t ∈ l, WS K D t) :
  Yk TM st K (au (qy (prL num l)++r))=.ret (zL l) (au r):=by
 have e:qy (prL num l)++r=JR::(prL num l++yD::r):=by unfold qy;simp
 rw [e];unfold Yk;rw [Kw];simp only [PR.ret_bind];exact Ow hst K l r hl hw
variable (hn:NumT num)
include hn
theorem D6 {K D : Nat} (hK : 100 <= K) {b : TS -> PR TS (List AstS)} (hb : ∀ l r, l.length < K -> (∀ t ∈ l, WS K D t) -> b (au (qy (prL num l) ++ r)) = .ret (zL l) (au r)) :
  ∀ t,WS K (D+1) t->∀ r,jb (TM.tx (au r)) yc=false->qO TM AF (exs TM AF K K).2 b K (au (prS num t++r))=.ret (zS t) (au r):=by
 have hx:∀ e,WX 33 e->∀ r,notIn r allOps->(exs TM AF K K).2 (au (prX num e++r))=.ret e (au r):=fun e he r hr=>(G4 hn (by omega) 33 e he).1 K (by omega) r hr
 have hz:zL []=[]:=by unfold zL;rfl
 intro t ht r hr;cases ht with
 | @dos _ w0 ws bb p hk ho hs hl hb2 =>
   have e1:prS num (.mk wDo (w0::ws) noX bb [] p)++r=wDo::(w0::(ws++((bif bb.isEmpty then [] else ar::qy (prL num bb))++(ql::r)))):=by
    unfold prS;show (wDo::(w0::ws++([]++((bif bb.isEmpty then [] else ar::qy (prL num bb))++[ql]))))++r=_
    simp
   have e2:zS (.mk wDo (w0::ws) noX bb [] p)=.mk wDo (w0::ws) noX (zL bb) [] 0:=by unfold zS;rw [hz]
   rw [e1,e2];unfold qO;rw [J8,qh,Ko];simp only [cond_true,PR.ret_bind];rw [Ig hk ho hs];simp only [PR.ret_bind];cases bb with
  | nil =>
    show (qC TM ar (au (ql::r))).bind _=_;rw [Yq (r:=ql::r) (by show jb ql ar=false;kernel_rfl)]
    simp only [PR.ret_bind,cond_false];rw [Kw,hz];rfl
  | cons y l =>
    show (qC TM ar (au (ar::(qy (prL num (y::l))++ql::r)))).bind _=_;rw [Yt (qh _)];simp only [PR.ret_bind,cond_true];rw [hb _ _ hl hb2];simp only [PR.ret_bind];rw [Kw];rfl
 | @ifs _ e bb xx p he hl hb2 hl2 hx2 =>
   have e1:prS num (.mk wIf [] e bb xx p)++r=wIf::(prX num e++(qy (prL num bb)++((bif xx.isEmpty then [] else yc::qy (prL num xx))++r))):=by
    unfold prS;show (wIf::([]++(prX num e++(qy (prL num bb)++(bif xx.isEmpty then [] else yc::qy (prL num xx))))))++r=_
    simp
   have e2:zS (.mk wIf [] e bb xx p)=.mk wIf [] e (zL bb) (zL xx) 0:=by unfold zS;rfl
   rw [e1,e2];unfold qO;rw [J8,qh,Ko,show jb wIf wDo=false by kernel_rfl]
   simp only [cond_true,cond_false,PR.ret_bind];rw [hx e he _ (by unfold qy;exact kY (by kernel_rfl))]
   simp only [PR.ret_bind];rw [hb _ _ hl hb2];simp only [PR.ret_bind];cases xx with
  | nil =>
    show (qC TM yc (au r)).bind _=_;rw [Yq hr];simp only [PR.ret_bind,cond_false];rw [hz];rfl
  | cons y l =>
    show (qC TM yc (au (yc::(qy (prL num (y::l))++r)))).bind _=_;rw [Yt (qh _)];simp only [PR.ret_bind,cond_true];rw [hb _ _ hl2 hx2];rfl
 | @reps _ v bb p h0 h1 hl hb2 =>
   have e1:prS num (.mk jK [] (.mk j8 v []) bb [] p)++r=jK::(num v::(qy (prL num bb)++r)):=by
    unfold prS
    have:prX num (.mk j8 v [])=[num v]:=by unfold prX yZ;rfl
    rw [this];show (jK::([]++([num v]++qy (prL num bb))))++r=_
    simp
   have e2:zS (.mk jK [] (.mk j8 v []) bb [] p)=.mk jK [] (.mk j8 v []) (zL bb) [] 0:=by unfold zS;rw [hz]
   have e4:le v 99=true:=by unfold le;simpa using h1
   rw [e1,e2];unfold qO;rw [J8,qh,Ko,show jb jK wDo=false by kernel_rfl,show jb jK wIf=false by kernel_rfl]
   simp only [cond_true,cond_false,PR.ret_bind];unfold yw;rw [J8,hn.nv v h0 (by omega)]
   simp only [cond_true];rw [XH e4];simp only [PR.ret_bind];rw [hb _ _ hl hb2];rfl
 | @reqs _ e p he =>
   have e1:prS num (.mk jT [] e [] [] p)++r=jT::(prX num e++(ql::r)):=by
    unfold prS;show (jT::([]++(prX num e++[ql])))++r=_
    simp
   have e2:zS (.mk jT [] e [] [] p)=.mk jT [] e [] [] 0:=by unfold zS;rw [hz]
   rw [e1,e2];unfold qO;rw [J8,qh,Ko,show jb jT wDo=false by kernel_rfl,show jb jT wIf=false by kernel_rfl,show jb jT jK=false by kernel_rfl]
   simp only [cond_true,cond_false,PR.ret_bind];rw [hx e he _ (kY (by kernel_rfl))]
   simp only [PR.ret_bind];rw [Kw];rfl
 | @says _ w0 ws p hw hl =>
   have e1:prS num (.mk z6 (w0::ws) noX [] [] p)++r=z6::(w0::(ws++(ql::r))):=by
    unfold prS;show (z6::(w0::ws++([]++[ql])))++r=_
    simp
   have e2:zS (.mk z6 (w0::ws) noX [] [] p)=.mk z6 (w0::ws) noX [] [] 0:=by unfold zS;rw [hz]
   rw [e1,e2];unfold qO;rw [J8,qh,Ko,show jb z6 wDo=false by kernel_rfl,show jb z6 wIf=false by kernel_rfl,show jb z6 jK=false by kernel_rfl,show jb z6 jT=false by kernel_rfl]
   simp only [cond_true,cond_false,PR.ret_bind];unfold kT;rw [J8,hw w0 List.mem_cons_self];simp only;rw [XH rfl];simp only [PR.ret_bind];rw [I0 K ws r hl fun u hu=>hw u (List.mem_cons_of_mem _ hu)];rfl
theorem N2 {K:Nat} (hK:100<=K):∀ D d,D+1<=d->∀ l r,l.length<K->(∀ t ∈ l,WS K D t)->(sts TM AF K d).2 (au (qy (prL num l)++r))=.ret (zL l) (au r)
 | 0,0,h,_,_,_,_=>by omega
 | 0,d+1,_,l,r,hl,hw=>DY (D:=0) (fun t h=>(by cases h)) hl hw
 | D+1,0,h,_,_,_,_=>by omega
 | D+1,d+1,h,l,r,hl,hw=>DY (D:=D+1) (D6 hn hK (N2 hK D d (by omega))) hl hw
def yo (num:Int->ByteArray) (name:ByteArray) (l:List AstS):List ByteArray:=kB::name::qy (prL num l)
theorem jia {K D : Nat} (hK : 100 <= K) (hD : D + 1 <= K) {name : ByteArray} (h1 : yY name = true) (h2 : za name = true) {l : List AstS} (hl : l.length < K) (hw : ∀ t ∈ l, WS K D t) :
  yJ TM (sts TM AF K K).2 (bs [],yo num name l)=.ret (name,zL l) (au []):=by
 unfold yJ;have e0:TM.adv (bs [],yo num name l)=.ret () (au (kB::name::qy (prL num l))):=rfl;rw [e0];simp only [PR.ret_bind];rw [Kw];simp only [PR.ret_bind];rw [J8,h1];simp only [cond_true];rw [XH h2];simp only [PR.ret_bind]
 have:=N2 hn hK D K hD l [] hl hw
 rw [List.append_nil] at this;rw [this];rfl
end
end Go.Proofs.YtiefjlcakpdfeaaGreatDoor
namespace Go.Proofs.YtiefjlcakpdfeaaGreatDoor
open Go Go.Sx Go.RowKit Rb
set_option maxRecDepth 100000
def Bj (t:ByteArray):Prop:=(∃ c r,lst t=c::r∧qm c=true∧∀ x ∈ r,qm x=true)∨∃ c,lst t=[c]∧qm c=false∧KX c=true
def yX:List ByteArray->List UInt8
 | []=>[]
 | t::r=>32::(lst t++yX r)
def Qb:List ByteArray->List UInt8
 | []=>[]
 | t::r=>lst t++yX r
theorem jbD (r:List ByteArray):yX r=[]∨∃ l,yX r=32::l:=by
 cases r with
 | nil=>exact .inl rfl
 | cons t r=>exact .inr ⟨_,rfl⟩
theorem jnV (t r:List UInt8) (h:∀ x ∈ t,qm x=true) (hr:r=[]∨∃ l,r=32::l):(t++r).takeWhile qm=t∧(t++r).dropWhile qm=r:=by
 induction t with
 | nil =>
   rcases hr with rfl | ⟨l,rfl⟩
   ·exact ⟨rfl,rfl⟩
   ·exact ⟨rfl,rfl⟩
 | cons c t ih =>
   obtain ⟨i1,i2⟩:=ih fun x hx=>h x (List.mem_cons_of_mem _ hx);have hc:=h c List.mem_cons_self;rw [List.cons_append];constructor
   ·rw [List.takeWhile_cons,hc,if_pos rfl,i1]
   ·rw [List.dropWhile_cons,hc,if_pos rfl,i2]
theorem jdv {c:UInt8} (h:qm c=true∨KX c=true):spC c=false∧isC 35 c=false:=by
 have key:∀ n:Fin 256,(QB (n.val:Int)||ky (n.val:Int))=true->isSp (n.val:Int)=false∧((n.val:Int)==35)=false:=by decide +kernel
 refine key ⟨c.toNat,c.toNat_lt⟩ ?_;rw [Bool.or_eq_true];exact h
theorem Fw {t:ByteArray} {l:List UInt8} (h:lst t=l):t=⟨⟨l⟩⟩:=by
 cases t with | mk a=>cases a with | mk x =>
  have:x=l:=h
  rw [this]
def RJ (p:LS) (q:TS):Prop:=p.1=q.1∧(p.2.1=yX q.2∨p.2.1=Qb q.2)∧∀ t ∈ q.2,Bj t
theorem jod {N:Nat} {p:LS} {q:TS} (h:RJ p q):PRel (fun _ _=>True) RJ (fun _ _=>True) ((LM N).adv p) (TM.adv q):=by
 obtain ⟨_,h1,h2⟩:=h;obtain ⟨t0,ts⟩:=q;cases ts with
 | nil =>
   have:p.2.1=[]:=by rcases h1 with h | h<;>exact h
   show PRel _ _ _ (VE N (zb false p.2.1)) _;rw [this];exact .ret trivial ⟨rfl,.inl rfl,fun t ht=>by cases ht⟩
 | cons t r =>
   have ht:=h2 t List.mem_cons_self;have hr:∀ y ∈ r,Bj y:=fun y hy=>h2 y (List.mem_cons_of_mem _ hy)
   have hj:zb false p.2.1=lst t++yX r:=by
    have hs:zb false (lst t++yX r)=lst t++yX r:=by
     have:∃ c l,lst t=c::l∧(qm c=true∨KX c=true):=by
      rcases ht with ⟨c,l,e,hc,_⟩ | ⟨c,e,_,hc⟩
      ·exact ⟨c,l,e,.inl hc⟩
      ·exact ⟨c,[],e,.inr hc⟩
     obtain ⟨c,l,e,hc⟩:=this;obtain ⟨w1,w2⟩:=jdv hc;rw [e];show (bif spC c then _ else bif isC 35 c then _ else c::(l++yX r))=_;rw [w1,w2];rfl
    rcases h1 with h | h
    ·rw [h];show zb false (32::(lst t++yX r))=_;exact hs
    ·rw [h];exact hs
   show PRel _ _ _ (VE N (zb false p.2.1)) (.ret () (t,r));rw [hj];rcases ht with ⟨c,l,e,hc,hl⟩ | ⟨c,e,hc,hsg⟩
   ·obtain ⟨k1,k2⟩:=jnV l (yX r) hl (jbD r);rw [e];show PRel _ _ _ (VE N (c::(l++yX r))) _;rw [Yy,hc];refine .ret trivial ⟨?_,.inl ?_,hr⟩
    ·show (⟨⟨c::(l++yX r).takeWhile qm⟩⟩ : ByteArray)=t;rw [k1,Fw e]
    ·exact k2
   ·rw [e];show PRel _ _ _ (VE N (c::([]++yX r))) _;rw [Yy,hc,hsg];exact .ret trivial ⟨(Fw e).symm,.inl rfl,hr⟩
theorem jg0 (N:Nat):MRel (fun _ _=>True) (LM N) TM RJ where
 tx:=fun h=>h.1
 pos:=fun _=>trivial
 adv:=jod
theorem jiF {num : Int -> ByteArray} (hn : NumT num) {D N : Nat} (hD : D + 1 <= 10000) {name : ByteArray} (h1 : yY name = true) (h2 : za name = true) {l : List AstS} (hl : l.length < 10000) (hw : ∀ t ∈ l, WS 10000 D t)
  (hok:∀ t ∈ yo num name l,Bj t):∃ x q,WV N (Qb (yo num name l))=.ret (name,x) q∧All2 SR x (zL l):=by
 have h:=Ox (jg0 N) (U7 (jg0 N) jnQ 10000 10000).2 (bs [],Qb (yo num name l),0) (bs [],yo num name l) ⟨rfl,.inr rfl,hok⟩;rw [jia hn (K:=10000) (by omega) hD h1 h2 hl hw] at h
 have e:WV N (Qb (yo num name l))=yJ (LM N) (sts (LM N) AF 10000 10000).2 (bs [],Qb (yo num name l),0):=rfl;rw [e];cases hb:yJ (LM N) (sts (LM N) AF 10000 10000).2 (bs [],Qb (yo num name l),0) with
 | stuck=>rw [hb] at h;cases h
 | pan a=>rw [hb] at h;cases h
 | ret v s' =>
   rw [hb] at h;cases h with
  | ret hv hs =>
    obtain ⟨v1,v2⟩:=v;obtain ⟨rfl,ha⟩:=hv;exact ⟨v2,s',rfl,ha⟩
end Go.Proofs.YtiefjlcakpdfeaaGreatDoor