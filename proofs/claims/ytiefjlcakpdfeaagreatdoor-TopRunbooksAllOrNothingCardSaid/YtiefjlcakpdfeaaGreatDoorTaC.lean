/-
 Part TaC of the proof: EngE EngF.
-/
import Derived.Test.YtiefjlcakpdfeaaGreatDoorTaB
import Derived.Laws.BytesString
namespace Go.Sx
open Go
section
variable {P:Program} {F:Nat->Prop} {w:World} {bs:List BI}
theorem jg {α β:Type} {t:Tree α} {f:α->Tree β} {b:β} (h:(t.bind f).sel=some b):∃ a,t.sel=some a∧(f a).sel=some b:=by
 induction t with
 | leaf a=>exact ⟨a,rfl,h⟩
 | br c t e iht ihe =>
   simp only [Tree.bind,Tree.sel] at h ⊢;cases c
   ·exact ihe h
   ·exact iht h
 | need c t ih =>
   simp only [Tree.bind,Tree.sel] at h ⊢;cases c
   ·simp at h
   ·exact ih h
 | fail=>simp [Tree.bind,Tree.sel] at h
theorem Ub {α:Type} {o:Option α} {a:α} (h:(Tree.ofOpt o).sel=some a):o=some a:=by
 cases o with
 | none=>simp [Tree.ofOpt,Tree.sel] at h
 | some x=>simpa [Tree.ofOpt,Tree.sel] using h
theorem Ys {α:Type} (i:Int):∀ (l:List α) (j:Int) (a:α),(Z4 i j l).sel=some a->j<=i->i<j+l.length->nth l (i - j).toNat=some a
 | [],_,_,h,_,_=>by simp [Z4,Tree.sel] at h
 | [x], j, a, h, h1, h2 => by
   simp only [Z4,Tree.sel,sIq] at h;subst h
   have:(i - j).toNat=0:=by simp at h2;omega
   rw [this];rfl
 | x :: y :: r, j, a, h, h1, h2 => by
   simp only [Z4,Tree.sel] at h;cases hij:(i==j)
   ·simp only [hij,cond_false] at h;have hne:i ≠ j:=by simpa using hij
    have:=Ys i (y::r) (j+1) a h (by omega) (by simp at h2 ⊢;omega)
    have e:(i - j).toNat=(i - (j+1)).toNat+1:=by omega
    rw [e];exact this
   ·simp only [hij,cond_true,sIq] at h;subst h;have hne:i=j:=by simpa using hij
    have:(i - j).toNat=0:=by omega
    rw [this];rfl
theorem af (i:Int) {v:Value}:∀ (l:List A1) (j:Int),(∀ a,nth l (i - j).toNat=some a->a.Rel F w bs v)->j<=i->i<j+l.length->(UW i j l).Rel F w bs v
 | [],_,_,_,_=>trivial
 | [x], j, h, h1, h2 => by
   have e:(i - j).toNat=0:=by simp at h2;omega
   exact h x (by rw [e];rfl)
 | x :: y :: r, j, h, h1, h2 => by
   simp only [UW];refine QG (fun e => ?_) (fun e => ?_)
   ·have hne:i=j:=by simpa using e
    exact h x (by have : (i - j).toNat = 0 := by omega
                  rw [this];rfl)
   ·have hne:i ≠ j:=by simpa using e
    refine af i (y::r) (j+1) (fun a ha=>h a ?_) (by omega) (by simp at h2 ⊢;omega)
    have e2:(i - j).toNat=(i - (j+1)).toNat+1:=by omega
    rw [e2];exact ha
theorem La {e:TypeId} {cs:List CV} {step:Nat}:∀ {n off:Nat} {l:List A1},partsOf P e cs n off step=some l->l.length=n∧∀ k a,nth l k=some a->partOf P e cs (off+k*step)=some a
 | 0,off,l,h=>by simp [partsOf] at h;subst h;exact ⟨rfl,fun k a h=>by simp [nth] at h⟩
 | n + 1, off, l, h => by
   simp only [partsOf] at h;split at h
   ·rename_i a l' ha hl;simp at h;subst h;obtain ⟨h1,h2⟩:=La hl;refine ⟨by simp [h1],fun k b hb => ?_⟩
    cases k with
    | zero=>simp [nth] at hb;subst hb;simpa using ha
    | succ k =>
      have:=h2 k b (by simpa [nth] using hb)
      rw [← this];congr 1;rw [Nat.succ_mul];omega
   ·simp at h
theorem yF {i:Int} {n:Nat}:jc i n=true↔0<=i∧i<n:=by
 simp only [jc,aTq,qq,k6,ja];exact Iff.rfl
theorem jbn {t : TypeId} {x y r : AV} (h : (NS P t x y).sel = some r) {u v : Value} (hx : x.Rel F w bs u) (hy : y.Rel F w bs v) :
  ∃ z,r.Rel F w bs z∧∀ w',(Instr.index t u v).run P w'=.ok z w':=by
 unfold NS at h;split at h
 ·rename_i cs k i;split at h
  ·rename_i len e hu;split at h
   ·rename_i j hj;split at h
    ·simp [Tree.sel] at h
    ·rename_i p ps hps;obtain ⟨hl,hp⟩:=La hps;obtain ⟨vs,rfl,hcs⟩:=hx;cases hy;simp only [Tree.sel] at h;cases hr:jc i len<;>simp [hr] at h;obtain ⟨hr1,hr2⟩:=yF.1 hr
     have run:∀ z,(∀ w',(part e vs.toArray (i.toNat*j.size)).run P w'=.ok z w')->∀ w',(Instr.index t (.agg vs.toArray) (.int k i)).run P w'=.ok z w':=by
      intro z hz w';unfold Instr.index;simp only [asIntOf,Sem.run_bind,Sem.run_pure,Result.andThen_ok,run_underlying hu];rw [if_pos ⟨hr1,hr2⟩];simp only [Sem.run_bind,qU hj,Result.andThen_ok,hz]
     split at h
     ·obtain ⟨a,ha,hb⟩:=jg h;simp only [Tree.sel,sIq] at hb;subst hb
      have:=Ys i _ 0 a ha hr1 (by rw [hl];omega)
      have hpart:=hp _ _ this;obtain ⟨z,hz,hrun⟩:=Z0 hpart hcs;refine ⟨z,hz,run z fun w' => ?_⟩;have e2:0+(i - 0).toNat*j.size=i.toNat*j.size:=by simp
      rw [← e2];exact hrun w'
     ·simp only [Tree.sel,sIq] at h;subst h
      obtain ⟨a,ha⟩ : ∃ a,nth (p::ps) (i - 0).toNat=some a:=by
       rw [jd];refine ⟨_,gEq (by rw [hl];omega)⟩
      have hpart:=hp _ _ ha;obtain ⟨z,hz,hrun⟩:=Z0 hpart hcs;refine ⟨z,af i _ 0 (fun b hb => ?_) hr1 (by rw [hl];omega),run z fun w' => ?_⟩
      ·rw [ha] at hb;simp at hb;subst hb;exact hz
      ·have e2:0+(i - 0).toNat*j.size=i.toNat*j.size:=by simp
       rw [← e2];exact hrun w'
    ·simp [Tree.sel] at h
   ·simp [Tree.sel] at h
  ·simp [Tree.sel] at h
 ·rename_i s k i;split at h
  ·rename_i hu;cases hx;cases hy;simp only [Tree.sel] at h;cases hr:jc i s.size<;>simp [hr] at h;obtain ⟨hr1,hr2⟩:=yF.1 hr;subst h;obtain ⟨b,hb,he⟩:=jfA hr1 hr2;refine ⟨_,CV.Rel.int _ _,fun w' => ?_⟩;unfold Instr.index;simp only [asIntOf,Sem.run_bind,Sem.run_pure,Result.andThen_ok,run_underlying hu,hb,he]
  ·simp [Tree.sel] at h
 ·simp [Tree.sel] at h
theorem addr_add (p o n:Nat):(⟨p,o,none⟩ : Addr).add n=⟨p,o+n,none⟩:=by
 unfold Addr.add;split
 ·rename_i h;subst h;rfl
 ·rfl
theorem run_indexAt_slice {t e : TypeId} {j : TypeInfo} {k : IntKind} {i : Int} {p o n cap : Nat} (hu : P.underlying t = some (.slice e)) (hj : P.info? e = some j) (h1 : 0 <= i) (h2 : i < n) (w' : World) :
  (Instr.indexAt t (.slice (some ⟨p,o,none⟩) n cap) (.int k i)).run P w'=.ok (.pointer (some ⟨p,o+i.toNat*j.size,none⟩)) w':=by
 unfold Instr.indexAt;simp [asIntOf,run_underlying hu,h1,h2,qU hj,addr_add]
theorem run_indexAt_array {t e : TypeId} {j : TypeInfo} {k : IntKind} {i : Int} {p o n : Nat} (hu : P.underlying t = some (.array n e)) (hj : P.info? e = some j) (h1 : 0 <= i) (h2 : i < n) (w' : World) :
  (Instr.indexAt t (.pointer (some ⟨p,o,none⟩)) (.int k i)).run P w'=.ok (.pointer (some ⟨p,o+i.toNat*j.size,none⟩)) w':=by
 unfold Instr.indexAt;simp [asIntOf,run_underlying hu,h1,h2,qU hj,addr_add,Instr.sureAddr]
def KH (a:Act) (K:List (Nat × Bool)):Prop:=∀ p ∈ K,a.tmps[p.1]? = some (.bool p.2)
theorem OP {a:Act} {t:Nat} {c:Bool} (h:a.eval (.tmp t)=.bool c):a.tmps[t]? = some (.bool c):=by
 simp only [Act.eval,Array.getD_eq_getD_getElem?] at h;cases hh:a.tmps[t]? with
 | none=>simp [hh,undef] at h
 | some v=>simp [hh] at h;rw [h]
theorem YU:∀ {l:List A1} {cs:List CV} {vs:List Value},evPure0.cellsOnly l=some cs->All2 (A1.Rel F w bs) l vs->All2 (CV.Rel F w bs) cs vs
 | [],cs,vs,h,hr=>by cases hr;simp [evPure0.cellsOnly] at h;subst h;exact .nil
 | .c x :: r, cs, vs, h, hr => by
   simp only [evPure0.cellsOnly] at h;split at h
   ·rename_i l hl;simp at h;subst h;cases hr with
    | cons h1 h2=>exact .cons h1 (YU hl h2)
   ·simp at h
 | .agg _::_,_,_,h,_=>by simp [evPure0.cellsOnly] at h
theorem Qh {α β:Type} (f:α->β) (l:Array α):l.map f=(l.toList.map f).toArray:=by
 apply Array.ext'
 simp
theorem Rx {l:List CV} {vs:List Value} (h:All2 (CV.Rel F w bs) l vs):∀ i x v,nth l i=some x->nth vs i=some v->CV.Rel F w bs x v:=by
 intro i x v hx hv;obtain ⟨v',hv',hr⟩:=h.nth hx;rw [jd] at hv;rw [hv'] at hv;simp at hv;subst hv;exact hr
theorem jab {ρ : List (Nat × Bool) -> Operand -> Option AV} {a : Act} (hρ : ∀ K x av, KH a K -> ρ K x = some av -> av.Rel F w bs (a.eval x)) {o : Oper} {r : AV}
  (h:(evPure0 P ρ o.op).sel=some r):∃ v,r.Rel F w bs v∧∀ w',(execOp a.eval o).run P w'=.ok (.value v) w':=by
 have h0:∀ x av,ρ [] x=some av->av.Rel F w bs (a.eval x):=fun x av=>hρ [] x av (fun _ h=>by cases h)
 have lift:∀ {s:Sem Value} {r:AV},(∃ v,r.Rel F w bs v∧∀ w',s.run P w'=.ok v w')->∃ v,r.Rel F w bs v∧∀ w',((do pure (Next.value (← s)):Sem Next)).run P w'=.ok (.value v) w':=by
  rintro s r ⟨v,h1,h2⟩
  exact ⟨v,h1,fun w'=>by simp [h2]⟩
 unfold evPure0 at h;unfold execOp;split at h
 ·rename_i x ho;rw [ho];exact ⟨_,h0 _ _ (Ub h),fun w'=>by simp⟩
 ·rename_i x ho;rw [ho];exact ⟨_,h0 _ _ (Ub h),fun w'=>by simp⟩
 ·rename_i t x y ho;rw [ho];split at h
  ·rename_i c va vb hc ha hb;simp only [Tree.sel,sIq] at h;subst h;have hcr:=h0 _ _ hc
   have hce:a.eval (.tmp t)=.bool c:=by
    generalize a.eval (.tmp t)=z at hcr ⊢;cases hcr;rfl
   have ht:=OP hce;simp only [hce,asBool];refine ⟨if c then a.eval x else a.eval y,QG (fun e => ?_) (fun e => ?_),fun w'=>by simp⟩
   ·subst e;exact hρ [(t,true)] x va (fun p hp=>by simp at hp;subst hp;exact ht) ha
   ·subst e;exact hρ [(t,false)] y vb (fun p hp=>by simp at hp;subst hp;exact ht) hb
  ·simp [Tree.sel] at h
 ·rename_i t parts ho;rw [ho];split at h
  ·rename_i l hl;exact lift (jal (Ub h) (by simpa using Yp h0 hl))
  ·simp [Tree.sel] at h
 ·rename_i op t x y ty ho;rw [ho];split at h
  ·rename_i u v hu hv;exact lift (jg7 h (h0 _ _ hu) (h0 _ _ hv) x y)
  ·simp [Tree.sel] at h
 ·rename_i op t x ho;rw [ho];split at h
  ·rename_i u hu;exact lift (jje h (h0 _ _ hu))
  ·simp [Tree.sel] at h
 ·rename_i s d x ho;rw [ho];split at h
  ·rename_i ds k k' n hs hd hx;simp only [Tree.sel,sIq] at h;subst h
   have hz:a.eval x=.int k' n:=by
    have hxr:=h0 _ _ hx;generalize a.eval x=z at hxr ⊢;cases hxr;rfl
   refine lift ⟨_,CV.Rel.int k _,fun w' => ?_⟩;simp [convert,run_underlying hs,run_underlying hd,Conv.intToInt,hz]
  ·rename_i ks k' n hs hd hx;simp only [Tree.sel,sIq] at h;subst h
   have hz:a.eval x=.int k' n:=by
    have hxr:=h0 _ _ hx;generalize a.eval x=z at hxr ⊢;cases hxr;rfl
   refine lift ⟨_,CV.Rel.str _,fun w' => ?_⟩;simp [convert,run_underlying hs,run_underlying hd,Conv.intToString,hz,jjI]
  ·simp [Tree.sel] at h
 ·rename_i x i ho;rw [ho];split at h
  ·rename_i l hl;split at h
   ·rename_i y hy;simp only [Tree.sel,sIq] at h;subst h;obtain ⟨vs,he,hr⟩:=h0 _ _ hl;obtain ⟨v,hv,hrel⟩:=hr.nth hy;exact lift ⟨v,hrel,fun w'=>by simp [Instr.extract,he,hv]⟩
   ·simp [Tree.sel] at h
  ·simp [Tree.sel] at h
 ·rename_i t x i ho;rw [ho];split at h
  ·rename_i fs cs hu hx;split at h
   ·rename_i f hf;split at h
    ·rename_i y hy;simp only [Tree.sel,sIq] at h;subst h;obtain ⟨vs,he,hr⟩:=h0 _ _ hx;obtain ⟨v,hv,hrun⟩:=Z0 hy hr;rw [jd] at hf;simp only [Array.getElem?_toList] at hf;exact lift ⟨v,hv,fun w'=>by simp [Instr.field,run_underlying hu,hf,he,asAgg,hrun]⟩
    ·simp [Tree.sel] at h
   ·simp [Tree.sel] at h
  ·simp [Tree.sel] at h
 ·rename_i t x i ho;rw [ho];split at h
  ·rename_i fs b off hu hx;split at h
   ·rename_i f hf;split at h
    ·rename_i j hj;split at h
     ·simp [Tree.sel] at h
     ·rename_i hz;simp only [Tree.sel,sIq] at h;subst h
      obtain ⟨p,hb,he⟩ : ∃ p,nth bs b=some p∧a.eval x=.pointer (some ⟨p.p,off,none⟩):=by
       have hxr:=h0 _ _ hx;generalize a.eval x=z at hxr ⊢;cases hxr with
       | ptr hb=>exact ⟨_,hb,rfl⟩
      rw [jd] at hf;simp only [Array.getElem?_toList] at hf;have hz':j.size ≠ 0:=by simpa using hz
      exact lift ⟨_,CV.Rel.ptr hb,fun w'=>by simp [Instr.fieldAt,run_underlying hu,hf,Instr.sureAddr,fieldPlace,qU hj,hz',addr_add,he]⟩
    ·simp [Tree.sel] at h
   ·simp [Tree.sel] at h
  ·rename_i fs es off ρ0 hu hx;split at h
   ·rename_i f hf;split at h
    ·rename_i j hj;split at h
     ·simp [Tree.sel] at h
     ·rename_i hz;simp only [Tree.sel,sIq] at h;subst h;have hxr:=h0 _ _ hx;generalize he:a.eval x=z at hxr;cases hxr with
      | rop val hb hF hc hr =>
        rename_i p o';rw [jd] at hf;simp only [Array.getElem?_toList] at hf;have hz':j.size ≠ 0:=by simpa using hz
        refine lift ⟨.pointer (some ⟨p,o'+(off+f.offset),none⟩),CV.Rel.rop val hb hF hc hr,fun w'=>by simp [Instr.fieldAt,run_underlying hu,hf,Instr.sureAddr,fieldPlace,qU hj,hz',addr_add,he,Nat.add_assoc]⟩
    ·simp [Tree.sel] at h
   ·simp [Tree.sel] at h
  ·rename_i fs b sz i' off hu hx;split at h
   ·rename_i f hf;split at h
    ·rename_i j hj;split at h
     ·simp [Tree.sel] at h
     ·rename_i hz;simp only [Tree.sel,sIq] at h;subst h;have hxr:=h0 _ _ hx;generalize he:a.eval x=z at hxr;cases hxr with
      | rowp hb hi =>
        rename_i xx;rw [jd] at hf;simp only [Array.getElem?_toList] at hf;have hz':j.size ≠ 0:=by simpa using hz
        refine lift ⟨.pointer (some ⟨xx.p,i'*sz+(off+f.offset),none⟩),CV.Rel.rowp hb hi,fun w'=>by simp [Instr.fieldAt,run_underlying hu,hf,Instr.sureAddr,fieldPlace,qU hj,hz',addr_add,he,Nat.add_assoc]⟩
    ·simp [Tree.sel] at h
   ·simp [Tree.sel] at h
  ·simp [Tree.sel] at h
 ·rename_i t x y ho;rw [ho];split at h
  ·rename_i e es n ρ0 k i hu hx hy;split at h
   ·rename_i j hj;split at h
    ·rename_i hsz;simp only [Tree.sel] at h;cases hr:jc i n<;>simp [hr] at h;subst h;obtain ⟨hr1,hr2⟩:=yF.1 hr;have hsz:j.size=es.length:=by simpa using hsz
     have hxr:=h0 _ _ hx;have hyr:=h0 _ _ hy;generalize he:a.eval x=z at hxr;generalize he2:a.eval y=z' at hyr;cases hyr;cases hxr with
     | slnil=>omega
     | sl val hn h0' hc hrr =>
       rename_i cap ad;obtain ⟨hsp,hb,hF⟩:=h0' (by omega)
       obtain ⟨p,off,sp⟩:=ad;simp only at hsp hb hF hc;subst hsp;refine lift ⟨.pointer (some ⟨p,off+i.toNat*j.size+0,none⟩),CV.Rel.rop (fun f=>val i.toNat f) hb hF (fun f hf => ?_) (fun f s hf=>hrr _ _ s (by omega) hf),fun w' => ?_⟩
       ·rw [Nat.add_assoc,hsz];exact hc i.toNat f (by omega) hf
       ·show (Instr.indexAt t (a.eval x) (a.eval y)).run P w'=_;rw [he,he2];exact run_indexAt_slice hu hj hr1 hr2 w'
    ·simp [Tree.sel] at h
   ·simp [Tree.sel] at h
  ·rename_i len e b off k i hu hx hy;split at h
   ·rename_i j hj;simp only [Tree.sel] at h;cases hr:jc i len<;>simp [hr] at h;obtain ⟨hr1,hr2⟩:=yF.1 hr;obtain ⟨q,hq,hb⟩:=jg h;simp only [Tree.sel,sIq] at hb;subst hb;have hq:=Ys i _ 0 q hq hr1 (by simp;omega)
    rw [jd,List.getElem?_range (by omega)] at hq
    simp at hq;have hxr:=h0 _ _ hx;have hyr:=h0 _ _ hy;generalize he:a.eval x=z at hxr;generalize he2:a.eval y=z' at hyr;cases hyr;cases hxr with
    | ptr hb =>
      refine lift ⟨_,CV.Rel.ptr hb,fun w' => ?_⟩;show (Instr.indexAt t (a.eval x) (a.eval y)).run P w'=_;rw [he,he2,← hq];exact run_indexAt_array hu hj hr1 hr2 w'
   ·simp [Tree.sel] at h
  ·rename_i e b m c k i hu hx hy;split at h
   ·rename_i j hj;split at h
    ·rename_i hsz;simp only [Tree.sel] at h;cases hr:jc i m<;>simp [hr] at h;obtain ⟨hr1,hr2⟩:=yF.1 hr;obtain ⟨q,hq,hb⟩:=jg h;simp only [Tree.sel,sIq] at hb;subst hb;have hq:=Ys i _ 0 q hq hr1 (by simp;omega)
     rw [jd,List.getElem?_range (by omega)] at hq
     simp at hq;have hsz:j.size=1:=by simpa using hsz
     have hxr:=h0 _ _ hx;have hyr:=h0 _ _ hy;generalize he:a.eval x=z at hxr;generalize he2:a.eval y=z' at hyr;cases hyr;cases hxr with
     | oc hb _ =>
       refine lift ⟨_,CV.Rel.ptr hb,fun w' => ?_⟩;show (Instr.indexAt t (a.eval x) (a.eval y)).run P w'=_;rw [he,he2,← hq,run_indexAt_slice hu hj hr1 hr2 w',hsz,Nat.mul_one,Nat.zero_add]
    ·simp [Tree.sel] at h
   ·simp [Tree.sel] at h
  ·simp [Tree.sel] at h
 ·rename_i t x y ho;rw [ho];split at h
  ·rename_i u v hu hv;exact lift (jbn h (h0 _ _ hu) (h0 _ _ hv))
  ·simp [Tree.sel] at h
 ·rename_i f first cap ho
  rw [ho];split at h
  ·rename_i la lb hla hlb;split at h
   ·rename_i x y hx hy;simp only [Tree.sel,sIq] at h;subst h;have h1:=YU hx (qR h0 hla);have h2:=YU hy (qR h0 hlb);refine lift ⟨.func f (first.toList.map a.eval).toArray (cap.toList.map a.eval).toArray,CV.Rel.fn h1.length h2.length (Rx h1) (Rx h2),fun w' => ?_⟩
    simp only [Instr.makeFunc,Sem.run_pure,Qh]
   ·simp [Tree.sel] at h
  ·simp [Tree.sel] at h
 ·rename_i x ho;rw [ho];split at h
  ·rename_i b off hx;simp only [Tree.sel,sIq] at h;subst h;have hxr:=h0 _ _ hx;generalize he:a.eval x=z at hxr;refine ⟨z,hxr,fun w' => ?_⟩;simp only [he];cases hxr;rfl
  ·rename_i es off ρ0 hx;simp only [Tree.sel,sIq] at h;subst h;have hxr:=h0 _ _ hx;generalize he:a.eval x=z at hxr;refine ⟨z,hxr,fun w' => ?_⟩;simp only [he];cases hxr;rfl
  ·rename_i b sz i off hx;simp only [Tree.sel,sIq] at h;subst h;have hxr:=h0 _ _ hx;generalize he:a.eval x=z at hxr;refine ⟨z,hxr,fun w' => ?_⟩;simp only [he];cases hxr;rfl
  ·rename_i f u v hx;simp only [Tree.sel,sIq] at h;subst h;have hxr:=h0 _ _ hx;generalize he:a.eval x=z at hxr;refine ⟨z,hxr,fun w' => ?_⟩;simp only [he];cases hxr;rfl
  ·simp [Tree.sel] at h
 ·rename_i args argTypes ho;rw [ho];split at h
  ·rename_i x t hx ht;have hargs:=qR h0 hx;have ht':argTypes = #[t]:=by rw [← Array.toArray_toList (xs:=argTypes),ht]
   obtain ⟨v,hv⟩ : ∃ v,args.map a.eval = #[v]:=by
    have hl:=hargs.length;simp at hl
    have:(args.map a.eval).size=1:=by simp [← hl]
    exact Array.size_eq_one_iff.1 this
   have hx1:A1.Rel F w bs x v:=by
    have:args.toList.map a.eval=[v]:=by rw [← Array.toList_map,hv]
    rw [this] at hargs;cases hargs;assumption
   subst ht';obtain ⟨z,hz,hrun⟩:=jgm (x:=.one x) h hx1 o.type;refine ⟨z,hz,fun w' => ?_⟩;simp [resolve,invoke,builtin,hv,hrun]
  ·simp [Tree.sel] at h
 ·rename_i args argTypes ho;rw [ho];split at h
  ·rename_i l hl;have hargs:=qR h0 hl;obtain ⟨z,hz,hrun⟩:=M5 (P:=P) h hargs argTypes o.type;refine ⟨z,hz,fun w' => ?_⟩
   have:=hrun w'
   simp only [if_true,← Qh] at this;simp [resolve,invoke,builtin,this]
  ·simp [Tree.sel] at h
 ·rename_i args argTypes ho;rw [ho];split at h
  ·rename_i l hl;have hargs:=qR h0 hl;obtain ⟨z,hz,hrun⟩:=M5 (P:=P) h hargs argTypes o.type;refine ⟨z,hz,fun w' => ?_⟩
   have:=hrun w'
   simp only [Bool.false_eq_true,if_false,← Qh] at this;simp [resolve,invoke,builtin,this]
  ·simp [Tree.sel] at h
 ·simp [Tree.sel] at h
theorem jhh {s d:TypeId} {x r:AV} (h:Rt P s d (some x)=some r) {u:Value} (hx:x.Rel F w bs u):∃ z,r.Rel F w bs z∧∀ w',RowKit.Below w.heap.size w w'->(convert s d u).run P w'=.ok z w':=by
 unfold Rt at h;split at h
 ·rename_i n ρ heq;simp at heq;subst heq;split at h
  ·rename_i e hs hd;split at h
   ·rename_i he;simp at h;subst h;cases hx with
    | slnil=>exact ⟨_,CV.Rel.str _,fun w' _=>by rw [run_convert_bytes_string w' s d e none 0 0 hs he hd];simp [Conv.bytesToString,jdk]⟩
    | sl val hn h0 hc hr =>
      rename_i cap a;refine ⟨_,CV.Rel.str _,fun w' hw' => ?_⟩;rw [run_convert_bytes_string w' s d e (some a) n cap hs he hd];refine run_bytesToString w' a n cap ((List.range n).map fun i=>((ρ.at i).at 0).N []) ?_
      have:=run_loadCells (P:=P) w' a n (fun i=>Value.int .u8 (((ρ.at i).at 0).N [])) fun j hj=>by
       obtain ⟨h1,h2,_⟩:=h0 (by omega)
       have hcell:=hc j 0 hj (by simp)
       have hrel:=hr j 0 (.int .u8) hj rfl;simp only [cellOf] at hrel;generalize val j 0=z at hcell hrel;cases hrel;obtain ⟨p,o,sp⟩:=a;simp only at h1 h2 hcell;subst h1;rw [addr_add];simp only [List.length_cons,List.length_nil,Nat.zero_add,Nat.mul_one,Nat.add_zero] at hcell;rw [World.cell?_of_block (hw'.block p h2)];exact hcell
      rw [List.map_map];exact this
   ·simp at h
  ·simp at h
 ·rename_i heq;simp at heq;subst heq;split at h
  ·rename_i e hs hd;split at h
   ·rename_i he;simp at h;subst h;cases hx;exact ⟨_,CV.Rel.str _,fun w' _=>by rw [run_convert_bytes_string w' s d e none 0 0 hs he hd];simp [Conv.bytesToString]⟩
   ·simp at h
  ·simp at h
 ·simp at h
theorem N8 {ρ : List (Nat × Bool) -> Operand -> Option AV} {a : Act} (hρ : ∀ K x av, KH a K -> ρ K x = some av -> av.Rel F w bs (a.eval x)) {o : Oper} {r : AV}
  {cc:Bool} (h:(JE P cc ρ o.op).sel=some r):∃ v,r.Rel F w bs v∧∀ w',RowKit.Below w.heap.size w w'->(execOp a.eval o).run P w'=.ok (.value v) w':=by
 have old:(evPure0 P ρ o.op).sel=some r->∃ v,r.Rel F w bs v∧∀ w',RowKit.Below w.heap.size w w'->(execOp a.eval o).run P w'=.ok (.value v) w':=fun h=>by
  obtain ⟨v,hv,hrun⟩:=jab hρ h;exact ⟨v,hv,fun w' _=>hrun w'⟩
 unfold JE at h;split at h
 ·rename_i t x y ho;split at h
  ·rename_i u hu
   have ha:HS P t (ρ [] x) (ρ [] y)=some u:=by
    cases cc
    ·simp at hu
    ·simpa using hu
   unfold HS at ha;split at ha
   ·rename_i b off k i hx hy;split at ha
    ·rename_i len e hu';split at ha
     ·rename_i j hj;simp only [sIq] at ha;subst ha;cases hr:jc i len<;>simp [hr,Tree.sel] at h;subst h;obtain ⟨hr1,hr2⟩:=yF.1 hr;have hxr:=hρ [] x _ (fun _ h=>by cases h) hx
      have hyr:=hρ [] y _ (fun _ h=>by cases h) hy
      generalize he:a.eval x=z at hxr;generalize he2:a.eval y=z' at hyr;cases hyr;cases hxr with
      | ptr hb =>
        rename_i q;refine ⟨_,CV.Rel.ptr hb,fun w' _ => ?_⟩
        have hrun:(Instr.indexAt t (a.eval x) (a.eval y)).run P w'=.ok (.pointer (some ⟨q.p,off+i.toNat*j.size,none⟩)) w':=by
         rw [he,he2];exact run_indexAt_array hu' hj hr1 hr2 w'
        unfold execOp;rw [ho];simp [hrun]
     ·cases ha
    ·cases ha
   ·cases ha
  ·rw [← ho] at h;exact old h
 ·rename_i s d x ho;split at h
  ·rename_i v hv;simp only [Tree.sel,sIq] at h;subst h;cases hx:ρ [] x with
   | none=>rw [hx] at hv;simp [Rt] at hv
   | some y =>
     rw [hx] at hv;obtain ⟨z,hz,hrun⟩:=jhh hv (hρ [] x y (fun _ h=>by cases h) hx)
     refine ⟨z,hz,fun w' hw' => ?_⟩;unfold execOp;rw [ho];simp [hrun w' hw']
  ·rw [← ho] at h;exact old h
 ·exact old h
end
end Go.Sx
namespace Go.Sx
open Go Go.RowKit
section
variable {P:Program}
def jC (x:BI):List CV->Prop
 | [.row fz _ _ _]=>fz=false∧0<x.cap
 | .lp _ _ .tab::_=>False
 | _=>True
structure RowOk (F:Nat->Prop) (w:World) (x:BI) (T:TypeId) (fz:Bool) (es:List Sh) (n:Nat) (ρ:Val):Prop where
 len:x.n=n
 le:n<=x.cap
 mx:x.cap<=maxLen
 blk:0<x.cap->∃ arr:Array Value,w.heap[x.p]? = some (.cells arr T (0,0))∧arr.size=x.cap*es.length∧∃ val:Nat->Nat->Value,(∀ i f,i<n->f<es.length->arr[i*es.length+f]? = some (val i f)) ∧
  (∀ i f s,i<n->nth es f=some s->CV.Rel F w [] (cellOf s ((ρ.at i).at f)) (val i f))
 frz:0<x.cap->fz=true->¬ F x.p∧x.p<w.heap.size
theorem RowOk.room {F w x T fz es n ρ} (h:RowOk F w x T fz es n ρ) (h0:0<n):0<x.cap:=Nat.lt_of_lt_of_le h0 h.le
theorem RowOk.cap {F w x T fz es n ρ} (h:RowOk F w x T fz es n ρ) (_:0<n):n<=x.cap∧x.cap<=maxLen:=⟨h.le,h.mx⟩
theorem RowOk.block {F w x T fz es n ρ} (h : RowOk F w x T fz es n ρ) (h0 : 0 < n) : ∃ arr : Array Value, w.heap[x.p]? = some (.cells arr T (0, 0)) ∧ arr.size = x.cap * es.length ∧ ∃ val : Nat -> Nat -> Value, (∀ i f, i < n -> f < es.length -> arr[i * es.length + f]? = some (val i f)) ∧
  (∀ i f s,i<n->nth es f=some s->CV.Rel F w [] (cellOf s ((ρ.at i).at f)) (val i f)):=h.blk (h.room h0)
theorem RowOk.frozen {F w x T fz es n ρ} (h:RowOk F w x T fz es n ρ) (h0:0<n) (hz:fz=true):¬ F x.p∧x.p<w.heap.size:=h.frz (h.room h0) hz
def jmr:Option Nat->Code
 | none=>.ret
 | some e=>.exit e
def LN (R:Loop):LpS->Prop
 | .ready=>R.state=.ready∧R.pending=none
 | .busy=>R.state=.busy
 | .done e=>R.state=.done∧R.pending=some (jmr e)
 | .tab=>False
def tabZ:List Int:=[1,10,100,1000,10000,100000,1000000,10000000,100000000,1000000000,10000000000,100000000000,1000000000000,10000000000000,100000000000000,1000000000000000,10000000000000000,100000000000000000,1000000000000000000,10000000000000000000]
def Tab (F:Nat->Prop) (w:World):Prop:=¬ F 1∧1<w.heap.size∧∃ T m,w.heap[1]? = some (.cells (tabZ.map fun z=>Value.int .u64 z).toArray T m)
theorem Tab.grow {F F' bs bs' w w'} (h:Tab F w) (g:Grow F F' bs bs' w w'):Tab F' w':=by
 obtain ⟨h1,h2,T,m,h3⟩:=h;exact ⟨fun h=>h1 (g.F1 1 h2 h),Nat.lt_of_lt_of_le h2 g.size,T,m,by rw [g.same 1 h2 h1];exact h3⟩
def LpOk (P:Program) (F:Nat->Prop) (w:World) (bs:List BI) (x:BI) (f i:Nat) (st:LpS) (cs:List CV):Prop :=
 match st with
 | .tab=>Tab F w
 | st => ∃ R : Loop, w.heap[x.p]? = some (.loop R) ∧ LN R st ∧ (∃ rc, Uq P f i = some rc ∧ R.params = rc.ps ∧ R.assign = rc.a ∧ R.body = rc.b) ∧
   R.tmps.size=cs.length∧∀ j c v,nth cs j=some c->R.tmps[j]? = some v->yj c=false->CV.Rel F w bs c v
theorem LpOk.cells {F w bs bs' x f i st cs cs'} (h : LpOk P F w bs x f i st cs) (hl : cs'.length = cs.length)
  (hr:∀ j c,nth cs' j=some c->yj c=false->∃ d,nth cs j=some d∧yj d=false∧∀ v,CV.Rel F w bs d v->CV.Rel F w bs' c v):LpOk P F w bs' x f i st cs':=by
 cases st with
 | tab=>exact h
 | ready =>
   obtain ⟨R,h1,h2,h4,h5,h6⟩:=h;exact ⟨R,h1,h2,h4,by rw [hl];exact h5,fun j c v hj hv ha=>by obtain ⟨d,e1,e2,e3⟩:=hr j c hj ha;exact e3 v (h6 j d v e1 hv e2)⟩
 | busy =>
   obtain ⟨R,h1,h2,h4,h5,h6⟩:=h;exact ⟨R,h1,h2,h4,by rw [hl];exact h5,fun j c v hj hv ha=>by obtain ⟨d,e1,e2,e3⟩:=hr j c hj ha;exact e3 v (h6 j d v e1 hv e2)⟩
 | done e =>
   obtain ⟨R,h1,h2,h4,h5,h6⟩:=h;exact ⟨R,h1,h2,h4,by rw [hl];exact h5,fun j c v hj hv ha=>by obtain ⟨d,e1,e2,e3⟩:=hr j c hj ha;exact e3 v (h6 j d v e1 hv e2)⟩
theorem LpOk.grow {F F' w w' bs bs' x f i st cs} (h:LpOk P F w bs x f i st cs) (g:Grow F F' bs bs' w w') (hb:st ≠ .tab->w'.heap[x.p]? = w.heap[x.p]?):LpOk P F' w' bs' x f i st cs:=by
 cases st with
 | tab=>exact Tab.grow h g
 | ready =>
   obtain ⟨R,h1,h2,h4,h5,h6⟩:=h;exact ⟨R,by rw [hb (by simp)];exact h1,h2,h4,h5,fun j c v hc hv ha=>(h6 j c v hc hv ha).grow g⟩
 | busy =>
   obtain ⟨R,h1,h2,h4,h5,h6⟩:=h;exact ⟨R,by rw [hb (by simp)];exact h1,h2,h4,h5,fun j c v hc hv ha=>(h6 j c v hc hv ha).grow g⟩
 | done e =>
   obtain ⟨R,h1,h2,h4,h5,h6⟩:=h;exact ⟨R,by rw [hb (by simp)];exact h1,h2,h4,h5,fun j c v hc hv ha=>(h6 j c v hc hv ha).grow g⟩
structure MemRel (P:Program) (F:Nat->Prop) (w:World) (bs:List BI) (mem:Mem):Prop where
 len:bs.length=mem.length
 loc:∀ k x T cs,nth bs k=some x->nth mem k=some (some (T,cs))->jC x cs->F x.p∧x.p<w.heap.size
 inj:∀ k k' x x' T cs T' cs',nth bs k=some x->nth bs k'=some x'->nth mem k=some (some (T,cs))->nth mem k'=some (some (T',cs'))->jC x cs->jC x' cs'->x.p=x'.p->k=k'
 cont:∀ k T cs x,nth mem k=some (some (T,cs))->je cs=false->nth bs k=some x->∃ vs:List Value,w.heap[x.p]? = some (.cells vs.toArray T (0,0))∧All2 (CV.Rel F w bs) cs vs
 row:∀ k T fz es n ρ x,nth mem k=some (some (T,[.row fz es n ρ]))->nth bs k=some x->RowOk F w x T fz es n ρ
 lp:∀ k T f i st cs x,nth mem k=some (some (T,.lp f i st::cs))->nth bs k=some x->LpOk P F w bs x f i st cs
theorem yM {x:BI} {f i:Nat} {st:LpS} {cs:List CV} (h:st ≠ .tab:=by simp):jC x (.lp f i st::cs):=by
 unfold jC;split
 ·simp_all
 ·simp_all
 ·trivial
theorem j7 {x:BI} {cs:List CV} (h:je cs=false):jC x cs:=by
 unfold jC;split
 ·simp [je] at h
 ·simp [je] at h
 ·trivial
structure Ext (K:Nat) (F:Nat->Prop) (w:World) (bs:List BI) (F':Nat->Prop) (w':World) (bs':List BI):Prop where
 size:w.heap.size<=w'.heap.size
 F1:∀ p,p<w.heap.size->F' p->F p
 F2:∀ p,F p->p<w.heap.size->(∀ x ∈ bs,x.p ≠ p)->F' p
 same:∀ p,p<w.heap.size->(¬ F p∨∀ x ∈ bs,x.p ≠ p)->w'.heap[p]? = w.heap[p]?
 os:w'.os=w.os
 tape:w'.tape=w.tape
 output:w'.output=w.output
 pre:∀ k x,k<K->nth bs k=some x->nth bs' k=some x
 mem:∀ x ∈ bs',(∃ y ∈ bs,y.p=x.p)∨w.heap.size<=x.p
theorem jY {α:Type} {l r:List α} {k:Nat} {p:α} (h:nth l k=some p):nth (l++r) k=some p:=by
 rw [jd] at h ⊢;rw [List.getElem?_append_left (by rcases lOq k l.length with h' | h';exact h';simp [List.getElem?_eq_none h'] at h)]
 exact h
theorem jH {α:Type} {l:List α} {k:Nat} {p:α} (h:nth l k=some p):p ∈ l:=by
 rw [jd] at h;exact List.mem_of_getElem? h
theorem YN {α:Type} {l:List α} {p:α} (h:p ∈ l):∃ k,nth l k=some p:=by
 obtain ⟨k,hk⟩:=List.getElem?_of_mem h;exact ⟨k,by rw [jd];exact hk⟩
theorem jo {α:Type} {l:List α} {k:Nat} {p:α} (h:nth l k=some p):k<l.length:=by
 rw [jd] at h;rcases lOq k l.length with h' | h'
 ·exact h'
 ·simp [List.getElem?_eq_none h'] at h
theorem Ext.refl {K F w bs}:Ext K F w bs F w bs:=⟨lRq _,fun _ _ h=>h,fun _ h _ _=>h,fun _ _ _=>rfl,rfl,rfl,rfl,fun _ _ _ h=>h,fun x h=>.inl ⟨x,h,rfl⟩⟩
theorem Ext.weak {K K' F w bs F' w' bs'} (h:Ext K F w bs F' w' bs') (hK:K'<=K):Ext K' F w bs F' w' bs' :=
 ⟨h.size,h.F1,h.F2,h.same,h.os,h.tape,h.output,fun k x hk=>h.pre k x (by omega),h.mem⟩
theorem Ext.away {K F w bs F' w' bs'} (h:Ext K F w bs F' w' bs') {p:Nat} (hp:p<w.heap.size) (hb:∀ x ∈ bs,x.p ≠ p):∀ x ∈ bs',x.p ≠ p:=by
 intro x hx e;rcases h.mem x hx with ⟨y,hy,he⟩ | hs
 ·exact hb y hy (he.trans e)
 ·omega
theorem Ext.trans {K K' F w bs F' w' bs' F'' w'' bs''} (h:Ext K F w bs F' w' bs') (g:Ext K' F' w' bs' F'' w'' bs'') (hK:K<=K'):Ext K F w bs F'' w'' bs'':=by
 refine ⟨Nat.le_trans h.size g.size,fun p hp hf=>h.F1 p hp (g.F1 p (Nat.lt_of_lt_of_le hp h.size) hf),fun p hp hps hb=>g.F2 p (h.F2 p hp hps hb) (Nat.lt_of_lt_of_le hps h.size) (h.away hps hb),fun p hp hb => ?_,
  g.os.trans h.os,g.tape.trans h.tape,g.output.trans h.output,fun k x hk hx=>g.pre k x (by omega) (h.pre k x hk hx),fun x hx => ?_⟩
 ·rw [g.same p (Nat.lt_of_lt_of_le hp h.size) (hb.imp (fun hn hf=>hn (h.F1 p hp hf)) (h.away hp))];exact h.same p hp hb
 ·rcases g.mem x hx with ⟨y,hy,he⟩ | hs
  ·rcases h.mem y hy with ⟨z,hz,he'⟩ | hs'
   ·exact .inl ⟨z,hz,he'.trans he⟩
   ·exact .inr (by omega)
  ·exact .inr (Nat.le_trans h.size hs)
theorem Ext.grow {F w bs F' w' bs'} (h:Ext bs.length F w bs F' w' bs'):Grow F F' bs bs' w w' :=
 ⟨h.size,h.F1,fun p hp hF=>h.same p hp (.inl hF),fun k p hk=>h.pre k p (jo hk) hk⟩
theorem Ext.grow0 {K F w bs F' w' bs'} (h:Ext K F w bs F' w' bs'):Grow F F' [] [] w w' :=
 ⟨h.size,h.F1,fun p hp hF=>h.same p hp (.inl hF),fun k p hk=>by simp [nth] at hk⟩
theorem Ext.below {K F w F' w' bs'} (h:Ext K F w [] F' w' bs'):Below w.heap.size w w' :=
 ⟨h.os,h.tape,h.output,h.size,fun p hp=>h.same p hp (.inr (by simp))⟩
theorem Ext.of_below {K F w bs w'} (h:Below w.heap.size w w'):Ext K F w bs F w' bs :=
 ⟨h.size,fun _ _ h=>h,fun _ h _ _=>h,fun p hp _=>h.block p hp,h.os,h.tape,h.output,fun _ _ _ h=>h,fun x h=>.inl ⟨x,h,rfl⟩⟩
theorem RowOk.grow {F F' w w' x T fz es n ρ} (h:RowOk F w x T fz es n ρ) (g:Grow F F' [] [] w w') (hb:0<x.cap->w'.heap[x.p]? = w.heap[x.p]?):RowOk F' w' x T fz es n ρ:=by
 refine ⟨h.len,h.le,h.mx,fun hn => ?_,fun hn hz=>⟨fun hF=>(h.frz hn hz).1 (g.F1 _ (h.frz hn hz).2 hF),Nat.lt_of_lt_of_le (h.frz hn hz).2 g.size⟩⟩;obtain ⟨arr,h1,h2,val,h3,h4⟩:=h.blk hn;exact ⟨arr,by rw [hb hn];exact h1,h2,val,h3,fun i f s hi hf=>(h4 i f s hi hf).grow g⟩
theorem MemRel.below {F w bs mem w'} (hm:MemRel P F w bs mem) (h:Below w.heap.size w w'):MemRel P F w' bs mem:=by
 have g:=(Ext.of_below (F:=F) (bs:=bs) (K:=bs.length) h).grow;refine ⟨hm.len,fun k x T cs hk hc hl=>⟨(hm.loc k x T cs hk hc hl).1,Nat.lt_of_lt_of_le (hm.loc k x T cs hk hc hl).2 h.size⟩,hm.inj,fun k T cs x hc hr hp => ?_,fun k T fz es n ρ x hc hp => ?_,fun k T f i st cs x hc hp=>(hm.lp k T f i st cs x hc hp).grow g fun ht=>(h.block x.p (hm.loc k x T _ hp hc (yM ht)).2)⟩
 ·obtain ⟨vs,hv,hr'⟩:=hm.cont k T cs x hc hr hp;exact ⟨vs,by rw [h.block x.p (hm.loc k x T cs hp hc (j7 hr)).2];exact hv,hr'.imp fun _ _ hx=>hx.grow g⟩
 ·have hr:=hm.row k T fz es n ρ x hc hp;refine hr.grow (Ext.of_below (F:=F) (bs:=bs) (K:=bs.length) h).grow0 fun hn => ?_;obtain ⟨arr,h1,_⟩:=hr.blk hn;exact h.block _ (Array.getElem?_eq_some_iff.1 h1).1
theorem kK:∀ (es:List Sh) (i k:Nat) (ρ:Val),nth (qK es i ρ) k=match nth es k with | some s=>some (cellOf s (ρ.at (i+k))) | none=>none
 | [],_,_,_=>by simp [qK,nth]
 | s::r,i,0,ρ=>by simp [qK,nth]
 | s :: r, i, k + 1, ρ => by
   simp only [qK,nth];rw [kK r (i+1) k ρ,show i+1+k=i+(k+1) by omega]
theorem yW:∀ (es:List Sh) (i:Nat) (ρ:Val),(qK es i ρ).length=es.length
 | [],_,_=>rfl
 | _::r,i,ρ=>by simp [qK,yW r (i+1) ρ]
theorem W7 {F : Nat -> Prop} {w : World} {bs : List BI} {t : TypeId} {cs : List CV} {o : Nat} {a : A1} {vs : List Value} (h : partOf P t cs o = some a) (hr : All2 (CV.Rel F w bs) cs vs) (p q : Nat) :
  ∃ z,a.Rel F w bs z∧∀ w':World,(∀ j v,vs[j]? = some v->w'.cell? ⟨p,q+j,none⟩=some v)->(loadVar t ⟨p,q+o,none⟩).run P w'=.ok z w':=by
 unfold partOf at h;split at h
 ·rename_i hi;split at h
  ·rename_i l hl;simp at h;subst h;rw [Wo] at hl;obtain ⟨hl,hlen⟩:=kW hl;obtain ⟨j,hj⟩:=XY hi;rw [Ld hj] at hl hlen;refine ⟨.agg ((vs.drop o).take j.size).toArray,⟨_,rfl,by rw [hl];exact (hr.drop o).take _⟩,fun w' hw' => ?_⟩
   have hlen2:((vs.drop o).take j.size).length=j.size:=by
    have:=hr.length
    simp at hlen ⊢;omega
   have hload:=run_loadCells_list (P:=P) w' ⟨p,q+o,none⟩ ((vs.drop o).take j.size) (fun k v hk=>by
    rw [addr_add,Nat.add_assoc];refine hw' (o+k) v ?_;rw [List.getElem?_take] at hk;split at hk
    ·simpa [List.getElem?_drop] using hk
    ·simp at hk)
   rw [hlen2] at hload;unfold loadVar;simp only [Sem.run_bind,Kn hi,Result.andThen_ok,if_true,qU hj,hload,Sem.run_pure]
  ·simp at h
 ·rename_i hi;split at h
  ·rename_i x hx;simp at h;subst h;obtain ⟨v,hv,hrel⟩:=hr.nth hx;refine ⟨v,hrel,fun w' hw' => ?_⟩;unfold loadVar;simp only [Sem.run_bind,Kn hi,Result.andThen_ok,Bool.false_eq_true,if_false,run_load,hw' o v hv]
  ·simp at h
 ·simp at h
theorem Ol {F : Nat -> Prop} {w : World} {bs : List BI} {mem : Mem} {t : TypeId} {x r : AV} (h : Y3 P mem t x = some r) (hm : MemRel P F w bs mem) {v : Value} (hx : x.Rel F w bs v) :
  ∃ a p o z,r=.one a∧v=.pointer (some ⟨p,o,none⟩)∧a.Rel F w bs z∧∀ w',Below w.heap.size w w'->(loadVar t ⟨p,o,none⟩).run P w'=.ok z w':=by
 unfold Y3 at h;split at h
 ·rename_i b o;split at h
  ·rename_i T cs hmem;split at h
   ·simp at h
   ·rename_i hrow;split at h
    ·rename_i a ha;simp at h;subst h;cases hx with
     | ptr hb =>
       rename_i p;have hrow:je cs=false:=by simpa using hrow
       obtain ⟨vs,hheap,hr⟩:=hm.cont b T cs p hmem hrow hb;obtain ⟨z,hz,hrun⟩:=W7 ha hr p.p 0;refine ⟨a,p.p,o,z,rfl,rfl,hz,fun w' hw' => ?_⟩
       have:=hrun w' (fun j v hv=>by
        have hb2:w'.heap[p.p]? = some (.cells vs.toArray T (0,0)):=by rw [hw'.block p.p (hm.loc b p T cs hb hmem (j7 hrow)).2];exact hheap
        rw [cell_of_row w' p.p (0+j) _ _ _ hb2];simpa using hv)
       rwa [Nat.zero_add] at this
    ·simp at h
  ·simp at h
 ·rename_i es off ρ0;split at h
  ·rename_i a ha;simp at h;subst h;cases hx with
   | rop val hb hF hc hr =>
     rename_i p o
     have hrel:All2 (CV.Rel F w bs) (qK es 0 ρ0) ((List.range es.length).map val):=by
      refine All2.of_nth (by simp [yW]) fun i x v hx hv => ?_
      rw [kK] at hx;split at hx
      ·rename_i s hs;simp at hx;subst hx
       have him:i<es.length:=by
        rw [jd] at hs;rcases lOq i es.length with h' | h'
        ·exact h'
        ·simp [List.getElem?_eq_none h'] at hs
       rw [jd] at hv;simp only [List.getElem?_map] at hv;rw [List.getElem?_range him] at hv;simp at hv;subst hv;exact (hr i s hs).mono (lRq _) (fun _ _ h=>h) (fun _ _ _=>rfl) (fun k p h=>by simp [nth] at h)
      ·simp at hx
     obtain ⟨z,hz,hrun⟩:=W7 ha hrel p o;refine ⟨a,p,o+off,z,rfl,rfl,hz,fun w' hw' => ?_⟩;refine hrun w' (fun j v hv => ?_);simp only [List.getElem?_map] at hv;rcases lOq j es.length with hjm | hjm
     ·rw [List.getElem?_range hjm] at hv;simp at hv;subst hv;rw [hw'.cell hb];exact hc j hjm
     ·rw [List.getElem?_eq_none (by simpa using hjm)] at hv
      simp at hv
  ·simp at h
 ·simp at h
theorem BM {F : Nat -> Prop} {w : World} {bs : List BI} : ∀ {news cs : List CV} {o : Nat} {vs nv : List Value}, All2 (CV.Rel F w bs) cs vs -> All2 (CV.Rel F w bs) news nv -> o + nv.length <= vs.length ->
  All2 (CV.Rel F w bs) (putCells cs o news) (vs.take o++nv++vs.drop (o+nv.length))
 | [],cs,o,vs,nv,h,hn,hl=>by cases hn;simpa [putCells] using h
 | x :: r, cs, o, vs, nv, h, hn, hl => by
   cases hn with
  | cons hx hr =>
    rename_i y nv
    have:=BM (o:=o+1) (h.set o hx) hr (by simp at hl ⊢;omega)
    simp only [putCells]
    have e:(vs.set o y).take (o+1)++nv++(vs.set o y).drop (o+1+nv.length)=vs.take o++y::nv++vs.drop (o+(y::nv).length):=by
     have ho:o<vs.length:=by simp at hl;omega
     rw [List.take_set,List.drop_set_of_lt (by omega)]
     rw [List.take_succ_eq_append_getElem ho];rw [List.set_append_right _ _ (by simp;omega)]
     simp [Nat.min_eq_left (Nat.le_of_lt ho),Nat.add_assoc,Nat.add_comm 1]
    rwa [e] at this
def MR (F:Nat->Prop) (w:World) (bs:List BI) (a:Act) (s:Slot) (x:Value):Prop:=(KH a s.keys->s.v.Rel F w bs x)∧(¬ KH a s.keys->x=undef)
structure StRel (P:Program) (D:List Deferred) (F:Nat->Prop) (w:World) (bs:List BI) (s:St) (a:Act):Prop where
 defers:a.defers=D
 len:s.tmps.length=a.tmps.size
 slots:∀ i sl x,nth s.tmps i=some sl->a.tmps[i]? = some x->MR F w bs a sl x
 mem:MemRel P F w bs s.mem
variable {D:List Deferred}
theorem jw {a:Act}:KH a []:=fun _ h=>by cases h
theorem Db {K:List (Nat × Bool)} {p:Nat × Bool} (h:Ri K p=true):p ∈ K:=by
 simp only [Ri,List.any_eq_true,aTq,beq_iff_eq] at h;obtain ⟨q,hq,h1,h2⟩:=h;obtain ⟨a,b⟩:=q;obtain ⟨c,d⟩:=p;simp at h1 h2;subst h1;subst h2;exact hq
theorem qo {F w bs s} {a:Act} (hs:StRel P D F w bs s a) {K:List (Nat × Bool)} (hK:KH a K) {x:Operand} {av:AV} (h:zp s K x=some av):av.Rel F w bs (a.eval x):=by
 unfold zp at h;split at h
 ·rename_i t;split at h
  ·rename_i ks v hn;split at h
   ·rename_i hall;simp at h;subst h
    have hi:t<a.tmps.size:=by
     rw [← hs.len];rw [jd] at hn;rcases lOq t s.tmps.length with h' | h'
     ·exact h'
     ·simp [List.getElem?_eq_none h'] at hn
    have hx:a.tmps[t]? = some a.tmps[t]:=Array.getElem?_eq_getElem hi
    have:=(hs.slots t _ _ hn hx).1 (fun p hp=>hK p (Db (List.all_eq_true.1 hall p hp)))
    simpa [Act.eval,Array.getD_eq_getD_getElem?,hx] using this
   ·simp at h
  ·simp at h
 ·exact jeA h
 ·rename_i f;simp at h;subst h;exact CV.Rel.fn (vf:=[]) (vc:=[]) rfl rfl (fun i x v h=>by simp [nth] at h) (fun i x v h=>by simp [nth] at h)
 ·simp at h
theorem StRel.put {F w bs s} {a : Act} (hs : StRel P D F w bs s a) {dst : Option Tmp} {ks : List (Nat × Bool)} {v : AV} {x : Value} (hd : ∀ p ∈ ks, some p.1 ≠ dst) (h1 : KH a ks -> v.Rel F w bs x) (h2 : ¬ KH a ks -> x = undef) :
  StRel P D F w bs (s.put dst ks v) (a.put dst x):=by
 cases dst with
 | none=>exact hs
 | some d =>
   refine ⟨hs.defers,?_,fun i sl y hsl hy => ?_,hs.mem⟩
   ·simp [St.put,Act.put,jy,hs.len]
   ·simp only [St.put,Act.put] at hsl hy ⊢;rw [jy,jd,List.getElem?_set] at hsl;rw [Array.getElem?_setIfInBounds] at hy
    have kh:∀ K:List (Nat × Bool),(∀ p ∈ K,p.1 ≠ d)->(KH { a with tmps:=a.tmps.setIfInBounds d x } K↔KH a K):=by
     intro K hK;constructor
     ·intro h p hp
      have:=h p hp
      simp only [Array.getElem?_setIfInBounds] at this;rw [if_neg (fun e=>hK p hp e.symm)] at this;exact this
     ·intro h p hp;simp only [Array.getElem?_setIfInBounds];rw [if_neg (fun e=>hK p hp e.symm)];exact h p hp
    by_cases hid:d=i
    ·subst hid;simp only [if_true] at hsl hy;split at hsl
     ·simp at hsl;subst hsl;split at hy
      ·simp at hy;subst hy;have hk:=kh ks (fun p hp e=>hd p hp (by rw [e]))
       exact ⟨fun h=>h1 (hk.1 h),fun h=>h2 (fun h'=>h (hk.2 h'))⟩
      ·simp at hy
     ·simp at hsl
    ·rw [if_neg hid] at hsl hy;simp only [List.getElem?_map,Option.map_eq_some_iff] at hsl;obtain ⟨sl0,hsl0,rfl⟩:=hsl;have h0:=hs.slots i sl0 y (by rw [jd];exact hsl0) hy
     unfold YR;split
     ·exact ⟨fun _=>trivial,fun h=>(h jw).elim⟩
     ·rename_i hany;have hno:∀ p ∈ sl0.keys,p.1 ≠ d:=fun p hp e=>hany (List.any_eq_true.2 ⟨p,hp,by simp [e]⟩)
      have hk:=kh sl0.keys hno;exact ⟨fun h=>h0.1 (hk.1 h),fun h=>h0.2 (fun h'=>h (hk.2 h'))⟩
theorem StRel.ext {F w bs F' w' bs' s mem'} {a:Act} (hs:StRel P D F w bs s a) (he:Ext bs.length F w bs F' w' bs') (hm:MemRel P F' w' bs' mem'):StRel P D F' w' bs' { s with mem:=mem' } a :=
 ⟨hs.defers,hs.len,fun i sl x h1 h2=>⟨fun hk=>AV.Rel.grow he.grow ((hs.slots i sl x h1 h2).1 hk),(hs.slots i sl x h1 h2).2⟩,hm⟩
end
end Go.Sx