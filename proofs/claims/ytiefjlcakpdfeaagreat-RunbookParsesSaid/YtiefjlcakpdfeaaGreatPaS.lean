/-
 Part PaS of the proof: EngPm EngPn RbA Shelf RbT RbSa EngPo.
-/
import Derived.Test.YtiefjlcakpdfeaaGreatPaR
import Derived.Shelf.Strings.Builder1
import Derived.Shelf.Strings.Builder2
import Derived.Shelf.Strings.OnBuilder
import Derived.Shelf.Small.Utf8
import Derived.Shelf.Small.Strs
import Derived.Shelf.Strings.Search1
import Derived.Shelf.Strings.Search2
import Derived.Shelf.Strings.Search3
import Derived.Shelf.LaysM
import Derived.Shelf.Strings.Shaped
import Derived.Shelf.Strings.Runes
import Derived.Shelf.Strings.IndexAny
import Derived.Shelf.Strings.AsciiSet
import Derived.Shelf.Strings.IndexAnyAll
import Derived.Shelf.Bits.Mul64
import Derived.Test.YtiefjlcakpdfeaaGreatProg
import Derived.Test.YtiefjlcakpdfeaaGreatRows
namespace Go.Sx
open Go Go.RowKit
variable {P:Program}
def localG (T:TypeId) (u:List A1->List CV->Tree (Out × List CV)):List A1->Mem->Tree (Out × Mem)
 | .c (.ptr b 0)::rest,mem=>match nth mem b with
  | some (some (T',cs))=>if T'==T&&!jf cs&&cs.all closedC&&rest.all jH then (u rest cs).bind fun r=>.leaf (r.1,jl mem b (some (T,r.2))) else .fail
  | _=>.fail
 | _,_=>.fail
theorem GU {F w bs bs'} {l:List CV} {vs:List Value} (h:All2 (CV.Rel F w bs) l vs) (hc:l.all closedC=true):All2 (CV.Rel F w bs') l vs:=by
 induction h with
 | nil=>exact .nil
 | cons h _ ih =>
   simp only [List.all_cons,aTq] at hc;exact .cons (h.closed hc.1) (ih hc.2)
theorem XO {F w bs bs'} {l:List A1} {vs:List Value} (h:All2 (A1.Rel F w bs) l vs) (hc:l.all jH=true):All2 (A1.Rel F w bs') l vs:=by
 induction h with
 | nil=>exact .nil
 | cons h _ ih =>
   simp only [List.all_cons,aTq] at hc;exact .cons (h.closed hc.1) (ih hc.2)
theorem MemRel.lone {F w bs mem} (hm:MemRel P F w bs mem) {b:Nat} {T:TypeId} {cs:List CV} (hb:nth mem b=some (some (T,cs))) (hr:jf cs=false) (hc:cs.all closedC=true) {x:BI} (hx:nth bs b=some x):MemRel P F w [x] [some (T,cs)]:=by
 have key:∀ k T' cs',nth [some (T,cs)] k=some (some (T',cs'))->k=0∧T'=T∧cs'=cs:=by
  intro k T' cs' hk
  match k,hk with
  | 0,hk=>simp [nth] at hk;exact ⟨rfl,hk.1.symm,hk.2.symm⟩
  | k+1,hk=>simp [nth] at hk
 refine ⟨rfl,fun k y T' cs' hk hc' hv => ?_,fun k k' y y' T1 cs1 T2 cs2 _ _ h3 h4 _ _ _ => ?_,fun k T' cs' y hc' hrr hk => ?_,fun k T' fz' es' n' ρ' y hc' hk => ?_,fun k T' f i st cs' y hc' _ => ?_⟩
 ·obtain ⟨rfl,rfl,rfl⟩:=key k T' cs' hc';simp only [nth,sIq] at hk;subst hk;exact hm.loc b x _ _ hx hb (qg hr)
 ·rw [(key k T1 cs1 h3).1,(key k' T2 cs2 h4).1]
 ·obtain ⟨rfl,rfl,rfl⟩:=key k T' cs' hc';simp only [nth,sIq] at hk;subst hk;obtain ⟨vs,h1,h2⟩:=hm.cont b _ _ x hb hr hx;exact ⟨vs,h1,GU h2 hc⟩
 ·obtain ⟨_,_,e⟩:=key k T' _ hc';rw [← e] at hr;simp [jf] at hr
 ·obtain ⟨_,_,e⟩:=key k T' _ hc';rw [← e] at hr;simp [jf] at hr
theorem MemRel.unlone {F w bs mem} (hm : MemRel P F w bs mem) {b : Nat} {T : TypeId} {cs : List CV} (hb : nth mem b = some (some (T, cs))) (hr : jf cs = false) {x : BI} (hx : nth bs b = some x) {F' w' bs' m'} (he : Ext 1 F w [x] F' w' bs') (hm' : MemRel P F' w' bs' m') {cs' : List CV} (hb' : nth m' 0 = some (some (T, cs'))) (hr' : jf cs' = false) (hc' : cs'.all closedC = true) :
  Ext bs.length F w bs F' w' bs∧MemRel P F' w' bs (jl mem b (some (T,cs'))):=by
 have hx0:nth bs' 0=some x:=he.pre 0 x (by omega) rfl
 have hlive:=qg (x:=x) hr;have hin:x ∈ bs:=jO hx;have g:Grow F F' bs bs w w':=⟨he.size,he.F1,fun p hp hF=>he.same p hp (.inl hF),fun _ _ h=>h⟩;have g0:Grow F F' [] [] w w':=⟨he.size,he.F1,fun p hp hF=>he.same p hp (.inl hF),fun _ _ h=>h⟩
 have hne:∀ k y T1 cs1,k ≠ b->nth bs k=some y->nth mem k=some (some (T1,cs1))->jM y cs1->∀ z ∈ [x],z.p ≠ y.p:=by
  intro k y T1 cs1 hk hy hmk hl z hz e;simp only [List.mem_cons,List.not_mem_nil,or_false] at hz;subst hz;exact hk (hm.inj k b y z T1 cs1 T cs hy hx hmk hb hl hlive e.symm)
 have hloc:∀ k y T1 cs1,k ≠ b->nth bs k=some y->nth mem k=some (some (T1,cs1))->jM y cs1->F' y.p∧y.p<w'.heap.size∧w'.heap[y.p]? = w.heap[y.p]?:=by
  intro k y T1 cs1 hk hy hmk hl;obtain ⟨h1,h2⟩:=hm.loc k y T1 cs1 hy hmk hl;have h3:=hne k y T1 cs1 hk hy hmk hl;exact ⟨he.F2 y.p h1 h2 h3,Nat.lt_of_lt_of_le h2 he.size,he.same y.p h2 (.inr h3)⟩
 have up:∀ {p},(∀ y ∈ bs,y.p ≠ p)->∀ z ∈ [x],z.p ≠ p:=fun h z hz=>by
  simp only [List.mem_cons,List.not_mem_nil,or_false] at hz;subst hz;exact h _ hin
 refine ⟨⟨he.size,he.F1,fun p h1 h2 h3=>he.F2 p h1 h2 (up h3),fun p h1 h2=>he.same p h1 (h2.imp id up),he.os,he.tape,he.output,fun _ _ _ h=>h,fun y hy=>.inl ⟨y,hy,rfl⟩⟩,?_⟩;refine ⟨by rw [j0];exact hm.len,fun k y T1 cs1 hy hmk hl => ?_,fun k k2 y y2 T1 cs1 T2 cs2 hy hy2 h1 h2 l1 l2 e => ?_,fun k T1 cs1 y hmk hrr hy => ?_,fun k T1 fz es n ρ y hmk hy => ?_,fun k T1 f i st cs1 y hmk hy => ?_⟩
 ·rcases jL hmk with ⟨rfl,e⟩ | ⟨hk,hmk⟩
  ·rw [hx] at hy;cases hy;exact hm'.loc 0 x T cs' hx0 hb' (qg hr')
  ·obtain ⟨h1,h2,_⟩:=hloc k y T1 cs1 hk hy hmk hl;exact ⟨h1,h2⟩
 ·rcases jL h1 with ⟨rfl,e1⟩ | ⟨hk1,hm1⟩<;>rcases jL h2 with ⟨rfl,e2⟩ | ⟨hk2,hm2⟩
  ·rfl
  ·exact hm.inj _ _ y y2 T cs T2 cs2 hy hy2 hb hm2 (qg hr) l2 e
  ·exact hm.inj _ _ y y2 T1 cs1 T cs hy hy2 hm1 hb l1 (qg hr) e
  ·exact hm.inj _ _ y y2 T1 cs1 T2 cs2 hy hy2 hm1 hm2 l1 l2 e
 ·rcases jL hmk with ⟨rfl,e⟩ | ⟨hk,hmk⟩
  ·rw [hx] at hy;cases hy;simp only [sIq,pIq] at e;obtain ⟨rfl,rfl⟩:=e;obtain ⟨vs,h1,h2⟩:=hm'.cont 0 _ _ x hb' hr' hx0;exact ⟨vs,h1,GU h2 hc'⟩
  ·obtain ⟨vs,h1,h2⟩:=hm.cont k T1 cs1 y hmk hrr hy;obtain ⟨_,_,h3⟩:=hloc k y T1 cs1 hk hy hmk (qg hrr);exact ⟨vs,by rw [h3];exact h1,h2.imp fun _ _ h=>h.grow g⟩
 ·rcases jL hmk with ⟨rfl,e⟩ | ⟨hk,hmk⟩
  ·simp only [sIq,pIq] at e;rw [← e.2] at hr';simp [jf] at hr'
  ·have ho:=hm.row k T1 fz es n ρ y hmk hy;refine ho.grow g0 fun hcap => ?_;cases fz with
   | false=>exact (hloc k y T1 _ hk hy hmk ⟨rfl,hcap⟩).2.2
   | true =>
     obtain ⟨h1,h2⟩:=ho.frz hcap rfl;exact he.same y.p h2 (.inl h1)
 ·rcases jL hmk with ⟨rfl,e⟩ | ⟨hk,hmk⟩
  ·simp only [sIq,pIq] at e;rw [← e.2] at hr';simp [jf] at hr'
  ·exact (hm.lp k T1 f i st cs1 y hmk hy).grow g (hloc k y T1 _ hk hy hmk yT).2.2
inductive LeOut:Out × List CV->Out × List CV->Prop
 | ret {a b cs ds} (h:leA a b) (hl:LeL cs ds) (hr:jf ds=false):LeOut (.ret a,cs) (.ret b,ds)
 | pan {x cs ds} (hl:LeL cs ds) (hr:jf ds=false):LeOut (.pan x,cs) (.pan x,ds)
theorem LeL.closed {F w bs}:∀ {l r:List CV} {vs:List Value},LeL l r->l.all closedC=true->All2 (CV.Rel F w bs) l vs->All2 (CV.Rel F w bs) r vs
 | _,_,_,.nil,_,h=>h
 | _, _, _, .cons h1 h2, hc, .cons k1 k2 => by
   simp only [List.all_cons,aTq] at hc;exact .cons (CV.Rel.grow ⟨lRq _,fun _ _ h=>h,fun _ _ _=>rfl,fun k p h=>by simp [nth] at h⟩ (h1 _ _ _ (k1.closed hc.1))) (h2.closed hc.2 k2)
theorem zy {x:CV}:leC x .any:=fun _ _ _ h=>.any h.one
theorem MemRel.cellsTo {F w bs mem} (h : MemRel P F w bs mem) {b : Nat} {T : TypeId} {cs ds : List CV} (hb : nth mem b = some (some (T, cs))) (hr : jf cs = false) (hr' : jf ds = false)
  (hd:∀ (x:BI) (vs:List Value),nth bs b=some x->w.heap[x.p]? = some (.cells vs.toArray T (0,0))->All2 (CV.Rel F w bs) cs vs->All2 (CV.Rel F w bs) ds vs):MemRel P F w bs (jl mem b (some (T,ds))):=by
 have key:∀ k T' es,nth (jl mem b (some (T,ds))) k=some (some (T',es))->(k=b∧T'=T∧es=ds)∨(k ≠ b∧nth mem k=some (some (T',es))):=by
  intro k T' es hk;rcases jL hk with ⟨rfl,e⟩ | ⟨hne,hk⟩
  ·simp only [sIq,pIq] at e;exact .inl ⟨rfl,e.1,e.2⟩
  ·exact .inr ⟨hne,hk⟩
 have live:∀ k T' es,nth (jl mem b (some (T,ds))) k=some (some (T',es))->∀ x:BI,jM x es->∃ T1 cs1,nth mem k=some (some (T1,cs1))∧jM x cs1∧T'=T1:=by
  intro k T' es hk x hv;rcases key k T' es hk with ⟨rfl,rfl,rfl⟩ | ⟨hne,hk⟩
  ·exact ⟨_,_,hb,qg hr,rfl⟩
  ·exact ⟨_,_,hk,hv,rfl⟩
 refine ⟨by rw [j0];exact h.len,fun k x T' es hk hc' hv => ?_,fun k k' x x' T1 cs1 T2 cs2 h1 h2 h3 h4 h5 h6 h7 => ?_,fun k T' es x hc' hrr hk => ?_,fun k T' fz' es' n' ρ' x hc' hk => ?_,fun k T' f i st es x hc' hk => ?_⟩
 ·obtain ⟨T1,cs1,g1,g2,rfl⟩:=live k T' es hc' x hv;exact h.loc k x _ cs1 hk g1 g2
 ·obtain ⟨T3,cs3,g1,g2,_⟩:=live k T1 cs1 h3 x h5;obtain ⟨T4,cs4,g3,g4,_⟩:=live k' T2 cs2 h4 x' h6;exact h.inj k k' x x' T3 cs3 T4 cs4 h1 h2 g1 g3 g2 g4 h7
 ·rcases key k T' es hc' with ⟨rfl,rfl,rfl⟩ | ⟨hne,hc'⟩
  ·obtain ⟨vs,g1,g2⟩:=h.cont k _ cs x hb hr hk;exact ⟨vs,g1,hd x vs hk g1 g2⟩
  ·exact h.cont k T' es x hc' hrr hk
 ·rcases key k T' _ hc' with ⟨rfl,rfl,e⟩ | ⟨hne,hc'⟩
  ·rw [← e] at hr';simp [jf] at hr'
  ·exact h.row k T' fz' es' n' ρ' x hc' hk
 ·rcases key k T' _ hc' with ⟨rfl,rfl,e⟩ | ⟨hne,hc'⟩
  ·rw [← e] at hr';simp [jf] at hr'
  ·exact h.lp k T' f i st es x hc' hk
theorem MemRel.cellsLe {F w bs mem} (h:MemRel P F w bs mem) {b:Nat} {T:TypeId} {cs ds:List CV} (hb:nth mem b=some (some (T,cs))) (hr:jf cs=false) (hc:cs.all closedC=true) (hl:LeL cs ds) (hr':jf ds=false):MemRel P F w bs (jl mem b (some (T,ds))) :=
 h.cellsTo hb hr hr' fun _ _ _ _ g=>hl.closed hc g
theorem jg3 {mem:Mem} {k:Nat} {T:TypeId} {cs:List CV} (h:nth mem k=some (some (T,cs))) (hr:jf cs=false) {x:CV}:nth (ZH mem x).1 k=some (some (T,cs)):=by
 unfold ZH;split
 ·rename_i b sz;split
  ·rename_i T' fz es n ρ hrow;split
   ·have hrow:=j7 hrow
    have hne:k ≠ b:=by
     intro e;subst e;rw [h] at hrow;simp only [sIq,pIq] at hrow;rw [hrow.2] at hr;simp [jf] at hr
    rw [jd,jD,List.getElem?_set_ne (by omega),← jd]
    exact h
   ·exact h
  ·exact h
 ·exact h
theorem K9:∀ {l:List CV} {mem:Mem} {k:Nat} {T:TypeId} {cs:List CV},nth mem k=some (some (T,cs))->jf cs=false->nth (qI mem l).1 k=some (some (T,cs))
 | [],_,_,_,_,h,_=>h
 | x :: l, mem, k, _, _, h, hr => by
   show nth (qI (ZH mem x).1 l).1 k=_;exact K9 (jg3 h hr) hr
theorem YA {α:Type}:∀ (l:List α) (i:Nat) (a b:α),jl (jl l i a) i b=jl l i b
 | [],_,_,_=>rfl
 | _::_,0,_,_=>rfl
 | _::l,i+1,a,b=>by simp [jl,YA l i a b]
def Dg (T:TypeId) (y:Out × Mem):Tree (Out × List CV) :=
 match y.1 with
 | .ret a=>match nth (yx y.2 a).1 0 with
  | some (some (T',cs))=>if T'==T&&!jf cs&&!jf (qI (yx y.2 a).1 cs).2&&(qI (yx y.2 a).1 cs).2.all closedC&&JM (yx y.2 a).2 then .leaf (.ret (yx y.2 a).2,(qI (yx y.2 a).1 cs).2) else .fail
  | _=>.fail
 | .pan x=>match nth y.2 0 with
  | some (some (T',cs))=>if T'==T&&!jf cs&&closedC x then .leaf (.pan x,cs.map fun _=>.any) else .fail
  | _=>.fail
def qX (P:Program) (H:Hd) (X:HdP) (k f:Nat) (T:TypeId) (rest:List A1) (cs:List CV):Tree (Out × List CV) :=
 (zM P H X k f (.c (.ptr 0 0)::rest) [some (T,cs)]).bind (Dg T)
theorem Kx (cs:List CV):jf (cs.map fun _=>CV.any)=false:=by
 cases cs with
 | nil=>rfl
 | cons c l=>cases l<;>rfl
theorem Yf (cs:List CV):(cs.map fun _=>CV.any).all closedC=true:=by
 induction cs with
 | nil=>rfl
 | cons c l ih=>simp only [List.map_cons,List.all_cons,ih,Bool.and_true];rfl
theorem All2.anys {F w bs} {cs:List CV} {vs:List Value} (h:All2 (CV.Rel F w bs) cs vs):All2 (CV.Rel F w bs) (cs.map fun _=>CV.any) vs:=by
 induction h with
 | nil=>exact .nil
 | cons h _ ih=>exact .cons (.any h.one) ih
theorem MemRel.anyBlock {F w bs mem} (hm:MemRel P F w bs mem) {b:Nat} {T:TypeId} {cs:List CV} (hb:nth mem b=some (some (T,cs))) (hr:jf cs=false):MemRel P F w bs (jl mem b (some (T,cs.map fun _=>CV.any))) :=
 hm.cellsTo hb hr (Kx cs) fun _ _ _ _ g=>g.anys
theorem MemRel.frzBlock {F w bs mem} (hm : MemRel P F w bs mem) {b : Nat} {T : TypeId} {cs : List CV} (hb : nth mem b = some (some (T, cs))) (hr : jf cs = false) (hr' : jf (qI mem cs).2 = false) {x : BI} (hx : nth bs b = some x) :
  ∃ F',Ext bs.length F w bs F' w bs∧MemRel P F' w bs (jl (qI mem cs).1 b (some (T,(qI mem cs).2))):=by
 obtain ⟨vs,h1,h2⟩:=hm.cont b T cs x hb hr hx;obtain ⟨F',e,m,r⟩:=ZI hm h2;refine ⟨F',e,m.cellsTo (K9 hb hr) hr hr' fun y us hy hu _ => ?_⟩;rw [hx] at hy;simp only [sIq] at hy;subst hy;rw [h1] at hu;simp only [sIq,Obj.cells.injEq,and_true] at hu
 have:vs=us:=by
  have:=congrArg Array.toList hu
  simpa using this
 subst this;exact r
theorem Oi {H : Hd} (hH : HdOk P H) {X : HdP} (hX : XOk P X) (k f : Nat) (T : TypeId) {u : List A1 -> List CV -> Tree (Out × List CV)}
  (hu:∀ rest cs r,(u rest cs).sel=some r->∃ z,(qX P H X k f T rest cs).sel=some z∧LeOut z r):jn P f (localG T u):=by
 intro args mem r mem' h F w bs vs hm hargs;unfold localG at h;split at h
 rotate_left
 ·simp [Tree.sel] at h
 rename_i b rest;split at h
 rotate_left
 ·simp [Tree.sel] at h
 rename_i T' cs hb;split at h
 rotate_left
 ·simp [Tree.sel] at h
 rename_i hcond;simp only [aTq,beq_iff_eq,Bool.not_eq_true'] at hcond;obtain ⟨⟨⟨rfl,hr⟩,hcs⟩,hrest⟩:=hcond;obtain ⟨⟨o,ds⟩,h1,h2⟩:=jh h;simp only [Tree.sel,sIq,pIq] at h2;obtain ⟨rfl,rfl⟩:=h2;obtain ⟨⟨o',cs'⟩,h3,hle⟩:=hu rest cs _ h1;unfold qX at h3;obtain ⟨⟨o1,m1⟩,h4,h5⟩:=jh h3;cases hargs with
 | cons hp hvs =>
   rename_i v0 vs;cases hp with
  | ptr hx =>
    rename_i x;have hm1:=hm.lone hb hr hcs hx;have hargs1:All2 (A1.Rel F w [x]) (.c (.ptr 0 0)::rest) (.pointer (some ⟨x.p,0,none⟩)::vs):=.cons (CV.Rel.ptr (bs:=[x]) (b:=0) (x:=x) rfl) (XO hvs hrest)
    have hbs:nth (jl mem b (some (T',cs'))) b=some (some (T',cs')):=by
     have hlt:=js hb;rw [jd,jD];simp [hlt]
    refine ((yu hH hX k).ok f _ _ o1 m1 h4 F w [x] _ hm1 hargs1).mono fun e w' ⟨F',bs',hext,hm',hend⟩ => ?_;unfold Dg at h5;split at h5
    ·rename_i a hoa;simp only at hoa;subst hoa;split at h5
     ·rename_i T2 cs2 hz;split at h5
      ·rename_i hc;simp only [aTq,beq_iff_eq,Bool.not_eq_true'] at hc;obtain ⟨⟨⟨⟨rfl,c1⟩,c2⟩,c3⟩,c4⟩:=hc;simp only [Tree.sel,sIq,pIq] at h5;obtain ⟨rfl,rfl⟩:=h5;obtain ⟨v,rfl,hv⟩:=hend;obtain ⟨F2,e2,hm2,r2⟩:=Wz hm' hv;have e3:=hext.trans e2 (hext.le);have hx0:nth bs' 0=some x:=hext.pre 0 x (by simp) rfl
       obtain ⟨F3,e4,hm3⟩:=hm2.frzBlock hz c1 c2 hx0
       have hz3:nth (jl (qI (yx m1 a).1 cs2).1 0 (some (T2,(qI (yx m1 a).1 cs2).2))) 0=some (some (T2,(qI (yx m1 a).1 cs2).2)):=by
        have hlt:=js (K9 (l:=cs2) hz c1);rw [jd,jD];simp [hlt]
       have e5:=e3.trans e4 (hext.le);obtain ⟨he,hmm⟩:=hm.unlone hb hr hx e5 hm3 hz3 c2 c3;cases hle with
       | ret hla hl hr' =>
         have hmm2:=hmm.cellsLe hbs c2 c3 hl hr';rw [YA] at hmm2;exact ⟨F3,bs,he,hmm2,v,rfl,AV.Rel.grow ⟨lRq _,fun _ _ h=>h,fun _ _ _=>rfl,fun k p h=>by simp [nth] at h⟩ (hla _ _ _ ((AV.Rel.grow e4.grow r2).closed c4))⟩
      ·simp [Tree.sel] at h5
     ·simp [Tree.sel] at h5
    ·rename_i y hoy;simp only at hoy;subst hoy;split at h5
     ·rename_i T2 cs2 hz;split at h5
      ·rename_i hc;simp only [aTq,beq_iff_eq,Bool.not_eq_true'] at hc;obtain ⟨⟨rfl,c1⟩,c4⟩:=hc;simp only [Tree.sel,sIq,pIq] at h5;obtain ⟨rfl,rfl⟩:=h5;obtain ⟨v,rfl,hv⟩:=hend;have hm3:=hm'.anyBlock hz c1
       have hz3:nth (jl m1 0 (some (T2,cs2.map fun _=>CV.any))) 0=some (some (T2,cs2.map fun _=>CV.any)):=by
        have hlt:=js hz;rw [jd,jD];simp [hlt]
       obtain ⟨he,hmm⟩:=hm.unlone hb hr hx hext hm3 hz3 (Kx cs2) (Yf cs2);cases hle with
       | pan hl hr' =>
         have hmm2:=hmm.cellsLe hbs (Kx cs2) (Yf cs2) hl hr';rw [YA] at hmm2;exact ⟨F',bs,he,hmm2,v,rfl,hv.closed c4⟩
      ·simp [Tree.sel] at h5
     ·simp [Tree.sel] at h5
end Go.Sx
namespace Rb
open Go Go.Sx
def zK (l:List ByteArray):Val:=Val.ofFlat 1 (l.map .str)
inductive PR (σ:Type) (α:Type) where
 | stuck
 | ret (v:α) (s:σ)
 | pan (a:Int)
variable {σ α β γ:Type}
def PR.bind:PR σ α->(α->σ->PR σ β)->PR σ β
 | .stuck,_=>.stuck
 | .pan a,_=>.pan a
 | .ret v s,f=>f v s
structure Mach (σ:Type) where
 tx:σ->ByteArray
 pos:σ->Int
 adv:σ->PR σ Unit
def kV (c:Int):Bool:=(le 97 c&&le c 122)||(le 65 c&&le c 90)
def qV (c:Int):Bool:=le 48 c&&le c 57
def yE (c:Int):Bool:=kV c||qV c
def bs (l:List UInt8):ByteArray:=⟨⟨l⟩⟩
end Rb
namespace Go.Proofs
open Go.Shelf
open Go.RowKit in
def Tryz.lays156_ren:Go.Shelf.Ren:=⟨fun | 156=>18 | 165=>54 | 166=>55 | 169=>56 | 240=>110 | 241=>111 | 276=>146 | 277=>147 | n=>n,fun | 31=>39 | 9=>9 | 3=>3 | 4=>4 | 0=>0 | 20=>20 | 72=>110 | 76=>114 | 70=>107 | 37=>108 | 75=>113 | 127=>167 | 164=>193 | 5=>5 | 80=>116 | n=>n,fun | n=>n⟩
theorem Tryz.lays156:Go.Proofs.Lays.n156 Tryz.prog Tryz.lays156_ren:={
 mixed:=by kernel_rfl
 f156:=Tryz.func18.trans (congrArg some (by kernel_rfl))
 f165:=Tryz.func54.trans (congrArg some (by kernel_rfl))
 f166:=Tryz.func55.trans (congrArg some (by kernel_rfl))
 f169:=Tryz.func56.trans (congrArg some (by kernel_rfl))
 f240:=Tryz.func110.trans (congrArg some (by kernel_rfl))
 f241:=Tryz.func111.trans (congrArg some (by kernel_rfl))
 f276:=Tryz.func146.trans (congrArg some (by kernel_rfl))
 f277:=Tryz.func147.trans (congrArg some (by kernel_rfl))
 t0:=Tryz.underlying0
 a0:=Tryz.isAgg0
 z0:=Tryz.sizeOf0
 v0:=Tryz.zeroValue0
 t3:=Tryz.underlying3
 a3:=Tryz.isAgg3
 z3:=Tryz.sizeOf3
 v3:=Tryz.zeroValue3
 t4:=Tryz.underlying4
 a4:=Tryz.isAgg4
 z4:=Tryz.sizeOf4
 v4:=Tryz.zeroValue4
 t9:=Tryz.underlying9
 a9:=Tryz.isAgg9
 z9:=Tryz.sizeOf9
 v9:=Tryz.zeroValue9
 t20:=Tryz.underlying20
 a20:=Tryz.isAgg20
 z20:=Tryz.sizeOf20
 v20:=Tryz.zeroValue20
 t31:=Tryz.underlying39
 a31:=Tryz.isAgg39
 z31:=Tryz.sizeOf39
 v31:=Tryz.zeroValue39
 t37:=Tryz.underlying108
 a37:=Tryz.isAgg108
 z37:=Tryz.sizeOf108
 v37:=Tryz.zeroValue108
 t70:=Tryz.underlying107
 a70:=Tryz.isAgg107
 z70:=Tryz.sizeOf107
 v70:=Tryz.zeroValue107
 t72:=Tryz.underlying110
 a72:=Tryz.isAgg110
 z72:=Tryz.sizeOf110
 v72:=Tryz.zeroValue110
 t75:=Tryz.underlying113
 a75:=Tryz.isAgg113
 z75:=Tryz.sizeOf113
 v75:=Tryz.zeroValue113
 t76:=Tryz.underlying114
 a76:=Tryz.isAgg114
 z76:=Tryz.sizeOf114
 v76:=Tryz.zeroValue114
 t127:=Tryz.underlying167
 a127:=Tryz.isAgg167
 z127:=Tryz.sizeOf167
 v127:=Tryz.zeroValue167
 t164:=Tryz.underlying193
 a164:=Tryz.isAgg193
 z164:=Tryz.sizeOf193
 v164:=Tryz.zeroValue193 }
theorem Tryz.Builder_Extra_156:Builder.Extra Tryz.prog Tryz.lays156_ren:={
 sizeBuilder:=by kernel_rfl
 liesBuilder:=by kernel_rfl
 t5:=Tryz.underlying5
 a5:=Tryz.isAgg5
 z5:=Tryz.sizeOf5
 v5:=Tryz.zeroValue5
 infoByte:=by kernel_rfl
 cellsByte:=by kernel_rfl
 sizeByte:=by kernel_rfl
 neB5:=by decide }
open Go.RowKit in
theorem Tryz.strings_Join_none (a : Option Addr) (c : Nat) (sep : ByteArray) (w : World) :
  Calls Tryz.prog 18 #[.slice a 0 c,.string sep] w fun e w'=>e=.returned (.string ⟨#[]⟩)∧w'=w:=Any.strings_Join_none Tryz.lays156 Tryz.Builder_Extra_156 a c sep w
open Go.RowKit in
theorem Tryz.strings_Join (bk o c : Nat) (xs : List ByteArray) (sep : ByteArray) (w : World) (hcells : ∀ (j : Nat) x, xs[j]? = some x -> w.cell? ⟨bk, o + j, none⟩ = some (.string x)) (hbk : bk < w.heap.size) (hN : xs.length <= 140737488355328) (hcap : xs.length <= c) (hlen : (Lib.join (xs.map (·.data.toList)) sep.data.toList).length <= 140737488355328) :
  Calls Tryz.prog 18 #[.slice (some ⟨bk,o,none⟩) xs.length c,.string sep] w fun e w'=>e=.returned (.string ⟨(Lib.join (xs.map (·.data.toList)) sep.data.toList).toArray⟩)∧Below w.heap.size w w':=Any.strings_Join Tryz.lays156 Tryz.Builder_Extra_156 bk o c xs sep w hcells hbk hN hcap hlen
def Tryz.lays137_ren:Go.Shelf.Ren:=⟨fun | 137=>113 | 217=>148 | 266=>177 | n=>n,fun | 9=>9 | 5=>5 | 3=>3 | n=>n,fun | n=>n⟩
theorem Tryz.lays137:Go.Proofs.Lays.n137 Tryz.prog Tryz.lays137_ren:={
 mixed:=by kernel_rfl
 f137:=Tryz.func113.trans (congrArg some (by kernel_rfl))
 f217:=Tryz.func148.trans (congrArg some (by kernel_rfl))
 f266:=Tryz.func177.trans (congrArg some (by kernel_rfl))
 t3:=Tryz.underlying3
 a3:=Tryz.isAgg3
 z3:=Tryz.sizeOf3
 v3:=Tryz.zeroValue3
 t5:=Tryz.underlying5
 a5:=Tryz.isAgg5
 z5:=Tryz.sizeOf5
 v5:=Tryz.zeroValue5
 t9:=Tryz.underlying9
 a9:=Tryz.isAgg9
 z9:=Tryz.sizeOf9
 v9:=Tryz.zeroValue9 }
open Go.RowKit in
theorem Tryz.strings_IndexByte (s : ByteArray) (c : Int) (w : World) :
  Calls Tryz.prog 113 #[.string s,.int .u8 c] w fun e w'=>e=.returned (.int .i64 (Lib.indexByte s.data.toList c.toNat.toUInt8))∧w'=w:=Any.strings_IndexByte Tryz.lays137 s c w
open Go.RowKit Go.Lib in
def Tryz.lays151_ren:Go.Shelf.Ren:=⟨fun | 151=>84 | 152=>59 | 137=>113 | 119=>114 | 224=>115 | 225=>116 | 217=>148 | 266=>177 | n=>n,fun | 9=>9 | 21=>21 | 4=>4 | 3=>3 | 5=>5 | 0=>0 | 46=>125 | n=>n,fun | n=>n⟩
theorem Tryz.lays151:Go.Proofs.Lays.n151 Tryz.prog Tryz.lays151_ren:={
 mixed:=by kernel_rfl
 f119:=Tryz.func114.trans (congrArg some (by kernel_rfl))
 f137:=Tryz.func113.trans (congrArg some (by kernel_rfl))
 f151:=Tryz.func84.trans (congrArg some (by kernel_rfl))
 f152:=Tryz.func59.trans (congrArg some (by kernel_rfl))
 f217:=Tryz.func148.trans (congrArg some (by kernel_rfl))
 f224:=Tryz.func115.trans (congrArg some (by kernel_rfl))
 f225:=Tryz.func116.trans (congrArg some (by kernel_rfl))
 f266:=Tryz.func177.trans (congrArg some (by kernel_rfl))
 t0:=Tryz.underlying0
 a0:=Tryz.isAgg0
 z0:=Tryz.sizeOf0
 v0:=Tryz.zeroValue0
 t3:=Tryz.underlying3
 a3:=Tryz.isAgg3
 z3:=Tryz.sizeOf3
 v3:=Tryz.zeroValue3
 t4:=Tryz.underlying4
 a4:=Tryz.isAgg4
 z4:=Tryz.sizeOf4
 v4:=Tryz.zeroValue4
 t5:=Tryz.underlying5
 a5:=Tryz.isAgg5
 z5:=Tryz.sizeOf5
 v5:=Tryz.zeroValue5
 t9:=Tryz.underlying9
 a9:=Tryz.isAgg9
 z9:=Tryz.sizeOf9
 v9:=Tryz.zeroValue9
 t21:=Tryz.underlying21
 a21:=Tryz.isAgg21
 z21:=Tryz.sizeOf21
 v21:=Tryz.zeroValue21
 t46:=Tryz.underlying125
 a46:=Tryz.isAgg125
 z46:=Tryz.sizeOf125
 v46:=Tryz.zeroValue125 }
open Go.RowKit Go.Lib in
theorem Tryz.strings_ContainsRune_ascii (s : ByteArray) (r : Int) (w : World) (h0 : 0 <= r) (h1 : r < 128) :
  Calls Tryz.prog 84 #[.string s,.int .i32 r] w fun e w'=>e=.returned (.bool (decide (0<=Lib.indexByte s.data.toList r.toNat.toUInt8)))∧w'=w:=Any.strings_ContainsRune_ascii Tryz.lays151 s r w h0 h1
end Go.Proofs
namespace Go.Proofs.YtiefjlcakpdfeaaGreat
open Go Go.Sx Go.RowKit Rb
set_option maxRecDepth 100000
structure PS where
 nx:Int
 tx:ByteArray
 pos:Int
def PR.done {α:Type}:PR PS α->Bool | .stuck=>false | _=>true
def PR.isRet {α:Type}:PR PS α->Bool | .ret _ _=>true | _=>false
def PR.st {α:Type}:PR PS α->PS | .ret _ s=>s | _=>⟨0,bs [],0⟩
def PR.pl {α:Type}:PR PS α->Int | .pan a=>a | _=>0
def PR.val {α:Type} (d:α):PR PS α->α | .ret v _=>v | _=>d
def Ql (a:Int):CV:=.ifa 76 [.int .i64 a,.int .i64 4]
def JB:List CV:=[.any,.any,.any,.any]
def qK (s:ByteArray) (p:PS):List CV:=[.str s,.int .i64 p.nx,.str p.tx,.int .i64 p.pos]
def asT {α:Type} (d:α) (enc:α->AV) (s:ByteArray) (x:PR PS α):Tree (Out × List CV) :=
 .need (PR.done x) (.br (PR.isRet x) (.leaf (.ret (enc (PR.val d x)),qK s (PR.st x))) (.leaf (.pan (Ql (PR.pl x)),JB)))
def nxT {α β:Type} (d:α) (x:PR PS α) (K:α->PS->Tree β) (e:Int->Tree β):Tree β :=
 .need (PR.done x) (.br (PR.isRet x) (K (PR.val d x) (PR.st x)) (e (PR.pl x)))
theorem Mj {α : Type} {d : α} {enc : α -> AV} {s : ByteArray} {x : PR PS α} {r : Out × List CV} (h : (asT d enc s x).sel = some r) :
  (∃ v p,x=.ret v p∧r=(.ret (enc v),qK s p))∨(∃ a,x=.pan a∧r=(.pan (Ql a),JB)):=by
 cases x with
 | stuck=>simp [asT,PR.done,Tree.sel] at h
 | ret v p=>simp only [asT,PR.done,PR.isRet,Tree.sel,cond_true,sIq] at h;exact .inl ⟨v,p,rfl,h.symm⟩
 | pan a=>simp only [asT,PR.done,PR.isRet,Tree.sel,cond_true,cond_false,sIq] at h;exact .inr ⟨a,rfl,h.symm⟩
theorem Z2 {α β:Type} {d:α} {v:α} {p:PS} {K:α->PS->Tree β} {e:Int->Tree β}:(nxT d (.ret v p) K e).sel=(K v p).sel:=rfl
def Tells {α:Type} (T:Tree (Out × List CV)) (enc:α->AV) (s:ByteArray):PR PS α->Prop
 | .stuck=>True
 | .ret v p=>∃ z,T.sel=some z∧LeOut z (.ret (enc v),qK s p)
 | .pan a=>∃ z,T.sel=some z∧LeOut z (.pan (Ql a),JB)
theorem LeOut.same_ret {a:AV} {s:ByteArray} {p:PS}:LeOut (.ret a,qK s p) (.ret a,qK s p):=.ret leA.refl LeL.refl rfl
theorem LeOut.same_pan {x:CV}:LeOut (.pan x,JB) (.pan x,JB):=.pan LeL.refl rfl
theorem Tells.of_ret {α:Type} {T:Tree (Out × List CV)} {enc:α->AV} {s:ByteArray} {v:α} {p:PS} (h:T.sel=some (.ret (enc v),qK s p)):Tells T enc s (.ret v p):=⟨_,h,LeOut.same_ret⟩
theorem Tells.of_pan {α:Type} {T:Tree (Out × List CV)} {enc:α->AV} {s:ByteArray} {a:Int} (h:T.sel=some (.pan (Ql a),JB)):Tells T enc s (.pan a):=⟨_,h,LeOut.same_pan⟩
def uOf {α:Type} (d:α) (enc:α->AV) (sp:List A1->ByteArray->PS->PR PS α) (rest:List A1):List CV->Tree (Out × List CV)
 | [.str s,.int .i64 n,.str t,.int .i64 a]=>asT d enc s (sp rest s ⟨n,t,a⟩)
 | _=>.fail
theorem Ba {P : Program} {α : Type} {H : Hd} (hH : HdOk P H) {X : HdP} (hX : XOk P X) (k f : Nat) {d : α} {enc : α -> AV} {sp : List A1 -> ByteArray -> PS -> PR PS α}
  (h:∀ rest s n t a,Tells (qX P H X k f 82 rest [.str s,.int .i64 n,.str t,.int .i64 a]) enc s (sp rest s ⟨n,t,a⟩)):jn P f (localG 82 (uOf d enc sp)) :=
 Oi hH hX k f 82 fun rest cs r hr=>by
  unfold uOf at hr;split at hr
  ·rename_i s n t a;have ht:=h rest s n t a;rcases Mj hr with ⟨v,p,hx,rfl⟩ | ⟨a',hx,rfl⟩
   ·rw [hx] at ht;exact ht
   ·rw [hx] at ht;exact ht
  ·simp [Tree.sel] at hr
def G82:List A1->Option AV
 | [.c (.int .u8 c)]=>some (.one (.c (.bool (kV c))))
 | _=>none
def G83:List A1->Option AV
 | [.c (.int .u8 c)]=>some (.one (.c (.bool (qV c))))
 | _=>none
def Nr:List A1->Option AV
 | [.c (.str s),.c (.int .u8 c)]=>some (.one (.c (.int .i64 (Lib.indexByte s.data.toList c.toNat.toUInt8))))
 | _=>none
theorem jn7:PcOne Tryz.prog 113 Nr:=by
 intro args r h hcl F w vs hargs;unfold Nr at h;split at h
 ·rename_i s c;obtain rfl:=Option.some.inj h;refine ⟨.int .i64 (Lib.indexByte s.data.toList c.toNat.toUInt8),CV.Rel.int _ _,fun w1 hw1 => ?_⟩;cases hargs with
  | cons h1 h2=>cases h2 with
   | cons h2 h3 =>
     cases h3;cases h1;cases h2;refine (Tryz.strings_IndexByte s c w1).mono fun e w2 ⟨he,hw⟩ => ?_;subst hw;exact ⟨he,Below.refl _ _⟩
 ·cases h
noncomputable abbrev h00:Hd:=⟨[],[],[],[]⟩
theorem letter_eq (c:Int):(bif bif le 97 c then le c 122 else false then true else bif le 65 c then le c 90 else false)=kV c:=by
 unfold kV;cases le 97 c<;>cases le c 122<;>cases le 65 c<;>cases le c 90<;>rfl
theorem digit_eq (c:Int):(bif le 48 c then le c 57 else false)=qV c:=by
 unfold qV;cases le 48 c<;>cases le c 57<;>rfl
theorem p82:PcOne Tryz.prog 82 G82:=zW (H:=h00) HdOk.nil 10 82 fun args r h=>by
 unfold G82 at h;split at h
 ·rename_i c;obtain rfl:=Option.some.inj h;exact ⟨rfl,.leaf (.one (.c (.bool (bif bif le 97 c then le c 122 else false then true else bif le 65 c then le c 90 else false)))),by kernel_rfl,congrArg (fun b=>AV.one (.c (.bool b))) (letter_eq c)⟩
 ·cases h
theorem p83:PcOne Tryz.prog 83 G83:=zW (H:=h00) HdOk.nil 10 83 fun args r h=>by
 unfold G83 at h;split at h
 ·rename_i c;obtain rfl:=Option.some.inj h;exact ⟨rfl,.leaf (.one (.c (.bool (bif le 48 c then le c 57 else false)))),by kernel_rfl,congrArg (fun b=>AV.one (.c (.bool b))) (digit_eq c)⟩
 ·cases h
def signs:ByteArray:=bs [123,125,40,41,59,61,60,62,43,45]
def kL (c:Int):Bool:=(signs.data.toList.any fun x=>(x.toNat:Int)==c)
def G84:List A1->Option (Bool × AV)
 | [.c (.str s),.c (.int .i32 r)]=>some (jb s signs&&(le 0 r&&lt r 256),.one (.c (.bool (kL r))))
 | _=>none
noncomputable abbrev HC0:Hd:=⟨[pF 59,pF 114,(113,oG Nr)],[],[],[]⟩
theorem hC0:HdOk Tryz.prog HC0:=((HdOk.nil.pcCons jn7).pF 114).pF 59
abbrev XR:HdP:=⟨[],[],[],[],[],4,[]⟩
noncomputable def t84 (n:Int):Tree AV:=jI Tryz.prog HC0 XR 20 84 [.c (.str signs),.c (.int .i32 n)]
noncomputable def yJ (a k:Nat):Bool:=match (t84 (a+(k:Int))).sel with
 | some (.one (.c (.bool false)))=>!kL (a+(k:Int))
 | _=>false
theorem jlh:(List.range 8).all (yJ 128)=true:=by kernel_rfl
theorem jj7:(List.range 8).all (yJ 136)=true:=by kernel_rfl
theorem jkL:(List.range 8).all (yJ 144)=true:=by kernel_rfl
theorem jks:(List.range 8).all (yJ 152)=true:=by kernel_rfl
theorem jk8:(List.range 8).all (yJ 160)=true:=by kernel_rfl
theorem ji1:(List.range 8).all (yJ 168)=true:=by kernel_rfl
theorem jjv:(List.range 8).all (yJ 176)=true:=by kernel_rfl
theorem jje:(List.range 8).all (yJ 184)=true:=by kernel_rfl
theorem jku:(List.range 8).all (yJ 192)=true:=by kernel_rfl
theorem jiM:(List.range 8).all (yJ 200)=true:=by kernel_rfl
theorem jfQ:(List.range 8).all (yJ 208)=true:=by kernel_rfl
theorem jeo:(List.range 8).all (yJ 216)=true:=by kernel_rfl
theorem jhj:(List.range 8).all (yJ 224)=true:=by kernel_rfl
theorem jgh:(List.range 8).all (yJ 232)=true:=by kernel_rfl
theorem jeB:(List.range 8).all (yJ 240)=true:=by kernel_rfl
theorem jhK:(List.range 8).all (yJ 248)=true:=by kernel_rfl
theorem jnC {a k:Nat} (h:(List.range 8).all (yJ a)=true) (hk:k<8):(t84 (a+(k:Int))).sel=some (.one (.c (.bool (kL (a+(k:Int)))))):=by
 have:=List.all_eq_true.1 h k (by simpa using hk)
 unfold yJ at this;split at this
 ·rename_i hs;have hb:kL (a+(k:Int))=false:=by simpa using this
  rw [hb];exact hs
 ·cases this
theorem jki (n:Int) (h0:128<=n) (h1:n<256):(t84 n).sel=some (.one (.c (.bool (kL n)))):=by
 have key:∀ q:Nat,q<16->(List.range 8).all (yJ (128+8*q))=true:=by
  intro q hq
  match q,hq with
  | 0,_=>exact jlh
  | 1,_=>exact jj7
  | 2,_=>exact jkL
  | 3,_=>exact jks
  | 4,_=>exact jk8
  | 5,_=>exact ji1
  | 6,_=>exact jjv
  | 7,_=>exact jje
  | 8,_=>exact jku
  | 9,_=>exact jiM
  | 10,_=>exact jfQ
  | 11,_=>exact jeo
  | 12,_=>exact jhj
  | 13,_=>exact jgh
  | 14,_=>exact jeB
  | 15,_=>exact jhK
  | q+16,h=>omega
 have e:n=((128+8*((n - 128).toNat / 8):Nat):Int)+(((n - 128).toNat % 8:Nat):Int):=by omega
 have:=jnC (k:=(n - 128).toNat % 8) (key ((n - 128).toNat / 8) (by omega)) (by omega)
 rw [← e] at this;exact this
end Go.Proofs.YtiefjlcakpdfeaaGreat
namespace Go.Sx
open Go Go.RowKit
variable {P:Program}
theorem Oc (T : TypeId) (u : List A1 -> List CV -> Tree (Out × List CV)) (b : Nat) (rest : List A1) (mem : Mem) : localG T u (.c (.ptr b 0) :: rest) mem = match nth mem b with
  | some (some (T',cs))=>if T'==T&&!jf cs&&cs.all closedC&&rest.all jH then (u rest cs).bind fun r=>.leaf (r.1,jl mem b (some (T,r.2))) else .fail
  | _=>.fail:=rfl
theorem LocFn.localG (T:TypeId) (u:List A1->List CV->Tree (Out × List CV)):LocFn (localG T u):=by
 intro b rest M r M' h mem hb;rw [Oc] at h;rw [Oc,hb];split at h
 rotate_left
 ·simp [Tree.sel] at h
 rename_i T' cs hM;split at h
 rotate_left
 ·simp [Tree.sel] at h
 rename_i hc;obtain ⟨y,h1,h2⟩:=jh h;simp only [Tree.sel,sIq,pIq] at h2;obtain ⟨rfl,rfl⟩:=h2;refine ⟨some (T,y.2),rfl,?_⟩;simp only [if_pos hc];rw [JQ h1];rfl
theorem DsRel.empty {F w bs F' w' bs'} {l:List Deferred} (h:DsRel F w bs [] l):DsRel F' w' bs' [] l:=by cases h;exact .nil
def J6 {C:Type} (keep:List Nat) (k0 n:Nat) (get:List (Nat × AV)->Mem->Option C) (s:St):Option C :=
 match s.gc keep k0 with
 | some s'=>if s'.tmps.length==n then (match Qh s' keep with
  | some l=>get l s'.mem
  | none=>none) else none
 | none=>none
theorem Jd {C : Type} {keep : List Nat} {k0 n : Nat} {get : List (Nat × AV) -> Mem -> Option C} {S : C -> St} (hget : ∀ l m c, get l m = some c -> StWk (mkS n l m) (S c)) {s : St} {c : C} (h : J6 keep k0 n get s = some c)
  {D F w bs} {a:Act} (hs:StRel P D F w bs s a):∃ bs',Ext k0 F w bs F w bs'∧k0<=bs'.length∧StRel P D F w bs' (S c) a:=by
 unfold J6 at h;split at h
 ·rename_i s' hg;split at h
  ·rename_i hn;split at h
   ·rename_i l hl;have e:=jiw hg hl;obtain ⟨bs1,he1,hl1,hs2⟩:=hs.gc hg
    have hlen:s.tmps.length=n:=by
     obtain ⟨pm,_,_,_,rfl⟩:=NS hg;simpa [Qg] using hn
    rw [hlen] at e;rw [e] at hs2;exact ⟨bs1,he1,hl1,hget l _ c h _ _ _ _ _ _ hs2⟩
   ·simp at h
  ·simp at h
 ·simp at h
def closedX:XP->Bool
 | .pan x=>closedC x
 | _=>true
theorem XRel.closedX {F w bs bs'} {x:XP} {e:Exit} (h:XRel F w bs x e) (hc:closedX x=true):XRel F w bs' x e:=by
 cases x with
 | pan z=>obtain ⟨v,rfl,hv⟩:=h;exact ⟨v,rfl,hv.closed hc⟩
 | normal=>exact h
 | ret=>exact h
 | exit _=>exact h
 | goto _=>exact h
def CoreOk (P:Program) (f i k0:Nat) {C D:Type} (S:C->St) (E:D->St) (g:C->Tree (XP × D)):Prop :=
 ∀ fn c b,P.funcs[f]? = some fn->fn.body=some c->je c i=some b->∀ c0 x,(g c0).sel=some x->∃ N,∀ (F:Nat->Prop) (w:World) (bs:List BI) (a:Act),k0<=bs.length->PRel P F w bs ⟨S c0,[]⟩ a->∀ Q:Exit->Act->World->Prop,
  (∀ F' w' bs' a' e,Ext k0 F w bs F' w' bs'->PRel P F' w' bs' ⟨E x.2,[]⟩ a'->XRel F' w' bs' x.1 e->Q e a' w')->Code.rounds P b Q N a w
structure Frame (C D:Type) where
 k0:Nat
 n:Nat
 keep:List Nat
 get:List (Nat × AV)->Mem->Option C
 S:C->St
 keepE:List Nat
 getE:List (Nat × AV)->Mem->Option D
 E:D->St
structure Frame.Ok {C D:Type} (A:Frame C D):Prop where
 get:∀ l m c,A.get l m=some c->StWk (mkS A.n l m) (A.S c)
 getE:∀ l m c,A.getE l m=some c->StWk (mkS A.n l m) (A.E c)
theorem Frame.Ok.of_eq {C D:Type} {A:Frame C D} (h1:∀ l m c,A.get l m=some c->mkS A.n l m=A.S c) (h2:∀ l m c,A.getE l m=some c->mkS A.n l m=A.E c):A.Ok :=
 ⟨fun l m c h=>h1 l m c h▸StWk.refl,fun l m c h=>h2 l m c h▸StWk.refl⟩
def ju {C D:Type} (A:Frame C D) (P:Program) (H:Hd) (X:HdP) (d f i:Nat) (g:C->Tree (XP × D)) (c:C):Tree (XP × D) :=
 (j5 P H X (jU P H d) (zM P H X d) f A.k0 (i+1) (qn P f i) ⟨A.S c,[]⟩).bind fun y=>if y.2.dl.isEmpty&&closedX y.1 then (match y.1 with
  | .normal=>(match J6 A.keep A.k0 A.n A.get y.2.s with
   | some c'=>g c'
   | none=>.fail)
  | e=>(match J6 A.keepE A.k0 A.n A.getE y.2.s with
   | some r=>.leaf (e,r)
   | none=>.fail)) else .fail
theorem CoreOk.fail {f i k0:Nat} {C D:Type} {S:C->St} {E:D->St}:CoreOk P f i k0 S E fun _=>.fail:=fun _ _ _ _ _ _ _ _ h=>by simp [Tree.sel] at h
theorem CoreOk.le {f i k0:Nat} {C D:Type} {S:C->St} {E:D->St} {g g':C->Tree (XP × D)} (h:CoreOk P f i k0 S E g) (hl:∀ c x,(g' c).sel=some x->(g c).sel=some x):CoreOk P f i k0 S E g' :=
 fun fn c b h1 h2 h3 c0 x hx=>h fn c b h1 h2 h3 c0 x (hl c0 x hx)
theorem CoreOk.round {C D:Type} {A:Frame C D} (hA:A.Ok) {H:Hd} (hH:HdOk P H) {X:HdP} (hX:XOk P X) (d:Nat) {f i:Nat} {g:C->Tree (XP × D)} (h:CoreOk P f i A.k0 A.S A.E g):CoreOk P f i A.k0 A.S A.E (ju A P H X d f i g):=by
 intro fn c b hf hc hb c0 x hx
 have hlb:qn P f i=b:=by
  unfold qn;rw [jd];simp only [Array.getElem?_toList,hf,hc,hb]
 unfold ju at hx;rw [hlb] at hx;obtain ⟨⟨y,s'⟩,h1,h2⟩:=jh hx;simp only at h2;split at h2
 rotate_left
 ·simp [Tree.sel] at h2
 rename_i hcond;rw [aTq] at hcond;obtain ⟨hdl,hcl⟩:=hcond;obtain ⟨s',dl⟩:=s';have hd:=List.isEmpty_iff.1 hdl;simp only at hd;subst hd
 have go : ∀ N, (∀ (F : Nat -> Prop) (w : World) (bs : List BI) (a : Act), A.k0 <= bs.length -> PRel P F w bs ⟨s', []⟩ a -> ∀ Q : Exit -> Act -> World -> Prop,
   (∀ F' w' bs' a' e,Ext A.k0 F w bs F' w' bs'->PRel P F' w' bs' ⟨A.E x.2,[]⟩ a'->XRel F' w' bs' x.1 e->Q e a' w')->∀ e,XRel F w bs y e->Exit.then (Code.rounds P b Q N) Q e a w) ->
   ∃ N,∀ (F:Nat->Prop) (w:World) (bs:List BI) (a:Act),A.k0<=bs.length->PRel P F w bs ⟨A.S c0,[]⟩ a->∀ Q:Exit->Act->World->Prop,
    (∀ F' w' bs' a' e,Ext A.k0 F w bs F' w' bs'->PRel P F' w' bs' ⟨A.E x.2,[]⟩ a'->XRel F' w' bs' x.1 e->Q e a' w')->Code.rounds P b Q N a w:=by
  intro N hN;refine ⟨N+1,fun F w bs a hK hs Q hQ => ?_⟩;rw [rounds_succ];refine ki hH.pc hX.rx hX.nc (zu hH d) (yu hH hX d) f A.k0 b (i+1) ⟨A.S c0,[]⟩ h1 (fun j b' h' hj hk=>hH.lh f fn c (i+1+j) b' h' hf hc (qL hb hj) hk) (fun j b' h' hj hk=>hX.lx f fn c (i+1+j) b' h' hf hc (qL hb hj) hk) (fun b' h' hj hk=>hX.sx f fn c b' h' hf hc (LxOne.round.scopes_loop hb hj) hk) hK hs fun F' w' bs' a' e he hs' hx' => ?_;exact hN F' w' bs' a' (he.le hK) hs' Q (fun F'' w'' bs'' a'' e' he' hs'' hx''=>hQ F'' w'' bs'' a'' e' (he.trans he' (lRq _)) hs'' hx'') e hx'
 have stop : ∀ {e0 : XP} {r : D}, J6 A.keepE A.k0 A.n A.getE s' = some r -> x = (e0, r) -> y = e0 -> (∀ {F w bs} {e : Exit} {a : Act} {Q : Exit -> Act -> World -> Prop} {N : Nat}, XRel F w bs e0 e -> Q e a w -> Exit.then (Code.rounds P b Q N) Q e a w) -> ∃ N, ∀ (F : Nat -> Prop) (w : World) (bs : List BI) (a : Act), A.k0 <= bs.length -> PRel P F w bs ⟨A.S c0, []⟩ a -> ∀ Q : Exit -> Act -> World -> Prop,
    (∀ F' w' bs' a' e,Ext A.k0 F w bs F' w' bs'->PRel P F' w' bs' ⟨A.E x.2,[]⟩ a'->XRel F' w' bs' x.1 e->Q e a' w')->Code.rounds P b Q N a w:=by
  intro e0 r hr hxe hy hthen;subst hxe;subst hy;refine go 0 fun F w bs a hK hs Q hQ e he => ?_;obtain ⟨bs1,he1,hl1,hs2⟩:=Jd hA.getE hr hs.st;exact hthen he (hQ F w bs1 a e he1 ⟨hs2,DsRel.empty hs.ds⟩ (he.closedX hcl))
 cases y with
 | normal =>
   simp only at h2;split at h2
   ·rename_i c' hc';obtain ⟨N,hN⟩:=h fn c b hf hc hb c' x h2;refine go N fun F w bs a hK hs Q hQ e he => ?_;cases he;obtain ⟨bs1,he1,hl1,hs2⟩:=Jd hA.get hc' hs.st;exact hN F w bs1 a hl1 ⟨hs2,DsRel.empty hs.ds⟩ Q fun F' w' bs' a' e' he' hs' hx'=>hQ F' w' bs' a' e' (he1.trans he' (lRq _)) hs' hx'
   ·simp [Tree.sel] at h2
 | exit k =>
   simp only at h2;split at h2
   ·rename_i r hr;simp only [Tree.sel,sIq] at h2;exact stop hr h2.symm rfl fun he hq=>by cases he;exact hq
   ·simp [Tree.sel] at h2
 | ret =>
   simp only at h2;split at h2
   ·rename_i r hr;simp only [Tree.sel,sIq] at h2;exact stop hr h2.symm rfl fun he hq=>by cases he;exact hq
   ·simp [Tree.sel] at h2
 | pan z =>
   simp only at h2;split at h2
   ·rename_i r hr;simp only [Tree.sel,sIq] at h2;exact stop hr h2.symm rfl fun he hq=>by obtain ⟨v,rfl,hv⟩:=he;exact hq
   ·simp [Tree.sel] at h2
 | goto l =>
   simp only at h2;split at h2
   ·rename_i r hr;simp only [Tree.sel,sIq] at h2;exact stop hr h2.symm rfl fun he hq=>by cases he;exact hq
   ·simp [Tree.sel] at h2
theorem CoreOk.fuel {C D : Type} {A : Frame C D} (hA : A.Ok) {H : Hd} (hH : HdOk P H) {X : HdP} (hX : XOk P X) (d : Nat) {f i : Nat} {g : Nat -> C -> Tree (XP × D)} (h0 : ∀ c, (g 0 c).sel = none)
  (hs:∀ k c x,(g (k+1) c).sel=some x->(ju A P H X d f i (g k) c).sel=some x):∀ k,CoreOk P f i A.k0 A.S A.E (g k)
 | 0=>CoreOk.fail.le fun c x h=>by rw [h0] at h;cases h
 | k+1=>(CoreOk.round hA hH hX d (CoreOk.fuel hA hH hX d h0 hs k)).le (hs k)
def j4 {C D:Type} (A:Frame C D) (g:C->Tree (XP × D)) (K:Nat) (s:St):Tree (XP × St) :=
 if Nat.ble K A.k0 then (match J6 A.keep A.k0 A.n A.get s with
  | some c=>(g c).bind fun x=>.leaf (x.1,A.E x.2)
  | none=>.fail) else .fail
theorem CoreOk.lx {C D:Type} {A:Frame C D} (hA:A.Ok) {f i:Nat} {g:C->Tree (XP × D)} (h:CoreOk P f i A.k0 A.S A.E g):LxOne P f i (j4 A g):=by
 intro fn c b hf hc hb K s x hx;unfold j4 at hx;split at hx
 rotate_left
 ·simp [Tree.sel] at hx
 rename_i hK;have hK:=Nat.ble_eq.mp hK;split at hx
 rotate_left
 ·simp [Tree.sel] at hx
 rename_i c0 hc0;obtain ⟨y,h1,h2⟩:=jh hx;simp only [Tree.sel,sIq] at h2;subst h2;obtain ⟨N,hN⟩:=h fn c b hf hc hb c0 y h1;refine ⟨N,fun F w bs a hKb hs Q hQ => ?_⟩;obtain ⟨bs1,he1,hl1,hs2⟩:=Jd hA.get hc0 hs.st;exact hN F w bs1 a hl1 ⟨hs2,DsRel.empty hs.ds⟩ Q fun F' w' bs' a' e' he' hs' hx'=>hQ F' w' bs' a' e' ((he1.trans he' (lRq _)).weak hK) hs' hx'
def PassCore (P:Program) (f l k0:Nat) {C D:Type} (S:C->St) (E:D->St) (g:C->Tree (XP × D)):Prop :=
 ∀ fn c0 c n rest,P.funcs[f]? = some fn->fn.body=some c0->j3 c0 0=some (c,n)->findLabel c l=some rest ->
  ∀ s0 x,(g s0).sel=some x->∃ N,∀ (F:Nat->Prop) (w:World) (bs:List BI) (a:Act),k0<=bs.length->PRel P F w bs ⟨S s0,[]⟩ a->∀ Q:Exit->Act->World->Prop,
   (∀ F' w' bs' a' e,Ext k0 F w bs F' w' bs'->PRel P F' w' bs' ⟨E x.2,[]⟩ a'->XRel F' w' bs' x.1 e->Q e a' w')->Ya P l rest Q N a w
def UY {C D:Type} (A:Frame C D) (l:Nat) (g:C->Tree (XP × D)) (y:XP × StP):Tree (XP × D) :=
 if y.2.dl.isEmpty&&closedX y.1 then (match y.1 with
  | .goto l'=>if l'==l then (match J6 A.keep A.k0 A.n A.get y.2.s with
   | some c'=>g c'
   | none=>.fail) else .fail
  | e=>(match J6 A.keepE A.k0 A.n A.getE y.2.s with
   | some r=>.leaf (e,r)
   | none=>.fail)) else .fail
def U6 {C D:Type} (A:Frame C D) (P:Program) (H:Hd) (X:HdP) (d f l:Nat) (g:C->Tree (XP × D)) (c:C):Tree (XP × D) :=
 (j5 P H X (jU P H d) (zM P H X d) f A.k0 (Xg P f l).2 (Xg P f l).1 ⟨A.S c,[]⟩).bind (UY A l g)
theorem PassCore.fail {f l k0:Nat} {C D:Type} {S:C->St} {E:D->St}:PassCore P f l k0 S E fun _=>.fail:=fun _ _ _ _ _ _ _ _ _ _ _ h=>by simp [Tree.sel] at h
theorem PassCore.le {f l k0:Nat} {C D:Type} {S:C->St} {E:D->St} {g g':C->Tree (XP × D)} (h:PassCore P f l k0 S E g) (hl:∀ c x,(g' c).sel=some x->(g c).sel=some x):PassCore P f l k0 S E g' :=
 fun fn c0 c n rest h1 h2 h3 h4 s0 x hx=>h fn c0 c n rest h1 h2 h3 h4 s0 x (hl s0 x hx)
theorem Dm {C D : Type} {A : Frame C D} (hA : A.Ok) {l : Nat} {rest : Code} {g : C -> Tree (XP × D)}
  (hg:∀ s0 x,(g s0).sel=some x->∃ N,∀ (F:Nat->Prop) (w:World) (bs:List BI) (a:Act),A.k0<=bs.length->PRel P F w bs ⟨A.S s0,[]⟩ a->∀ Q:Exit->Act->World->Prop,
   (∀ F' w' bs' a' e,Ext A.k0 F w bs F' w' bs'->PRel P F' w' bs' ⟨A.E x.2,[]⟩ a'->XRel F' w' bs' x.1 e->Q e a' w')->Ya P l rest Q N a w)
  {c:Code} {s:St} {t:Tree (XP × StP)} {x:XP × D} (hx:(t.bind (UY A l g)).sel=some x)
  (hc:∀ y,t.sel=some y->∀ (F:Nat->Prop) (w:World) (bs:List BI) (a:Act),A.k0<=bs.length->PRel P F w bs ⟨s,[]⟩ a->∀ Q:Exit->Act->World->Prop,
   (∀ F' w' bs' a' e,Ext A.k0 F w bs F' w' bs'->PRel P F' w' bs' y.2 a'->XRel F' w' bs' y.1 e->Q e a' w')->c.wp P Q a w) :
  ∃ N,∀ (F:Nat->Prop) (w:World) (bs:List BI) (a:Act),A.k0<=bs.length->PRel P F w bs ⟨s,[]⟩ a->∀ Q:Exit->Act->World->Prop,
   (∀ F' w' bs' a' e,Ext A.k0 F w bs F' w' bs'->PRel P F' w' bs' ⟨A.E x.2,[]⟩ a'->XRel F' w' bs' x.1 e->Q e a' w')->c.wp P (Exit.jump l (Ya P l rest Q N) Q) a w:=by
 obtain ⟨⟨y,s'⟩,h1,h2⟩:=jh hx;unfold UY at h2;split at h2
 rotate_left
 ·simp [Tree.sel] at h2
 rename_i hcond;rw [aTq] at hcond;obtain ⟨hdl,hcl⟩:=hcond;obtain ⟨s',dl⟩:=s';have hd:=List.isEmpty_iff.1 hdl;simp only at hd;subst hd
 have go : ∀ N, (∀ (F : Nat -> Prop) (w : World) (bs : List BI) (a : Act), A.k0 <= bs.length -> PRel P F w bs ⟨s', []⟩ a -> ∀ Q : Exit -> Act -> World -> Prop,
   (∀ F' w' bs' a' e,Ext A.k0 F w bs F' w' bs'->PRel P F' w' bs' ⟨A.E x.2,[]⟩ a'->XRel F' w' bs' x.1 e->Q e a' w')->∀ e,XRel F w bs y e->Exit.jump l (Ya P l rest Q N) Q e a w) ->
   ∃ N,∀ (F:Nat->Prop) (w:World) (bs:List BI) (a:Act),A.k0<=bs.length->PRel P F w bs ⟨s,[]⟩ a->∀ Q:Exit->Act->World->Prop,
    (∀ F' w' bs' a' e,Ext A.k0 F w bs F' w' bs'->PRel P F' w' bs' ⟨A.E x.2,[]⟩ a'->XRel F' w' bs' x.1 e->Q e a' w')->c.wp P (Exit.jump l (Ya P l rest Q N) Q) a w:=by
  intro N hN
  exact ⟨N,fun F w bs a hK hs Q hQ=>hc _ h1 F w bs a hK hs _ fun F' w' bs' a' e he hs' hx' =>
   hN F' w' bs' a' (he.le hK) hs' Q (fun F'' w'' bs'' a'' e' he' hs'' hx''=>hQ F'' w'' bs'' a'' e' (he.trans he' (lRq _)) hs'' hx'') e hx'⟩
 have stop : ∀ {e0 : XP} {r : D}, J6 A.keepE A.k0 A.n A.getE s' = some r -> x = (e0, r) -> y = e0 -> (∀ {F w bs} {e : Exit} {a : Act} {Q : Exit -> Act -> World -> Prop} {N : Nat}, XRel F w bs e0 e -> Q e a w -> Exit.jump l (Ya P l rest Q N) Q e a w) -> ∃ N, ∀ (F : Nat -> Prop) (w : World) (bs : List BI) (a : Act), A.k0 <= bs.length -> PRel P F w bs ⟨s, []⟩ a -> ∀ Q : Exit -> Act -> World -> Prop,
    (∀ F' w' bs' a' e,Ext A.k0 F w bs F' w' bs'->PRel P F' w' bs' ⟨A.E x.2,[]⟩ a'->XRel F' w' bs' x.1 e->Q e a' w')->c.wp P (Exit.jump l (Ya P l rest Q N) Q) a w:=by
  intro e0 r hr hxe hy hthen;subst hxe;subst hy;refine go 0 fun F w bs a hK hs Q hQ e he => ?_;obtain ⟨bs1,he1,hl1,hs2⟩:=Jd hA.getE hr hs.st;exact hthen he (hQ F w bs1 a e he1 ⟨hs2,DsRel.empty hs.ds⟩ (he.closedX hcl))
 cases y with
 | normal =>
   simp only at h2;split at h2
   ·rename_i r hr;simp only [Tree.sel,sIq] at h2;exact stop hr h2.symm rfl fun he hq=>by cases he;exact hq
   ·simp [Tree.sel] at h2
 | exit k =>
   simp only at h2;split at h2
   ·rename_i r hr;simp only [Tree.sel,sIq] at h2;exact stop hr h2.symm rfl fun he hq=>by cases he;exact hq
   ·simp [Tree.sel] at h2
 | ret =>
   simp only at h2;split at h2
   ·rename_i r hr;simp only [Tree.sel,sIq] at h2;exact stop hr h2.symm rfl fun he hq=>by cases he;exact hq
   ·simp [Tree.sel] at h2
 | pan z =>
   simp only at h2;split at h2
   ·rename_i r hr;simp only [Tree.sel,sIq] at h2;exact stop hr h2.symm rfl fun he hq=>by obtain ⟨v,rfl,hv⟩:=he;exact hq
   ·simp [Tree.sel] at h2
 | goto l' =>
   simp only at h2;split at h2
   rotate_left
   ·simp [Tree.sel] at h2
   rename_i e;have e:=eq_of_beq e;subst e;split at h2
   ·rename_i c' hc';obtain ⟨N,hN⟩:=hg c' x h2;refine go N fun F w bs a hK hs Q hQ e he => ?_;cases he;obtain ⟨bs1,he1,hl1,hs2⟩:=Jd hA.get hc' hs.st;exact ⟨rfl,hN F w bs1 a hl1 ⟨hs2,DsRel.empty hs.ds⟩ Q fun F' w' bs' a' e' he' hs' hx'=>hQ F' w' bs' a' e' (he1.trans he' (lRq _)) hs' hx'⟩
   ·simp [Tree.sel] at h2
theorem PassCore.pass {C D:Type} {A:Frame C D} (hA:A.Ok) {H:Hd} (hH:HdOk P H) {X:HdP} (hX:XOk P X) (d:Nat) {f l:Nat} {g:C->Tree (XP × D)} (h:PassCore P f l A.k0 A.S A.E g):PassCore P f l A.k0 A.S A.E (U6 A P H X d f l g):=by
 intro fn c0 c n rest hf hc hsc hl s0 x hx
 have hbody:zL P f=(c,n):=by
  unfold zL;rw [jd];simp only [Array.getElem?_toList,hf,hc,hsc]
 have hrest:Xg P f l=(rest,n+y7 l c):=by
  unfold Xg;simp only [hbody,hl]
 unfold U6 at hx;rw [hrest] at hx;obtain ⟨_,hlp,hm,hm2⟩:=zT hsc
 have hlp':∀ i b,je rest i=some b->je c0 (n+y7 l c+i)=some b:=fun i b hb=>by
  have:=hlp _ b (Kw hl hb)
  rwa [show n - 0+(y7 l c+i)=n+y7 l c+i by omega] at this
 obtain ⟨N,hN⟩:=Dm hA (c:=rest) (s:=A.S s0) (h fn c0 c n rest hf hc hsc hl) hx fun y hy F w bs a hK hs Q hQ =>
  ki hH.pc hX.rx hX.nc (zu hH d) (yu hH hX d) f A.k0 rest (n+y7 l c) ⟨A.S s0,[]⟩ hy (fun j b' h' hj hk=>hH.lh f fn c0 _ b' h' hf hc (hlp' j b' hj) hk) (fun j b' h' hj hk=>hX.lx f fn c0 _ b' h' hf hc (hlp' j b' hj) hk) (fun b' h' hj hk=>hX.sx f fn c0 b' h' hf hc (hm2 _ (Xs hl hj)) hk) hK hs hQ
 exact ⟨N+1,hN⟩
theorem PassCore.fuel {C D : Type} {A : Frame C D} (hA : A.Ok) {H : Hd} (hH : HdOk P H) {X : HdP} (hX : XOk P X) (d : Nat) {f l : Nat} {g : Nat -> C -> Tree (XP × D)} (h0 : ∀ c, (g 0 c).sel = none)
  (hs:∀ k c x,(g (k+1) c).sel=some x->(U6 A P H X d f l (g k) c).sel=some x):∀ k,PassCore P f l A.k0 A.S A.E (g k)
 | 0=>PassCore.fail.le fun c x h=>by rw [h0] at h;cases h
 | k+1=>(PassCore.pass hA hH hX d (PassCore.fuel hA hH hX d h0 hs k)).le (hs k)
def Uc {B C D:Type} (A:Frame C D) (Z:Frame B D) (P:Program) (H:Hd) (X:HdP) (d f l:Nat) (g:C->Tree (XP × D)) (b:B):Tree (XP × D) :=
 (j5 P H X (jU P H d) (zM P H X d) f A.k0 (zL P f).2 (zL P f).1 ⟨Z.S b,[]⟩).bind (UY A l g)
theorem SxOne.core {B C D : Type} {A : Frame C D} {Z : Frame B D} (hA : A.Ok) (hZ : Z.Ok) (hk : Z.k0 = A.k0) (hE : Z.E = A.E) {H : Hd} (hH : HdOk P H) {X : HdP} (hX : XOk P X) (d : Nat) {f l : Nat} {g : C -> Tree (XP × D)} (h : PassCore P f l A.k0 A.S A.E g) {u : B -> Tree (XP × D)}
  (hu:∀ b x,(u b).sel=some x->(Uc A Z P H X d f l g b).sel=some x)
  (h1:((nth P.funcs.toList f).bind fun fn=>fn.body.map fun c=>(jv c).length)=some 1) (h2:(findLabel (zL P f).1 l).isSome=true):SxOne P f (j4 Z u):=by
 intro fn c0 b hf hc hb K s x hx F w bs a hKb hs Q hQ
 have hlen:(jv c0).length=1:=by
  rw [jd] at h1;simpa [Array.getElem?_toList,hf,hc] using h1
 obtain ⟨rest,hl⟩:=Option.isSome_iff_exists.1 h2;unfold j4 at hx;split at hx
 rotate_left
 ·simp [Tree.sel] at hx
 rename_i hK;have hK:=Nat.ble_eq.mp hK;split at hx
 rotate_left
 ·simp [Tree.sel] at hx
 rename_i b0 hb0;obtain ⟨y,hy1,hy2⟩:=jh hx;simp only [Tree.sel,sIq] at hy2;subst hy2;have hy1:=hu b0 y hy1;obtain ⟨bs1,he1,hl1,hs2⟩:=Jd hZ.get hb0 hs.st;rw [hk] at hl1 he1 hK;cases hsc:j3 c0 0 with
 | none =>
   have hbody:zL P f=(.skip,0):=by
    unfold zL;rw [jd];simp only [Array.getElem?_toList,hf,hc,hsc]
   rw [hbody] at hl;simp [findLabel] at hl
 | some r =>
   obtain ⟨c,n⟩:=r
   have hbody:zL P f=(c,n):=by
    unfold zL;rw [jd];simp only [Array.getElem?_toList,hf,hc,hsc]
   rw [hbody] at hl;unfold Uc at hy1;rw [hbody] at hy1;obtain ⟨_,hlp,hm,hm2⟩:=zT hsc
   have hbc:b=c:=by
    cases hS:jv c0 with
    | nil=>rw [hS] at hlen;simp at hlen
    | cons y r =>
      rw [hS] at hlen hm hb
      have:r=[]:=List.length_eq_zero_iff.1 (by simpa using hlen)
      subst this;simp only [List.mem_cons,List.not_mem_nil,or_false] at hm hb;rw [hm,hb]
   subst hbc
   have hlp':∀ i b',je b i=some b'->je c0 (n+i)=some b':=fun i b' hb'=>by
    have:=hlp _ b' hb'
    rwa [show n - 0+i=n+i by omega] at this
   obtain ⟨N,hN⟩:=Dm hA (c:=b) (s:=Z.S b0) (h fn c0 b n rest hf hc hsc hl) hy1 fun y hy F w bs a hK hs Q hQ =>
    ki hH.pc hX.rx hX.nc (zu hH d) (yu hH hX d) f A.k0 b n ⟨Z.S b0,[]⟩ hy (fun j b' h' hj hk=>hH.lh f fn c0 _ b' h' hf hc (hlp' j b' hj) hk) (fun j b' h' hj hk=>hX.lx f fn c0 _ b' h' hf hc (hlp' j b' hj) hk) (fun b' h' hj hk=>hX.sx f fn c0 b' h' hf hc (hm2 _ hj) hk) hK hs hQ
   refine jeW hl (hN F w bs1 a hl1 ⟨hs2,DsRel.empty hs.ds⟩ Q fun F' w' bs' a' e' he' hs' hx'=>hQ F' w' bs' a' e' ((he1.trans he' (lRq _)).weak hK) ?_ hx');rw [hE];exact hs'
end Go.Sx