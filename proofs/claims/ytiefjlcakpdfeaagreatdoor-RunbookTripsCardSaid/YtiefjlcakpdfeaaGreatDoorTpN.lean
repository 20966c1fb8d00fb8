/-
 Part TpN of the proof: EngW EngY EngZ RolA EngU EngMc RolB RolC RolD RolE.
-/
import Derived.Test.YtiefjlcakpdfeaaGreatDoorTpM
import Derived.Laws.Cover3
import Derived.Test.YtiefjlcakpdfeaaGreatDoorRows
namespace Go.Sx
open Go Go.RowKit Classical
def nG (G:List A1->Option (Bool × AV)) (args:List A1):Tree AV :=
 match G args with
 | some (p,r)=>.need p (.leaf r)
 | none=>.fail
theorem zG {G:List A1->Option (Bool × AV)} {args:List A1} {r:AV} (h:(nG G args).sel=some r):G args=some (true,r):=by
 unfold nG at h;split at h
 ·rename_i p x hx;simp only [Tree.sel] at h;cases p<;>simp at h;rw [hx,h]
 ·simp [Tree.sel] at h
theorem TU {P : Program} {H : Hd} (hH : HdOk P H) (n f : Nat) {G : List A1 -> Option (Bool × AV)}
  (h:∀ args r,G args=some (true,r)->(Kp r).isSome=true∧(jZ P H n f args []).All (fun y=>y.1=r)):TcOne P f (nG G):=by
 intro args r hG hcl;have hs:=zG hG
 exact VB (G:=fun a=>if a=args then some r else none) hH n f (fun a r' ha=>by
  split at ha
  ·rename_i e;subst e;simp at ha;subst ha;exact h a r hs
  ·cases ha) args r (by simp) hcl
theorem zF {P : Program} {H : Hd} (hH : HdOk P H) (n f : Nat) {G : List A1 -> Option (Bool × AV)}
  (h:∀ args r,G args=some (true,r)->(qf P H n f args).All (fun x=>leA x r)):jo P f (nG G):=by
 intro args r hG hcl;have hs:=zG hG
 exact FY (G:=fun a=>if a=args then some r else none) hH n f (fun a r' ha=>by
  split at ha
  ·rename_i e;subst e;simp at ha;subst ha;exact h a r hs
  ·cases ha) args r (by simp) hcl
theorem W4 {α β:Type} {Q:β->Prop} {f:α->Tree β}:∀ {t:Tree α},(t.bind f).All Q↔t.All (fun a=>(f a).All Q)
 | .leaf _=>Iff.rfl
 | .br _ _ _=>and_congr (imp_congr_right fun _=>W4) (imp_congr_right fun _=>W4)
 | .need _ _=>and_congr_right fun _=>W4
 | .fail=>Iff.rfl
theorem All.imp {α:Type} {Q R:α->Prop} (h:∀ a,Q a->R a):∀ {t:Tree α},t.All Q->t.All R
 | .leaf _,k=>h _ k
 | .br _ _ _,⟨k1,k2⟩=>⟨fun hc=>All.imp h (k1 hc),fun hc=>All.imp h (k2 hc)⟩
 | .need _ _,⟨k1,k2⟩=>⟨k1,All.imp h k2⟩
 | .fail,k=>k.elim
def Tree.vals (t:Tree (AV × Mem)):Tree AV:=t.bind fun y=>.leaf y.1
theorem DC {Q:AV->Prop} {t:Tree (AV × Mem)} (h:t.vals.All Q):t.All (fun y=>Q y.1):=W4.1 h
theorem qv {P : Program} {H : Hd} (hH : HdOk P H) (n f : Nat) {G : List A1 -> Option (Bool × AV)}
  (h:∀ args r,G args=some (true,r)->(Kp r).isSome=true∧∃ u,(jZ P H n f args []).vals=u∧u.All (fun z=>z=r)):TcOne P f (nG G) :=
 TU hH n f fun args r hG=>by
  obtain ⟨h1,u,h2,h3⟩:=h args r hG;exact ⟨h1,DC (Q:=fun z=>z=r) (h2▸h3)⟩
theorem Ji {P : Program} {H : Hd} (hH : HdOk P H) (n f : Nat) {G : List A1 -> Option AV}
  (h:∀ args r,G args=some r->(Kp r).isSome=true∧∃ u,(jZ P H n f args []).vals=u∧u.All (fun z=>z=r)):PcOne P f G :=
 VB hH n f fun args r hG=>by
  obtain ⟨h1,u,h2,h3⟩:=h args r hG;exact ⟨h1,DC (Q:=fun z=>z=r) (h2▸h3)⟩
theorem jV {P : Program} {H : Hd} (hH : HdOk P H) (n f : Nat) {G : List A1 -> Option (Bool × AV)}
  (h:∀ args r,G args=some (true,r)->∃ u,qf P H n f args=u∧u.All (fun z=>leA z r)):jo P f (nG G) :=
 zF hH n f fun args r hG=>by
  obtain ⟨u,h2,h3⟩:=h args r hG;exact h2▸h3
def jU (bad:Nat->Bool):Nat->Bool
 | 0=>false
 | n+1=>jU bad n||bad n
theorem QR {bad:Nat->Bool}:∀ {n:Nat},jU bad n=true↔∃ i,i<n∧bad i=true
 | 0=>by simp [jU]
 | n + 1 => by
   simp only [jU,Bool.or_eq_true,QR (n:=n)];constructor
   ·rintro (⟨i,h1,h2⟩ | h)
    ·exact ⟨i,by omega,h2⟩
    ·exact ⟨n,by omega,h⟩
   ·rintro ⟨i,h1,h2⟩
    rcases Nat.lt_or_eq_of_le (Nat.le_of_lt_succ h1) with h | rfl
    ·exact .inl ⟨i,h,h2⟩
    ·exact .inr h2
theorem V2 {bad:Nat->Bool} {n:Nat} (h:∀ i,i<n->bad i=false):jU bad n=false:=by
 rw [Bool.eq_false_iff];intro hh;obtain ⟨i,h1,h2⟩:=QR.1 hh;rw [h i h1] at h2;cases h2
end Go.Sx
namespace Go.Sx
open Go Go.RowKit
variable {P:Program}
def shC (k:Nat):CV->CV
 | .ptr b o=>.ptr (k+b) o
 | .os b sz=>.os (k+b) sz
 | .ost b sz lo=>.ost (k+b) sz lo
 | .osh b sz m=>.osh (k+b) sz m
 | .oc b m c=>.oc (k+b) m c
 | .rowp b sz i off=>.rowp (k+b) sz i off
 | .fn f a c=>.fn f (shCs k a) (shCs k c)
 | .iface t v=>.iface t (shC k v)
 | .ifa t l=>.ifa t (shCs k l)
 | .yld b=>.yld (k+b)
 | .mp ks vs=>.mp ks (shCs k vs)
 | x=>x
 where shCs (k:Nat):List CV->List CV
 | []=>[]
 | a::l=>shC k a::shCs k l
def sh1 (k:Nat):A1->A1
 | .c x=>.c (shC k x)
 | .agg l=>.agg (l.map (shC k))
def shA (k:Nat):AV->AV
 | .any=>.any
 | .one a=>.one (sh1 k a)
 | .tup l=>.tup (l.map (sh1 k))
def shE (k:Nat):Option (TypeId × List CV)->Option (TypeId × List CV)
 | some (T,cs)=>some (T,cs.map (shC k))
 | none=>none
theorem yp {α:Type} (l r:List α) (b:Nat):nth (l++r) (l.length+b)=nth r b:=by
 rw [jd,jd,List.getElem?_append_right (by omega)]
 congr 1;omega
theorem Lm {F:Nat->Prop} {w:World} {bs bs':List BI} {x:CV} {v:Value} (h:CV.Rel F w bs' x v):CV.Rel F w (bs++bs') (shC bs.length x) v:=by
 have hcs:∀ (l:List CV) (i:Nat) (x:CV),nth (shC.shCs bs.length l) i=some x->∃ y,nth l i=some y∧x=shC bs.length y:=by
  intro l
  induction l with
  | nil=>intro i x h;simp [shC.shCs,nth] at h
  | cons a l ih =>
    intro i x h;cases i with
   | zero=>simp [shC.shCs,nth] at h;exact ⟨a,rfl,h.symm⟩
   | succ n=>exact ih n x (by simpa [shC.shCs,nth] using h)
 have hlen:∀ l:List CV,(shC.shCs bs.length l).length=l.length:=by
  intro l
  induction l with
  | nil=>rfl
  | cons a l ih=>simp [shC.shCs,ih]
 induction h with
 | any h=>exact .any h
 | bool b=>exact .bool b
 | int k n=>exact .int k n
 | str s=>exact .str s
 | nilp=>exact .nilp
 | nils=>exact .nils
 | nilf=>exact .nilf
 | nili=>exact .nili
 | ptr h=>exact .ptr (by rw [yp];exact h)
 | os h hb=>exact .os (by rw [yp];exact h) hb
 | ost h hl=>exact .ost (by rw [yp];exact h) hl
 | osh h hl h0=>exact .osh (by rw [yp];exact h) hl h0
 | oc h hl=>exact .oc (by rw [yp];exact h) hl
 | rowp h hi=>exact .rowp (by rw [yp];exact h) hi
 | rop val hb hF hc hr _=>exact .rop val hb hF hc hr
 | slnil=>exact .slnil
 | sl val hn h0 hc hr _=>exact .sl val hn h0 hc hr
 | fn l1 l2 r1 r2 ih1 ih2 =>
   refine .fn (by rw [hlen];exact l1) (by rw [hlen];exact l2) (fun i x v h1 h2 => ?_) (fun i x v h1 h2 => ?_)
   ·obtain ⟨y,hy,rfl⟩:=hcs _ _ _ h1;exact ih1 i y v hy h2
   ·obtain ⟨y,hy,rfl⟩:=hcs _ _ _ h1;exact ih2 i y v hy h2
 | iface h ih=>exact .iface ih
 | ifa hl _ ih =>
   refine .ifa (by rw [hlen];exact hl) (fun i x v h1 h2 => ?_)
   obtain ⟨y,hy,rfl⟩:=hcs _ _ _ h1;exact ih i y v hy h2
 | ifx0 h=>exact .ifx0 h
 | ifx1 h ht r _=>exact .ifx1 h ht r
 | ifxa h ht hl r _=>exact .ifxa h ht hl r
 | yld h=>exact .yld (by rw [yp];exact h)
 | mp hp hF he hk hz hl _ ih =>
   refine .mp hp hF he hk hz (by rw [hlen];exact hl) (fun i x v h1 h2 => ?_)
   obtain ⟨y,hy,rfl⟩:=hcs _ _ _ h1;exact ih i y v hy h2
theorem jcm {F:Nat->Prop} {w:World} {bs bs':List BI} {x:A1} {v:Value} (h:A1.Rel F w bs' x v):A1.Rel F w (bs++bs') (sh1 bs.length x) v:=by
 cases x with
 | c x=>exact Lm h
 | agg l =>
   obtain ⟨vs,rfl,h⟩:=h;exact ⟨vs,rfl,h.map_left fun _ _ h=>Lm h⟩
theorem jlo {F:Nat->Prop} {w:World} {bs bs':List BI} {x:AV} {v:Value} (h:AV.Rel F w bs' x v):AV.Rel F w (bs++bs') (shA bs.length x) v:=by
 cases x with
 | any=>trivial
 | one a=>exact jcm h
 | tup l =>
   obtain ⟨vs,rfl,h⟩:=h;exact ⟨vs,rfl,h.map_left fun _ _ h=>jcm h⟩
theorem FQ {k:Nat} {cs:List CV} {fz:Bool} {es:List Sh} {n:Nat} {ρ:Val} (h:cs.map (shC k)=[.row fz es n ρ]):cs=[.row fz es n ρ]:=by
 match cs,h with
 | [c], h =>
   simp only [List.map_cons,List.map_nil,List.cons.injEq,and_true] at h;cases c<;>simp only [shC] at h<;>first | exact congrArg (fun x=>[x]) h | cases h
 | [],h=>simp at h
 | _::_::_,h=>simp at h
theorem jgB {k:Nat} {cs:List CV} (h:je (cs.map (shC k))=false):je cs=false:=by
 cases hr:je cs
 ·rfl
 ·unfold je at hr;split at hr
  ·simp [shC,je] at h
  ·simp [shC,je] at h
  ·cases hr
theorem M1 {k:Nat} {cs cs':List CV} {f i:Nat} {st:LpS} (h:cs.map (shC k)=.lp f i st::cs'):∃ ds,cs=.lp f i st::ds∧cs'=ds.map (shC k):=by
 match cs,h with
 | c :: ds, h =>
   simp only [List.map_cons,List.cons.injEq] at h;refine ⟨ds,?_,h.2.symm⟩;have h1:=h.1;cases c<;>simp only [shC] at h1<;>first | (rw [h1];done) | cases h1
 | [],h=>simp at h
theorem jlB {k:Nat} {c:CV} (h:yt (shC k c)=false):yt c=false:=by
 cases c<;>first | rfl | simp [shC,yt] at h
theorem LJ {x:BI} {k:Nat} {cs:List CV} (h:jE x (cs.map (shC k))):jE x cs:=by
 unfold jE;split
 ·simpa [shC,jE] using h
 ·simp [shC,jE] at h
 ·trivial
theorem U6 {α:Type} {l r:List α} {k:Nat} {x:α} (h:nth (l++r) k=some x):(k<l.length∧nth l k=some x)∨(l.length<=k∧nth r (k - l.length)=some x):=by
 rw [jd] at h;rcases Nat.lt_or_ge k l.length with hk | hk
 ·left;rw [List.getElem?_append_left hk] at h;exact ⟨hk,by rw [jd];exact h⟩
 ·right;rw [List.getElem?_append_right hk] at h;exact ⟨hk,by rw [jd];exact h⟩
theorem MemRel.join {F w bs mem bs' mem'} (h1:MemRel P F w bs mem) (h2:MemRel P F w bs' mem') (hd:∀ k x T cs,nth bs k=some x->nth mem k=some (some (T,cs))->jE x cs->∀ y ∈ bs',x.p ≠ y.p):MemRel P F w (bs++bs') (mem++mem'.map (shE bs.length)):=by
 have g:Grow F F bs (bs++bs') w w:=⟨lRq _,fun _ _ h=>h,fun _ _ _=>rfl,fun k p hk=>j4 hk⟩
 have key:∀ k T cs,nth (mem++mem'.map (shE bs.length)) k=some (some (T,cs))->(k<mem.length∧nth mem k=some (some (T,cs)))∨(mem.length<=k∧∃ cs0,nth mem' (k - mem.length)=some (some (T,cs0))∧cs=cs0.map (shC bs.length)):=by
  intro k T cs h;rcases U6 h with h | ⟨hk,h⟩
  ·exact .inl h
  ·rw [jd,List.getElem?_map] at h;simp only [Option.map_eq_some_iff] at h;obtain ⟨e,he,h⟩:=h;unfold shE at h;split at h
   ·rename_i T' cs0;simp only [sIq,pIq] at h;obtain ⟨rfl,rfl⟩:=h;exact .inr ⟨hk,cs0,by rw [jd];exact he,rfl⟩
   ·cases h
 have keyb:∀ k x,nth (bs++bs') k=some x->(k<mem.length->nth bs k=some x)∧(mem.length<=k->nth bs' (k - mem.length)=some x):=by
  intro k x h;rcases U6 h with ⟨hk,h⟩ | ⟨hk,h⟩
  ·exact ⟨fun _=>h,fun h'=>by have:=h1.len;omega⟩
  ·exact ⟨fun h'=>by have:=h1.len;omega,fun _=>by rw [← h1.len];exact h⟩
 refine ⟨by simp [h1.len,h2.len],fun k x T cs hk hc hv => ?_,fun k k' x x' T cs T' cs' hk hk' hc hc' hv hv' hp => ?_,fun k T cs x hc hr hk => ?_,fun k T fz es n ρ x hc hk => ?_,fun k T f i st cs x hc hk => ?_⟩
 ·rcases key k T cs hc with ⟨hlt,hm⟩ | ⟨hge,cs0,hm,rfl⟩
  ·exact h1.loc k x T cs ((keyb k x hk).1 hlt) hm hv
  ·exact h2.loc _ x T cs0 ((keyb k x hk).2 hge) hm (LJ hv)
 ·rcases key k T cs hc with ⟨hlt,hm⟩ | ⟨hge,cs0,hm,rfl⟩<;>rcases key k' T' cs' hc' with ⟨hlt',hm'⟩ | ⟨hge',cs0',hm',rfl⟩
  ·exact h1.inj k k' x x' T cs T' cs' ((keyb k x hk).1 hlt) ((keyb k' x' hk').1 hlt') hm hm' hv hv' hp
  ·exact (hd k x T cs ((keyb k x hk).1 hlt) hm hv x' (jH ((keyb k' x' hk').2 hge')) hp).elim
  ·exact (hd k' x' T' cs' ((keyb k' x' hk').1 hlt') hm' hv' x (jH ((keyb k x hk).2 hge)) hp.symm).elim
  ·have:=h2.inj _ _ x x' T cs0 T' cs0' ((keyb k x hk).2 hge) ((keyb k' x' hk').2 hge') hm hm' (LJ hv) (LJ hv') hp
   omega
 ·rcases key k T cs hc with ⟨hlt,hm⟩ | ⟨hge,cs0,hm,rfl⟩
  ·obtain ⟨vs,a1,a2⟩:=h1.cont k T cs x hm hr ((keyb k x hk).1 hlt);exact ⟨vs,a1,a2.imp fun _ _ h=>h.grow g⟩
  ·obtain ⟨vs,a1,a2⟩:=h2.cont _ T cs0 x hm (jgB hr) ((keyb k x hk).2 hge);exact ⟨vs,a1,a2.map_left fun _ _ h=>Lm h⟩
 ·rcases key k T _ hc with ⟨hlt,hm⟩ | ⟨hge,cs0,hm,he⟩
  ·exact h1.row k T fz es n ρ x hm ((keyb k x hk).1 hlt)
  ·have:=FQ he.symm
   subst this;exact h2.row _ T fz es n ρ x hm ((keyb k x hk).2 hge)
 ·rcases key k T _ hc with ⟨hlt,hm⟩ | ⟨hge,cs0,hm,he⟩
  ·exact (h1.lp k T f i st cs x hm ((keyb k x hk).1 hlt)).grow g fun _=>rfl
  ·obtain ⟨ds,rfl,rfl⟩:=M1 he.symm;refine (h2.lp _ T f i st ds x hm ((keyb k x hk).2 hge)).cells (by simp) fun j c hj ha => ?_
   rw [jd,List.getElem?_map] at hj;simp only [Option.map_eq_some_iff] at hj;obtain ⟨c0,hc0,rfl⟩:=hj;exact ⟨c0,by rw [jd];exact hc0,jlB ha,fun _ h=>Lm h⟩
theorem MemRel.less {F F':Nat->Prop} {w bs mem} (h:MemRel P F w bs mem) (hF:∀ p,F' p->F p) (hb:∀ x ∈ bs,F x.p->F' x.p):MemRel P F' w bs mem:=by
 have g:Grow F F' bs bs w w:=⟨lRq _,fun p _ h=>hF p h,fun _ _ _=>rfl,fun _ _ h=>h⟩;have g0:Grow F F' [] [] w w:=⟨lRq _,fun p _ h=>hF p h,fun _ _ _=>rfl,fun _ _ h=>h⟩;refine ⟨h.len,fun k x T cs hk hc hv=>⟨hb x (jH hk) (h.loc k x T cs hk hc hv).1,(h.loc k x T cs hk hc hv).2⟩,h.inj,fun k T cs x hc hr hk => ?_,fun k T fz es n ρ x hc hk => ?_,fun k T f i st cs x hc hk=>(h.lp k T f i st cs x hc hk).grow g fun _=>rfl⟩
 ·obtain ⟨vs,a1,a2⟩:=h.cont k T cs x hc hr hk;exact ⟨vs,a1,a2.imp fun _ _ h=>h.grow g⟩
 ·exact (h.row k T fz es n ρ x hc hk).grow g0 fun _=>rfl
def NcOne (P:Program) (f:Nat) (G:List A1->Tree (AV × Mem)):Prop :=
 ∀ args r m,(G args).sel=some (r,m)->args.all jB=true->∀ F w vs,All2 (A1.Rel F w []) args vs ->
  Calls P f vs.toArray w (fun e w2=>∃ v F' bs',e=.returned v∧Ext 0 F w [] F' w2 bs'∧MemRel P F' w2 bs' m∧AV.Rel F' w2 bs' r v)
def ncG (G:List A1->Tree (AV × Mem)) (args:List A1) (mem:Mem):Tree (AV × Mem) :=
 let y:=zy mem args
 if y.2.all jB then (G y.2).bind fun z=>.leaf (shA y.1.length z.1,y.1++z.2.map (shE y.1.length)) else .fail
theorem NcOne.mc {P:Program} {f:Nat} {G:List A1->Tree (AV × Mem)} (h:NcOne P f G):js P f (ncG G):=by
 intro args mem r mem' hs F w bs vs hm hargs;unfold ncG at hs;simp only at hs;split at hs
 ·rename_i hcl;obtain ⟨⟨r0,m0⟩,h1,h2⟩:=jh hs;simp only [Tree.sel,sIq,pIq] at h2;obtain ⟨rfl,rfl⟩:=h2;obtain ⟨F1,e1,m1,r1⟩:=JQ hm hargs
  have hvs':All2 (A1.Rel F1 w []) (zy mem args).2 vs:=by
   clear h1 hargs;generalize (zy mem args).2=l at r1 hcl
   induction r1 with
   | nil=>exact .nil
   | cons ha _ ih =>
     simp only [List.all_cons,aTq] at hcl;exact .cons (ha.closed hcl.1) (ih hcl.2)
  refine (h _ _ _ h1 hcl F1 w vs hvs').mono fun e w2 ⟨v,F',bs',he,hx,hmm,hr⟩ => ?_;have hlen:bs.length=(zy mem args).1.length:=m1.len;rw [← hlen];refine ⟨v,fun p=>(p<w.heap.size∧F1 p)∨(w.heap.size<=p∧F' p),bs++bs',he,?_,?_,?_⟩
  ·have e2 : Ext bs.length F1 w bs (fun p => (p < w.heap.size ∧ F1 p) ∨ (w.heap.size <= p ∧ F' p)) w2 (bs ++ bs') :=
    ⟨hx.size,fun p hp h=>h.elim (fun h=>h.2) (fun h=>by omega),fun p h hp _=>.inl ⟨hp,h⟩,fun p hp _=>hx.same p hp (.inr fun x hx=>by cases hx),hx.os,hx.tape,hx.output,fun k x _ h=>j4 h,fun x hx'=>by
     rcases List.mem_append.1 hx' with h | h
     ·exact .inl ⟨x,h,rfl⟩
     ·rcases hx.mem x h with ⟨y,hy,_⟩ | h
      ·cases hy
      ·exact .inr h⟩
   exact e1.trans e2 (lRq _)
  ·have hge : ∀ x ∈ bs', w.heap.size <= x.p := fun x h => by
    rcases hx.mem x h with ⟨y,hy,_⟩ | h
    ·cases hy
    ·exact h
   have hmA:MemRel P (fun p=>(p<w.heap.size∧F1 p)∨(w.heap.size<=p∧F' p)) w2 bs (zy mem args).1:=by
    refine m1.move (F':=fun p=>(p<w.heap.size∧F1 p)∨(w.heap.size<=p∧F' p)) ⟨hx.size,fun p hp h=>h.elim (fun h=>h.2) (fun h=>by omega),fun p h hp _=>.inl ⟨hp,h⟩,fun p hp _=>hx.same p hp (.inr fun x hx=>by cases hx),hx.os,hx.tape,hx.output,fun _ _ _ h=>h,fun x h=>.inl ⟨x,h,rfl⟩⟩ fun k x T cs hk hc hv => ?_
    have hl:=m1.loc k x T cs hk hc hv;exact ⟨.inl ⟨hl.2,hl.1⟩,hx.same _ hl.2 (.inr fun x hx=>by cases hx)⟩
   have hmB:MemRel P (fun p=>(p<w.heap.size∧F1 p)∨(w.heap.size<=p∧F' p)) w2 bs' m0 :=
    hmm.less (fun p h=>h.elim (fun h=>hx.F2 p h.2 h.1 (fun x hx=>by cases hx)) (fun h=>h.2)) fun x h hf=>.inr ⟨hge x h,hf⟩
   refine hmA.join hmB fun k x T cs hk hc hv y hy e => ?_;have hy':=hge y hy
   have:=(m1.loc k x T cs hk hc hv).2
   omega
  ·refine jlo (AV.Rel.grow (bs:=bs') (bs':=bs') ⟨lRq _,fun p _ h=>h.elim (fun h=>hx.F2 p h.2 h.1 (fun x hx=>by cases hx)) (fun h=>h.2),fun _ _ _=>rfl,fun _ _ h=>h⟩ hr)
 ·simp [Tree.sel] at hs
end Go.Sx
namespace Go.Sx
open Go Go.RowKit
variable {P:Program}
variable {D:List Deferred}
noncomputable abbrev HN:Hd:=⟨[],[],[],[]⟩
theorem hn {P:Program}:HdOk P HN:=HdOk.nil
theorem MemRel.row2 {F w bs T es n} {ρ σ:Val} (h:MemRel P F w bs [none,some (T,[.row false es n ρ])]) (he:∀ i f s,nth es f=some s->cellOf s ((ρ.at i).at f)=cellOf s ((σ.at i).at f)):MemRel P F w bs [none,some (T,[.row false es n σ])]:=by
 have key:∀ k T' cs,nth [none,some (T,[CV.row false es n σ])] k=some (some (T',cs))->k=1∧T'=T∧cs=[.row false es n σ]:=by
  intro k T' cs hk
  match k,hk with
  | 0,hk=>simp [nth] at hk
  | 1,hk=>simp [nth] at hk;exact ⟨rfl,hk.1.symm,hk.2.symm⟩
  | k+2,hk=>simp [nth] at hk
 have old:nth [none,some (T,[CV.row false es n ρ])] 1=some (some (T,[CV.row false es n ρ])):=rfl;refine ⟨h.len,fun k x T' cs hk hc hv => ?_,fun k k' x x' T1 cs1 T2 cs2 _ _ h3 h4 _ _ _ => ?_,fun k T' cs x hc hr _ => ?_,fun k T' fz es' n' ρ' x hc hk => ?_,fun k T' f i st cs x hc _=>by have:=(key k T' _ hc).2.2;simp at this⟩
 ·obtain ⟨rfl,rfl,rfl⟩:=key k T' cs hc;exact h.loc 1 x T' _ hk old hv
 ·rw [(key k T1 cs1 h3).1,(key k' T2 cs2 h4).1]
 ·obtain ⟨rfl,rfl,rfl⟩:=key k T' cs hc;simp [je] at hr
 ·obtain ⟨rfl,rfl,hcs⟩:=key k T' _ hc;simp only [List.cons.injEq,CV.row.injEq,and_true] at hcs;obtain ⟨rfl,rfl,rfl,rfl⟩:=hcs
  have:=h.row 1 T' false _ _ ρ x old hk
  refine ⟨this.len,this.le,this.mx,fun h0 => ?_,this.frz⟩;obtain ⟨arr,a1,a2,val,a3,a4⟩:=this.blk h0;exact ⟨arr,a1,a2,val,a3,fun i f s hi hs=>he i f s hs▸a4 i f s hi hs⟩
theorem MemRel.row0' {F w bs mem} (hm:MemRel P F w bs mem) (T:TypeId) (es:List Sh) (ρ:Val):MemRel P F w (bs++[⟨w.heap.size,0,0⟩]) (mem++[some (T,[.row false es 0 ρ])]):=by
 refine hm.push _ (fun h => ?_) (fun h => ?_) (fun h => ?_) (fun fz es' n ρ' h => ?_)
 ·simp [jE] at h
 ·simp [jE] at h
 ·simp [je] at h
 ·simp only [List.cons.injEq,CV.row.injEq,and_true] at h;obtain ⟨rfl,rfl,rfl,rfl⟩:=h;exact ⟨rfl,lRq _,Nat.zero_le _,fun h=>by simp at h,fun h=>by simp at h⟩
theorem X5 {F w bs} {args : List A1} {vs : List Value} {mem : Mem} {nt : Nat} (hm : MemRel P F w bs mem) (hargs : All2 (A1.Rel F w bs) args vs) (_ : args.length <= nt) :
  StRel P [] F w bs ⟨args.map (fun a=>⟨[],.one a⟩)++List.replicate (nt - args.length) ⟨[],.any⟩,mem⟩ { tmps:=vs.toArray++Array.replicate (nt - vs.toArray.size) undef,defers:=[] }:=by
 have hl:=hargs.length;refine ⟨rfl,?_,?_,hm⟩
 ·simp [hl]
 ·intro i sl x hsl hx;simp only [jd] at hsl;rcases Nat.lt_or_ge i args.length with hi | hi
  ·rw [List.getElem?_append_left (by simpa using hi)] at hsl
   simp only [List.getElem?_map,Option.map_eq_some_iff] at hsl;obtain ⟨b,hb',rfl⟩:=hsl;rw [Array.getElem?_append_left (by simp;omega)] at hx
   obtain ⟨v,hv,hr⟩:=hargs.nth (by rw [jd];exact hb')
   simp only [List.getElem?_toArray] at hx;rw [hv] at hx;simp at hx;subst hx;exact ⟨fun _=>hr,fun h=>(h jA).elim⟩
  ·rw [List.getElem?_append_right (by simpa using hi)] at hsl
   rw [List.getElem?_replicate] at hsl;split at hsl
   ·simp at hsl;subst hsl;exact ⟨fun _=>trivial,fun h=>(h jA).elim⟩
   ·simp at hsl
def XT (E:TypeId) (es:List Sh) (sz bt:Nat):List A1->Tree (AV × Mem)
 | [.c (.sl es' n ρ)]=>if shEq.shsEq es' es then .need (Nat.ble ((0+n)*bt) 140737488355328) (.leaf (.one (.c (.os 1 sz)),[none,some (E,[.row false es n ρ])])) else .fail
 | _=>.fail
def stC (es:List Sh) (n:Nat) (ρ:Val) (b:Bool):St:=mkS 8 [(0,.one (.c (.sl es n ρ))),(2,.one (.c .nils)),(3,.one (.c (.sl es n ρ))),(4,.one (.c (.bool b)))] []
theorem RO {P : Program} {f : Nat} {fn : Func} {R0 A B : Code} {i1 : Nat} {ops : Array Oper} {o1 o2 : Oper} {T T2 E : TypeId} {es : List Sh} {sz bt : Nat}
  (hf:P.funcs[f]? = some fn) (hb:fn.body=some (.seq R0 (.seq (.seq (.region i1 ops false) (.cond (.tmp 4) A .skip)) B)))
  (hops:ops.toList=[o1,o2]) (g1:o1.guard=none) (p1:o1.op=.move (.tmp 0)) (d1:o1.dst=some 3) (g2:o2.guard=none) (p2:o2.op=.binOp .eql T (.tmp 3) (.const (.slice none 0 0)) T2) (d2:o2.dst=some 4)
  (hT:P.underlying T=some (.slice E)) (hnt:fn.ntmps=8)
  (e0:∀ n ρ,jL P HN (jZ P HN 5) f 0 0 R0 (mkS 8 [(0,.one (.c (.sl es n ρ)))] [])=.leaf (.normal,mkS 8 [(0,.one (.c (.sl es n ρ))),(2,.one (.c .nils))] []))
  (sA sB:Nat->Val->St) (eA:∀ n ρ,jL P HN (jZ P HN 5) f 0 0 A (stC es n ρ true)=.leaf (.ret,sA n ρ)) (rA:∀ n ρ,zN P (sA n ρ) fn.results.toList=some [.c .nils]) (mA:∀ n ρ,(sA n ρ).mem=[])
  (eB:∀ n ρ,jL P HN (jZ P HN 5) f 0 0 B (stC es n ρ false)=.need (Nat.ble ((0+n)*bt) 140737488355328) (.leaf (.ret,sB n ρ))) (rB:∀ n ρ,zN P (sB n ρ) fn.results.toList=some [.c (.os 1 sz)])
  (mB:∀ n ρ,(sB n ρ).mem=[none,some (E,[.row false es (0+n) (Val.cat 0 (Val.ofFlat sz []) ρ)])]):NcOne P f (XT E es sz bt):=by
 intro args r m hs hcl F w vs hargs;unfold XT at hs;split at hs
 ·rename_i es' n ρ;split at hs
  ·rename_i hes;have hes:=jm hes;subst hes;simp only [Tree.sel] at hs;cases hn':Nat.ble ((0+n)*bt) 140737488355328
   ·rw [hn'] at hs;simp at hs
   ·rw [hn'] at hs;simp only [cond_true,sIq,pIq] at hs;obtain ⟨rfl,rfl⟩:=hs;have noloop:∀ (c:Code) (i:Nat) (b:Code) (h:Nat->St->Tree (XE × St)),jf c i=some b->kK HN.lh f (0+i)=some h->LoopOk P b h:=fun c i b h _ hl=>by simp [kK] at hl
    refine calls_of_wp hf hb ?_;have hi:=X5 (P:=P) (nt:=fn.ntmps) MemRel.nil hargs (by rw [hnt];simp)
    have es0:(⟨([A1.c (CV.sl es' n ρ)]:List A1).map (fun a=>⟨[],.one a⟩)++List.replicate (fn.ntmps - ([A1.c (CV.sl es' n ρ)]:List A1).length) ⟨[],.any⟩,[]⟩ : St)=mkS 8 [(0,.one (.c (.sl es' n ρ)))] []:=by rw [hnt];rfl
    rw [es0] at hi;refine wp_seq (Uh hn.pc (zD hn 5) f 0 R0 0 _ (by rw [e0];rfl) (fun i b h hl hk=>noloop R0 i b h hl hk) (lRq _) hi fun F1 w1 bs1 a1 x1 h1 => ?_)
    simp only [xe,Exit.then];refine wp_seq (wp_seq (wp_region_list ?_));rw [hops];have r0:CV.Rel F1 w1 bs1 (.sl es' n ρ) (a1.eval (.tmp 0)):=qB (x:=.tmp 0) (av:=.one (.c (.sl es' n ρ))) h1 jA rfl;refine wpList_plain g1 fun K1 hK1=>qp (w':=w1) (v:=a1.eval (.tmp 0)) (by unfold execOp;simp [p1]) (hK1 _ _ ?_)
    have h2:=StRel.put (dst:=some 3) (ks:=[]) (v:=.one (.c (.sl es' n ρ))) h1 (fun _ hp=>by cases hp) (fun _=>r0) (fun h=>(h jA).elim)
    rw [d1];generalize hu:a1.eval (.tmp 0)=u at *;have hsz:3<a1.tmps.size:=by rw [← h1.len];exact (by decide:3<8)
    have e3:(a1.put (some 3) u).eval (.tmp 3)=u:=by simp [Act.put,Act.eval,hsz]
    obtain ⟨ba,bl,bc,rfl⟩ : ∃ ba bl bc,u=.slice ba bl bc:=by cases r0<;>exact ⟨_,_,_,rfl⟩
    refine wpList_plain g2 fun K2 hK2=>qp (w':=w1) (v:=.bool ba.isNone) ?_ (hK2 _ _ (wpList_nil ?_))
    ·unfold execOp;simp only [p2];have g4:∀ w',(eqGuard .eql T (.tmp 3) (.const (.slice none 0 0)) (.slice ba bl bc) (.slice none 0 0)).run P w'=.ok () w':=fun w'=>yT (by simp) (by simp) w'
     have e4:∀ w',(do eqGuard .eql T (.tmp 3) (.const (.slice none 0 0)) (.slice ba bl bc) (.slice none 0 0);binOp .eql T (.slice ba bl bc) (.slice none 0 0):Sem Value).run P w'=.ok (.bool ba.isNone) w':=fun w'=>by
      simp only [Sem.run_bind,g4,Result.andThen_ok];show (do pure (Value.bool (← Op.equal T (.slice ba bl bc) (.slice none 0 0))):Sem Value).run P w'=_
      simp [run_equal_slice_nil w' T E ba bl bc hT]
     have e5:(a1.put (some 3) (.slice ba bl bc)).eval (.const (.slice none 0 0))=.slice none 0 0:=rfl;simp only [e3,e5]
     have:=e4 w1
     simp only [Sem.run_bind] at this ⊢;rw [this]
     simp
    ·rw [d2];have h3:=StRel.put (dst:=some 4) (ks:=[]) (v:=.one (.c (.bool ba.isNone))) h2 (fun _ hp=>by cases hp) (fun _=>CV.Rel.bool _) (fun h=>(h jA).elim)
     have hst:(((mkS 8 [(0,.one (.c (.sl es' n ρ))),(2,.one (.c .nils))] []).put (some 3) [] (.one (.c (.sl es' n ρ)))).put (some 4) [] (.one (.c (.bool ba.isNone))))=stC es' n ρ ba.isNone:=rfl;rw [hst] at h3;simp only [Exit.then]
     have hc4:((a1.put (some 3) (.slice ba bl bc)).put (some 4) (.bool ba.isNone)).eval (.tmp 4)=.bool ba.isNone:=by
      have hr:=qB (x:=.tmp 4) (av:=.one (.c (.bool ba.isNone))) h3 jA rfl;generalize ((a1.put (some 3) (.slice ba bl bc)).put (some 4) (.bool ba.isNone)).eval (.tmp 4)=z at hr ⊢;cases hr;rfl
     cases hba:ba.isNone
     ·rw [hba] at h3 hc4;refine wp_cond_false hc4 (wp_skip ?_);simp only [Exit.then];refine Uh hn.pc (zD hn 5) f 0 B 0 _ (x:=(.ret,sB n ρ)) (by rw [eB];simp only [Tree.sel,hn',cond_true]) (fun i b h hl hk=>noloop B i b h hl hk) (Nat.zero_le _) h3 fun F2 w2 bs2 a2 x2 h4 => ?_
      obtain ⟨z,hz,hrun⟩:=Qs h4 (rB n ρ);have hm2:=h4.mem;rw [mB n ρ,Nat.zero_add] at hm2;exact ⟨h4.defers,z,hrun,z,F2,bs2,rfl,(x1.weak (Nat.zero_le _)).trans x2 (Nat.zero_le _),hm2.row2 fun i f s _=>rfl,hz⟩
     ·rw [hba] at h3 hc4;obtain rfl:ba=none:=by simpa using hba
      have hn0:n=0:=by cases r0;rfl
      subst hn0;refine wp_cond_true hc4 (Uh hn.pc (zD hn 5) f 0 A 0 _ (x:=(.ret,sA 0 ρ)) (by rw [eA];rfl) (fun i b h hl hk=>noloop A i b h hl hk) (Nat.zero_le _) h3 fun F2 w2 bs2 a2 x2 h4 => ?_)
      simp only [xe,Exit.then];obtain ⟨z,hz,hrun⟩:=Qs h4 (rA 0 ρ);have hm2:=h4.mem;rw [mA 0 ρ] at hm2
      have hbs:bs2=[]:=by
       have:=hm2.len
       cases bs2 with
       | nil=>rfl
       | cons _ _=>simp at this
      subst hbs;have hz':CV.Rel F2 w2 [] .nils z:=hz;have m3:=((hm2.extend ⟨w2.heap.size,0,0⟩).row0' E es' ρ)
      have x3:Ext 0 F w [] F2 w2 ([]++[⟨w2.heap.size,0,0⟩]++[⟨w2.heap.size,0,0⟩]):=by
       have x12:=(x1.weak (Nat.zero_le _)).trans x2 (Nat.zero_le _);exact (x12.push (.inr x12.size)).push (.inr x12.size)
      refine ⟨h4.defers,z,hrun,z,F2,_,rfl,x3,m3,?_⟩;cases hz';exact CV.Rel.os (F:=F2) (w:=w2) (b:=1) (sz:=sz) (base:=none) (x:=⟨w2.heap.size,0,0⟩) rfl (fun h=>by simp at h)
  ·simp [Tree.sel] at hs
 ·simp [Tree.sel] at hs
end Go.Sx
namespace Go.Proofs.YtiefjlcakpdfeaaGreatDoor.Ro
open Go Go.Sx Classical
set_option maxRecDepth 100000
abbrev I (n:Int):CV:=.int .i64 n
abbrev spSh:List Sh:=[.int .i64,.int .i64,.int .i64]
theorem n63:NcOne Tryz.prog 70 (XT 78 spSh 3 24):=RO Tryz.func70 rfl rfl rfl rfl rfl rfl rfl rfl (by kernel_rfl) rfl (fun n ρ=>by kernel_rfl)
 (fun n ρ=>stC spSh n ρ true) (fun n ρ=>mkS 8 [(0,.one (.c (.sl spSh n ρ))),(2,.one (.c (.os 1 3))),(3,.one (.c (.sl spSh n ρ))),(4,.one (.c (.bool false))),(5,.one (.c (.os 0 3))),(6,.one (.c (.sl spSh n ρ))),(7,.one (.c (.os 1 3)))] [none,some (78,[.row false spSh (0+n) (Val.cat 0 (Val.ofFlat 3 []) ρ)])])
 (fun n ρ=>by kernel_rfl) (fun n ρ=>by kernel_rfl) (fun n ρ=>rfl) (fun n ρ=>by kernel_rfl) (fun n ρ=>by kernel_rfl) (fun n ρ=>rfl)
end Go.Proofs.YtiefjlcakpdfeaaGreatDoor.Ro
namespace Go.Sx
open Go Go.RowKit
def yn (bad:Nat->Bool):Nat->Nat
 | 0=>0
 | n+1=>bif jU bad n then yn bad n else n
theorem OK {bad:Nat->Bool}:∀ {n:Nat},jU bad n=true->yn bad n<n∧bad (yn bad n)=true∧∀ j,j<yn bad n->bad j=false
 | 0,h=>by simp [jU] at h
 | n + 1, h => by
   unfold yn;cases hb:jU bad n
   ·simp only [jU,hb,Bool.false_or] at h;refine ⟨by simp,h,fun j hj => ?_⟩
    simp only [cond_false] at hj;rw [← Bool.not_eq_true];intro hh
    have:=QR.2 ⟨j,hj,hh⟩
    rw [hb] at this;cases this
   ·obtain ⟨h1,h2,h3⟩:=OK hb;exact ⟨by simp only [cond_true];omega,h2,h3⟩
theorem jb8 {bad:Nat->Bool} {n i:Nat} (hi:i<n) (hb:bad i=true) (h:∀ j,j<i->bad j=false):jU bad n=true∧yn bad n=i:=by
 have ha:jU bad n=true:=QR.2 ⟨i,hi,hb⟩;obtain ⟨h1,h2,h3⟩:=OK ha;refine ⟨ha,?_⟩;rcases Nat.lt_trichotomy (yn bad n) i with hlt | heq | hgt
 ·rw [h _ hlt] at h2;cases h2
 ·exact heq
 ·rw [h3 _ hgt] at hb;cases hb
structure Sq {X:Type} (TX:X->Tree (XE × X)) (μ:X->Nat) (st sb:Nat->X) (n:Nat) (bad:Nat->Bool) (e1 e0:XE):Prop where
 out:e0 ≠ .normal
 hit:e1 ≠ .normal
 meas:∀ i,i<=n->μ (st i)=n - i
 round:∀ i,i<n->(TX (st i)).All fun y=>if bad i then y=(e1,sb i) else y=(.normal,st (i+1))
 stop:(TX (st n)).All fun y=>y=(e0,st n)
variable {X:Type} {TX:X->Tree (XE × X)} {μ:X->Nat} {st sb:Nat->X} {n:Nat} {bad:Nat->Bool} {e1 e0:XE}
theorem Sq.rounds (h:Sq TX μ st sb n bad e1 e0) {inv:X->Prop} (hinv:∀ x,inv x↔∃ i,i<=n∧x=st i):XV TX inv μ (fun y=>(∃ i,i<n∧bad i=true∧y=(e1,sb i))∨y=(e0,st n)):=by
 intro x hx;obtain ⟨i,hi,rfl⟩:=(hinv x).1 hx;rcases Nat.lt_or_eq_of_le hi with hlt | rfl
 ·refine All.imp (fun y hy => ?_) (h.round i hlt);obtain ⟨e,z⟩:=y;cases hb:bad i
  ·rw [hb] at hy;simp only [Bool.false_eq_true,if_false,pIq] at hy;obtain ⟨rfl,rfl⟩:=hy;simp only;rw [h.meas i hi,h.meas (i+1) (by omega)]
   exact ⟨(hinv _).2 ⟨i+1,by omega,rfl⟩,by omega⟩
  ·rw [hb] at hy;simp only [if_true,pIq] at hy;obtain ⟨rfl,rfl⟩:=hy;cases hn:e with
   | normal=>exact (h.hit hn).elim
   | exit k=>subst hn;exact .inl ⟨i,hlt,hb,rfl⟩
   | ret=>subst hn;exact .inl ⟨i,hlt,hb,rfl⟩
 ·refine All.imp (fun y hy => ?_) h.stop;obtain ⟨e,z⟩:=y;simp only [pIq] at hy;obtain ⟨rfl,rfl⟩:=hy;cases hn:e with
  | normal=>exact (h.out hn).elim
  | exit k=>subst hn;exact .inr rfl
  | ret=>subst hn;exact .inr rfl
theorem Sq.fin_from (h:Sq TX μ st sb n bad e1 e0):∀ (d i:Nat),i+d=n->(∀ j,j<i->bad j=false)->fin TX μ (st i)=bif jU bad n then (e1,sb (yn bad n)) else (e0,st n):=by
 have hr:=h.rounds (inv:=fun x=>∃ i,i<=n∧x=st i) (fun _=>Iff.rfl);intro d
 induction d with
 | zero =>
   intro i hi hb;have hi:i=n:=by omega
   subst hi;obtain ⟨y,hs,hy⟩:=yu (Gn hr (x:=st i) ⟨i,lRq _,rfl⟩);obtain ⟨y',hs',hy'⟩:=yu h.stop;rw [hs] at hs';simp at hs';subst hs';rw [V2 hb];rcases hy with ⟨hn,_⟩ | ⟨_,hf⟩
   ·rw [hy'] at hn;exact (h.out hn).elim
   ·rw [hf,hy'];rfl
 | succ d ih =>
   intro i hi hb;obtain ⟨y,hs,hy⟩:=yu (Gn hr (x:=st i) ⟨i,by omega,rfl⟩)
   obtain ⟨y',hs',hy'⟩:=yu (h.round i (by omega))
   rw [hs] at hs';simp at hs';subst hs';cases hbi:bad i
   ·rw [hbi] at hy';simp only [Bool.false_eq_true,if_false] at hy';rcases hy with ⟨_,_,_,hf⟩ | ⟨hn,_⟩
    ·rw [← hf,hy'];refine ih (i+1) (by omega) fun j hj => ?_
     rcases Nat.lt_or_eq_of_le (Nat.le_of_lt_succ hj) with h1 | rfl
     ·exact hb j h1
     ·exact hbi
    ·rw [hy'] at hn;exact (hn rfl).elim
   ·rw [hbi] at hy';simp only [if_true] at hy';obtain ⟨ha,hf1⟩:=jb8 (show i<n by omega) hbi hb
    rw [ha,hf1];rcases hy with ⟨hn,_⟩ | ⟨_,hf⟩
    ·rw [hy'] at hn;exact (h.hit hn).elim
    ·rw [hf,hy'];rfl
theorem Sq.fin0 (h:Sq TX μ st sb n bad e1 e0):fin TX μ (st 0)=bif jU bad n then (e1,sb (yn bad n)) else (e0,st n):=h.fin_from n 0 (by omega) fun j hj=>by omega
theorem jbj {b1 b2:Nat->Bool} {n:Nat} (h:∀ i,i<n->(∀ j,j<i->b1 j=false)->b1 i=b2 i):jU b1 n=jU b2 n:=by
 induction n with
 | zero=>rfl
 | succ n ih =>
   have ih:=ih fun i hi=>h i (by omega)
   simp only [jU];cases hb:jU b1 n
   ·rw [hb] at ih;rw [← ih];simp only [Bool.false_or];refine h n (by omega) fun j hj => ?_
    rw [← Bool.not_eq_true];intro hh
    have:=QR.2 ⟨j,hj,hh⟩
    rw [hb] at this;cases this
   ·rw [hb] at ih;rw [← ih]
    simp
end Go.Sx
namespace Go.Sx
open Go Go.RowKit
variable {P:Program}
variable {D:List Deferred}
theorem DN {P : Program} {H : Hd} (hH : HdOk P H) (n f : Nat) {G : List A1 -> Mem -> Tree (AV × Mem)}
  (h:∀ args mem r mem',(G args mem).sel=some (r,mem')->(jZ P H n f args mem).All (fun y=>WkR P mem.length y (r,mem'))) (hf:f<1000000000:=by decide):js P f G:=by
 intro args mem r mem' hG F w bs vs hm hargs;obtain ⟨y,hsel,hw⟩:=yu (h args mem r mem' hG);refine ((zD hH n).fn f args mem y.1 y.2 hf hsel F w bs vs hm hargs).mono fun e w2 ⟨u,F',bs',he,hext,hm',hu⟩ => ?_;obtain ⟨F2,bs2,e2,m2,r2⟩:=hw F' w2 bs' u (by have:=hext.le;have:=hm.len;omega) hm' hu
 rw [← hm.len] at e2;exact ⟨u,F2,bs2,he,hext.trans e2 (lRq _),m2,r2⟩
theorem YF {P : Program} {H : Hd} (hH : HdOk P H) (n f : Nat) {G : List A1 -> Mem -> Tree (AV × Mem)}
  (h:∀ args mem r mem',(G args mem).sel=some (r,mem')->∃ u,jZ P H n f args mem=u∧u.All (fun y=>y=(r,mem'))) (hf:f<1000000000:=by decide):js P f G :=
 DN hH n f (fun args mem r mem' hG=>by
  obtain ⟨u,hu,ha⟩:=h args mem r mem' hG;rw [hu];exact All.imp (fun _ h=>h▸WkR.refl) ha) hf
theorem Nm {es:List Sh} {n:Nat} {ρ σ:Val} (h:∀ i f s,i<n->nth es f=some s->cellOf s ((ρ.at i).at f)=cellOf s ((σ.at i).at f)):leC (.sl es n ρ) (.sl es n σ):=fun F w v hv=>by
 cases hv with
 | slnil=>exact .slnil
 | sl val hn h0 hc hr=>exact .sl val hn h0 hc fun i f s hi hf=>h i f s hi hf▸hr i f s hi hf
end Go.Sx
namespace Go.Proofs.YtiefjlcakpdfeaaGreatDoor.Ro
open Go Go.Sx Classical
set_option maxRecDepth 100000
noncomputable abbrev H0:Hd:=⟨[jnU],[],[],[(70,ncG (XT 78 spSh 3 24))]⟩
theorem h0:HdOk Tryz.prog H0:=(HdOk.nil.mcCons n63.mc).tcCons jeU
theorem w64_id {x:Int} (h1 : -9223372036854775808<=x) (h2:x<9223372036854775808):IntKind.i64.wrap x=x:=by
 unfold IntKind.wrap IntKind.bits IntKind.signed;simp only [Bool.true_and];split<;>rename_i h<;>simp at h<;>omega
theorem inR {i n:Nat} (h:i<n):jc (i:Int) n=true:=yN.2 ⟨by omega,by omega⟩
theorem ltF {i n:Nat} (h:i<n):lt (i:Int) (ja n)=true:=(Jk _ _).2 (show (i:Int)<(n:Int) by omega)
theorem ltS {n:Nat}:lt (n:Int) (ja n)=false:=by
 rw [← Bool.not_eq_true,Jk];show ¬ (n:Int)<(n:Int);omega
def tim (a:Int):Bool:=le 0 a&&le a 1073741824
def G67:List A1->Option AV
 | [.c (.int .i64 a),.c (.int .i64 b)]=>some (.one (.c (.bool (le b a&&le a 1073741824))))
 | _=>none
theorem p67:PcOne Tryz.prog 139 G67:=Yh h0 10 139 fun args r h=>by
 unfold G67 at h;split at h
 ·obtain rfl:=Option.some.inj h;exact ⟨rfl,by kernel_rfl,by kernel_rfl⟩
 ·cases h
noncomputable abbrev H1:Hd:=⟨(139,oG G67)::H0.pc,[],[],H0.mc⟩
theorem h1:HdOk Tryz.prog H1:=h0.pcCons p67
structure Sp where
 e:Int
 f:Int
 t:Int
def spn (ρ:Val) (i:Nat):Sp:=⟨((ρ.at i).at 0).N [],((ρ.at i).at 1).N [],((ρ.at i).at 2).N []⟩
def prv (ρ:Val):Nat->Sp
 | 0=>⟨0,0,0⟩
 | i+1=>spn ρ i
structure Ln where
 n:Nat
 ρ:Val
def Gg (p x:Sp):Bool:=(((x.f != IntKind.i64.wrap (p.t+1)||lt x.t x.f)||lt 1073741824 x.t)||!(le 1 x.e&&le x.e 1073741824))||le x.e p.e
def Ud (l:Ln) (i:Nat):Bool:=Gg (prv l.ρ i) (spn l.ρ i)
structure C66 where
 l:Ln
 m:Int
structure V66 where
 p:Sp
 i:Int
def S66 (c:C66) (v:V66):St:=mkS 46 [(2,.one (.c (.bool false))),(3,.one (.c (.ptr 0 0))),(7,.one (.c (.sl spSh c.l.n c.l.ρ))),(8,.one (.c (I c.m))),(9,.one (.c (I v.i)))] [some (78,[I v.p.e,I v.p.f,I v.p.t])]
def jaH (c:C66) (v:V66):Tree (XE × V66) :=
 .br (lt v.i c.m) (.need (jc v.i c.l.n) (.br (Gg v.p (spn c.l.ρ v.i.toNat)) (.leaf (.ret,v)) (.leaf (.normal,⟨spn c.l.ρ v.i.toNat,IntKind.i64.wrap (v.i+1)⟩)))) (.leaf (.exit 0,v))
theorem t66 (c:C66) (v:V66):((jL Tryz.prog H1 (jZ Tryz.prog H1 10) 124 0 1 (qz Tryz.prog 124 0) (S66 c v)).bind fun y=>gcT [2,3,7,8,9] 0 y)=(jaH c v).bind fun y=>.leaf (y.1,S66 c y.2):=by kernel_rfl
def jb2 (c:C66) (i:Nat):V66:=⟨prv c.l.ρ i,i⟩
def jbc (c:C66) (v:V66):Nat:=(c.l.n - v.i).toNat
def fewN (n:Nat):Prop:=n<=4611686018427387904
theorem jmk (c:C66) (hm:c.m=c.l.n) (hn:fewN c.l.n):Sq (jaH c) (jbc c) (jb2 c) (jb2 c) c.l.n (Ud c.l) .ret (.exit 0) where
 out:=by simp
 hit:=by simp
 meas i hi:=by unfold jbc jb2;simp only;omega
 round i hi:=by
  unfold fewN at hn;have hl:lt (i:Int) c.m=true:=by rw [hm];exact ltF hi
  have hw:IntKind.i64.wrap ((i:Int)+1)=((i+1:Nat):Int):=by rw [w64_id (by omega) (by omega)];omega
  refine ⟨fun _=>⟨inR hi,fun hb => ?_,fun hb => ?_⟩,fun h => ?_⟩
  ·have:Ud c.l i=true:=hb
   simp only [Tree.All,this,if_true]
  ·have:Ud c.l i=false:=hb
   simp only [Tree.All,this,Bool.false_eq_true,if_false];show (XE.normal,(⟨_,IntKind.i64.wrap ((i:Int)+1)⟩ : V66))=_;rw [hw];rfl
  ·have:lt (i:Int) c.m=false:=h
   rw [hl] at this;cases this
 stop:=by
  have hl:lt (c.l.n:Int) c.m=false:=by rw [hm];exact ltS
  refine ⟨fun h => ?_,fun _=>rfl⟩
  have:lt (c.l.n:Int) c.m=true:=h
  rw [hl] at this;cases this
noncomputable def GL (c:C66) (v:V66):Bool:=dec ((c.m=c.l.n∧fewN c.l.n)∧∃ i,i<=c.l.n∧v=jb2 c i)
def Rr (c:C66) (v:V66):XE × V66:=fin (jaH c) (jbc c) v
def ja0:List (Nat × AV)->Mem->Option (C66 × V66)
 | [(2,.one (.c (.bool false))),(3,.one (.c (.ptr 0 0))),(7,.one (.c (.sl [.int .i64,.int .i64,.int .i64] n ρ))),(8,.one (.c (.int .i64 m))),(9,.one (.c (.int .i64 i)))],[some (78,[.int .i64 a,.int .i64 b,.int .i64 c])]=>some (⟨⟨n,ρ⟩,m⟩,⟨⟨a,b,c⟩,i⟩)
 | _,_=>none
noncomputable def L66:Nat->St->Tree (XE × St):=YP [2,3,7,8,9] 0 46 ja0 GL S66 Rr [.ret,.exit 0]
theorem QV {C V:Type} {TX:C->V->Tree (XE × V)} {μ:C->V->Nat} {inv:C->V->Bool} {Q:C->XE × V->Prop} (h:∀ c v,inv c v=true->XV (TX c) (fun v=>inv c v=true) (μ c) (Q c)) (c:C):XV (TX c) (fun v=>inv c v=true) (μ c) (Q c) :=
 fun v hv=>h c v hv v hv
theorem l66 (fn:Func) (c b:Code) (hf:Tryz.prog.funcs[124]? = some fn) (hc:fn.body=some c) (hb:jf c 0=some b):LoopOk Tryz.prog b L66 :=
 JG h1 10 124 0 hf hc hb [2,3,7,8,9] 0 46 S66 jaH t66 ja0 GL jbc [.ret,.exit 0]
  (fun l m c v h=>by unfold ja0 at h;split at h<;>simp at h;obtain ⟨rfl,rfl⟩:=h;rfl)
  (QV fun c v hv=>by
   have h:=(jv.1 hv).1;exact (jmk c h.1 h.2).rounds fun x=>by unfold GL;rw [jv];exact ⟨fun h=>h.2,fun k=>⟨h,k⟩⟩)
noncomputable abbrev H66:Hd:=⟨H1.pc,[],[((124,0),L66)],H1.mc⟩
theorem h66:HdOk Tryz.prog H66:=HdOk.lhCons h1 l66
def ZW (l:Ln):Bool:=!(jU (Ud l) l.n)
noncomputable def G66:List A1->Option (Bool × AV)
 | [.c (.sl [.int .i64,.int .i64,.int .i64] n ρ)]=>some (dec (fewN n),.one (.c (.bool (ZW ⟨n,ρ⟩))))
 | _=>none
theorem joc (l : Ln) (hn : fewN l.n) : (Tree.need (GL ⟨l, ja l.n⟩ ⟨⟨0, 0, 0⟩, 0⟩) (.br (Qe (Rr ⟨l, ja l.n⟩ ⟨⟨0, 0, 0⟩, 0⟩).1 .ret) (.leaf (AV.one (.c (.bool false))))
  (.need (Qe (Rr ⟨l,ja l.n⟩ ⟨⟨0,0,0⟩,0⟩).1 (.exit 0)) (.leaf (AV.one (.c (.bool true))))))).All (fun z=>z=.one (.c (.bool (ZW l)))):=by
 have h:=jmk ⟨l,ja l.n⟩ rfl hn;have hi:GL ⟨l,ja l.n⟩ ⟨⟨0,0,0⟩,0⟩=true:=jv.2 ⟨⟨rfl,hn⟩,0,Nat.zero_le _,rfl⟩;have hf:Rr ⟨l,ja l.n⟩ ⟨⟨0,0,0⟩,0⟩=_:=h.fin0;refine ⟨hi,?_⟩;rw [hf];unfold ZW;cases jU (Ud l) l.n
 ·exact ⟨fun h=>(by cases h),fun _=>⟨rfl,rfl⟩⟩
 ·exact ⟨fun _=>rfl,fun h=>(by cases h)⟩
theorem p66:TcOne Tryz.prog 124 (nG G66):=qv h66 10 124 fun args r h=>by
 unfold G66 at h;split at h
 ·rename_i n ρ;obtain ⟨hp,rfl⟩:=Prod.mk.inj (Option.some.inj h);refine ⟨rfl,_,?_,joc ⟨n,ρ⟩ (jv.1 hp)⟩
  kernel_rfl
 ·cases h
noncomputable abbrev H2:Hd:=⟨(124,nG G66)::H1.pc,[],[],H1.mc⟩
theorem h2:HdOk Tryz.prog H2:=h1.tcCons p66
structure C65 where
 a:Ln
 b:Ln
structure V65 where
 c:Int
 e:Int
 i:Int
def S65 (c:C65) (v:V65):St:=mkS 68 [(0,.one (.c (.sl spSh c.a.n c.a.ρ))),(1,.one (.c (.sl spSh c.b.n c.b.ρ))),(6,.one (.c (I v.c))),(7,.one (.c (I v.e))),(8,.one (.c (I v.i)))] []
def Nt (c:C65) (v:V65):Tree (XE × V65) :=
 let g:=lt v.i (QM (ja c.a.n) (ja c.b.n))
 .need (!((g==true)&&true)||jc v.i c.a.n) (.need (!((g==true)&&true)||jc v.i c.b.n)
  (.br (g&&(spn c.a.ρ v.i.toNat).e==(spn c.b.ρ v.i.toNat).e)
   (.need (jc v.i c.a.n) (.need (jc v.i c.b.n) (.need (jc v.i c.a.n) (.need (jc v.i c.a.n) (.need (jc v.i c.b.n)
    (.br ((spn c.a.ρ v.i.toNat).t != (spn c.b.ρ v.i.toNat).t) (.leaf (.exit 0,⟨QM (spn c.a.ρ v.i.toNat).t (spn c.b.ρ v.i.toNat).t,(spn c.a.ρ v.i.toNat).e,v.i⟩))
     (.leaf (.normal,⟨QM (spn c.a.ρ v.i.toNat).t (spn c.b.ρ v.i.toNat).t,(spn c.a.ρ v.i.toNat).e,IntKind.i64.wrap (v.i+1)⟩))))))))
   (.leaf (.exit 0,v))))
theorem t65 (c:C65) (v:V65):((jL Tryz.prog H2 (jZ Tryz.prog H2 10) 114 0 1 (qz Tryz.prog 114 0) (S65 c v)).bind fun y=>gcT [0,1,6,7,8] 0 y)=(Nt c v).bind fun y=>.leaf (y.1,S65 c y.2):=by kernel_rfl
def JY (c:C65):Nat:=min c.a.n c.b.n
def K8 (c:C65) (i:Nat):Bool:=!((spn c.a.ρ i).e==(spn c.b.ρ i).e)||(spn c.a.ρ i).t != (spn c.b.ρ i).t
def Xr (c:C65):Nat->V65
 | 0=>⟨0,0,0⟩
 | i+1=>⟨QM (spn c.a.ρ i).t (spn c.b.ρ i).t,(spn c.a.ρ i).e,(i+1:Nat)⟩
def jga (c:C65) (i:Nat):V65:=bif (spn c.a.ρ i).e==(spn c.b.ρ i).e then ⟨QM (spn c.a.ρ i).t (spn c.b.ρ i).t,(spn c.a.ρ i).e,i⟩ else Xr c i
theorem Yw (c:C65) (i:Nat):(Xr c i).i=i:=by cases i<;>rfl
def jbH (c:C65) (v:V65):Nat:=(JY c - v.i).toNat
theorem Df (a b:Nat):QM (ja a) (ja b)=((min a b:Nat):Int):=by
 unfold QM;cases h:lt (ja b) (ja a)
 ·have : ¬ (b : Int) < (a : Int) := fun hh => by
   have:lt (ja b) (ja a)=true:=(Jk _ _).2 hh
   rw [h] at this;cases this
  show (a:Int)=_;omega
 ·have:(b:Int)<(a:Int):=(Jk _ _).1 h
  show (b:Int)=_;omega
theorem jmA (c:C65) (ha:fewN c.a.n):Sq (Nt c) (jbH c) (Xr c) (jga c) (JY c) (K8 c) (.exit 0) (.exit 0) where
 out:=by simp
 hit:=by simp
 meas i hi:=by unfold jbH;rw [Yw];omega
 round i hi:=by
  unfold fewN at ha;unfold JY at hi
  have hg:lt ((Xr c i).i) (QM (ja c.a.n) (ja c.b.n))=true:=by
   rw [Yw,Df,Jk];omega
  have ra:jc (Xr c i).i c.a.n=true:=by rw [Yw];exact inR (by omega)
  have rb:jc (Xr c i).i c.b.n=true:=by rw [Yw];exact inR (by omega)
  have hw:IntKind.i64.wrap ((i:Int)+1)=((i+1:Nat):Int):=by rw [w64_id (by omega) (by omega)];omega
  have hin:((Xr c i).i).toNat=i:=by rw [Yw];omega
  unfold Nt;simp only [hg,ra,rb,Tree.All,Bool.or_true,Bool.true_and,true_and,hin];unfold K8 jga;cases he:((spn c.a.ρ i).e==(spn c.b.ρ i).e)
  ·simp
  ·cases ht:((spn c.a.ρ i).t != (spn c.b.ρ i).t)
   ·simp only [Bool.not_true,Bool.or_self,Bool.false_eq_true,if_false,false_implies,true_and,and_true,forall_const,reduceCtorEq];rw [Yw,hw];rfl
   ·simp only [Bool.not_true,Bool.false_or,if_true,false_implies,and_true,forall_const,reduceCtorEq,cond_true];rw [Yw]
 stop:=by
  have hg:lt ((Xr c (JY c)).i) (QM (ja c.a.n) (ja c.b.n))=false:=by
   rw [Yw,Df,← Bool.not_eq_true,Jk];unfold JY;omega
  unfold Nt;simp [hg,Tree.All]
noncomputable def Ll (c:C65) (v:V65):Bool:=dec (fewN c.a.n∧∃ i,i<=JY c∧v=Xr c i)
def Lr (c:C65) (v:V65):XE × V65:=fin (Nt c) (jbH c) v
def M3:List (Nat × AV)->Mem->Option (C65 × V65)
 | [(0,.one (.c (.sl [.int .i64,.int .i64,.int .i64] n ρ))),(1,.one (.c (.sl [.int .i64,.int .i64,.int .i64] m σ))),(6,.one (.c (.int .i64 c))),(7,.one (.c (.int .i64 e))),(8,.one (.c (.int .i64 i)))],[]=>some (⟨⟨n,ρ⟩,⟨m,σ⟩⟩,⟨c,e,i⟩)
 | _,_=>none
noncomputable def L65:Nat->St->Tree (XE × St):=YP [0,1,6,7,8] 0 68 M3 Ll S65 Lr [.exit 0]
theorem l65 (fn:Func) (c b:Code) (hf:Tryz.prog.funcs[114]? = some fn) (hc:fn.body=some c) (hb:jf c 0=some b):LoopOk Tryz.prog b L65 :=
 JG h2 10 114 0 hf hc hb [0,1,6,7,8] 0 68 S65 Nt t65 M3 Ll jbH [.exit 0]
  (fun l m c v h=>by unfold M3 at h;split at h<;>simp at h;obtain ⟨rfl,rfl⟩:=h;rfl)
  (QV fun c v hv=>by
   have h:=(jv.1 hv).1;exact (jmA c h).rounds fun x=>by unfold Ll;rw [jv];exact ⟨fun h=>h.2,fun k=>⟨h,k⟩⟩)
noncomputable abbrev H65:Hd:=⟨H2.pc,[],[((114,0),L65)],H2.mc⟩
theorem h65:HdOk Tryz.prog H65:=HdOk.lhCons h2 l65
def anc (a b:Ln):V65:=bif !(ZW a)||!(ZW b) then ⟨0,0,0⟩ else bif jU (K8 ⟨a,b⟩) (JY ⟨a,b⟩) then jga ⟨a,b⟩ (yn (K8 ⟨a,b⟩) (JY ⟨a,b⟩)) else Xr ⟨a,b⟩ (JY ⟨a,b⟩)
noncomputable def G65:List A1->Option (Bool × AV)
 | [.c (.sl [.int .i64,.int .i64,.int .i64] n ρ),.c (.sl [.int .i64,.int .i64,.int .i64] m σ)]=>some (dec (fewN n∧fewN m),.tup [.c (I (anc ⟨n,ρ⟩ ⟨m,σ⟩).c),.c (I (anc ⟨n,ρ⟩ ⟨m,σ⟩).e)])
 | _=>none
theorem jn8 (a b : Ln) (ha : fewN a.n) (hb : fewN b.n) : (Tree.need (dec (fewN a.n)) (.need (!(((!(ZW a)) == false) && true) || dec (fewN b.n)) (.br (!(ZW a) || !(ZW b)) (.leaf (AV.tup [.c (I 0), .c (I 0)]))
  (.need (Ll ⟨a,b⟩ ⟨0,0,0⟩) (.need (Qe (Lr ⟨a,b⟩ ⟨0,0,0⟩).1 (.exit 0)) (.leaf (AV.tup [.c (I (Lr ⟨a,b⟩ ⟨0,0,0⟩).2.c),.c (I (Lr ⟨a,b⟩ ⟨0,0,0⟩).2.e)]))))))).All
   (fun z=>z=.tup [.c (I (anc a b).c),.c (I (anc a b).e)]):=by
 have h:=jmA ⟨a,b⟩ ha;have hi:Ll ⟨a,b⟩ ⟨0,0,0⟩=true:=jv.2 ⟨ha,0,Nat.zero_le _,rfl⟩;have hf:Lr ⟨a,b⟩ ⟨0,0,0⟩=_:=h.fin0;refine ⟨jv.2 ha,by rw [jv.2 hb,Bool.or_true],fun hc => ?_,fun hc=>⟨hi,?_⟩⟩
 ·unfold anc;rw [hc];rfl
 ·rw [hf];unfold anc;rw [hc];cases jU (K8 ⟨a,b⟩) (JY ⟨a,b⟩)<;>exact ⟨rfl,rfl⟩
theorem p65:TcOne Tryz.prog 114 (nG G65):=qv h65 10 114 fun args r h=>by
 unfold G65 at h;split at h
 ·rename_i n ρ m σ;obtain ⟨hp,rfl⟩:=Prod.mk.inj (Option.some.inj h);have hp:=jv.1 hp;refine ⟨rfl,_,?_,jn8 ⟨n,ρ⟩ ⟨m,σ⟩ hp.1 hp.2⟩
  kernel_rfl
 ·cases h
noncomputable abbrev H3:Hd:=⟨(114,nG G65)::H2.pc,[],[],H2.mc⟩
theorem h3:HdOk Tryz.prog H3:=h2.tcCons p65
theorem jmN {l:Ln} {i:Nat} (hp:∀ j,j<i->Ud l j=false):0<=(prv l.ρ i).e∧(prv l.ρ i).e<=1073741824∧(prv l.ρ i).t<=1073741824∧(0<i->1<=(prv l.ρ i).t∧1<=(prv l.ρ i).e):=by
 induction i with
 | zero=>exact ⟨by simp [prv],by simp [prv],by simp [prv],fun h=>by omega⟩
 | succ i ih =>
   obtain ⟨i1,i2,i3,i4⟩:=ih fun j hj=>hp j (by omega)
   have h:=hp i (by omega)
   unfold Ud Gg at h;simp only [Bool.or_eq_false_iff,Bool.not_eq_false',aTq,qE,bne_eq_false_iff_eq] at h;obtain ⟨⟨⟨⟨h1,h2⟩,h3⟩,h4⟩,h5⟩:=h;rw [← Bool.not_eq_true,Jk] at h2 h3
   have hge:0<=(prv l.ρ i).t:=by
    cases i with
    | zero=>simp [prv]
    | succ i=>have:=(i4 (by omega)).1;omega
   rw [w64_id (by omega) (by omega)] at h1
   show 0<=(spn l.ρ i).e∧(spn l.ρ i).e<=1073741824∧(spn l.ρ i).t<=1073741824∧(_->1<=(spn l.ρ i).t∧1<=(spn l.ρ i).e);exact ⟨by omega,h4.2,by omega,fun _=>⟨by omega,h4.1⟩⟩
def hd (l:Ln):Sp:=prv l.ρ l.n
theorem IM {l:Ln} (hn:fewN l.n) (h0:(ja l.n==0)=false):jc (IntKind.i64.wrap (ja l.n - 1)) l.n=true∧spn l.ρ (IntKind.i64.wrap (ja l.n - 1)).toNat=hd l:=by
 unfold fewN at hn;have h0':¬ (l.n:Int)=0:=by simpa [ja] using h0
 obtain ⟨k,hk⟩ : ∃ k,l.n=k+1:=⟨l.n - 1,by omega⟩
 have e:IntKind.i64.wrap (ja l.n - 1)=(k:Int):=by
  show IntKind.i64.wrap ((l.n:Int) - 1)=_;rw [w64_id (by omega) (by omega)];omega
 rw [e];refine ⟨inR (by omega),?_⟩
 unfold hd;rw [hk];rfl
theorem jik {l:Ln} (h0:(ja l.n==0)=true):hd l=⟨0,0,0⟩:=by
 have h0':l.n=0:=by
  have:(l.n:Int)=0:=by simpa [ja] using h0
  omega
 unfold hd;rw [h0'];rfl
noncomputable def G50:List A1->Option (Bool × AV)
 | [.c (.sl [.int .i64,.int .i64,.int .i64] n ρ)]=>some (dec (fewN n),.one (.agg [I (hd ⟨n,ρ⟩).e,I (hd ⟨n,ρ⟩).f,I (hd ⟨n,ρ⟩).t]))
 | _=>none
theorem p50:TcOne Tryz.prog 88 (nG G50):=qv h3 10 88 fun args r h=>by
 unfold G50 at h;split at h
 ·rename_i n ρ;obtain ⟨hp,rfl⟩:=Prod.mk.inj (Option.some.inj h);have hp:=jv.1 hp
  refine ⟨rfl,.br (ja n==0) (.leaf (.one (.agg [I 0,I 0,I 0]))) (.need (jc (IntKind.i64.wrap (ja n - 1)) n)
   (.leaf (.one (.agg [I (spn ρ (IntKind.i64.wrap (ja n - 1)).toNat).e,I (spn ρ (IntKind.i64.wrap (ja n - 1)).toNat).f,I (spn ρ (IntKind.i64.wrap (ja n - 1)).toNat).t])))),by kernel_rfl,fun h0 => ?_,fun h0 => ?_⟩
  ·have:=jik (l:=⟨n,ρ⟩) h0
   rw [this];rfl
  ·obtain ⟨a,b⟩:=IM (l:=⟨n,ρ⟩) hp h0;simp only at a b;exact ⟨a,by rw [b];rfl⟩
 ·cases h
theorem jej {l:Ln} (h0:(ja l.n==0)=false):(((anc l l).c==(hd l).t&&(anc l l).e==(hd l).e)&&lt 0 (anc l l).c)=ZW l:=by
 have h0':¬ (l.n:Int)=0:=by simpa [ja] using h0
 obtain ⟨k,hk⟩ : ∃ k,l.n=k+1:=⟨l.n - 1,by omega⟩
 have hb:∀ i,K8 ⟨l,l⟩ i=false:=fun i=>by simp [K8]
 have ha:jU (K8 ⟨l,l⟩) (JY ⟨l,l⟩)=false:=V2 fun i _=>hb i;have hl:JY ⟨l,l⟩=k+1:=by unfold JY;simp only;omega
 have him:∀ x:Int,QM x x=x:=fun x=>by unfold QM;cases lt x x<;>rfl
 unfold anc;cases hc:ZW l
 ·simp [lt]
 ·rw [ha,hl];simp only [Bool.not_true,Bool.or_self,cond_false];have e1:hd l=spn l.ρ k:=by unfold hd;rw [hk];rfl
  have hp:∀ j,j<k+1->Ud l j=false:=fun j hj=>by
   rw [← Bool.not_eq_true];intro hh
   have:=QR.2 ⟨j,show j<l.n by omega,hh⟩
   unfold ZW at hc;rw [this] at hc;cases hc
  have ht:=(jmN hp).2.2.2 (by omega)
  show (((QM (spn l.ρ k).t (spn l.ρ k).t)==(hd l).t&&(spn l.ρ k).e==(hd l).e)&&lt 0 (QM (spn l.ρ k).t (spn l.ρ k).t))=true;rw [him,e1]
  have:lt 0 (spn l.ρ k).t=true:=(Jk _ _).2 (by
   have:1<=(spn l.ρ k).t:=ht.1
   omega)
  simp [this]
noncomputable abbrev H4:Hd:=⟨(88,nG G50)::H3.pc,[],[],H3.mc⟩
theorem h4:HdOk Tryz.prog H4:=h3.tcCons p50
theorem p54:TcOne Tryz.prog 87 (nG G66):=qv h4 10 87 fun args r h=>by
 unfold G66 at h;split at h
 ·rename_i n ρ;obtain ⟨hp,rfl⟩:=Prod.mk.inj (Option.some.inj h);have hp:=jv.1 hp
  refine ⟨rfl,.br (ja n==0) (.leaf (.one (.c (.bool true)))) (.need (dec (fewN n∧fewN n)) (.need (jc (IntKind.i64.wrap (ja n - 1)) n)
   (.leaf (.one (.c (.bool (((anc ⟨n,ρ⟩ ⟨n,ρ⟩).c==(spn ρ (IntKind.i64.wrap (ja n - 1)).toNat).t&&(anc ⟨n,ρ⟩ ⟨n,ρ⟩).e==(spn ρ (IntKind.i64.wrap (ja n - 1)).toNat).e)&&lt 0 (anc ⟨n,ρ⟩ ⟨n,ρ⟩).c))))))),by kernel_rfl,fun h0 => ?_,fun h0 => ?_⟩
  ·have h0' : n = 0 := by
    have:(n:Int)=0:=by simpa [ja] using h0
    omega
   subst h0';rfl
  ·obtain ⟨a,b⟩:=IM (l:=⟨n,ρ⟩) hp h0;simp only at a b;refine ⟨jv.2 ⟨hp,hp⟩,a,?_⟩;rw [b]
   have:=jej (l:=⟨n,ρ⟩) h0
   show AV.one (.c (.bool _))=_;rw [this]
 ·cases h
noncomputable abbrev H5:Hd:=⟨(87,nG G66)::H4.pc,[],[],H4.mc⟩
theorem h5:HdOk Tryz.prog H5:=h4.tcCons p54
def sit (a:Int):Bool:=le 0 a&&lt a 4
def rcv (r:Int):Bool:=r==2||r==4
def G47:List A1->Option AV
 | [.c (.int .i64 a),.c (.int .i64 b),.c (.int .i64 c)]=>some (.one (.c (.bool (le b a&&le a c))))
 | _=>none
theorem p47:PcOne Tryz.prog 86 G47:=Yh h5 10 86 fun args r h=>by
 unfold G47 at h;split at h
 ·obtain rfl:=Option.some.inj h;exact ⟨rfl,by kernel_rfl,by kernel_rfl⟩
 ·cases h
def G55:List A1->Option AV
 | [.c (.int .i64 a)]=>some (.one (.c (.bool (rcv a))))
 | _=>none
theorem p55:PcOne Tryz.prog 89 G55:=Yh h5 10 89 fun args r h=>by
 unfold G55 at h;split at h
 ·obtain rfl:=Option.some.inj h;exact ⟨rfl,by kernel_rfl,by kernel_rfl⟩
 ·cases h
noncomputable abbrev H6:Hd:=⟨(86,oG G47)::(89,oG G55)::H5.pc,[],[],H5.mc⟩
theorem h6:HdOk Tryz.prog H6:=(h5.pcCons p55).pcCons p47
def oth (m a:Int):Bool:=(le 0 m&&le m 3)&&m != a
def G44:List A1->Option AV
 | [.agg [.int .i64 a,.int .i64 _,.int .i64 _,.int .i64 _,.sl [.int .i64,.int .i64,.int .i64] _ _,.int .i64 _,.bool _,.bool _],.c (.int .i64 m)]=>some (.one (.c (.bool (oth m a))))
 | _=>none
theorem p44:PcOne Tryz.prog 90 G44:=Yh h6 10 90 fun args r h=>by
 unfold G44 at h;split at h
 ·obtain rfl:=Option.some.inj h;exact ⟨rfl,by kernel_rfl,by kernel_rfl⟩
 ·cases h
noncomputable abbrev H7:Hd:=⟨(90,oG G44)::H6.pc,[],[],H6.mc⟩
theorem h7:HdOk Tryz.prog H7:=h6.pcCons p44
end Go.Proofs.YtiefjlcakpdfeaaGreatDoor.Ro