/-
 Part TaB of the proof: EngB EngC EngD.
-/
import Derived.Test.YtiefjlcakpdfeaaGreatDoorTaA
import Derived.Laws.StructEq
import Derived.ChangeKeysEq
namespace Go.Sx
open Go
inductive All2 {α β:Type} (R:α->β->Prop):List α->List β->Prop
 | nil:All2 R [] []
 | cons {a b l r}:R a b->All2 R l r->All2 R (a::l) (b::r)
theorem All2.length {α β:Type} {R:α->β->Prop} {l:List α} {r:List β} (h:All2 R l r):l.length=r.length:=by
 induction h with
 | nil=>rfl
 | cons _ _ ih=>simp [ih]
theorem All2.imp {α β:Type} {R S:α->β->Prop} {l:List α} {r:List β} (h:All2 R l r) (hi:∀ a b,R a b->S a b):All2 S l r:=by
 induction h with
 | nil=>exact .nil
 | cons h _ ih=>exact .cons (hi _ _ h) ih
theorem All2.append {α β:Type} {R:α->β->Prop} {l l':List α} {r r':List β} (h:All2 R l r) (h':All2 R l' r'):All2 R (l++l') (r++r'):=by
 induction h with
 | nil=>exact h'
 | cons h _ ih=>exact .cons h ih
theorem jd {α:Type} (l:List α) (i:Nat):nth l i=l[i]?:=by
 induction l generalizing i with
 | nil=>rfl
 | cons a l ih=>cases i with
  | zero=>rfl
  | succ n=>simpa [nth] using ih n
theorem jy {α:Type} (l:List α) (i:Nat) (b:α):jk l i b=l.set i b:=by
 induction l generalizing i with
 | nil=>rfl
 | cons a l ih=>cases i with
  | zero=>rfl
  | succ n=>simp [jk,ih]
theorem Wo {α:Type} (l:List α) (n:Nat):U9 l n=l.drop n:=by
 induction n generalizing l with
 | zero=>cases l<;>rfl
 | succ n ih=>cases l with
  | nil=>rfl
  | cons a l=>simpa [U9] using ih l
theorem kW {α:Type} {l:List α} {n:Nat} {r:List α} (h:takeN l n=some r):r=l.take n∧n<=l.length:=by
 induction n generalizing l r with
 | zero=>cases l<;>simp_all [takeN]
 | succ n ih=>cases l with
  | nil=>simp [takeN] at h
  | cons a l =>
    simp only [takeN] at h;split at h
    ·rename_i r' hr;obtain ⟨h1,h2⟩:=ih hr;simp at h;subst h;subst h1;exact ⟨by simp,by simp;omega⟩
    ·simp at h
theorem All2.nth {α β:Type} {R:α->β->Prop} {l:List α} {r:List β} (h:All2 R l r) {i:Nat} {a:α} (ha:nth l i=some a):∃ b,r[i]? = some b∧R a b:=by
 induction h generalizing i with
 | nil=>simp [Sx.nth] at ha
 | cons hab _ ih=>cases i with
  | zero=>simp [Sx.nth] at ha;subst ha;exact ⟨_,rfl,hab⟩
  | succ n=>obtain ⟨b,hb,hr⟩:=ih (by simpa [Sx.nth] using ha);exact ⟨b,by simpa using hb,hr⟩
theorem All2.nth' {α β:Type} {R:α->β->Prop} {l:List α} {r:List β} (h:All2 R l r) {i:Nat} {b:β} (hb:r[i]? = some b):∃ a,Sx.nth l i=some a∧R a b:=by
 induction h generalizing i with
 | nil=>simp at hb
 | cons hab _ ih=>cases i with
  | zero=>simp at hb;subst hb;exact ⟨_,rfl,hab⟩
  | succ n=>obtain ⟨a,ha,hr⟩:=ih (by simpa using hb);exact ⟨a,by simpa [Sx.nth] using ha,hr⟩
theorem All2.set {α β:Type} {R:α->β->Prop} {l:List α} {r:List β} (h:All2 R l r) (i:Nat) {a:α} {b:β} (hab:R a b):All2 R (jk l i a) (r.set i b):=by
 induction h generalizing i with
 | nil=>exact .nil
 | cons h h' ih=>cases i with
  | zero=>exact .cons hab h'
  | succ n=>exact .cons h (ih n)
theorem All2.drop {α β:Type} {R:α->β->Prop} {l:List α} {r:List β} (h:All2 R l r) (n:Nat):All2 R (l.drop n) (r.drop n):=by
 induction h generalizing n with
 | nil=>simp;exact .nil
 | cons h h' ih=>cases n with
  | zero=>exact .cons h h'
  | succ n=>exact ih n
theorem All2.take {α β:Type} {R:α->β->Prop} {l:List α} {r:List β} (h:All2 R l r) (n:Nat):All2 R (l.take n) (r.take n):=by
 induction h generalizing n with
 | nil=>simp;exact .nil
 | cons h h' ih=>cases n with
  | zero=>simp;exact .nil
  | succ n=>exact .cons h (ih n)
theorem All2.of_nth {α β:Type} {R:α->β->Prop}:∀ {l:List α} {r:List β},l.length=r.length->(∀ i a b,Sx.nth l i=some a->Sx.nth r i=some b->R a b)->All2 R l r
 | [],[],_,_=>.nil
 | [],_::_,h,_=>by simp at h
 | _::_,[],h,_=>by simp at h
 | a::l,b::r,h,H=>.cons (H 0 a b rfl rfl) (All2.of_nth (by simpa using h) fun i x y hx hy=>H (i+1) x y hx hy)
structure BI where
 p:Nat
 n:Nat
 cap:Nat
inductive CV.Rel (F:Nat->Prop) (w:World):List BI->CV->Value->Prop
 | any {bs v} (h:v.oneCell'=true):CV.Rel F w bs .any v
 | bool {bs} (b):CV.Rel F w bs (.bool b) (.bool b)
 | int {bs} (k n):CV.Rel F w bs (.int k n) (.int k n)
 | str {bs} (s):CV.Rel F w bs (.str s) (.string s)
 | nilp {bs}:CV.Rel F w bs .nilp (.pointer none)
 | nils {bs}:CV.Rel F w bs .nils (.slice none 0 0)
 | nilf {bs}:CV.Rel F w bs .nilf .nilFunc
 | nili {bs}:CV.Rel F w bs .nili .nilIface
 | ptr {bs b o x} (h:nth bs b=some x):CV.Rel F w bs (.ptr b o) (.pointer (some ⟨x.p,o,none⟩))
 | os {bs b sz x base} (h:nth bs b=some x) (hb:0<x.cap->base=some ⟨x.p,0,none⟩):CV.Rel F w bs (.os b sz) (.slice base x.n x.cap)
 | ost {bs b sz lo x} (h:nth bs b=some x) (hl:lo<x.n):CV.Rel F w bs (.ost b sz lo) (.slice (some ⟨x.p,lo*sz,none⟩) (x.n - lo) (x.cap - lo))
 | osh {bs b sz m x base} (h:nth bs b=some x) (hl:m<=x.n) (hb:0<x.cap->base=some ⟨x.p,0,none⟩):CV.Rel F w bs (.osh b sz m) (.slice base m x.cap)
 | oc {bs b m c x} (h:nth bs b=some x) (hl:m<=c):CV.Rel F w bs (.oc b m c) (.slice (some ⟨x.p,0,none⟩) m c)
 | rowp {bs b sz i off x} (h:nth bs b=some x) (hi:i<x.n):CV.Rel F w bs (.rowp b sz i off) (.pointer (some ⟨x.p,i*sz+off,none⟩))
 | rop {bs es off ρ p o} (val : Nat -> Value) (hb : p < w.heap.size) (hF : ¬ F p) (hc : ∀ j, j < es.length -> w.cell? ⟨p, o + j, none⟩ = some (val j))
   (hr:∀ j s,nth es j=some s->CV.Rel F w [] (cellOf s (ρ.at j)) (val j)):CV.Rel F w bs (.rop es off ρ) (.pointer (some ⟨p,o+off,none⟩))
 | slnil {bs es ρ}:CV.Rel F w bs (.sl es 0 ρ) (.slice none 0 0)
 | sl {bs es n ρ cap} {a : Addr} (val : Nat -> Nat -> Value) (hn : n <= cap) (h0 : 0 < n -> a.spot = none ∧ a.block < w.heap.size ∧ ¬ F a.block)
   (hc:∀ i f,i<n->f<es.length->w.cell? ⟨a.block,a.off+(i*es.length+f),none⟩=some (val i f))
   (hr:∀ i f s,i<n->nth es f=some s->CV.Rel F w [] (cellOf s ((ρ.at i).at f)) (val i f)):CV.Rel F w bs (.sl es n ρ) (.slice (some a) n cap)
 | fn {bs f first cap} {vf vc : List Value} (l1 : first.length = vf.length) (l2 : cap.length = vc.length)
   (r1:∀ i x v,nth first i=some x->nth vf i=some v->CV.Rel F w bs x v)
   (r2:∀ i x v,nth cap i=some x->nth vc i=some v->CV.Rel F w bs x v):CV.Rel F w bs (.fn f first cap) (.func f vf.toArray vc.toArray)
 | iface {bs t x v} (h:CV.Rel F w bs x v):CV.Rel F w bs (.iface t x) (.iface t v)
 | ifa {bs t l} {vs:List Value} (hl:l.length=vs.length) (r:∀ i x v,nth l i=some x->nth vs i=some v->CV.Rel F w bs x v):CV.Rel F w bs (.ifa t l) (.iface t (.agg vs.toArray))
 | ifx0 {bs ρ} (h:ρ.L []=0):CV.Rel F w bs (.ifx ρ) .nilIface
 | ifx1 {bs ρ k t s v} (h:ρ.L []=k+1) (ht:DF k=some (t,false,[s])) (r:CV.Rel F w [] (cellOf s (ρ.at 0)) v):CV.Rel F w bs (.ifx ρ) (.iface t v)
 | ifxa {bs ρ k t es} {vs : List Value} (h : ρ.L [] = k + 1) (ht : DF k = some (t, true, es)) (hl : es.length = vs.length)
   (r:∀ i s v,nth es i=some s->nth vs i=some v->CV.Rel F w [] (cellOf s (ρ.at i)) v):CV.Rel F w bs (.ifx ρ) (.iface t (.agg vs.toArray))
 | yld {bs b x} (h:nth bs b=some x):CV.Rel F w bs (.yld b) (.func (.yield x.p) #[] #[])
 | mp {bs ks vs a clock} {es : Array MapEntry} {zs : List Value} (hp : a < w.heap.size) (hF : ¬ F a) (he : w.heap[a]? = some (.map es clock)) (hk : es.toList.map (·.key) = ks.map .string) (hz : es.toList.map (·.val) = zs)
   (hl:vs.length=zs.length) (r:∀ i x v,nth vs i=some x->nth zs i=some v->CV.Rel F w bs x v):CV.Rel F w bs (.mp ks vs) (.map (some a))
theorem CV.Rel.one {F w bs x v} (h:CV.Rel F w bs x v):v.oneCell'=true:=by
 cases h<;>first | rfl | assumption
theorem CV.Rel.mono {F F' : Nat -> Prop} {w w' : World} (hs : w.heap.size <= w'.heap.size) (hF : ∀ p, p < w.heap.size -> F' p -> F p)
  (hsame:∀ p,p<w.heap.size->¬ F p->w'.heap[p]? = w.heap[p]?) {bs:List BI} {x:CV} {v:Value} (h:CV.Rel F w bs x v) :
  ∀ {bs':List BI},(∀ k p,nth bs k=some p->nth bs' k=some p)->CV.Rel F' w' bs' x v:=by
 have hcell:∀ p o,p<w.heap.size->¬ F p->w'.cell? ⟨p,o,none⟩=w.cell? ⟨p,o,none⟩:=fun p o h1 h2=>World.cell?_of_block (hsame p h1 h2)
 induction h with
 | any h=>intro _ _;exact .any h
 | bool b=>intro _ _;exact .bool b
 | int k n=>intro _ _;exact .int k n
 | str s=>intro _ _;exact .str s
 | nilp=>intro _ _;exact .nilp
 | nils=>intro _ _;exact .nils
 | nilf=>intro _ _;exact .nilf
 | nili=>intro _ _;exact .nili
 | ptr h=>intro _ hb;exact .ptr (hb _ _ h)
 | os h h0=>intro _ hb;exact .os (hb _ _ h) h0
 | ost h hl=>intro _ hb;exact .ost (hb _ _ h) hl
 | osh h hl h0=>intro _ hb;exact .osh (hb _ _ h) hl h0
 | oc h hl=>intro _ hb;exact .oc (hb _ _ h) hl
 | rowp h hi=>intro _ hb;exact .rowp (hb _ _ h) hi
 | rop val hb hF' hc _ ih =>
   intro _ _;exact .rop val (by omega) (fun h=>hF' (hF _ hb h)) (fun j hj=>by rw [hcell _ _ hb hF'];exact hc j hj) (fun j s hj=>ih j s hj (fun _ _ h=>h))
 | slnil=>intro _ _;exact .slnil
 | sl val hn h0 hc _ ih =>
   intro _ _;exact .sl val hn (fun hp=>⟨(h0 hp).1,Nat.lt_of_lt_of_le (h0 hp).2.1 hs,fun h=>(h0 hp).2.2 (hF _ (h0 hp).2.1 h)⟩) (fun i f hi hf=>by rw [hcell _ _ (h0 (by omega)).2.1 (h0 (by omega)).2.2];exact hc i f hi hf) (fun i f s hi hf=>ih i f s hi hf (fun _ _ h=>h))
 | fn l1 l2 _ _ ih1 ih2=>intro _ hb;exact .fn l1 l2 (fun i x v h1 h2=>ih1 i x v h1 h2 hb) (fun i x v h1 h2=>ih2 i x v h1 h2 hb)
 | iface _ ih=>intro _ hb;exact .iface (ih hb)
 | ifa hl _ ih=>intro _ hb;exact .ifa hl fun i x v h1 h2=>ih i x v h1 h2 hb
 | ifx0 h=>intro _ _;exact .ifx0 h
 | ifx1 h ht _ ih=>intro _ _;exact .ifx1 h ht (ih (fun _ _ h=>h))
 | ifxa h ht hl _ ih=>intro _ _;exact .ifxa h ht hl fun i s v h1 h2=>ih i s v h1 h2 (fun _ _ h=>h)
 | yld h=>intro _ hb;exact .yld (hb _ _ h)
 | mp hp hF' he hk hz hl _ ih=>intro _ hb;exact .mp (by omega) (fun h=>hF' (hF _ hp h)) (by rw [hsame _ hp hF'];exact he) hk hz hl fun i x v h1 h2=>ih i x v h1 h2 hb
def A1.Rel (F:Nat->Prop) (w:World) (bs:List BI):A1->Value->Prop
 | .c x,v=>x.Rel F w bs v
 | .agg l,v=>∃ vs:List Value,v=.agg vs.toArray∧All2 (CV.Rel F w bs) l vs
def AV.Rel (F:Nat->Prop) (w:World) (bs:List BI):AV->Value->Prop
 | .any,_=>True
 | .one a,v=>a.Rel F w bs v
 | .tup l,v=>∃ vs:List Value,v=.tuple vs.toArray∧All2 (A1.Rel F w bs) l vs
structure Grow (F F':Nat->Prop) (bs bs':List BI) (w w':World):Prop where
 size:w.heap.size<=w'.heap.size
 F1:∀ p,p<w.heap.size->F' p->F p
 same:∀ p,p<w.heap.size->¬ F p->w'.heap[p]? = w.heap[p]?
 bs:∀ k p,nth bs k=some p->nth bs' k=some p
theorem CV.Rel.grow {F F' bs bs' w w' x v} (g:Grow F F' bs bs' w w') (h:CV.Rel F w bs x v):CV.Rel F' w' bs' x v:=h.mono g.size g.F1 g.same g.bs
theorem A1.Rel.grow {F F' bs bs' w w' x v} (g:Grow F F' bs bs' w w') (h:A1.Rel F w bs x v):A1.Rel F' w' bs' x v:=by
 cases x with
 | c x=>exact CV.Rel.grow g h
 | agg l=>obtain ⟨vs,rfl,h⟩:=h;exact ⟨vs,rfl,h.imp fun _ _ h=>h.grow g⟩
theorem AV.Rel.grow {F F' bs bs' w w' x v} (g:Grow F F' bs bs' w w') (h:AV.Rel F w bs x v):AV.Rel F' w' bs' x v:=by
 cases x with
 | any=>trivial
 | one x=>exact A1.Rel.grow g h
 | tup l=>obtain ⟨vs,rfl,h⟩:=h;exact ⟨vs,rfl,h.imp fun _ _ h=>A1.Rel.grow g h⟩
theorem CV.Rel.closed {F w bs x v} (h:CV.Rel F w bs x v):∀ {bs'},closedC x=true->CV.Rel F w bs' x v:=by
 have hcs:∀ l:List CV,closedC.closedCs l=true->∀ i x,nth l i=some x->closedC x=true:=by
  intro l
  induction l with
  | nil=>intro _ i x h;simp [nth] at h
  | cons a l ih =>
    intro h i x hx;simp only [closedC.closedCs,aTq] at h;cases i with
   | zero=>simp [nth] at hx;subst hx;exact h.1
   | succ n=>exact ih h.2 n x (by simpa [nth] using hx)
 induction h with
 | any h=>intro _ _;exact .any h
 | bool b=>intro _ _;exact .bool b
 | int k n=>intro _ _;exact .int k n
 | str s=>intro _ _;exact .str s
 | nilp=>intro _ _;exact .nilp
 | nils=>intro _ _;exact .nils
 | nilf=>intro _ _;exact .nilf
 | nili=>intro _ _;exact .nili
 | ptr h=>intro _ hc;simp [closedC] at hc
 | os h _=>intro _ hc;simp [closedC] at hc
 | ost h _=>intro _ hc;simp [closedC] at hc
 | osh h _ _=>intro _ hc;simp [closedC] at hc
 | oc h _=>intro _ hc;simp [closedC] at hc
 | rowp h _=>intro _ hc;simp [closedC] at hc
 | rop val hb hF' hc hr _=>intro _ _;exact .rop val hb hF' hc hr
 | slnil=>intro _ _;exact .slnil
 | sl val hn h0 hc hr _=>intro _ _;exact .sl val hn h0 hc hr
 | fn l1 l2 _ _ ih1 ih2 =>
   intro _ hc;simp only [closedC,aTq] at hc;exact .fn l1 l2 (fun i x v h1 h2=>ih1 i x v h1 h2 (hcs _ hc.1 i x h1)) (fun i x v h1 h2=>ih2 i x v h1 h2 (hcs _ hc.2 i x h1))
 | iface _ ih=>intro _ hc;exact .iface (ih (by simpa [closedC] using hc))
 | ifa hl _ ih=>intro _ hc;exact .ifa hl fun i x v h1 h2=>ih i x v h1 h2 (hcs _ (by simpa [closedC] using hc) i x h1)
 | ifx0 h=>intro _ _;exact .ifx0 h
 | ifx1 h ht r _=>intro _ _;exact .ifx1 h ht r
 | ifxa h ht hl r _=>intro _ _;exact .ifxa h ht hl r
 | yld _=>intro _ hc;simp [closedC] at hc
 | mp _ _ _ _ _ _ _ _=>intro _ hc;simp [closedC] at hc
theorem A1.Rel.closed {F w bs x v} (h:A1.Rel F w bs x v) {bs'} (hc:jx x=true):A1.Rel F w bs' x v:=by
 cases x with
 | c x=>exact CV.Rel.closed h hc
 | agg l =>
   obtain ⟨vs,rfl,h⟩:=h;refine ⟨vs,rfl,?_⟩;simp only [jx,List.all_eq_true] at hc
   induction h with
  | nil=>exact .nil
  | cons h _ ih=>exact .cons (h.closed (hc _ (by simp))) (ih fun x hx=>hc x (by simp [hx]))
end Go.Sx
namespace Go.Sx
open Go
section
variable {P:Program} {F:Nat->Prop} {w:World} {bs:List BI}
theorem IG {v:Value} {c:CV} (h:WZ v=some c):c.Rel F w bs v:=by
 unfold WZ at h;split at h<;>simp at h<;>subst h<;>constructor
theorem yL:∀ {l:List Value} {cs:List CV},kN l=some cs->All2 (CV.Rel F w bs) cs l
 | [],cs,h=>by simp [kN] at h;subst h;exact .nil
 | v :: l, cs, h => by
   simp only [kN] at h;split at h
   ·rename_i c r hc hr;simp at h;subst h;exact .cons (IG hc) (yL hr)
   ·simp at h
theorem jeA {v:Value} {x:AV} (h:jaw v=some x):x.Rel F w bs v:=by
 unfold jaw at h;split at h<;>simp at h<;>subst h<;>simp only [AV.Rel,A1.Rel]<;>constructor
mutual
theorem jjn:∀ {a b:Sh},shEq a b=true->a=b
 | .bool,.bool,_=>rfl
 | .int k,.int k',h=>by simp [shEq] at h;rw [h]
 | .str,.str,_=>rfl
 | .sl a,.sl b,h=>by simp only [shEq] at h;rw [jj h]
 | .bool,.int _,h=>by simp [shEq] at h
 | .bool,.str,h=>by simp [shEq] at h
 | .bool,.sl _,h=>by simp [shEq] at h
 | .int _,.bool,h=>by simp [shEq] at h
 | .int _,.str,h=>by simp [shEq] at h
 | .int _,.sl _,h=>by simp [shEq] at h
 | .str,.bool,h=>by simp [shEq] at h
 | .str,.int _,h=>by simp [shEq] at h
 | .str,.sl _,h=>by simp [shEq] at h
 | .sl _,.bool,h=>by simp [shEq] at h
 | .sl _,.int _,h=>by simp [shEq] at h
 | .sl _,.str,h=>by simp [shEq] at h
 | .rt a,.rt b,h=>by simp [shEq] at h;rw [h]
 | .rt _,.bool,h=>by simp [shEq] at h
 | .rt _,.int _,h=>by simp [shEq] at h
 | .rt _,.str,h=>by simp [shEq] at h
 | .rt _,.sl _,h=>by simp [shEq] at h
 | .bool,.rt _,h=>by simp [shEq] at h
 | .int _,.rt _,h=>by simp [shEq] at h
 | .str,.rt _,h=>by simp [shEq] at h
 | .sl _,.rt _,h=>by simp [shEq] at h
 | .ifc,.ifc,_=>rfl
 | .ifc,.bool,h=>by simp [shEq] at h
 | .ifc,.int _,h=>by simp [shEq] at h
 | .ifc,.str,h=>by simp [shEq] at h
 | .ifc,.sl _,h=>by simp [shEq] at h
 | .ifc,.rt _,h=>by simp [shEq] at h
 | .bool,.ifc,h=>by simp [shEq] at h
 | .int _,.ifc,h=>by simp [shEq] at h
 | .str,.ifc,h=>by simp [shEq] at h
 | .sl _,.ifc,h=>by simp [shEq] at h
 | .rt _,.ifc,h=>by simp [shEq] at h
theorem jj:∀ {a b:List Sh},shEq.shsEq a b=true->a=b
 | [],[],_=>rfl
 | a :: l, b :: r, h => by
   simp only [shEq.shsEq,aTq] at h;rw [jjn h.1,jj h.2]
 | [],_::_,h=>by simp [shEq.shsEq] at h
 | _::_,[],h=>by simp [shEq.shsEq] at h
end
theorem VT {c:Bool} {a b:CV} {v:Value} (ha:c=true->a.Rel F w bs v) (hb:c=false->b.Rel F w bs v):(Qi c a b).Rel F w bs v:=by
 cases c
 ·have h:=hb rfl;unfold Qi;split
  ·exact h
  ·split
   ·rename_i he;subst he;exact h
   ·exact .any h.one
  ·exact h
  ·exact h
  ·exact h
  ·exact h
  ·exact h
  ·split
   ·rename_i he;simp only [aTq,beq_iff_eq] at he;rw [he.1,he.2];exact h
   ·exact .any h.one
  ·split
   ·rename_i he;simp only [aTq,beq_iff_eq] at he;rw [he.1,he.2];exact h
   ·exact .any h.one
  ·split
   ·rename_i he;rw [jj he];exact h
   ·exact .any h.one
  ·cases h;exact .slnil
  ·exact h
  ·exact .any h.one
 ·have h:=ha rfl;unfold Qi;split
  ·exact h
  ·split
   ·exact h
   ·exact .any h.one
  ·exact h
  ·exact h
  ·exact h
  ·exact h
  ·exact h
  ·split
   ·exact h
   ·exact .any h.one
  ·split
   ·exact h
   ·exact .any h.one
  ·split
   ·exact h
   ·exact .any h.one
  ·exact h
  ·cases h;exact .slnil
  ·exact .any h.one
theorem kT {c:Bool}:∀ {a b m:List CV} {vs:List Value},yG c a b=some m->(c=true->All2 (CV.Rel F w bs) a vs)->(c=false->All2 (CV.Rel F w bs) b vs)->All2 (CV.Rel F w bs) m vs
 | [], [], m, vs, h, ha, hb => by
   simp [yG] at h;subst h;cases c
   ·exact hb rfl
   ·exact ha rfl
 | x :: a, y :: b, m, vs, h, ha, hb => by
   simp only [yG] at h;split at h
   ·rename_i m' hm;simp at h;subst h;cases vs with
    | nil =>
      cases c
      ·have:=hb rfl;cases this
      ·have:=ha rfl;cases this
    | cons v vs =>
      refine .cons (VT (fun h=>by have:=ha h;cases this;assumption) (fun h=>by have:=hb h;cases this;assumption)) ?_
      exact kT hm (fun h=>by have:=ha h;cases this;assumption) (fun h=>by have:=hb h;cases this;assumption)
   ·simp at h
 | [],_::_,_,_,h,_,_=>by simp [yG] at h
 | _::_,[],_,_,h,_,_=>by simp [yG] at h
theorem jeb {c:Bool} {a b m:A1} {v:Value} (h:TL c a b=some m) (ha:c=true->a.Rel F w bs v) (hb:c=false->b.Rel F w bs v):m.Rel F w bs v:=by
 unfold TL at h;split at h
 ·simp at h;subst h;exact VT ha hb
 ·split at h
  ·rename_i m' hm;simp at h;subst h;cases c
   ·obtain ⟨vs,rfl,h⟩:=hb rfl;exact ⟨vs,rfl,kT hm (fun h=>by cases h) (fun _=>h)⟩
   ·obtain ⟨vs,rfl,h⟩:=ha rfl;exact ⟨vs,rfl,kT hm (fun _=>h) (fun h=>by cases h)⟩
  ·simp at h
 ·simp at h
theorem Wu {c:Bool}:∀ {a b m:List A1} {vs:List Value},Zw c a b=some m->(c=true->All2 (A1.Rel F w bs) a vs)->(c=false->All2 (A1.Rel F w bs) b vs)->All2 (A1.Rel F w bs) m vs
 | [], [], m, vs, h, ha, hb => by
   simp [Zw] at h;subst h;cases c
   ·exact hb rfl
   ·exact ha rfl
 | x :: a, y :: b, m, vs, h, ha, hb => by
   simp only [Zw] at h;split at h
   ·rename_i x' m' hx hm;simp at h;subst h;cases vs with
    | nil =>
      cases c
      ·have:=hb rfl;cases this
      ·have:=ha rfl;cases this
    | cons v vs =>
      refine .cons (jeb hx (fun h=>by have:=ha h;cases this;assumption) (fun h=>by have:=hb h;cases this;assumption)) ?_
      exact Wu hm (fun h=>by have:=ha h;cases this;assumption) (fun h=>by have:=hb h;cases this;assumption)
   ·simp at h
 | [],_::_,_,_,h,_,_=>by simp [Zw] at h
 | _::_,[],_,_,h,_,_=>by simp [Zw] at h
theorem QG {c:Bool} {a b:AV} {v:Value} (ha:c=true->a.Rel F w bs v) (hb:c=false->b.Rel F w bs v):(Qg c a b).Rel F w bs v:=by
 unfold Qg;split
 ·rename_i a b;split
  ·rename_i m hm;cases c
   ·obtain ⟨vs,rfl,h⟩:=hb rfl;exact ⟨vs,rfl,Wu hm (fun h=>by cases h) (fun _=>h)⟩
   ·obtain ⟨vs,rfl,h⟩:=ha rfl;exact ⟨vs,rfl,Wu hm (fun _=>h) (fun h=>by cases h)⟩
  ·trivial
 ·exact VT ha hb
 ·rename_i a b;split
  ·rename_i m hm;cases c
   ·obtain ⟨vs,rfl,h⟩:=hb rfl;exact ⟨vs,rfl,kT hm (fun h=>by cases h) (fun _=>h)⟩
   ·obtain ⟨vs,rfl,h⟩:=ha rfl;exact ⟨vs,rfl,kT hm (fun _=>h) (fun h=>by cases h)⟩
  ·trivial
 ·trivial
theorem jeO {x:CV} {v:Value} (h:x.Rel F w bs v):v.cells = #[v]:=by
 have:=h.one
 cases v<;>first | rfl | simp [Value.oneCell'] at this
theorem A1.Rel.cells {a:A1} {v:Value} (h:a.Rel F w bs v):All2 (CV.Rel F w bs) a.cells v.cells.toList:=by
 cases a with
 | c x=>rw [jeO h];exact .cons h .nil
 | agg l=>obtain ⟨vs,rfl,h⟩:=h;exact h
theorem Kn {t:TypeId} {b:Bool} (h:Jl P t=some b) (w:World):(isAgg t).run P w=.ok b w:=by
 unfold Jl at h;unfold isAgg;split at h
 ·rename_i hu;simp at h;subst h;simp [run_underlying hu]
 ·rename_i hu;simp at h;subst h;simp [run_underlying hu]
 ·rename_i d h1 h2 hu;simp at h;subst h;rw [Sem.run_bind,run_underlying hu];simp only [Result.andThen_ok];cases d<;>first | rfl | exact (h1 _ rfl).elim | exact (h2 _ _ rfl).elim
 ·simp at h
theorem qU {t:TypeId} {i:TypeInfo} (h:P.info? t=some i) (w:World):(sizeOf t).run P w=.ok i.size w:=by
 simp [sizeOf,typeInfo,h]
theorem info_of_underlying {t:TypeId} {d:TypeDesc} (h:P.underlying t=some d):∃ i,P.info? t=some i:=by
 unfold Program.underlying at h;split at h<;>simp_all
theorem XY {t:TypeId} {b:Bool} (h:Jl P t=some b):∃ i,P.info? t=some i:=by
 unfold Jl at h;split at h<;>first | (rename_i hu;exact info_of_underlying hu) | simp at h
theorem Ld {t:TypeId} {i:TypeInfo} (h:P.info? t=some i):P.cellsOf t=i.size:=by simp [Program.cellsOf,h]
theorem Z0 {t : TypeId} {cs : List CV} {off : Nat} {a : A1} {vs : List Value} (h : partOf P t cs off = some a) (hr : All2 (CV.Rel F w bs) cs vs) :
  ∃ v,a.Rel F w bs v∧∀ w',(part t vs.toArray off).run P w'=.ok v w':=by
 unfold partOf at h;split at h
 ·rename_i hi;split at h
  ·rename_i l hl;simp at h;subst h;rw [Wo] at hl;obtain ⟨hl,hlen⟩:=kW hl;obtain ⟨j,hj⟩:=XY hi;rw [Ld hj] at hl hlen;refine ⟨.agg ((vs.drop off).take j.size).toArray,⟨_,rfl,by rw [hl];exact (hr.drop off).take _⟩,fun w' => ?_⟩
   unfold part;simp only [Sem.run_bind,Kn hi,Result.andThen_ok,if_true,qU hj,Sem.run_pure];congr 2;apply Array.ext';simp [List.take_drop]
  ·simp at h
 ·rename_i hi;split at h
  ·rename_i x hx;simp at h;subst h;obtain ⟨v,hv,hrel⟩:=hr.nth hx;refine ⟨v,hrel,fun w' => ?_⟩;unfold part;simp only [Sem.run_bind,Kn hi,Result.andThen_ok];simp [hv]
  ·simp at h
 ·simp at h
theorem BN : ∀ {news : List CV} {cs : List CV} {o : Nat} {vs nv : List Value}, All2 (CV.Rel F w bs) cs vs -> All2 (CV.Rel F w bs) news nv ->
  All2 (CV.Rel F w bs) (putCells cs o news) ((nv.zipIdx o).foldl (fun l (c,j)=>l.set j c) vs)
 | [],cs,o,vs,nv,h,hn=>by cases hn;exact h
 | x :: r, cs, o, vs, nv, h, hn => by
   cases hn with
  | cons hx hr =>
    simp only [putCells,List.zipIdx_cons,List.foldl_cons];exact BN (h.set o hx) hr
theorem YM {places places' : Nat -> Option (Nat × Nat)} (hpl : ∀ i p, places i = some p -> places' i = some p) : ∀ {parts : List (Nat × A1)} {pv : List (Nat × Value)} {cs r : List CV} {vs : List Value}, y6 places cs parts = some r -> All2 (CV.Rel F w bs) cs vs ->
  All2 (fun x y=>x.1=y.1∧A1.Rel F w bs x.2 y.2) parts pv->∃ rv:List Value,All2 (CV.Rel F w bs) r rv∧Instr.fill places' vs.toArray pv=some rv.toArray
 | [], pv, cs, r, vs, h, hc, hp => by
   cases hp;simp [y6] at h;subst h;exact ⟨vs,hc,rfl⟩
 | (i, a) :: parts, pv, cs, r, vs, h, hc, hp => by
   cases hp with
  | cons h1 h2 =>
    rename_i y pv;obtain ⟨i',v⟩:=y;obtain ⟨rfl,ha⟩:=h1;simp only [y6] at h;split at h
    ·simp at h
    ·rename_i off size hpi;split at h
     ·rename_i hcond;simp only [aTq,beq_iff_eq,Nat.ble_eq] at hcond;obtain ⟨hl,hb⟩:=hcond;have hcl:=ha.cells;have hlen:=hcl.length;have hlen2:=hc.length;obtain ⟨rv,hrv,hf⟩:=YM hpl (vs:=((v.cells.toList.zipIdx off).foldl (fun l (c,j)=>l.set j c) vs)) h (BN hc hcl) h2;refine ⟨rv,hrv,?_⟩;simp only [Instr.fill,hpl _ _ hpi];rw [if_neg ?_]
      ·rw [← hf];congr 1;rw [← Array.foldl_toList,Array.toList_zipIdx]
       have key:∀ (l:List Value) (k:Nat) (vs:List Value),(l.zipIdx k).foldl (fun cs (x:Value × Nat)=>cs.setIfInBounds (off+x.2) x.1) vs.toArray=((l.zipIdx (off+k)).foldl (fun l (x:Value × Nat)=>l.set x.2 x.1) vs).toArray:=by
        intro l
        induction l with
        | nil=>intro k vs;rfl
        | cons a l ih =>
          intro k vs;simp only [List.zipIdx_cons,List.foldl_cons,List.setIfInBounds_toArray];exact ih (k+1) _
       exact key v.cells.toList 0 vs
      ·simp only [Array.length_toList] at hlen;simp [← hlen,hl,← hlen2];omega
     ·simp at h
theorem Yp {ρ : Operand -> Option AV} {ρc : Operand -> Value} (hρ : ∀ x av, ρ x = some av -> av.Rel F w bs (ρc x)) : ∀ {parts : List (Nat × Operand)} {l : List (Nat × A1)}, JR ρ parts = some l ->
  All2 (fun x y=>x.1=y.1∧A1.Rel F w bs x.2 y.2) l (parts.map fun (i,x)=>(i,ρc x))
 | [],l,h=>by simp [JR] at h;subst h;exact .nil
 | (i, x) :: r, l, h => by
   simp only [JR] at h;split at h
   ·rename_i a l' ha hl;simp at h;subst h;exact .cons ⟨rfl,hρ _ _ ha⟩ (Yp hρ hl)
   ·simp at h
theorem kM {t:TypeId} {z:List CV} (h:jP P t=some z):∃ v:Value,(∀ w',(zeroValue t).run P w'=.ok v w')∧All2 (CV.Rel F w bs) z v.cells.toList:=by
 unfold jP at h;split at h
 ·rename_i i hi;split at h
  ·rename_i v hv;exact ⟨v,fun w'=>by simp [zeroValue,typeInfo,hi,hv],yL h⟩
  ·simp at h
 ·simp at h
theorem Vx {α β:Type} (f:α->Sem β) (g:α->β) (w':World):∀ (l:List α),(∀ x ∈ l,(f x).run P w'=.ok (g x) w')->(l.mapM f).run P w'=.ok (l.map g) w'
 | [],_=>by simp
 | x :: l, h => by
   have ih:=Vx f g w' l (fun y hy=>h y (by simp [hy]))
   simp [List.mapM_cons,h x (by simp),ih]
theorem jgw {α β:Type} (f:α->Sem β) (g:α->β) (w':World) (l:Array α) (h:∀ x ∈ l.toList,(f x).run P w'=.ok (g x) w'):(l.mapM f).run P w'=.ok (l.map g) w':=by
 rw [Array.mapM_eq_mapM_toList];simp only [Sem.run_map,Vx f g w' l.toList h,Result.andThen_ok];congr 1;apply Array.ext'
 simp
theorem jal {t : TypeId} {parts : List (Nat × A1)} {pv : Array (Nat × Value)} {x : AV} (h : Nm P t parts = some x)
  (hp:All2 (fun x y=>x.1=y.1∧A1.Rel F w bs x.2 y.2) parts pv.toList):∃ v,x.Rel F w bs v∧∀ w',(Instr.build t pv).run P w'=.ok v w':=by
 unfold Nm at h;split at h
 ·rename_i z fs hz hu;split at h
  ·rename_i cs hf;split at h
   ·rename_i hall;simp at h;subst h;obtain ⟨zv,hzr,hzc⟩:=kM (F:=F) (w:=w) (bs:=bs) hz
    let g:Field->Nat × Nat:=fun f=>(f.offset,match P.info? f.type with | some j=>j.size | none=>0)
    have hplaces:∀ i p,(match nth fs.toList i with | some f=>(match P.info? f.type with | some j=>some (f.offset,j.size) | none=>none) | none=>none)=some p->((fs.map g)[i]?)=some p:=by
     intro i p hp;split at hp
     ·rename_i f hfi;split at hp
      ·rename_i j hj;simp at hp;subst hp;rw [jd] at hfi;simp only [Array.getElem?_toList] at hfi;simp [hfi,g,hj]
      ·simp at hp
     ·simp at hp
    obtain ⟨rv,hrv,hfill⟩:=YM (places':=fun i=>(fs.map g)[i]?) hplaces hf hzc hp;refine ⟨.agg rv.toArray,⟨rv,rfl,hrv⟩,fun w' => ?_⟩
    have hmap:(fs.mapM fun f=>(do pure (f.offset,← sizeOf f.type):Sem (Nat × Nat))).run P w'=.ok (fs.map g) w':=by
     refine jgw _ g w' fs fun f hf => ?_
     have:=List.all_eq_true.1 hall f hf
     obtain ⟨j,hj⟩:=Option.isSome_iff_exists.1 this;simp [qU hj,g,hj]
    unfold Instr.build;simp only [Array.toArray_toList] at hfill;simp only [Sem.run_bind,hzr,Result.andThen_ok,run_underlying hu,hmap];rw [hfill];rfl
   ·simp at h
  ·simp at h
 ·rename_i z n e hz hu;split at h
  ·rename_i j hj;split at h
   ·rename_i cs hf;simp at h;subst h;obtain ⟨zv,hzr,hzc⟩:=kM (F:=F) (w:=w) (bs:=bs) hz;obtain ⟨rv,hrv,hfill⟩:=YM (places':=fun i=>some (i*j.size,j.size)) (fun i p h=>h) hf hzc hp;refine ⟨.agg rv.toArray,⟨rv,rfl,hrv⟩,fun w' => ?_⟩;unfold Instr.build;simp only [Sem.run_bind,hzr,Result.andThen_ok,run_underlying hu,qU hj];simp only [Array.toArray_toList] at hfill;simp [hfill]
   ·simp at h
  ·simp at h
 ·simp at h
theorem Lj {f : Field} (hp : Yq P f = true) {cs : List CV} {vs : List Value} (hr : All2 (CV.Rel F w bs) cs vs) {x : CV} (hx : nth cs f.offset = some x) :
  ∃ v,x.Rel F w bs v∧∀ w',(part f.type vs.toArray f.offset).run P w'=.ok v w':=by
 have hi:Jl P f.type=some false:=by
  unfold Yq at hp;unfold Jl;simp only [aTq] at hp;split at hp
  ·rename_i hu;simp [hu]
  ·rename_i k hu;simp [hu]
  ·rename_i hu;simp [hu]
  ·simp at hp
 exact Z0 (a:=.c x) (by unfold partOf;rw [hi];simp [hx]) hr
theorem ZQ (d : Nat) {xs ys : List CV} {vx vy : List Value} (hx : All2 (CV.Rel F w bs) xs vx) (hy : All2 (CV.Rel F w bs) ys vy) (w' : World) :
  ∀ {fs:List Field} {e:Bool},eqFields P xs ys fs=some e->(Op.eqFields (d+1) vx.toArray vy.toArray fs).run P w'=.ok e w'
 | [],e,h=>by simp [eqFields] at h;subst h;simp [Op.eqFields]
 | f :: r, e, h => by
   simp only [eqFields] at h;split at h
   ·rename_i hpl;split at h
    ·rename_i a b ha hb;obtain ⟨va,hra,hpa⟩:=Lj hpl hx ha;obtain ⟨vb,hrb,hpb⟩:=Lj hpl hy hb
     have hname:f.name ≠ "_" := by
      unfold Yq at hpl;simp only [aTq,bne_iff_ne] at hpl;exact hpl.1.1
     simp only [Op.eqFields,if_pos hname,Sem.run_bind,hpa,hpb,Result.andThen_ok];split at h
     ·rename_i p q e' hu he;simp at h;subst h;cases hra;cases hrb;rw [run_equalIn_bool' w' d f.type p q hu];simp only [Result.andThen_ok];cases hpq:(p==q)
      ·simp
      ·simp [ZQ d hx hy w' he]
     ·rename_i k0 k p k' q e' hu he;split at h
      ·rename_i hk;subst hk;simp at h;subst h;cases hra;cases hrb;rw [run_equalIn_int w' d f.type k k0 p q hu];simp only [Result.andThen_ok];cases hpq:(p==q)
       ·simp
       ·simp [ZQ d hx hy w' he]
      ·simp at h
     ·rename_i p q e' hu he;simp at h;subst h;cases hra;cases hrb;rw [run_equalIn_string w' d f.type p q hu,← beq_toListBytes];simp only [Result.andThen_ok];cases hpq:(p==q)
      ·simp
      ·simp [ZQ d hx hy w' he]
     ·simp at h
    ·simp at h
   ·simp at h
theorem Hn (d : Nat) {e : TypeId} (hp : Uj P e = true) {xs ys : List CV} {vx vy : List Value} (hx : All2 (CV.Rel F w bs) xs vx) (hy : All2 (CV.Rel F w bs) ys vy) (w' : World) :
  ∀ {is:List Nat} {z:Bool},eqItems P e xs ys is=some z->(Op.eqItems (d+1) e (P.cellsOf e) vx.toArray vy.toArray is).run P w'=.ok z w'
 | [],z,h=>by simp [eqItems] at h;subst h;simp [Op.eqItems]
 | i :: r, z, h => by
   unfold Uj at hp;simp only [aTq,beq_iff_eq] at hp
   have hagg:Jl P e=some false:=by
    unfold Jl
    have:=hp.2
    split at this
    ·rename_i hu;simp [hu]
    ·rename_i k hu;simp [hu]
    ·rename_i hu;simp [hu]
    ·simp at this
   have hpart:∀ {cs:List CV} {vs:List Value},All2 (CV.Rel F w bs) cs vs->∀ {x:CV},nth cs i=some x->∃ v,x.Rel F w bs v∧∀ w',(part e vs.toArray i).run P w'=.ok v w':=fun hr x hx=>Z0 (a:=.c x) (by unfold partOf;rw [hagg];simp [hx]) hr
   simp only [eqItems] at h;split at h
   ·rename_i a b ha hb;obtain ⟨va,hra,hpa⟩:=hpart hx ha;obtain ⟨vb,hrb,hpb⟩:=hpart hy hb;simp only [Op.eqItems,hp.1,Nat.mul_one,Sem.run_bind,hpa,hpb,Result.andThen_ok];have ih:=fun {z':Bool} (h:eqItems P e xs ys r=some z')=>Hn d (by unfold Uj;simp [hp]) hx hy w' h
    rw [hp.1] at ih;split at h
    ·rename_i p q e' hu he;simp at h;subst h;cases hra;cases hrb;rw [run_equalIn_bool' w' d e p q hu];simp only [Result.andThen_ok];cases hpq:(p==q)
     ·simp
     ·simp [ih he]
    ·rename_i k0 k p k' q e' hu he;split at h
     ·rename_i hk;subst hk;simp at h;subst h;cases hra;cases hrb;rw [run_equalIn_int w' d e k k0 p q hu];simp only [Result.andThen_ok];cases hpq:(p==q)
      ·simp
      ·simp [ih he]
     ·simp at h
    ·rename_i p q e' hu he;simp at h;subst h;cases hra;cases hrb;rw [run_equalIn_string w' d e p q hu,← beq_toListBytes];simp only [Result.andThen_ok];cases hpq:(p==q)
     ·simp
     ·simp [ih he]
    ·simp at h
   ·simp at h
theorem yI {op:BinOp} {t:TypeId} {x y:Operand} {a b:Value} (h:a ≠ .nilIface) (h2:∀ c,a ≠ .agg c) (w':World):(eqGuard op t x y a b).run P w'=.ok () w':=by
 unfold eqGuard;simp only [Sem.run_ite,Sem.run_pure];split
 all_goals simp only [Bool.not_true,Bool.not_false,Bool.false_eq_true,if_false,if_true]
 all_goals (cases a<;>first | rfl | exact (h rfl).elim | exact (h2 _ rfl).elim)
theorem BR {op:BinOp} {t:TypeId} {x y:Operand} {a b:Array Value} (h:P.eqGuardType P.depth t=false) (w':World):(eqGuard op t x y (.agg a) (.agg b)).run P w'=.ok () w':=by
 unfold eqGuard;simp only [Sem.run_ite,Sem.run_pure];split
 all_goals simp only [Bool.not_true,Bool.not_false,Bool.false_eq_true,if_false,if_true]
 all_goals simp [h]
theorem GM (d:Nat) (t:TypeId) {e:TypeId} (hu:P.underlying t=some (.slice e)) (w':World):(Op.equalIn (d+1) t (.slice none 0 0) (.slice none 0 0)).run P w'=.ok true w':=by
 simp [Op.equalIn,run_underlying hu]
theorem Gm (d:Nat) (t:TypeId) {e:TypeId} (hu:P.underlying t=some (.pointer e)) (w':World):(Op.equalIn (d+1) t (.pointer none) (.pointer none)).run P w'=.ok true w':=by
 simp [Op.equalIn,run_underlying hu]
theorem VV (d:Nat) (t:TypeId) {e:TypeId} (hu:P.underlying t=some (.pointer e)) (a:Addr) (w':World):(Op.equalIn (d+1) t (.pointer (some a)) (.pointer none)).run P w'=.ok false w':=by
 simp [Op.equalIn,run_underlying hu]
theorem Tg {t : TypeId} {a b : A1} {e : Bool} (h : O9 P t a b = some e) {va vb : Value} (ha : a.Rel F w bs va) (hb : b.Rel F w bs vb) :
  (∀ op x y w',(eqGuard op t x y va vb).run P w'=.ok () w')∧(∀ w',(Op.equal t va vb).run P w'=.ok e w') ∧
  (∀ op w',(op=.eql->(binOp op t va vb).run P w'=.ok (.bool e) w')∧(op=.neq->(binOp op t va vb).run P w'=.ok (.bool (!e)) w')):=by
 have fin : (∀ op x y w', (eqGuard op t x y va vb).run P w' = .ok () w') -> (∀ w', (Op.equal t va vb).run P w' = .ok e w') ->
   (∀ w',(binOp .eql t va vb).run P w'=(do pure (Value.bool (← Op.equal t va vb)):Sem Value).run P w')->(∀ w',(binOp .neq t va vb).run P w'=(do pure (Value.bool (!(← Op.equal t va vb))):Sem Value).run P w') ->
   (∀ op x y w',(eqGuard op t x y va vb).run P w'=.ok () w')∧(∀ w',(Op.equal t va vb).run P w'=.ok e w') ∧
  (∀ op w',(op=.eql->(binOp op t va vb).run P w'=.ok (.bool e) w')∧(op=.neq->(binOp op t va vb).run P w'=.ok (.bool (!e)) w')):=by
  intro h1 h2 h3 h4;refine ⟨h1,h2,fun op w'=>⟨?_,?_⟩⟩
  ·rintro rfl;rw [h3];simp [h2]
  ·rintro rfl;rw [h4];simp [h2]
 unfold O9 at h;split at h
 ·rename_i p q;split at h
  ·rename_i hu;simp at h;subst h;cases ha;cases hb;exact fin (fun _ _ _ w'=>yI (by simp) (by simp) w') (fun w'=>run_equalIn_bool' w' 9999 t p q hu) (fun _=>rfl) (fun _=>rfl)
  ·simp at h
 ·rename_i xs ys;split at h
  ·rename_i fs hu;split at h
   ·simp at h
   ·rename_i hcond;simp only [Bool.or_eq_true,not_or,Bool.not_eq_true] at hcond;obtain ⟨vx,rfl,hx⟩:=ha;obtain ⟨vy,rfl,hy⟩:=hb;have hfo:P.fieldsOf t=fs:=by unfold Program.fieldsOf;rw [hu]
    refine fin (fun _ _ _ w'=>BR hcond.2 w') (fun w' => ?_) (fun _=>rfl) (fun _=>rfl);show (Op.equalIn (9999+1) t (.agg vx.toArray) (.agg vy.toArray)).run P w'=_;rw [run_equalIn_struct w' 9999 t _ _ (by rw [hfo];exact hu) hcond.1,hfo]
    exact ZQ 9998 hx hy w' h
  ·rename_i n e0 hu;split at h
   ·simp at h
   ·rename_i hcond;simp only [Bool.or_eq_true,not_or,Bool.not_eq_true,Bool.not_eq_true'] at hcond;obtain ⟨⟨hg,hpl⟩,hinf⟩:=hcond;have hpl:Uj P e0=true:=by simpa using hpl
    obtain ⟨i,hi⟩ : ∃ i,P.info? e0=some i:=by
     cases hh:P.info? e0 with
     | none=>rw [hh] at hinf;simp at hinf
     | some i=>exact ⟨i,rfl⟩
    obtain ⟨vx,rfl,hx⟩:=ha;obtain ⟨vy,rfl,hy⟩:=hb;refine fin (fun _ _ _ w'=>BR hg w') (fun w' => ?_) (fun _=>rfl) (fun _=>rfl);show (Op.equalIn (9999+1) t (.agg vx.toArray) (.agg vy.toArray)).run P w'=_;rw [run_equalIn_array w' 9999 _ _ hu hi];exact Hn 9998 hpl hx hy w' h
  ·simp at h
 ·split at h
  ·rename_i e0 hu;simp at h;subst h;cases ha;cases hb;refine fin (fun _ _ _ w'=>yI (by simp) (by simp) w') (fun w'=>GM 9999 t hu w') (fun _=>rfl) (fun _=>rfl)
  ·simp at h
 ·split at h
  ·rename_i e0 hu;simp at h;subst h;cases ha;cases hb;refine fin (fun _ _ _ w'=>yI (by simp) (by simp) w') (fun w'=>Gm 9999 t hu w') (fun _=>rfl) (fun _=>rfl)
  ·simp at h
 ·split at h
  ·rename_i e0 hu;simp at h;subst h;cases ha;cases hb;refine fin (fun _ _ _ w'=>yI (by simp) (by simp) w') (fun w'=>VV 9999 t hu _ w') (fun _=>rfl) (fun _=>rfl)
  ·simp at h
 ·simp at h
theorem k6 (a b:Int):(lt a b=true)↔a<b:=by simp [lt]
theorem qq (a b:Int):(le a b=true)↔a<=b:=by simp [le]
theorem BW:∀ a b:List UInt8,kH a b=true↔a=b
 | [],[]=>by simp [kH]
 | [],_::_=>by simp [kH]
 | _::_,[]=>by simp [kH]
 | a :: l, b :: r => by
   simp only [kH,aTq,BW l r,List.cons.injEq];exact ⟨fun ⟨h,h'⟩=>⟨UInt8.toNat_inj.1 (eBq h),h'⟩,fun ⟨h,h'⟩=>⟨by rw [h];exact Nat.beq_refl _,h'⟩⟩
theorem ye (a b:ByteArray):jb a b=true↔a=b:=by
 unfold jb;rw [BW];exact ⟨fun h=>by cases a;cases b;congr;exact Array.ext' h,fun h=>by rw [h]⟩
theorem Jq (a b:ByteArray):(a.toList==b.toList)=jb a b:=by
 rw [Bool.eq_iff_iff,ye,beq_iff_eq,ByteArray.toList_eq,ByteArray.toList_eq];exact ⟨fun h=>by cases a;cases b;congr;exact Array.ext' h,fun h=>by rw [h]⟩
theorem jeh (a b:ByteArray):a++b=jn a b:=by
 unfold jn;apply ByteArray.ext;rw [ByteArray.data_append];apply Array.ext'
 simp
theorem jdt (s:ByteArray) (lo hi:Nat):s.extract lo hi=y4 s lo hi:=by
 unfold y4;apply ByteArray.ext;rw [ByteArray.data_extract];apply Array.ext';simp [List.drop_take]
theorem jfA {s:ByteArray} {i:Int} (h0:0<=i) (h1:i<s.size):∃ b:UInt8,(if 0<=i then s[i.toNat]? else none)=some b∧jB s i.toNat=(b.toNat:Int):=by
 have hi:i.toNat<s.size:=by omega
 refine ⟨s[i.toNat],by rw [if_pos h0,getElem?_pos s i.toNat hi],?_⟩
 unfold jB;rw [jd,gEq (by simpa using hi)]
 rfl
theorem jhu {n:Int} (h0:0<=n) (h1:n<128):Utf8.encode n=strOf n:=by
 unfold strOf Utf8.encode
 have hv:Utf8.valid n=true:=by
  unfold Utf8.valid;simp only [Bool.or_eq_true,aTq,decide_eq_true_eq];exact .inl ⟨h0,by omega⟩
 have hc:n.toNat<0x80:=by omega
 simp only [hv,if_true,if_pos hc]
theorem jjI {n:Int}:Utf8.encode n=encI n:=by
 unfold encI;cases hc:(le 0 n&&lt n 128)
 ·rfl
 ·simp only [cond_true];rw [aTq] at hc;have h1:=hc.1;have h2:=hc.2;unfold le at h1;unfold lt at h2;exact jhu (of_decide_eq_true h1) (of_decide_eq_true h2)
theorem jaR {op : BinOp} {k : IntKind} {a b : Int} {r : AV} (h : (Nt op k a b).sel = some r) (t : TypeId) :
  ∃ v,r.Rel F w bs v∧∀ w',(binOp op t (.int k a) (.int k b)).run P w'=.ok v w':=by
 have i (n:Int):AV.Rel F w bs (.one (.c (.int k n))) (.int k n):=CV.Rel.int k n;have bb (x:Bool):AV.Rel F w bs (.one (.c (.bool x))) (.bool x):=CV.Rel.bool x;unfold Nt at h;cases op<;>simp only [Tree.sel,sIq,reduceCtorEq] at h
 case add=>subst h;exact ⟨_,i _,fun w'=>by simp [binOp,Op.intArith]⟩
 case sub=>subst h;exact ⟨_,i _,fun w'=>by simp [binOp,Op.intArith]⟩
 case mul=>subst h;exact ⟨_,i _,fun w'=>by simp [binOp,Op.intArith]⟩
 case quo =>
  cases hb:(b==0)<;>simp [hb] at h;subst h
  have:b ≠ 0:=by simpa using hb
  exact ⟨_,i _,fun w'=>by simp [binOp,Op.intDiv,this]⟩
 case rem =>
  cases hb:(b==0)<;>simp [hb] at h;subst h
  have:b ≠ 0:=by simpa using hb
  exact ⟨_,i _,fun w'=>by simp [binOp,Op.intDiv,this]⟩
 case eql=>subst h;exact ⟨_,bb _,fun w'=>by simp [binOp,Op.intCmp]⟩
 case neq=>subst h;exact ⟨_,bb _,fun w'=>by simp [binOp,Op.intCmp]⟩
 case lss=>subst h;exact ⟨_,bb _,fun w'=>by simp [binOp,Op.intCmp,lt]⟩
 case leq=>subst h;exact ⟨_,bb _,fun w'=>by simp [binOp,Op.intCmp,le]⟩
 case gtr=>subst h;exact ⟨_,bb _,fun w'=>by simp [binOp,Op.intCmp,lt]⟩
 case geq=>subst h;exact ⟨_,bb _,fun w'=>by simp [binOp,Op.intCmp,le]⟩
 case and=>subst h;exact ⟨_,i _,fun w'=>by simp [binOp,Op.intBits,jou]⟩
 case or=>subst h;exact ⟨_,i _,fun w'=>by simp [binOp,Op.intBits,orI]⟩
 case xor=>subst h;exact ⟨_,i _,fun w'=>by simp [binOp,Op.intBits,jpj]⟩
 case andNot=>subst h;exact ⟨_,i _,fun w'=>by simp [binOp,Op.intBits,MG]⟩
theorem jg7 {op : BinOp} {t : TypeId} {x y : AV} {r : AV} (h : (jaN P op t x y).sel = some r) {u v : Value} (hx : x.Rel F w bs u) (hy : y.Rel F w bs v) (ox oy : Operand) :
  ∃ z,r.Rel F w bs z∧∀ w',(do eqGuard op t ox oy u v;binOp op t u v:Sem Value).run P w'=.ok z w':=by
 unfold jaN at h;split at h
 ·rename_i k a k' b;cases hx;cases hy;have g:∀ w',(eqGuard op t ox oy (.int k a) (.int k' b)).run P w'=.ok () w':=fun w'=>yI (by simp) (by simp) w'
  simp only [Sem.run_bind,g,Result.andThen_ok];split at h
  ·simp only [Tree.sel] at h;cases hb:le 0 b<;>simp [hb] at h;subst h
   have:¬ b<0:=by have:=(qq 0 b).1 hb;omega
   exact ⟨_,CV.Rel.int _ _,fun w'=>by simp [binOp,Op.shift,this,jlQ]⟩
  ·simp only [Tree.sel] at h;cases hb:le 0 b<;>simp [hb] at h;subst h
   have:¬ b<0:=by have:=(qq 0 b).1 hb;omega
   exact ⟨_,CV.Rel.int _ _,fun w'=>by simp [binOp,Op.shift,this,jgX]⟩
  ·split at h
   ·rename_i hk;subst hk;exact jaR h t
   ·simp [Tree.sel] at h
 ·rename_i a b;cases hx;cases hy;have g:∀ w',(eqGuard op t ox oy (.string a) (.string b)).run P w'=.ok () w':=fun w'=>yI (by simp) (by simp) w'
  simp only [Sem.run_bind,g,Result.andThen_ok];split at h
  ·simp only [Tree.sel,sIq] at h;subst h;exact ⟨_,CV.Rel.bool _,fun w'=>by simp [binOp,Op.stringOp,Jq]⟩
  ·simp only [Tree.sel,sIq] at h;subst h;exact ⟨_,CV.Rel.bool _,fun w'=>by simp [binOp,Op.stringOp,Jq]⟩
  ·simp only [Tree.sel] at h;cases hb:Nat.ble (a.size+b.size) 9223372036854775807<;>simp [hb] at h;subst h;have hb:=Nat.le_of_ble_eq_true hb
   exact ⟨_,CV.Rel.str _,fun w'=>by
    have:¬ ((a.size+b.size:Nat):Int) > IntKind.i64.max:=by simp [IntKind.max,IntKind.signed,IntKind.bits];omega
    simp only [binOp,Op.stringOp,this,if_false,Sem.run_pure,jeh]⟩
  ·simp [Tree.sel] at h
 ·rename_i a b;split at h
  ·split at h
   ·rename_i e he;simp only [Tree.sel,sIq] at h;subst h;obtain ⟨h1,_,h3⟩:=Tg he hx hy;exact ⟨_,CV.Rel.bool _,fun w'=>by simp only [Sem.run_bind,h1,Result.andThen_ok,(h3 _ w').1 rfl]⟩
   ·simp [Tree.sel] at h
  ·split at h
   ·rename_i e he;simp only [Tree.sel,sIq] at h;subst h;obtain ⟨h1,_,h3⟩:=Tg he hx hy;exact ⟨_,CV.Rel.bool _,fun w'=>by simp only [Sem.run_bind,h1,Result.andThen_ok,(h3 _ w').2 rfl]⟩
   ·simp [Tree.sel] at h
  ·simp [Tree.sel] at h
 ·simp [Tree.sel] at h
theorem jje {op:UnOp} {x r:AV} (h:(jeR op x).sel=some r) {u:Value} (hx:x.Rel F w bs u):∃ z,r.Rel F w bs z∧∀ w',(Op.unary op u).run P w'=.ok z w':=by
 unfold jeR at h;split at h
 ·rename_i b;cases hx;split at h
  ·simp only [Tree.sel,sIq] at h;subst h;exact ⟨_,CV.Rel.bool _,fun w'=>by simp [Op.unary]⟩
  ·simp [Tree.sel] at h
 ·rename_i k n;cases hx;split at h
  ·simp only [Tree.sel,sIq] at h;subst h;exact ⟨_,CV.Rel.int _ _,fun w'=>by simp [Op.unary,Op.intArith]⟩
  ·simp [Tree.sel] at h
 ·simp [Tree.sel] at h
theorem jgm {t:TypeId} {x r:AV} (h:(Rr P t x).sel=some r) {u:Value} (hx:x.Rel F w bs u) (ty:TypeId):∃ z,r.Rel F w bs z∧∀ w',(Builtin.len_ #[t] ty #[u]).run P w'=.ok z w':=by
 unfold Rr at h;split at h
 ·split at h
  ·rename_i e hu;simp only [Tree.sel,sIq] at h;subst h;cases hx
   ·exact ⟨_,CV.Rel.int _ _,fun w'=>by simp [Builtin.len_,run_underlying hu,goInt,ja]⟩
   ·exact ⟨_,CV.Rel.int _ _,fun w'=>by simp [Builtin.len_,run_underlying hu,goInt,ja]⟩
  ·simp [Tree.sel] at h
 ·split at h
  ·rename_i e hu;simp only [Tree.sel,sIq] at h;subst h;cases hx;exact ⟨_,CV.Rel.int _ _,fun w'=>by simp [Builtin.len_,run_underlying hu,goInt,ja]⟩
  ·simp [Tree.sel] at h
 ·split at h
  ·rename_i e hu;simp only [Tree.sel,sIq] at h;subst h;cases hx;exact ⟨_,CV.Rel.int _ _,fun w'=>by simp [Builtin.len_,run_underlying hu,goInt]⟩
  ·simp [Tree.sel] at h
 ·split at h
  ·rename_i hu;simp only [Tree.sel,sIq] at h;subst h;cases hx;exact ⟨_,CV.Rel.int _ _,fun w'=>by simp [Builtin.len_,run_underlying hu,goInt,ja]⟩
  ·simp [Tree.sel] at h
 ·simp [Tree.sel] at h
theorem Ue {k:IntKind}:∀ {l:List A1} {a n:Int} {vs:List Value},ql k a l=some n->All2 (A1.Rel F w bs) l vs->∀ w',(vs.foldlM Builtin.max2 (Value.int k a)).run P w'=.ok (.int k n) w'
 | [],a,n,vs,h,hr,w'=>by cases hr;simp [ql] at h;subst h;simp
 | .c (.int k' b) :: r, a, n, vs, h, hr, w' => by
   cases hr with
  | cons h1 h2 =>
    cases h1;simp only [ql] at h;have ih:=Ue h h2 w';simp only [List.foldlM_cons,Sem.run_bind,Builtin.max2,Sem.run_pure,Result.andThen_ok];rw [← ih];congr 3;by_cases hlt:a<b<;>simp [Xg,lt,hlt]
 | .agg _::_,_,_,_,h,_,_=>by simp [ql] at h
 | .c .any::_,_,_,_,h,_,_=>by simp [ql] at h
 | .c (.bool _)::_,_,_,_,h,_,_=>by simp [ql] at h
 | .c (.str _)::_,_,_,_,h,_,_=>by simp [ql] at h
 | .c .nilp::_,_,_,_,h,_,_=>by simp [ql] at h
 | .c .nils::_,_,_,_,h,_,_=>by simp [ql] at h
 | .c .nilf::_,_,_,_,h,_,_=>by simp [ql] at h
 | .c .nili::_,_,_,_,h,_,_=>by simp [ql] at h
 | .c (.ptr _ _)::_,_,_,_,h,_,_=>by simp [ql] at h
 | .c (.rop _ _ _)::_,_,_,_,h,_,_=>by simp [ql] at h
 | .c (.sl _ _ _)::_,_,_,_,h,_,_=>by simp [ql] at h
 | .c (.fn _ _ _)::_,_,_,_,h,_,_=>by simp [ql] at h
 | .c (.iface _ _)::_,_,_,_,h,_,_=>by simp [ql] at h
 | .c (.ifa _ _)::_,_,_,_,h,_,_=>by simp [ql] at h
 | .c (.ifx _)::_,_,_,_,h,_,_=>by simp [ql] at h
theorem Ug {k:IntKind}:∀ {l:List A1} {a n:Int} {vs:List Value},qm k a l=some n->All2 (A1.Rel F w bs) l vs->∀ w',(vs.foldlM Builtin.min2 (Value.int k a)).run P w'=.ok (.int k n) w'
 | [],a,n,vs,h,hr,w'=>by cases hr;simp [qm] at h;subst h;simp
 | .c (.int k' b) :: r, a, n, vs, h, hr, w' => by
   cases hr with
  | cons h1 h2 =>
    cases h1;simp only [qm] at h;have ih:=Ug h h2 w';simp only [List.foldlM_cons,Sem.run_bind,Builtin.min2,Sem.run_pure,Result.andThen_ok];rw [← ih];congr 3;by_cases hlt:b<a<;>simp [QB,lt,hlt]
 | .agg _::_,_,_,_,h,_,_=>by simp [qm] at h
 | .c .any::_,_,_,_,h,_,_=>by simp [qm] at h
 | .c (.bool _)::_,_,_,_,h,_,_=>by simp [qm] at h
 | .c (.str _)::_,_,_,_,h,_,_=>by simp [qm] at h
 | .c .nilp::_,_,_,_,h,_,_=>by simp [qm] at h
 | .c .nils::_,_,_,_,h,_,_=>by simp [qm] at h
 | .c .nilf::_,_,_,_,h,_,_=>by simp [qm] at h
 | .c .nili::_,_,_,_,h,_,_=>by simp [qm] at h
 | .c (.ptr _ _)::_,_,_,_,h,_,_=>by simp [qm] at h
 | .c (.rop _ _ _)::_,_,_,_,h,_,_=>by simp [qm] at h
 | .c (.sl _ _ _)::_,_,_,_,h,_,_=>by simp [qm] at h
 | .c (.fn _ _ _)::_,_,_,_,h,_,_=>by simp [qm] at h
 | .c (.iface _ _)::_,_,_,_,h,_,_=>by simp [qm] at h
 | .c (.ifa _ _)::_,_,_,_,h,_,_=>by simp [qm] at h
 | .c (.ifx _)::_,_,_,_,h,_,_=>by simp [qm] at h
theorem M5 {mx : Bool} {l : List A1} {r : AV} (h : (jaP mx l).sel = some r) {vs : List Value} (hr : All2 (A1.Rel F w bs) l vs) (ts : Array TypeId) (t : TypeId) :
  ∃ z,r.Rel F w bs z∧∀ w',(if mx then Builtin.max_ ts t vs.toArray else Builtin.min_ ts t vs.toArray).run P w'=.ok z w':=by
 unfold jaP at h;split at h
 ·rename_i k a r';split at h
  ·rename_i n hn;simp only [Tree.sel,sIq] at h;subst h;cases hr with
   | cons h1 h2 =>
     cases h1;refine ⟨_,CV.Rel.int _ _,fun w' => ?_⟩;cases mx
     ·simp only [Bool.false_eq_true,if_false] at hn ⊢;simp only [Builtin.min_];exact Ug hn h2 w'
     ·simp only [if_true] at hn ⊢;simp only [Builtin.max_];exact Ue hn h2 w'
  ·simp [Tree.sel] at h
 ·simp [Tree.sel] at h
theorem qR {ρ:Operand->Option AV} {ρc:Operand->Value} (hρ:∀ x av,ρ x=some av->av.Rel F w bs (ρc x)):∀ {args:List Operand} {l:List A1},q9 ρ args=some l->All2 (A1.Rel F w bs) l (args.map ρc)
 | [],l,h=>by simp [q9] at h;subst h;exact .nil
 | x :: r, l, h => by
   simp only [q9] at h;split at h
   ·rename_i a l' ha hl;simp at h;subst h;exact .cons (hρ _ _ ha) (qR hρ hl)
   ·simp at h
end
end Go.Sx