/-
 Part TpD of the proof: EngO EngP EngQ.
-/
import Derived.Test.YtiefjlcakpdfeaaGreatDoorTpC
import Derived.Deep.AppendSrc
import Derived.Laws.AppendOwn
import Derived.Great.BuildSlice
import Derived.Laws.Slices
namespace Go.Sx
open Go Go.RowKit
section
variable {P:Program}
theorem jy {α:Type} (l:List α) (x:α):nth (l++[x]) l.length=some x:=by
 rw [jd];simp
theorem yU {α:Type} {l:List α} {x:α} {k:Nat} {p:α} (h:nth (l++[x]) k=some p):nth l k=some p∨(k=l.length∧p=x):=by
 rw [jd] at h;rcases Nat.lt_or_ge k l.length with hk | hk
 ·left;rw [jd];rwa [List.getElem?_append_left hk] at h
 ·right;rw [List.getElem?_append_right hk] at h;rcases Nat.eq_zero_or_pos (k - l.length) with h0 | h0
  ·rw [h0] at h;simp at h;exact ⟨by omega,h.symm⟩
  ·rw [List.getElem?_eq_none (by simp;omega)] at h;simp at h
theorem jD {α:Type} {l:List α} {b k:Nat} {y z:α} (h:nth (jk l b y) k=some z):(k=b∧z=y)∨(k ≠ b∧nth l k=some z):=by
 rw [jC,jd,List.getElem?_set] at h;by_cases hk:b=k
 ·subst hk;rw [if_pos rfl] at h;split at h
  ·simp at h;exact .inl ⟨rfl,h.symm⟩
  ·simp at h
 ·rw [if_neg hk] at h;exact .inr ⟨fun e=>hk e.symm,by rw [jd];exact h⟩
theorem MemRel.kill {F w bs mem} (hm:MemRel P F w bs mem) (b:Nat):MemRel P F w bs (jk mem b none):=by
 have key:∀ k T cs,nth (jk mem b none) k=some (some (T,cs))->nth mem k=some (some (T,cs)):=by
  intro k T cs h;rcases jD h with ⟨_,h⟩ | ⟨_,h⟩
  ·cases h
  ·exact h
 exact ⟨by rw [jC,List.length_set];exact hm.len,fun k x T cs hk hc=>hm.loc k x T cs hk (key _ _ _ hc),fun k k' x x' T cs T' cs' h1 h2 h3 h4=>hm.inj k k' x x' T cs T' cs' h1 h2 (key _ _ _ h3) (key _ _ _ h4),
  fun k T cs x hc=>hm.cont k T cs x (key _ _ _ hc),fun k T fz es n ρ x hc=>hm.row k T fz es n ρ x (key _ _ _ hc),fun k T f i st cs x hc=>hm.lp k T f i st cs x (key _ _ _ hc)⟩
theorem MemRel.move {F w bs mem F' w'} (hm : MemRel P F w bs mem) (he : Ext bs.length F w bs F' w' bs)
  (hl:∀ k x T cs,nth bs k=some x->nth mem k=some (some (T,cs))->jE x cs->F' x.p∧w'.heap[x.p]? = w.heap[x.p]?):MemRel P F' w' bs mem:=by
 refine ⟨hm.len,fun k x T cs hk hc hv=>⟨(hl k x T cs hk hc hv).1,Nat.lt_of_lt_of_le (hm.loc k x T cs hk hc hv).2 he.size⟩,hm.inj,fun k T cs x hc hr hp => ?_,fun k T fz es n ρ x hc hp => ?_,fun k T f i st cs x hc hp=>(hm.lp k T f i st cs x hc hp).grow he.grow fun ht=>(hl k x T _ hp hc (yS ht)).2⟩
 ·obtain ⟨vs,hv,hrr⟩:=hm.cont k T cs x hc hr hp;exact ⟨vs,by rw [(hl k x T cs hp hc (qc hr)).2];exact hv,hrr.imp fun _ _ h=>h.grow he.grow⟩
 ·have hr:=hm.row k T fz es n ρ x hc hp;refine hr.grow he.grow0 fun hn => ?_;cases fz with
  | false=>exact (hl k x T _ hp hc ⟨rfl,hn⟩).2
  | true=>exact he.same _ (hr.frz hn rfl).2 (.inl (hr.frz hn rfl).1)
theorem MemRel.extend {F w bs mem} (hm:MemRel P F w bs mem) (x:BI):MemRel P F w (bs++[x]) (mem++[none]):=by
 have g:Grow F F bs (bs++[x]) w w:=⟨lRq _,fun _ _ h=>h,fun _ _ _=>rfl,fun k p hk=>j4 hk⟩
 have keym:∀ k T cs,nth (mem++[none]) k=some (some (T,cs))->nth mem k=some (some (T,cs)):=by
  intro k T cs h;rcases yU h with h | ⟨_,h⟩
  ·exact h
  ·cases h
 have keyb:∀ k T cs y,nth mem k=some (some (T,cs))->nth (bs++[x]) k=some y->nth bs k=some y:=by
  intro k T cs y hk h;rcases yU h with h | ⟨e,_⟩
  ·exact h
  ·have:=jq hk
   rw [← hm.len] at this;omega
 refine ⟨by simp [hm.len],fun k y T cs hk hc=>hm.loc k y T cs (keyb _ _ _ _ (keym _ _ _ hc) hk) (keym _ _ _ hc),fun k k' y y' T cs T' cs' h1 h2 h3 h4=>hm.inj k k' y y' T cs T' cs' (keyb _ _ _ _ (keym _ _ _ h3) h1) (keyb _ _ _ _ (keym _ _ _ h4) h2) (keym _ _ _ h3) (keym _ _ _ h4),
  fun k T cs y hc hr hp => ?_,fun k T fz es n ρ y hc hp=>hm.row k T fz es n ρ y (keym _ _ _ hc) (keyb _ _ _ _ (keym _ _ _ hc) hp),
  fun k T f i st cs y hc hp=>(hm.lp k T f i st cs y (keym _ _ _ hc) (keyb _ _ _ _ (keym _ _ _ hc) hp)).grow g fun _=>rfl⟩
 obtain ⟨vs,h1,h2⟩:=hm.cont k T cs y (keym _ _ _ hc) hr (keyb _ _ _ _ (keym _ _ _ hc) hp);exact ⟨vs,h1,h2.imp fun _ _ h=>h.grow g⟩
theorem Ext.push {K F w bs F' w' bs'} (he:Ext K F w bs F' w' bs') {x:BI} (h:(∃ y ∈ bs,y.p=x.p)∨w.heap.size<=x.p):Ext K F w bs F' w' (bs'++[x]):=by
 refine ⟨he.size,he.F1,he.F2,he.same,he.os,he.tape,he.output,fun k y hk hy=>j4 (he.pre k y hk hy),fun y hy => ?_⟩;rcases List.mem_append.1 hy with hy | hy
 ·exact he.mem y hy
 ·simp at hy;subst hy;exact h
theorem MemRel.put {F w bs mem} (hm : MemRel P F w bs mem) {b : Nat} {x : BI} (hb : nth bs b = some x) {T : TypeId} {cs : List CV} (hno : ∀ T cs, nth mem b ≠ some (some (T, cs)))
  (hloc:jE x cs->F x.p∧x.p<w.heap.size) (hinj:jE x cs->∀ k y T' cs',nth bs k=some y->nth mem k=some (some (T',cs'))->jE y cs'->y.p ≠ x.p)
  (hcont:je cs=false->∃ vs:List Value,w.heap[x.p]? = some (.cells vs.toArray T (0,0))∧All2 (CV.Rel F w bs) cs vs)
  (hrow:∀ fz es n ρ,cs=[.row fz es n ρ]->RowOk F w x T fz es n ρ) (hlp:∀ f i st cs',cs=.lp f i st::cs'->LpOk P F w bs x f i st cs':=by intro f i st cs' h;simp at h):MemRel P F w bs (jk mem b (some (T,cs))):=by
 refine ⟨by rw [jC,List.length_set];exact hm.len,fun k y T' cs' hk hc hv => ?_,fun k k' y y' T1 cs1 T2 cs2 h1 h2 h3 h4 l1 l2 hp => ?_,fun k T' cs' y hc hr hp => ?_,fun k T' fz es n ρ y hc hp => ?_,fun k T' f i st cs' y hc hp => ?_⟩
 ·rcases jD hc with ⟨rfl,h⟩ | ⟨_,h⟩
  ·simp at h;obtain ⟨rfl,rfl⟩:=h;rw [hb] at hk;simp at hk;subst hk;exact hloc hv
  ·exact hm.loc k y T' cs' hk h hv
 ·rcases jD h3 with ⟨e3,g3⟩ | ⟨n3,g3⟩<;>rcases jD h4 with ⟨e4,g4⟩ | ⟨n4,g4⟩
  ·omega
  ·simp at g3;obtain ⟨rfl,rfl⟩:=g3;subst e3;rw [hb] at h1;simp at h1;subst h1;exact (hinj l1 k' y' T2 cs2 h2 g4 l2 hp.symm).elim
  ·simp at g4;obtain ⟨rfl,rfl⟩:=g4;subst e4;rw [hb] at h2;simp at h2;subst h2;exact (hinj l2 k y T1 cs1 h1 g3 l1 hp).elim
  ·exact hm.inj k k' y y' T1 cs1 T2 cs2 h1 h2 g3 g4 l1 l2 hp
 ·rcases jD hc with ⟨rfl,h⟩ | ⟨_,h⟩
  ·simp at h;obtain ⟨rfl,rfl⟩:=h;rw [hb] at hp;simp at hp;subst hp;exact hcont hr
  ·exact hm.cont k T' cs' y h hr hp
 ·rcases jD hc with ⟨rfl,h⟩ | ⟨_,h⟩
  ·simp at h;obtain ⟨rfl,rfl⟩:=h;rw [hb] at hp;simp at hp;subst hp;exact hrow fz es n ρ rfl
  ·exact hm.row k T' fz es n ρ y h hp
 ·rcases jD hc with ⟨rfl,h⟩ | ⟨_,h⟩
  ·simp at h;obtain ⟨rfl,rfl⟩:=h;rw [hb] at hp;simp at hp;subst hp;exact hlp f i st cs' rfl
  ·exact hm.lp k T' f i st cs' y h hp
theorem BZ {α:Type} (l:List α) (x y:α):jk (l++[x]) l.length y=l++[y]:=by
 rw [jC]
 simp
theorem kx {α:Type} (l:List α) (b:Nat) (x y:α):jk (jk l b x) b y=jk l b y:=by
 rw [jC,jC,jC,List.set_set]
theorem jX {α:Type} (l:List α) (b:Nat) (x:α):(jk l b x).length=l.length:=by rw [jC,List.length_set]
theorem MemRel.push {F w bs mem} (hm : MemRel P F w bs mem) (x : BI) {T : TypeId} {cs : List CV}
  (hloc:jE x cs->F x.p∧x.p<w.heap.size) (hinj:jE x cs->∀ k y T' cs',nth bs k=some y->nth mem k=some (some (T',cs'))->jE y cs'->y.p ≠ x.p)
  (hcont:je cs=false->∃ vs:List Value,w.heap[x.p]? = some (.cells vs.toArray T (0,0))∧All2 (CV.Rel F w bs) cs vs)
  (hrow:∀ fz es n ρ,cs=[.row fz es n ρ]->RowOk F w x T fz es n ρ) (hlp:∀ f i st cs',cs=.lp f i st::cs'->LpOk P F w bs x f i st cs':=by intro f i st cs' h;simp at h):MemRel P F w (bs++[x]) (mem++[some (T,cs)]):=by
 have g:Grow F F bs (bs++[x]) w w:=⟨lRq _,fun _ _ h=>h,fun _ _ _=>rfl,fun k p hk=>j4 hk⟩
 have:=(hm.extend x).put (b:=mem.length) (x:=x) (T:=T) (cs:=cs) (by rw [← hm.len];exact jy _ _) (fun T cs h=>by rw [jy] at h;simp at h) hloc (fun hl k y T' cs' hk hc hv=>by
  rcases yU hc with hc | ⟨_,hc⟩
  ·rcases yU hk with hk | ⟨e,_⟩
   ·exact hinj hl k y T' cs' hk hc hv
   ·have:=jq hc
    rw [← hm.len] at this;omega
  ·cases hc) (fun hr=>by
  obtain ⟨vs,h1,h2⟩:=hcont hr;exact ⟨vs,h1,h2.imp fun _ _ h=>h.grow g⟩) hrow (fun f i st cs' h=>(hlp f i st cs' h).grow g fun _=>rfl)
 rwa [BZ] at this
theorem Ext.alloc {F w} {bs:List BI} (K:Nat) (e:Obj):Ext K F w bs (fun p=>F p∨p=w.heap.size) (w.alloc e) bs:=by
 refine ⟨by simp,fun p hp h => ?_,fun p h _ _=>.inl h,fun p hp _=>Below.heap_alloc _ _ _ hp,rfl,rfl,rfl,fun _ _ _ h=>h,fun x h=>.inl ⟨x,h,rfl⟩⟩
 rcases h with h | h
 ·exact h
 ·omega
theorem MemRel.alloc {F w bs mem} (hm:MemRel P F w bs mem) (e:Obj):MemRel P (fun p=>F p∨p=w.heap.size) (w.alloc e) bs mem :=
 hm.move (Ext.alloc _ e) fun k x T cs hk hc hv=>⟨.inl (hm.loc k x T cs hk hc hv).1,Below.heap_alloc _ _ _ (hm.loc k x T cs hk hc hv).2⟩
theorem WG {F w bs mem} (hm : MemRel P F w bs mem) (e : TypeId) {cs : List CV} {vs : List Value} (hr : All2 (CV.Rel F w bs) cs vs) (hrow : je cs = false) :
  ∃ F' bs',Ext bs.length F w bs F' (w.alloc (.cells vs.toArray e)) bs'∧MemRel P F' (w.alloc (.cells vs.toArray e)) bs' (mem++[some (e,cs)])∧nth bs' mem.length=some ⟨w.heap.size,0,0⟩:=by
 have he:=Ext.alloc (F:=F) (bs:=bs) bs.length (.cells vs.toArray e:Obj) (w:=w);refine ⟨_,bs++[⟨w.heap.size,0,0⟩],he.push (.inr (lRq _)),?_,by rw [← hm.len];exact jy _ _⟩
 ·refine (hm.alloc _).push ⟨w.heap.size,0,0⟩ (fun _=>⟨.inr rfl,by simp⟩) (fun _ k y T' cs' hk hc hv => ?_) (fun _=>⟨vs,by show (w.heap.push _)[_]? = _;simp,hr.imp fun _ _ h=>h.grow he.grow⟩) (fun fz es n ρ h=>by subst h;simp [je] at hrow) (fun f i st cs' h=>by subst h;simp [je] at hrow)
  have:=(hm.loc k y T' cs' hk hc hv).2
  simp only;omega
theorem MemRel.rewrite {F w bs mem} (hm : MemRel P F w bs mem) {b : Nat} {x : BI} (hb : nth bs b = some x) {T : TypeId} {old : List CV} (hold : nth mem b = some (some (T, old))) (hl : jE x old) (arr : Array Value) :
  Ext bs.length F w bs F (w.setRow x.p arr) bs∧MemRel P F (w.setRow x.p arr) bs (jk mem b none):=by
 have hsz:(w.setRow x.p arr).heap.size=w.heap.size:=by simp [World.setRow]
 have hF:=hm.loc b x T old hb hold hl
 have hext:Ext bs.length F w bs F (w.setRow x.p arr) bs:=by
  refine ⟨by rw [hsz];exact lRq _,fun _ _ h=>h,fun _ h _ _=>h,fun q hq hn=>setRow_other w x.p q _ (fun e => ?_),rfl,rfl,rfl,fun _ _ _ h=>h,fun y h=>.inl ⟨y,h,rfl⟩⟩
  subst e;rcases hn with hn | hn
  ·exact hn hF.1
  ·exact hn x (jH hb) rfl
 refine ⟨hext,(hm.kill b).move hext fun k y T' cs' hk hc hv=>⟨((hm.kill b).loc k y T' cs' hk hc hv).1,setRow_other w x.p y.p _ fun e => ?_⟩⟩;rcases jD hc with ⟨_,h⟩ | ⟨hne,h⟩
 ·cases h
 ·exact hne (hm.inj k b y x T' cs' T old hk hb h hold hv hl e)
theorem MemRel.rewrite_inj {F w bs mem} (hm : MemRel P F w bs mem) {b : Nat} {x : BI} (hb : nth bs b = some x) {T : TypeId} {old : List CV} (hold : nth mem b = some (some (T, old))) (hl : jE x old) :
  ∀ k y T' cs',nth bs k=some y->nth (jk mem b none) k=some (some (T',cs'))->jE y cs'->y.p ≠ x.p:=by
 intro k y T' cs' hk hc hv e;rcases jD hc with ⟨_,h⟩ | ⟨hne,h⟩
 ·cases h
 ·exact hne (hm.inj k b y x T' cs' T old hk hb h hold hv hl e)
theorem kX {mem:Mem} {b:Nat}:∀ T cs,nth (jk mem b none) b ≠ some (some (T,cs)):=by
 intro T cs h;rcases jD h with ⟨_,h⟩ | ⟨hne,_⟩
 ·cases h
 ·exact hne rfl
theorem Oc {F w bs mem} (hm : MemRel P F w bs mem) {b : Nat} {x : BI} (hb : nth bs b = some x) {T : TypeId} {old : List CV} (hold : nth mem b = some (some (T, old))) (hro : je old = false) {cs : List CV} {vs : List Value} (hr : All2 (CV.Rel F w bs) cs vs) (hrc : je cs = false) :
  Ext bs.length F w bs F (w.setRow x.p vs.toArray) bs∧MemRel P F (w.setRow x.p vs.toArray) bs (jk mem b (some (T,cs))):=by
 obtain ⟨hext,hm'⟩:=hm.rewrite hb hold (qc hro) vs.toArray;refine ⟨hext,?_⟩;have hF:=hm.loc b x T old hb hold (qc hro)
 have:=hm'.put hb (T:=T) (cs:=cs) kX (fun _=>⟨hF.1,by simpa [World.setRow] using hF.2⟩) (fun _=>hm.rewrite_inj hb hold (qc hro)) (fun _ => ?_) (fun fz es n ρ h=>by subst h;simp [je] at hrc) (fun f i st cs' h=>by subst h;simp [je] at hrc)
 ·rwa [kx] at this
 ·obtain ⟨us,hu,_⟩:=hm.cont b T old x hold hro hb;exact ⟨vs,setRow_heap w x.p _ _ _ _ hu,hr.imp fun _ _ h=>h.grow hext.grow⟩
theorem j9 {mem:Mem} {b:Nat} {T:TypeId} {fz:Bool} {es:List Sh} {n:Nat} {ρ:Val} (h:rowAt mem b=some (T,fz,es,n,ρ)):nth mem b=some (some (T,[.row fz es n ρ])):=by
 unfold rowAt at h;split at h
 ·rename_i hm;simp at h;obtain ⟨rfl,rfl,rfl,rfl,rfl⟩:=h;exact hm
 ·simp at h
theorem ja1 {F F' w bs} {b:Nat} {x:BI} (hb:nth bs b=some x) {T fz es n ρ} (hr:RowOk F' w x T fz es n ρ) (hF:0<n->¬ F' x.p) {sz:Nat} (_hsz:es.length=sz) {v:Value} (h:CV.Rel F w bs (.os b sz) v) (bs':List BI):CV.Rel F' w bs' (.sl es n ρ) v:=by
 cases h with
 | os h1 h2 =>
   rename_i y base;rw [hb] at h1;simp at h1;subst h1;have hn:=hr.len;rcases Nat.eq_zero_or_pos n with h0 | h0
   ·subst h0;cases base with
    | none =>
      have hc:x.cap=0:=by
       rcases Nat.eq_zero_or_pos x.cap with h | h
       ·exact h
       ·have:=h2 h;cases this
      rw [hn,hc];exact .slnil
    | some a =>
      rw [hn];exact .sl (fun _ _=>undef) (Nat.zero_le _) (fun h=>by omega) (fun i f h=>by omega) (fun i f s h=>by omega)
   ·obtain ⟨arr,ha,hs,val,h3,h4⟩:=hr.block h0;rw [h2 (hr.room h0),hn];refine .sl val (hr.cap h0).1 (fun _=>⟨rfl,(Array.getElem?_eq_some_iff.1 ha).1,hF h0⟩) (fun i f hi hf => ?_) h4;rw [cell_of_row w x.p _ arr T _ ha];simpa using h3 i f hi hf
theorem MemRel.freeze {F w bs mem} (hm : MemRel P F w bs mem) {b : Nat} {x : BI} (hb : nth bs b = some x) {T fz es n ρ} (hrow : nth mem b = some (some (T, [.row fz es n ρ]))) :
  ∃ F',Ext bs.length F w bs F' w bs∧MemRel P F' w bs (jk mem b (some (T,[.row true es n ρ])))∧RowOk F' w x T true es n ρ∧(0<n->¬ F' x.p):=by
 have hr:=hm.row b T fz es n ρ x hrow hb;by_cases hc:0<x.cap∧fz=false
 ·obtain ⟨h0,rfl⟩:=hc;have hl:jE x [CV.row false es n ρ]:=⟨rfl,h0⟩;have hF:=hm.loc b x T _ hb hrow hl;have hext:Ext bs.length F w bs (fun p=>F p∧p ≠ x.p) w bs:=⟨lRq _,fun _ _ h=>h.1,fun p h _ hn=>⟨h,fun e=>hn x (jH hb) e.symm⟩,fun _ _ _=>rfl,rfl,rfl,rfl,fun _ _ _ h=>h,fun y h=>.inl ⟨y,h,rfl⟩⟩;have hm':=(hm.kill b).move hext fun k y T' cs' hk hc hv=>⟨⟨((hm.kill b).loc k y T' cs' hk hc hv).1,hm.rewrite_inj hb hrow hl k y T' cs' hk hc hv⟩,rfl⟩
  have hok:RowOk (fun p=>F p∧p ≠ x.p) w x T true es n ρ:=by
   have:=hr.grow hext.grow0 fun _=>rfl
   exact ⟨this.len,this.le,this.mx,this.blk,fun _ _=>⟨fun h=>h.2 rfl,hF.2⟩⟩
  refine ⟨_,hext,?_,hok,fun _ h=>h.2 rfl⟩
  have:=hm'.put hb (T:=T) (cs:=[.row true es n ρ]) kX (fun h=>by cases h.1) (fun h=>by cases h.1) (fun h=>by simp [je] at h) (fun fz' es' n' ρ' h=>by simp at h;obtain ⟨rfl,rfl,rfl,rfl⟩:=h;exact hok)
  rwa [kx] at this
 ·have hok:RowOk F w x T true es n ρ:=⟨hr.len,hr.le,hr.mx,hr.blk,fun h0 _=>hr.frz h0 (by cases fz;exact (hc ⟨h0,rfl⟩).elim;rfl)⟩
  refine ⟨F,Ext.refl,?_,hok,fun h0=>(hok.frozen h0 rfl).1⟩
  have:=(hm.kill b).put hb (T:=T) (cs:=[.row true es n ρ]) kX (fun h=>by cases h.1) (fun h=>by cases h.1) (fun h=>by simp [je] at h) (fun fz' es' n' ρ' h=>by simp at h;obtain ⟨rfl,rfl,rfl,rfl⟩:=h;exact hok)
  rwa [kx] at this
theorem L3 {F w bs mem} (hm : MemRel P F w bs mem) {x : CV} {v : Value} (h : CV.Rel F w bs x v) :
  ∃ F',Ext bs.length F w bs F' w bs∧MemRel P F' w bs (ZS mem x).1∧CV.Rel F' w bs (ZS mem x).2 v:=by
 unfold ZS;split
 ·rename_i b sz;split
  ·rename_i T fz es n ρ hrow;split
   ·rename_i hsz;have hrow:=j9 hrow;obtain ⟨x,hb⟩ : ∃ x,nth bs b=some x:=by cases h;exact ⟨_,by assumption⟩
    obtain ⟨F',he,hm',hok,hF⟩:=hm.freeze hb hrow;exact ⟨F',he,hm',ja1 hb hok hF (by simpa using hsz) h bs⟩
   ·exact ⟨F,Ext.refl,hm,h⟩
  ·exact ⟨F,Ext.refl,hm,h⟩
 ·exact ⟨F,Ext.refl,hm,h⟩
theorem ZX : ∀ {l : List CV} {F w bs mem} {vs : List Value}, MemRel P F w bs mem -> All2 (CV.Rel F w bs) l vs ->
  ∃ F',Ext bs.length F w bs F' w bs∧MemRel P F' w bs (qL mem l).1∧All2 (CV.Rel F' w bs) (qL mem l).2 vs
 | [],F,w,bs,mem,vs,hm,h=>by cases h;exact ⟨F,Ext.refl,hm,.nil⟩
 | x :: r, F, w, bs, mem, vs, hm, h => by
   cases h with
  | cons h1 h2 =>
    obtain ⟨F1,e1,m1,r1⟩:=L3 hm h1;obtain ⟨F2,e2,m2,r2⟩:=ZX m1 (h2.imp fun _ _ h=>h.grow e1.grow);exact ⟨F2,e1.trans e2 (lRq _),m2,.cons (r1.grow e2.grow) r2⟩
theorem Ml {F w bs mem} (hm : MemRel P F w bs mem) {x : A1} {v : Value} (h : A1.Rel F w bs x v) :
  ∃ F',Ext bs.length F w bs F' w bs∧MemRel P F' w bs (Gs mem x).1∧A1.Rel F' w bs (Gs mem x).2 v:=by
 cases x with
 | c x=>exact L3 hm h
 | agg l =>
   obtain ⟨vs,rfl,h⟩:=h;obtain ⟨F',e,m,r⟩:=ZX hm h;exact ⟨F',e,m,vs,rfl,r⟩
theorem JQ : ∀ {l : List A1} {F w bs mem} {vs : List Value}, MemRel P F w bs mem -> All2 (A1.Rel F w bs) l vs ->
  ∃ F',Ext bs.length F w bs F' w bs∧MemRel P F' w bs (zy mem l).1∧All2 (A1.Rel F' w bs) (zy mem l).2 vs
 | [],F,w,bs,mem,vs,hm,h=>by cases h;exact ⟨F,Ext.refl,hm,.nil⟩
 | x :: r, F, w, bs, mem, vs, hm, h => by
   cases h with
  | cons h1 h2 =>
    obtain ⟨F1,e1,m1,r1⟩:=Ml hm h1;obtain ⟨F2,e2,m2,r2⟩:=JQ m1 (h2.imp fun _ _ h=>A1.Rel.grow e1.grow h);exact ⟨F2,e1.trans e2 (lRq _),m2,.cons (A1.Rel.grow e2.grow r1) r2⟩
def ZC (F:Nat->Prop) (bs:List BI):Nat->Prop:=fun p=>F p∧∀ x ∈ bs,x.p ≠ p
theorem jcI {F w bs}:Grow F (ZC F bs) bs bs w w:=⟨lRq _,fun _ _ h=>h.1,fun _ _ _=>rfl,fun _ _ h=>h⟩
theorem FN {es:List Sh} {f:Nat} {s:Sh} (h:nth es f=some s):f<es.length:=jq h
theorem je8 {es:List Sh} {f:Nat} (h:f<es.length):∃ s,nth es f=some s:=⟨es[f],by rw [jd];exact List.getElem?_eq_getElem h⟩
theorem Yn:∀ {es:List Sh} {l:List CV},YQ es l=true->es.length=l.length∧∀ f s,nth es f=some s->∃ c,nth l f=some c∧fits s c=true
 | [],[],_=>⟨rfl,fun f s h=>by simp [nth] at h⟩
 | s :: r, x :: l, h => by
   simp only [YQ,aTq] at h;obtain ⟨h1,h2⟩:=Yn h.2;refine ⟨by simp [h1],fun f s' hf => ?_⟩
   cases f with
  | zero=>simp [nth] at hf;subst hf;exact ⟨x,rfl,h.1⟩
  | succ f=>exact h2 f s' hf
 | [],_::_,h=>by simp [YQ] at h
 | _::_,[],h=>by simp [YQ] at h
theorem Zb {es:List Sh}:∀ {n:Nat} {l:List CV},QI es n l=true->l.length=n*es.length∧∀ i f s,i<n->nth es f=some s->∃ c,nth l (i*es.length+f)=some c∧fits s c=true
 | 0,[],_=>⟨by simp,fun i f s h=>by omega⟩
 | 0,_::_,h=>by simp [QI] at h
 | n + 1, l, h => by
   simp only [QI] at h;split at h
   ·rename_i l' hl;obtain ⟨rfl,hlen⟩:=k6 hl;rw [Wr,aTq] at h;obtain ⟨h1,h2⟩:=Yn h.1;obtain ⟨h3,h4⟩:=Zb h.2;simp only [List.length_drop] at h3;have hmul:(n+1)*es.length=n*es.length+es.length:=by rw [Nat.add_mul,Nat.one_mul]
    refine ⟨by omega,fun i f s hi hf => ?_⟩
    have hfl:=FN hf;cases i with
    | zero =>
      obtain ⟨c,hc,hfit⟩:=h2 f s hf;refine ⟨c,?_,hfit⟩;rw [jd,List.getElem?_take] at hc;rw [if_pos hfl] at hc;rw [Nat.zero_mul,Nat.zero_add,jd];exact hc
    | succ i =>
      obtain ⟨c,hc,hfit⟩:=h4 i f s (by omega) hf
      refine ⟨c,?_,hfit⟩;rw [jd,List.getElem?_drop] at hc;rw [jd,Nat.add_mul,Nat.one_mul,← hc];congr 1;omega
   ·simp at h
theorem Wu {F w bs mem} (hm:MemRel P F w bs mem) {x:CV} {v:Value} (h:CV.Rel F w bs x v) (hc:closedC (kv mem x)=true):CV.Rel (ZC F bs) w [] (kv mem x) v:=by
 have plain:closedC x=true->CV.Rel (ZC F bs) w [] x v:=fun hx=>CV.Rel.closed (h.grow jcI) hx;unfold kv at hc ⊢;split at hc
 ·rename_i b sz;split at hc
  ·rename_i T fz es n ρ hrow;split at hc
   ·rename_i hsz;have hrow:=j9 hrow;obtain ⟨x,hb⟩ : ∃ x,nth bs b=some x:=by cases h;exact ⟨_,by assumption⟩
    have hr:=hm.row b T fz es n ρ x hrow hb;have hr':RowOk (ZC F bs) w x T fz es n ρ:=hr.grow ⟨lRq _,fun _ _ h=>h.1,fun _ _ _=>rfl,fun k p h=>by simp [nth] at h⟩ fun _=>rfl
    rw [if_pos hsz];exact ja1 hb hr' (fun _ hF=>hF.2 x (jH hb) rfl) (by simpa using hsz) h []
   ·simp [closedC] at hc
  ·simp [closedC] at hc
 ·exact plain hc
theorem VN {F w bs} {s:Sh} {x:CV} {v:Value} (h:CV.Rel F w bs x v) (hf:Yb s x=true):CV.Rel F w [] (cellOf s (Val.ofC0 x)) v:=by
 unfold Yb at hf;split at hf
 ·cases h;exact .bool _
 ·cases h
  have:=of_decide_eq_true hf
  subst this;exact .int _ _
 ·cases h;exact .str _
 ·have:=jm hf
  subst this;cases h with
  | slnil=>exact .slnil
  | sl val hn h0 hc hr=>exact .sl val hn h0 hc hr
 ·cases h;exact .slnil
 ·have:=jm hf
  subst this;cases h with
  | slnil=>exact .slnil
  | sl val hn h0 hc hr=>exact .sl val hn h0 hc hr
 ·cases h;exact .slnil
 ·cases h;exact .ifx0 rfl
 ·cases h with
  | ifx0 h=>exact .ifx0 h
  | ifx1 h ht r=>exact .ifx1 h ht r
  | ifxa h ht hl r=>exact .ifxa h ht hl r
 ·simp at hf
theorem Kh {s:Sh} {x:CV} (h:Yb s x=true):closedC x=true:=by
 unfold Yb at h;split at h<;>first | rfl | simp at h
theorem Vs:∀ {es:List Sh} {l:List CV},Qu es l=true->closedC.closedCs l=true
 | [],[],_=>rfl
 | s :: es, x :: l, h => by
   simp only [Qu,aTq] at h;simp only [closedC.closedCs,aTq];exact ⟨Kh h.1,Vs h.2⟩
 | [],_::_,h=>by simp [Qu] at h
 | _::_,[],h=>by simp [Qu] at h
theorem HU:∀ {es:List Sh} {l:List CV},Qu es l=true->es.length=l.length∧∀ i s x,nth es i=some s->nth l i=some x->Yb s x=true
 | [],[],_=>⟨rfl,fun i s x h=>by simp [nth] at h⟩
 | s :: es, x :: l, h => by
   simp only [Qu,aTq] at h;obtain ⟨h1,h2⟩:=HU h.2;refine ⟨by simp [h1],fun i s' x' hs hx => ?_⟩
   cases i with
  | zero=>simp only [nth,sIq] at hs hx;subst hs;subst hx;exact h.1
  | succ i=>exact h2 i s' x' hs hx
 | [],_::_,h=>by simp [Qu] at h
 | _::_,[],h=>by simp [Qu] at h
theorem Db:∀ (l:List CV) (i:Nat),KU l i=nth l i
 | [],_=>rfl
 | _::_,0=>rfl
 | _::l,i+1=>Db l i
theorem KT {t:TypeId} {agg:Bool}:∀ {n k:Nat} {es:List Sh},Kv t agg n=some (k,es)->DG k=some (t,agg,es)
 | 0,_,_,h=>by simp [Kv] at h
 | n + 1, k, es, h => by
   unfold Kv at h;split at h
   ·rename_i t' a es' hi;split at h
    ·rename_i hc;simp only [aTq,beq_iff_eq] at hc;simp only [sIq,pIq] at h;obtain ⟨rfl,rfl⟩:=h;obtain ⟨h1,rfl⟩:=hc;have h1:=Nat.eq_of_beq_eq_true h1;subst h1;exact hi
    ·exact KT h
   ·exact KT h
theorem jcy (k:Nat) (f:Nat->Val) (i:Nat):(Val.tagged k f).at i=f i:=rfl
theorem jbo {x:CV} (h:∀ t y,x ≠ .iface t y) (h':∀ t l,x ≠ .ifa t l):Val.ofC x=Val.ofC0 x:=by
 unfold Val.ofC;split
 ·exact absurd rfl (h _ _)
 ·exact absurd rfl (h' _ _)
 ·rfl
theorem Iy {s:Sh} {x:CV} (hf:Yb s x=true):Val.ofC x=Val.ofC0 x:=by
 refine jbo (fun t y e => ?_) (fun t l e => ?_)<;>(subst e;cases s<;>simp [Yb] at hf)
theorem QK {F w bs} {s:Sh} {x:CV} {v:Value} (h:CV.Rel F w bs x v) (hf:fits s x=true):CV.Rel F w [] (cellOf s (Val.ofC x)) v:=by
 unfold fits at hf;rw [Bool.or_eq_true] at hf;rcases hf with hf | hf
 ·rw [Iy hf];exact VN h hf
 ·split at hf
  ·rename_i t y;split at hf
   ·rename_i k e hk;have hi:=KT hk
    have e1:Val.ofC (.iface t y)=.tagged (k+1) fun _=>.ofC0 y:=by
     show (match Kv t false itN with | some (k,_)=>Val.tagged (k+1) fun _=>.ofC0 y | none=>.ofC0 .any)=_
     rw [hk]
    rw [e1];cases h with
    | iface hv=>exact .ifx1 (k:=k) rfl hi (VN hv hf)
   ·simp at hf
  ·rename_i t l;split at hf
   ·rename_i k es hk;have hi:=KT hk
    have e1:Val.ofC (.ifa t l)=.tagged (k+1) fun i=>match KU l i with | some x=>.ofC0 x | none=>.ofC0 .any:=by
     show (match Kv t true itN with | some (k,_)=>(Val.tagged (k+1) fun i=>match KU l i with | some x=>.ofC0 x | none=>.ofC0 .any) | none=>.ofC0 .any)=_
     rw [hk]
    rw [e1];obtain ⟨h1,h2⟩:=HU hf;cases h with
    | ifa hl hv =>
      rename_i vs;refine .ifxa (k:=k) rfl hi (by rw [h1,hl]) fun i s v hs hv' => ?_
      rw [jcy];have hlt:i<l.length:=by have:=jq hs;omega
      have hx:nth l i=some l[i]:=by rw [jd];exact List.getElem?_eq_getElem hlt
      rw [Db,hx];exact VN (hv i _ v hx hv') (h2 i s _ hs hx)
   ·simp at hf
  ·simp at hf
theorem Iq {s:Sh} {x:CV} (h:fits s x=true):closedC x=true:=by
 unfold fits at h;rw [Bool.or_eq_true] at h;rcases h with h | h
 ·exact Kh h
 ·split at h
  ·split at h
   ·simp only [closedC];exact Kh h
   ·simp at h
  ·split at h
   ·simp only [closedC];exact Vs h
   ·simp at h
  ·simp at h
theorem jdL {F w bs mem} (hm:MemRel P F w bs mem) {b m c:Nat} {v:Value} (h:CV.Rel F w bs (.oc b m c) v) {r:CV} (hr:jbw mem b m=some r):CV.Rel (ZC F bs) w [] r v:=by
 unfold jbw at hr;split at hr
 ·rename_i T cs hmem;split at hr
  ·cases hr
  ·rename_i hrow;have hrow:je cs=false:=by simpa using hrow
   split at hr
   ·rename_i l hl;obtain ⟨rfl,hlen⟩:=k6 hl;split at hr
    ·rename_i es _;split at hr
     ·rename_i hfit;simp only [sIq] at hr;subst hr;cases h with
      | oc hb hmc =>
        rename_i x;obtain ⟨vs,hheap,hrel⟩:=hm.cont b T cs x hmem hrow hb;obtain ⟨_,hnth⟩:=Zb hfit
        have hat:∀ i,i<m->∃ u z,vs[i]? = some u∧nth ((cs.take m).map (kv mem)) i=some z∧fits (.sl es) z=true∧CV.Rel (ZC F bs) w [] z u:=by
         intro i hi;obtain ⟨z,hz,hf⟩:=hnth i 0 (.sl es) hi rfl
         have hz:nth ((cs.take m).map (kv mem)) i=some z:=by
          have e:i*[Sh.sl es].length+0=i:=by simp
          rw [e] at hz;exact hz
         have hz':=hz;rw [jd,List.getElem?_map,List.getElem?_take,if_pos hi,Option.map_eq_some_iff] at hz';obtain ⟨y,hy,rfl⟩:=hz';obtain ⟨u,hu,hyu⟩:=hrel.nth (by rw [jd];exact hy)
         exact ⟨u,_,hu,hz,hf,Wu hm hyu (Iq hf)⟩
        refine .sl (fun i f=>vs[i]?.getD undef) hmc (fun h0=>⟨rfl,?_,fun hF=>hF.2 x (jH hb) rfl⟩) (fun i f hi hf => ?_) (fun i f s hi hf => ?_)
        ·exact (Array.getElem?_eq_some_iff.1 hheap).1
        ·obtain ⟨u,z,hu,_⟩:=hat i hi;have hf:f=0:=by simp at hf;omega
         subst hf;show w.cell? ⟨x.p,0+(i*1+0),none⟩=_;rw [cell_of_row w x.p _ _ _ _ hheap,hu];have e:0+(i*1+0)=i:=by omega
         rw [e];simpa using hu
        ·obtain ⟨u,z,hu,hz,hfz,hzu⟩:=hat i hi;have hf0:=jq hf;have hf0:f=0:=by simp at hf0;omega
         subst hf0;simp only [nth,sIq] at hf;subst hf
         have e1:((Val.ofFlat 1 ((cs.take m).map (kv mem))).at i).at 0=Val.ofC z:=by
          show (match nth ((cs.take m).map (kv mem)) (i*1+0) with | some x=>Val.ofC x | none=>Val.zero)=_
          have e:i*1+0=i:=by omega
          rw [e,hz]
         rw [e1,hu];exact QK hzu hfz
     ·cases hr
    ·cases hr
   ·cases hr
 ·cases hr
theorem jc7 {F w bs} {s:Sh} {x:CV} {v:Value} (h:CV.Rel F w bs x v) (hs:W2 x=some s):CV.Rel F w [] (cellOf s (Val.ofC0 x)) v:=by
 unfold W2 at hs;split at hs
 ·simp only [sIq] at hs;subst hs;cases h;exact .bool _
 ·simp only [sIq] at hs;subst hs;cases h;exact .int _ _
 ·simp only [sIq] at hs;subst hs;cases h;exact .str _
 ·simp only [sIq] at hs;subst hs;cases h with
  | slnil=>exact .slnil
  | sl val hn h0 hc hr=>exact .sl val hn h0 hc hr
 ·simp only [sIq] at hs;subst hs;cases h;exact .slnil
 ·cases hs
theorem Du {x:CV} {s:Sh} (hs:W2 x=some s):closedC x=true:=by
 unfold W2 at hs;split at hs<;>first | rfl | cases hs
theorem Oj:∀ {l:List CV} {es:List Sh},Uf l=some es->l.length=es.length∧∀ j s,nth es j=some s->∃ x,nth l j=some x∧W2 x=some s
 | [],es,h=>by simp only [Uf,sIq] at h;subst h;exact ⟨rfl,fun j s h=>by simp [nth] at h⟩
 | x :: l, es, h => by
   simp only [Uf] at h;split at h
   ·rename_i s r h1 h2;simp only [sIq] at h;subst h;obtain ⟨g1,g2⟩:=Oj h2;refine ⟨by simp [g1],fun j s' hj => ?_⟩
    cases j with
    | zero=>simp only [nth,sIq] at hj;subst hj;exact ⟨x,rfl,h1⟩
    | succ j=>exact g2 j s' hj
   ·cases h
theorem Oa:∀ (l:List CV) (j:Nat),KU l j=nth l j
 | [],_=>rfl
 | _::_,0=>rfl
 | _::l,j+1=>Oa l j
theorem jjj {F w bs mem} (hm:MemRel P F w bs mem) {b o:Nat} {v:Value} (h:CV.Rel F w bs (.ptr b o) v) {x:CV} (hx:jfQ mem b o=some x):CV.Rel (ZC F bs) w [] x v:=by
 unfold jfQ at hx;split at hx
 ·rename_i T cs hb;split at hx
  ·cases hx
  ·rename_i hrow;simp only [Bool.not_eq_true] at hrow;split at hx
   ·rename_i es hes;simp only [sIq] at hx;subst hx;cases h with
    | ptr hn =>
      rename_i y;obtain ⟨vs,hheap,hrel⟩:=hm.cont b T cs y hb hrow hn;obtain ⟨g1,g2⟩:=Oj hes;have hlen:cs.length=es.length:=by simpa using g1
      have hat:∀ j s,nth es j=some s->∃ u,nth cs j=some u∧∃ z,nth vs j=some z∧W2 (kv mem u)=some s∧CV.Rel (ZC F bs) w [] (kv mem u) z:=by
       intro j s hj;obtain ⟨x,h1,h2⟩:=g2 j s hj;rw [jd,List.getElem?_map] at h1;cases hu:cs[j]? with
       | none=>rw [hu] at h1;simp at h1
       | some u =>
         rw [hu] at h1;simp only [Option.map_some,sIq] at h1;subst h1;obtain ⟨z,hz,hr⟩:=hrel.nth (by rw [jd];exact hu)
         exact ⟨u,by rw [jd];exact hu,z,by rw [jd];exact hz,h2,Wu hm hr (Du h2)⟩
      have e:(⟨y.p,o,none⟩ : Addr)=⟨y.p,0+o,none⟩:=by rw [Nat.zero_add]
      rw [e];refine .rop (fun j=>vs[j]?.getD undef) (Array.getElem?_eq_some_iff.1 hheap).1 (fun hF=>hF.2 y (jH hn) rfl) (fun j hj => ?_) (fun j s hj => ?_)
      ·obtain ⟨s,hs⟩:=(⟨es[j],by rw [jd];exact List.getElem?_eq_getElem hj⟩ : ∃ s,nth es j=some s)
       obtain ⟨u,hu,z,hz,_,_⟩:=hat j s hs;rw [jd] at hz;simp only [World.cell?,hheap,Nat.zero_add];simp [hz]
      ·obtain ⟨u,hu,z,hz,h1,h2⟩:=hat j s hj
       have e1:(Val.ofCells (cs.map (kv mem))).at j=Val.ofC0 (kv mem u):=by
        show (match KU (cs.map (kv mem)) j with | some x=>Val.ofC0 x | none=>Val.zero)=_
        rw [Oa,jd,List.getElem?_map];rw [jd] at hu;rw [hu];rfl
       rw [jd] at hz;rw [e1,hz];exact jc7 h2 h1
   ·cases hx
 ·cases hx
theorem Da {F w bs mem} (hm:MemRel P F w bs mem) {x:CV} {v:Value} (h:CV.Rel F w bs x v) (hc:closedC (Zp mem x)=true):CV.Rel (ZC F bs) w [] (Zp mem x) v:=by
 cases x with
 | os b sz=>exact Wu hm h hc
 | oc b m c =>
   simp only [Zp] at hc ⊢;split at hc
   ·rename_i r hr;exact jdL hm h hr
   ·simp [closedC] at hc
 | ptr b o =>
   simp only [Zp] at hc ⊢;split at hc
   ·rename_i r hr;exact jjj hm h hr
   ·simp [closedC] at hc
 | _=>exact Wu hm h hc
theorem Wy {F w bs mem} (hm:MemRel P F w bs mem) {x:A1} {v:Value} (h:A1.Rel F w bs x v) (hc:jB (zo mem x)=true):A1.Rel (ZC F bs) w [] (zo mem x) v:=by
 cases x with
 | c x=>exact Da hm h hc
 | agg l =>
   obtain ⟨vs,rfl,h⟩:=h;refine ⟨vs,rfl,?_⟩;simp only [zo,jB,List.all_map,List.all_eq_true] at hc
   induction h with
  | nil=>exact .nil
  | cons h _ ih=>exact .cons (Da hm h (hc _ (by simp))) (ih fun x hx=>hc x (by simp [hx]))
theorem Uc {mem:Mem} {x:CV} (h:closedC x=true):Zp mem x=x:=by
 unfold Zp;split
 ·simp [closedC] at h
 ·simp [closedC] at h
 ·simp [closedC] at h
 ·rfl
theorem Kf {mem:Mem} {x:A1} (h:jB x=true):zo mem x=x:=by
 cases x with
 | c x=>simp only [zo];rw [Uc h]
 | agg l =>
   simp only [jB,List.all_eq_true] at h;simp only [zo];congr 1;refine (List.map_congr_left fun x hx=>Uc (h x hx)).trans (List.map_id _)
theorem OG {F w bs x v} (h:CV.Rel F w bs x v) (hf:O5 x=true) (F' w' bs'):CV.Rel F' w' bs' x v:=by
 cases h<;>first | (simp [O5] at hf;done) | constructor
theorem OD {F w bs} {x:A1} {v:Value} (h:A1.Rel F w bs x v) (hf:Rx x=true) (F' w' bs'):A1.Rel F' w' bs' x v:=by
 cases x with
 | c x=>exact OG h hf _ _ _
 | agg l =>
   obtain ⟨vs,rfl,h⟩:=h;refine ⟨vs,rfl,?_⟩;simp only [Rx,List.all_eq_true] at hf
   induction h with
  | nil=>exact .nil
  | cons h _ ih=>exact .cons (OG h (hf _ (by simp)) _ _ _) (ih fun x hx=>hf x (by simp [hx]))
theorem Od {F w bs} {x:AV} {v:Value} (h:AV.Rel F w bs x v) (hf:WA x=true) (F' w' bs'):AV.Rel F' w' bs' x v:=by
 cases x with
 | any=>simp [WA] at hf
 | one x=>exact OD h hf _ _ _
 | tup l =>
   obtain ⟨vs,rfl,h⟩:=h;refine ⟨vs,rfl,?_⟩;simp only [WA,List.all_eq_true] at hf
   induction h with
  | nil=>exact .nil
  | cons h _ ih=>exact .cons (OD h (hf _ (by simp)) _ _ _) (ih fun x hx=>hf x (by simp [hx]))
theorem MN (a b:Val):yH true a b=a:=rfl
theorem Ir (a b:Val):yH false a b=b:=rfl
theorem Ke (f:Nat->Val) (i:Nat):(Val.byFst f).at i=f i:=rfl
theorem MemRel.lay {F w bs mem} (hm : MemRel P F w bs mem) {e : TypeId} {es : List Sh} {n cap : Nat} {ρ : Val} {arr : Array Value} (hcap : n <= cap) (hmax : cap <= maxLen) (hsize : arr.size = cap * es.length) (val : Nat -> Nat -> Value)
  (h3:∀ i f,i<n->f<es.length->arr[i*es.length+f]? = some (val i f)) (h4:∀ i f s,i<n->nth es f=some s->CV.Rel F w [] (cellOf s ((ρ.at i).at f)) (val i f)) :
  ∃ F',Ext bs.length F w bs F' (w.alloc (.cells arr e)) (bs++[⟨w.heap.size,n,cap⟩])∧MemRel P F' (w.alloc (.cells arr e)) (bs++[⟨w.heap.size,n,cap⟩]) (mem++[some (e,[.row false es n ρ])]):=by
 have he:=Ext.alloc (F:=F) (bs:=bs) bs.length (.cells arr e:Obj) (w:=w);refine ⟨_,he.push (.inr (lRq _)),?_⟩;refine (hm.alloc _).push ⟨w.heap.size,n,cap⟩ (fun _=>⟨.inr rfl,by simp⟩) (fun _ k y T' cs' hk hc hv => ?_) (fun h=>by simp [je] at h) (fun fz es' n' ρ' h => ?_)
 ·have:=(hm.loc k y T' cs' hk hc hv).2
  simp only;omega
 ·simp at h;obtain ⟨rfl,rfl,rfl,rfl⟩:=h;exact ⟨rfl,hcap,hmax,fun _=>⟨arr,by show (w.heap.push _)[_]? = _;simp,hsize,val,h3,fun i f s hi hf=>(h4 i f s hi hf).grow he.grow0⟩,fun _ h=>by cases h⟩
theorem MemRel.lay0 {F w bs mem} (hm : MemRel P F w bs mem) (e : TypeId) (es : List Sh) {n : Nat} (h0 : n = 0) (ρ : Val) :
  Ext bs.length F w bs F w (bs++[⟨w.heap.size,n,0⟩])∧MemRel P F w (bs++[⟨w.heap.size,n,0⟩]) (mem++[some (e,[.row false es n ρ])]):=by
 refine ⟨Ext.refl.push (.inr (lRq _)),hm.push _ (fun h=>by have:=h.2;simp at this) (fun h=>by have:=h.2;simp at this) (fun h=>by simp [je] at h) (fun fz es' n' ρ' h => ?_)⟩
 simp at h;obtain ⟨rfl,rfl,rfl,rfl⟩:=h;exact ⟨rfl,by omega,Nat.zero_le _,fun h=>by simp at h,fun h=>by simp at h⟩
theorem Yf (z:List CV):∀ n,(Qi z n).length=n*z.length
 | 0=>by simp [Qi]
 | n+1=>by simp [Qi,Yf z n,Nat.add_mul,Nat.add_comm]
theorem WN (z:List CV):∀ (n i:Nat),i<n*z.length->nth (Qi z n) i=nth z (i % z.length)
 | 0,i,h=>by omega
 | n + 1, i, h => by
   rw [Nat.add_mul,Nat.one_mul] at h;simp only [Qi];rw [jd,jd];rcases Nat.lt_or_ge i z.length with hi | hi
   ·rw [List.getElem?_append_left hi,Nat.mod_eq_of_lt hi]
   ·rw [List.getElem?_append_right hi]
    have:=WN z n (i - z.length) (by omega)
    rw [jd,jd] at this;rw [this,← Nat.mod_eq_sub_mod hi]
theorem HM {sz:Nat} (h0:0<sz):∀ {parts:List (Nat × A1)} {cs:List CV},ku (fun i=>some (i*sz,sz)) [] parts=some cs->parts=[]
 | [],_,_=>rfl
 | (i, v) :: r, cs, h => by
   simp only [ku] at h
   have hc:¬ (v.cells.length==sz&&Nat.ble (i*sz+v.cells.length) ([]:List CV).length)=true:=by
    intro hc;simp only [aTq,beq_iff_eq,Nat.ble_eq,List.length_nil] at hc;omega
   rw [if_neg hc] at h;cases h
theorem OS {F w bs mem} (hm : MemRel P F w bs mem) {t : TypeId} {n : Nat} {parts : List (Nat × A1)} {pv : Array (Nat × Value)} {r : AV} {mem' : Mem} (h : kO P mem t n parts = some (r, mem'))
  (hp:All2 (fun x y=>x.1=y.1∧A1.Rel F w bs x.2 y.2) parts pv.toList) :
  ∃ F' w' bs' v,Ext bs.length F w bs F' w' bs'∧MemRel P F' w' bs' mem'∧r.Rel F' w' bs' v∧(Instr.buildSlice t n pv).run P w=.ok v w':=by
 unfold kO at h;split at h
 ·rename_i e hu;split at h
  ·rename_i j es z hj hes hz;split at h
   ·rename_i hcond;simp only [aTq,beq_iff_eq,Nat.ble_eq,Nat.blt_eq] at hcond;obtain ⟨⟨⟨h1,h2⟩,h3⟩,h4⟩:=hcond;split at h
    ·rename_i cs hfill;simp only at h;split at h
     ·rename_i hfit;simp only [sIq,pIq] at h;obtain ⟨rfl,rfl⟩:=h;unfold jS at hz;simp only [hj] at hz;split at hz
      ·rename_i zv hzv;have hzc:All2 (CV.Rel F w bs) z zv.cells.toList:=yR hz;have hzs:zv.cells.size=j.size:=by have:=hzc.length;simp at this;omega
       let base:List Value:=(List.range (n*j.size)).map fun i=>zv.cells[i % zv.cells.size]!
       have hbase:All2 (CV.Rel F w bs) (Qi z n) base:=by
        refine All2.of_nth (by simp [base,Yf,h3]) fun i x v hx hv => ?_
        have hi:=jq hv;simp only [base,List.length_map,List.length_range] at hi;rw [WN z n i (by rw [h3];exact hi)] at hx
        rw [jd] at hv;simp only [base,List.getElem?_map,List.getElem?_range hi,Option.map_some,sIq] at hv;subst hv;obtain ⟨u,hu,hr⟩:=hzc.nth hx;rw [hzs,← h3];simp only [Array.getElem?_toList] at hu;rw [getElem!_def,hu];exact hr
       obtain ⟨rv,hrv,hf⟩:=Y4 (places':=fun i=>some (i*j.size,j.size)) (fun i p h=>h) hfill hbase hp;obtain ⟨F1,e1,m1,r1⟩:=ZX hm hrv;obtain ⟨hl,hnth⟩:=Zb hfit;have hlen:rv.length=n*j.size:=by rw [← r1.length,hl,h1]
       have harr:((Array.range (n*j.size)).map (zv.cells[· % zv.cells.size]!))=base.toArray:=by
        apply Array.ext';simp [base,Array.toList_map]
       have content:∀ i f,i<n->f<es.length->rv.toArray[i*es.length+f]? = some (rv.toArray[i*es.length+f]?.getD undef):=by
        intro i f hi hf
        have:i*es.length+f<rv.length:=by
         rw [hlen,← h1]
         have:(i+1)*es.length<=n*es.length:=Nat.mul_le_mul_right _ hi
         rw [Nat.add_mul,Nat.one_mul] at this;omega
        simp [this]
       have rel:∀ i f s,i<n->nth es f=some s->CV.Rel F1 w [] (cellOf s (((Val.ofFlat j.size (qL mem cs).2).at i).at f)) (rv.toArray[i*es.length+f]?.getD undef):=by
        intro i f s hi hf;obtain ⟨c,hc,hfit⟩:=hnth i f s hi hf;obtain ⟨u,hu,hrel⟩:=r1.nth hc
        have:=QK hrel hfit
        have e1:((Val.ofFlat j.size (qL mem cs).2).at i).at f=Val.ofC c:=by
         show (match nth (qL mem cs).2 (i*j.size+f) with | some x=>Val.ofC x | none=>Val.zero)=_
         rw [← h1,hc]
        rw [e1];simpa [hu] using this
       by_cases hn:n=0
       ·subst hn;have hrv0:rv=[]:=List.eq_nil_of_length_eq_zero (by simpa using hlen)
        subst hrv0;obtain ⟨F2,e2,m2⟩:=m1.lay (e:=e) (es:=es) (n:=0) (cap:=0) (ρ:=Val.ofFlat j.size (qL mem cs).2) (arr:=#[]) (lRq _) (Nat.zero_le _) (by simp) (fun _ _=>undef) (fun i f h=>by omega) (fun i f s h=>by omega)
        refine ⟨F2,_,_,.slice (some ⟨w.heap.size,0,none⟩) 0 0,e1.trans e2 (lRq _),m2,CV.Rel.os (x:=⟨w.heap.size,0,0⟩) (by rw [← m1.len];exact jy _ _) (fun _=>rfl),?_⟩
        have hpv:pv = #[]:=by
         have:=HM (cs:=cs) (sz:=j.size) h2 hfill
         subst this;cases hp':pv.toList with
         | nil=>rw [← Array.toArray_toList (xs:=pv),hp']
         | cons _ _=>rw [hp'] at hp;cases hp
        subst hpv;have hr0:Array.range 0 = #[]:=Array.eq_empty_of_size_eq_zero (by simp)
        simp [Instr.buildSlice,run_underlying hu,sizeOf,typeInfo,hj,Instr.fill,newRow,hr0]
       ·have hpos : n * j.size ≠ 0 := by
         intro e;rcases Nat.mul_eq_zero.1 e with e | e<;>omega
        obtain ⟨F2,e2,m2⟩:=m1.lay (e:=e) (es:=es) (n:=n) (cap:=n) (ρ:=Val.ofFlat j.size (qL mem cs).2) (arr:=rv.toArray) (lRq _) (by
         have:n<=n*j.size:=Nat.le_mul_of_pos_right _ h2
         simp only [maxLen];omega) (by simp [hlen,h1]) _ content rel
        refine ⟨F2,_,_,.slice (some ⟨w.heap.size,0,none⟩) n n,e1.trans e2 (lRq _),m2,CV.Rel.os (x:=⟨w.heap.size,n,n⟩) (by rw [← m1.len];exact jy _ _) (fun _=>rfl),?_⟩
        exact run_buildSlice w t e n pv rv.toArray j zv hu hj hzv (by omega) hpos (by rw [harr];exact hf)
      ·simp at hz
     ·simp at h
    ·simp at h
   ·simp at h
  ·simp at h
 ·simp at h
def qA (k m:Nat) (val:Nat->Nat->Value):List Value:=(List.range (m*k)).map fun q=>val (q / k) (q % k)
theorem qw (k m:Nat) (val:Nat->Nat->Value):(qA k m val).length=m*k:=by simp [qA]
theorem Wi {i f m k:Nat} (hi:i<m) (hf:f<k):i*k+f<m*k:=by
 have:(i+1)*k<=m*k:=Nat.mul_le_mul_right _ hi
 rw [Nat.add_mul,Nat.one_mul] at this;omega
theorem jfa {i f k:Nat} (hf:f<k):(i*k+f) / k=i:=by
 rw [Nat.mul_comm,Nat.mul_add_div (by omega),Nat.div_eq_of_lt hf,Nat.add_zero]
theorem ab {i f k:Nat} (hf:f<k):(i*k+f) % k=f:=by
 rw [Nat.mul_comm,Nat.mul_add_mod,Nat.mod_eq_of_lt hf]
theorem Gy {k m:Nat} {val:Nat->Nat->Value} {i f:Nat} (hi:i<m) (hf:f<k):(qA k m val)[i*k+f]? = some (val i f):=by
 have:=Wi hi hf
 simp only [qA,List.getElem?_map,List.getElem?_range this,Option.map_some,jfa hf,ab hf]
theorem KE {k m:Nat} {val:Nat->Nat->Value} {j:Nat} {u:Value} (h:(qA k m val)[j]? = some u):∃ i f,i<m∧f<k∧j=i*k+f∧u=val i f:=by
 have hj:j<m*k:=by
  rcases Nat.lt_or_ge j (m*k) with h' | h'
  ·exact h'
  ·rw [List.getElem?_eq_none (by rw [qw];exact h')] at h;cases h
 have hk:0<k:=Nat.pos_of_ne_zero fun e=>by subst e;omega
 simp only [qA,List.getElem?_map,List.getElem?_range hj,Option.map_some,sIq] at h;refine ⟨j / k,j % k,Nat.div_lt_of_lt_mul (by rw [Nat.mul_comm];exact hj),Nat.mod_lt _ hk,?_,h.symm⟩
 rw [Nat.mul_comm];exact (Nat.div_add_mod j k).symm
theorem addr_eq {a:Addr} (h:a.spot=none) (j:Nat):a.add j=⟨a.block,a.off+j,none⟩:=by
 obtain ⟨b,o,s⟩:=a;simp only at h;subst h;exact addr_add b o j
structure SrcOk (P:Program) (F:Nat->Prop) (w:World) (k:Nat) (t:TypeId) (es:List Sh) (m:Nat) (σ:Val) (u:Value) (val:Nat->Nat->Value):Prop where
 src:Src P k t u m (qA k m val) w
 addr:0<m->∃ a c,u=.slice (some a) m c∧∀ j z,(qA k m val)[j]? = some z->w.cell? (a.add j)=some z
 rel:∀ i f s,i<m->nth es f=some s->CV.Rel F w [] (cellOf s ((σ.at i).at f)) (val i f)
theorem N1 {F w} {k m:Nat} {es:List Sh} {σ:Val} {val:Nat->Nat->Value} (hk:es.length=k) (hr:∀ i f s,i<m->nth es f=some s->CV.Rel F w [] (cellOf s ((σ.at i).at f)) (val i f)):∀ u ∈ qA k m val,u.oneCell'=true:=by
 intro u hu;obtain ⟨j,hj⟩:=List.getElem?_of_mem hu;obtain ⟨i,f,hi,hf,_,rfl⟩:=KE hj;obtain ⟨s,hs⟩:=je8 (es:=es) (f:=f) (by omega)
 exact (hr i f s hi hs).one
theorem jho {F w bs mem} (hm : MemRel P F w bs mem) {t e' : TypeId} (ht : P.underlying t = some (.slice e')) {x : A1} {es : List Sh} {m : Nat} {σ : Val} (h : YU mem x = some (es, m, σ)) {k : Nat} (hk : es.length = k) {u : Value} (hu : A1.Rel F w bs x u) :
  ∃ val,SrcOk P F w k t es m σ u val:=by
 have nilcase:∀ base c,m=0->u=.slice base 0 c->SrcOk P F w k t es m σ u (fun _ _=>undef):=by
  intro base c h0 he;subst h0;subst he;have hfl:qA k 0 (fun _ _=>undef)=[]:=by simp [qA]
  refine ⟨?_,fun h=>by omega,fun i f s hi=>by omega⟩
  rw [hfl];cases base with
  | none=>exact Src.ofNil w ht c
  | some a=>exact Src.ofSlice w ht a 0 c [] (by simp) (by simp) (by simp)
 unfold YU at h;split at h
 ·rename_i es0 m ρ0;simp at h;obtain ⟨rfl,rfl,rfl⟩:=h;cases hu with
  | slnil=>exact ⟨_,nilcase none 0 rfl rfl⟩
  | sl val hn h0 hc hr =>
    rename_i cap a;rcases Nat.eq_zero_or_pos m with hz | hz
    ·subst hz;exact ⟨_,nilcase (some a) cap rfl rfl⟩
    ·have hcell : ∀ j z, (qA k m val)[j]? = some z -> w.cell? (a.add j) = some z := by
      intro j z hj;obtain ⟨i,f,hi,hf,rfl,rfl⟩:=KE hj;rw [addr_eq (h0 hz).1,← hk];exact hc i f hi (by omega)
     exact ⟨val,Src.ofSlice w ht a m cap _ (qw _ _ _) hcell (N1 hk hr),fun _=>⟨a,cap,rfl,hcell⟩,hr⟩
 ·rename_i b sz;split at h
  ·rename_i T fz es' n' ρ' hrow;split at h
   ·simp at h;obtain ⟨rfl,rfl,rfl⟩:=h;have hrow:=j9 hrow;cases hu with
    | os hb hbase =>
      rename_i x base;have hr:=hm.row b T fz _ _ _ x hrow hb;have hn:=hr.len;rcases Nat.eq_zero_or_pos n' with hz | hz
      ·exact ⟨_,nilcase base x.cap hz (by rw [hn,hz])⟩
      ·obtain ⟨arr,ha,hs,val,h3,h4⟩:=hr.block hz;have hbs:=hbase (hr.room hz);subst hbs
       have hcell:∀ j z,(qA k n' val)[j]? = some z->w.cell? ((⟨x.p,0,none⟩ : Addr).add j)=some z:=by
        intro j z hj;obtain ⟨i,f,hi,hf,rfl,rfl⟩:=KE hj;rw [addr_eq rfl,cell_of_row w x.p _ arr T _ ha,Nat.zero_add,← hk];exact h3 i f hi (by omega)
       rw [hn];exact ⟨val,Src.ofSlice w ht _ n' x.cap _ (qw _ _ _) hcell (N1 hk h4),fun _=>⟨_,x.cap,rfl,hcell⟩,h4⟩
   ·simp at h
  ·simp at h
 ·simp at h
theorem Z2 {w : World} {t ty e : TypeId} {i : TypeInfo} (ht : P.underlying t = some (.slice e)) (hi : P.info? e = some i) (base : Option Addr) (n cap : Nat) (hn : n <= cap) {u : Value} (hs : Src P i.size t u 0 [] w) :
  (Builtin.append_ #[t,t] ty #[.slice base n cap,u]).run P w=.ok (.slice base n cap) w:=by
 have hz:=hs.cells;cases base with
 | none=>simp [Builtin.append_,run_underlying ht,sizeOf,typeInfo,hi,hs.len,hz,hn]
 | some a=>simp [Builtin.append_,run_underlying ht,sizeOf,typeInfo,hi,hs.len,hz,hn,storeCells]
end
end Go.Sx