/-
 Part PaL of the proof: EngHf.
-/
import Derived.Test.YtiefjlcakpdfeaaGreatPaK
namespace Go.Sx
open Go Go.RowKit
variable {P:Program} {D:List Deferred}
structure Shut (z:Nat) (F:Nat->Prop) (w w':World):Prop where
 size:w'.heap.size=w.heap.size
 os:w'.os=w.os
 tape:w'.tape=w.tape
 output:w'.output=w.output
 blk:∀ p,w'.heap[p]? = w.heap[p]? ∨ (z<=p∧¬ F p∧∃ d,w.heap[p]? = some (.deferred d))
theorem Shut.refl {z F w}:Shut z F w w:=⟨rfl,rfl,rfl,rfl,fun _=>.inl rfl⟩
theorem Shut.put {z F} {w w':World} {r:Nat} {d e} (hr:w.heap[r]? = some (.deferred d)) (hz:z<=r) (hF:¬ F r) (h:Shut z F (w.putObj r (.deferred e)) w'):Shut z F w w':=by
 refine ⟨by rw [h.size,World.putObj_size],h.os,h.tape,h.output,fun p => ?_⟩
 by_cases hp:p=r
 ·subst hp;exact .inr ⟨hz,hF,_,hr⟩
 ·rcases h.blk p with h | h
  ·exact .inl (by rw [h,World.putObj_heap_other hp])
  ·rw [World.putObj_heap_other hp] at h;exact .inr h
theorem Shut.cell {z F} {w w':World} (h:Shut z F w w') {p o:Nat} {v:Value} (hc:w.cell? ⟨p,o,none⟩=some v):w'.cell? ⟨p,o,none⟩=some v:=by
 rcases h.blk p with h | ⟨_,_,d,h⟩
 ·rw [World.cell?_of_block h];exact hc
 ·simp [World.cell?,h] at hc
theorem CV.Rel.shut {z F} {w w':World} (hs:Shut z F w w') {bs x v} (h:CV.Rel F w bs x v):CV.Rel F w' bs x v:=by
 induction h with
 | any h=>exact .any h
 | bool b=>exact .bool b
 | int k n=>exact .int k n
 | str s=>exact .str s
 | nilp=>exact .nilp
 | nils=>exact .nils
 | nilf=>exact .nilf
 | nili=>exact .nili
 | ptr h=>exact .ptr h
 | os h h0=>exact .os h h0
 | ost h hl=>exact .ost h hl
 | osh h hl h0=>exact .osh h hl h0
 | oc h hl=>exact .oc h hl
 | rowp h hi=>exact .rowp h hi
 | rop val hb hF' hc _ ih=>exact .rop val (by rw [hs.size];exact hb) hF' (fun j hj=>hs.cell (hc j hj)) (fun j s hj=>ih j s hj)
 | slnil=>exact .slnil
 | sl val hn h0 hc _ ih=>exact .sl val hn (fun hp=>⟨(h0 hp).1,by rw [hs.size];exact (h0 hp).2.1,(h0 hp).2.2⟩) (fun i f hi hf=>hs.cell (hc i f hi hf)) (fun i f s hi hf=>ih i f s hi hf)
 | fn l1 l2 _ _ ih1 ih2=>exact .fn l1 l2 (fun i x v h1 h2=>ih1 i x v h1 h2) (fun i x v h1 h2=>ih2 i x v h1 h2)
 | iface _ ih=>exact .iface ih
 | ifa hl _ ih=>exact .ifa hl ih
 | ifx0 h=>exact .ifx0 h
 | ifx1 h ht _ ih=>exact .ifx1 h ht ih
 | ifxa h ht hl _ ih=>exact .ifxa h ht hl ih
 | yld h=>exact .yld h
 | mp hp hF he hk hz hl _ ih =>
   have he':=he;rcases hs.blk _ with h | ⟨_,_,d,h⟩
   ·rw [← h] at he';exact .mp (by rw [hs.size];exact hp) hF he' hk hz hl fun i x v h1 h2=>ih i x v h1 h2
   ·rw [he] at h;cases h
theorem A1.Rel.shut {z F} {w w':World} (hs:Shut z F w w') {bs x v} (h:A1.Rel F w bs x v):A1.Rel F w' bs x v:=by
 cases x with
 | c x=>exact CV.Rel.shut hs h
 | agg l=>obtain ⟨vs,rfl,h⟩:=h;exact ⟨vs,rfl,h.imp fun _ _ h=>h.shut hs⟩
theorem AV.Rel.shut {z F} {w w':World} (hs:Shut z F w w') {bs x v} (h:AV.Rel F w bs x v):AV.Rel F w' bs x v:=by
 cases x with
 | any=>trivial
 | one x=>exact A1.Rel.shut hs h
 | tup l=>obtain ⟨vs,rfl,h⟩:=h;exact ⟨vs,rfl,h.imp fun _ _ h=>A1.Rel.shut hs h⟩
theorem Shut.obj {z F} {w w':World} (hs:Shut z F w w') {p:Nat} {o:Obj} (h:w.heap[p]? = some o) (ho:∀ d,o ≠ .deferred d):w'.heap[p]? = some o:=by
 rcases hs.blk p with h' | ⟨_,_,d,h'⟩
 ·rw [h'];exact h
 ·rw [h] at h';exact (ho d (by simpa using h')).elim
theorem MemRel.shut {z F w w' bs mem} (hs:Shut z F w w') (hm:MemRel P F w bs mem):MemRel P F w' bs mem:=by
 refine ⟨hm.len,fun k x T cs hk hc hv => ?_,hm.inj,fun k T cs x hc hr hp => ?_,fun k T fz es n ρ x hc hp => ?_,fun k T f i st cs x hc hp => ?_⟩
 ·rw [hs.size];exact hm.loc k x T cs hk hc hv
 ·obtain ⟨vs,h1,h2⟩:=hm.cont k T cs x hc hr hp;exact ⟨vs,hs.obj h1 (by simp),h2.imp fun _ _ h=>h.shut hs⟩
 ·have hr:=hm.row k T fz es n ρ x hc hp;refine ⟨hr.len,hr.le,hr.mx,fun h0 => ?_,fun h0 hz => ?_⟩
  ·obtain ⟨arr,h1,h2,val,h3,h4⟩:=hr.blk h0;exact ⟨arr,hs.obj h1 (by simp),h2,val,h3,fun i f s hi hf=>(h4 i f s hi hf).shut hs⟩
  ·rw [hs.size];exact hr.frz h0 hz
 ·obtain ⟨R,h1,h2,h4,h5,h6⟩:=hm.lp k T f i st cs x hc hp;exact ⟨R,hs.obj h1 (by simp),h2,h4,h5,fun j c v hc hv ha=>(h6 j c v hc hv ha).shut hs⟩
theorem StRel.shut {z F w w' bs s} {a:Act} (hs:Shut z F w w') (h:StRel P D F w bs s a):StRel P D F w' bs s a :=
 ⟨h.defers,h.len,fun i sl x h1 h2=>⟨fun hk=>((h.slots i sl x h1 h2).1 hk).shut hs,(h.slots i sl x h1 h2).2⟩,h.mem.shut hs⟩
theorem Ext.shut {z K F w bs F' w' w'' bs'} (h:Ext K F w bs F' w' bs') (hs:Shut z F' w' w'') (hz:w.heap.size<=z):Ext K F w bs F' w'' bs':=by
 refine ⟨by rw [hs.size];exact h.size,h.F1,h.F2,fun p hp hb => ?_,hs.os.trans h.os,hs.tape.trans h.tape,hs.output.trans h.output,h.pre,h.mem⟩
 rcases hs.blk p with h' | ⟨h',_⟩
 ·rw [h'];exact h.same p hp hb
 ·omega
def Marks (z:Nat) (F:Nat->Prop) (w:World):List Deferred->Prop
 | []=>True
 | d::ds=>(∃ r,d={ target:=.collected r,args:=#[] }∧z<=r∧¬ F r∧w.heap[r]? = some (.deferred (some []))∧∀ d' ∈ ds,d' ≠ d)∧Marks z F w ds
theorem NN {w:World} {p:Nat} {o:Obj} (h:w.heap[p]? = some o):p<w.heap.size:=by
 rcases Nat.lt_or_ge p w.heap.size with h' | h'
 ·exact h'
 ·simp [Array.getElem?_eq_none h'] at h
theorem Marks.ext {z K F w bs F' w' bs'} (he:Ext K F w bs F' w' bs'):∀ {ds:List Deferred},Marks z F w ds->Marks z F' w' ds
 | [],_=>trivial
 | _::_,⟨⟨r,h1,h2,h3,h4,h5⟩,hm⟩=>⟨⟨r,h1,h2,fun hf=>h3 (he.F1 r (NN h4) hf),by rw [he.same r (NN h4) (.inl h3)];exact h4,h5⟩,hm.ext he⟩
theorem Marks.put {z F w r o}:∀ {ds:List Deferred},Marks z F w ds->(∀ d ∈ ds,d ≠ { target:=.collected r,args:=#[] })->Marks z F (w.putObj r o) ds
 | [],_,_=>trivial
 | d :: _, ⟨⟨p, h1, h2, h3, h4, h5⟩, hm⟩, hn => by
   have hp:p ≠ r:=fun e=>hn d (by simp) (by rw [h1,e])
   exact ⟨⟨p,h1,h2,h3,by rw [World.putObj_heap_other hp];exact h4,h5⟩,hm.put fun d hd=>hn d (by simp [hd])⟩
theorem Marks.lt {z F w}:∀ {ds:List Deferred},Marks z F w ds->∀ d ∈ ds,d ≠ { target:=.collected w.heap.size,args:=#[] }
 | _ :: _, ⟨⟨p, h1, _, _, h4, _⟩, hm⟩, d, hd => by
   rcases List.mem_cons.1 hd with rfl | hd
   ·rw [h1];intro e;simp only [Deferred.mk.injEq,Target.collected.injEq,and_true] at e
    have:=NN h4
    omega
   ·exact hm.lt d hd
theorem Ua {z : Nat} {F : Nat -> Prop} {Fe : Fence} {n : Nat} {fn : Func} {tmps : Array Value} {R : Ending -> World -> Prop} : ∀ (ds : List Deferred) (w : World), Marks z F w ds ->
  (∀ w',Shut z F w w'->∃ v,(results fn tmps).run P w'=.ok v w'∧R (.returned v) w')->LeavesInM Fe n P fn tmps R ds .returning w
 | [],w,_,h=>h w Shut.refl
 | _ :: ds, w, ⟨⟨_, rfl, hz, hF, hr, hne⟩, hm⟩, h =>
   ⟨by simp,.inl ⟨_,_,rfl,run_takeDeferred hr,Ua ds _ (hm.put fun d hd=>hne d hd) fun w' hs=>h w' (Shut.put hr hz hF hs)⟩⟩
theorem Ext.putObj {K F w} {bs:List BI} {b:Nat} {x:BI} (hb:nth bs b=some x) (hF:F x.p) (o:Obj):Ext K F w bs F (w.putObj x.p o) bs:=by
 refine ⟨by simp,fun _ _ h=>h,fun _ h _ _=>h,fun p hp h=>World.putObj_heap_other fun e => ?_,rfl,rfl,rfl,fun _ _ _ h=>h,fun x h=>.inl ⟨x,h,rfl⟩⟩
 subst e;rcases h with h | h
 ·exact h hF
 ·exact h x (jO hb) rfl
theorem MemRel.gone {F w bs mem} (hm:MemRel P F w bs mem) {b:Nat} {x:BI} (hb:nth bs b=some x) {T:TypeId} {cs:List CV} (hold:nth mem b=some (some (T,cs))) (hl:jM x cs) (o:Obj):MemRel P F (w.putObj x.p o) bs (jl mem b none):=by
 refine (hm.kill b).move (Ext.putObj hb (hm.loc b x T cs hb hold hl).1 o) fun k y T' cs' hk hc hv => ?_;rcases jL hc with ⟨_,h⟩ | ⟨hkb,h⟩
 ·cases h
 ·refine ⟨(hm.loc k y T' cs' hk h hv).1,World.putObj_heap_other fun e=>hkb ?_⟩;exact hm.inj k b y x T' cs' T cs hk hb h hold hv hl e
theorem MemRel.turn {F w bs mem} (hm : MemRel P F w bs mem) {b : Nat} {x : BI} (hb : nth bs b = some x) {T : TypeId} {f i : Nat} {st st' : LpS} {cs : List CV} (hold : nth mem b = some (some (T, .lp f i st :: cs))) {R R' : Loop}
  (hR:w.heap[x.p]? = some (.loop R)) (h1:jfn R' st') (h2:R'.params=R.params∧R'.assign=R.assign∧R'.body=R.body∧R'.tmps=R.tmps) :
  MemRel P F (w.putObj x.p (.loop R')) bs (jl mem b (some (T,.lp f i st'::cs))):=by
 have hloc:=hm.loc b x T _ hb hold yT;have g:=hm.gone hb hold yT (.loop R')
 have:=g.put (b:=b) hb (T:=T) (cs:=.lp f i st'::cs) k7 (fun _=>by rw [World.putObj_size];exact hloc) (fun _ k y T' cs' hk hc hv e => ?_) (fun h=>by simp [jf] at h) (fun _ _ _ _ h=>by simp at h) (fun f' i' s' cs' h => ?_)
 ·rwa [au] at this
 ·rcases jL hc with ⟨_,h⟩ | ⟨hkb,h⟩
  ·cases h
  ·exact hkb (hm.inj k b y x T' cs' T _ hk hb h hold hv yT e)
 ·simp only [List.cons.injEq,CV.lp.injEq] at h;obtain ⟨⟨rfl,rfl,rfl⟩,rfl⟩:=h;obtain ⟨R0,g1,_,⟨rc,g4,g5,g6,g7⟩,g8,g9⟩:=hm.lp b T f i st cs x hold hb;rw [hR] at g1;simp only [sIq,Obj.loop.injEq] at g1;subst g1;refine ⟨R',World.putObj_heap_same hloc.2,h1,⟨rc,g4,h2.1.trans g5,h2.2.1.trans g6,h2.2.2.1.trans g7⟩,by rw [h2.2.2.2];exact g8,fun j c v hc hv ha => ?_⟩
  rw [h2.2.2.2] at hv;exact (g9 j c v hc hv ha).grow (Ext.putObj (K:=bs.length) hb hloc.1 _).grow
theorem G2 {F : Nat -> Prop} {w : World} {bs : List BI} : ∀ (ps : List Tmp) (args : List A1) (vs : List Value) (sl : List Slot) (ts : Array Value), All2 (A1.Rel F w bs) args vs ->
  sl.length=ts.size->(∀ i s x,nth sl i=some s->ts[i]? = some x->s.keys=[]∧s.v.Rel F w bs x) ->
  (Q7 ps args sl).length=((ps.zip vs).foldl (fun t p=>t.setIfInBounds p.1 p.2) ts).size ∧
  (∀ i s x,nth (Q7 ps args sl) i=some s->((ps.zip vs).foldl (fun t p=>t.setIfInBounds p.1 p.2) ts)[i]? = some x->s.keys=[]∧s.v.Rel F w bs x)
 | [],args,vs,sl,ts,_,hl,h=>by simpa [Q7] using ⟨hl,h⟩
 | p::ps,[],vs,sl,ts,ha,hl,h=>by cases ha;simpa [Q7] using ⟨hl,h⟩
 | p :: ps, a :: args, _, sl, ts, .cons (b := v) (r := vs) ha hr, hl, h => by
   simp only [Q7,List.zip_cons_cons,List.foldl_cons];refine G2 ps args vs _ _ hr (by rw [jD];simpa using hl) fun i s x hs hx => ?_
   rw [Array.getElem?_setIfInBounds] at hx;rcases jL hs with ⟨rfl,rfl⟩ | ⟨hne,hs⟩
   ·rw [if_pos rfl] at hx;split at hx
    ·simp only [sIq] at hx;subst hx;exact ⟨rfl,ha⟩
    ·cases hx
   ·rw [if_neg (Ne.symm hne)] at hx;exact h i s x hs hx
theorem Oz {α β γ:Type} (ps:Array α) (vs:List β) (g:γ->α × β->γ) (t:γ):(ps.zip vs.toArray).foldl g t=(ps.toList.zip vs).foldl g t:=by
 rw [← Array.foldl_toList]
 simp
theorem jaL {F : Nat -> Prop} {w : World} {bs : List BI} {args : List A1} {vs : List Value} (ha : All2 (A1.Rel F w bs) args vs) {R : Loop} {cs : List CV} (hl : R.tmps.size = cs.length)
  (h:∀ j c v,nth cs j=some c->R.tmps[j]? = some v->kH c=false->CV.Rel F w bs c v) {mem:Mem} (hm:MemRel P F w bs mem) :
  StRel P [] F w bs ⟨Q7 R.params.toList args (cs.map fun c=>⟨[],Hm c⟩),mem⟩ { tmps:=ZJ R vs.toArray,defers:=[] }:=by
 have:=G2 (F:=F) (w:=w) (bs:=bs) R.params.toList args vs (cs.map fun c=>⟨[],Hm c⟩) R.tmps ha (by simpa using hl.symm) fun i s x hs hx=>by
  rw [jd,List.getElem?_map] at hs;simp only [Option.map_eq_some_iff] at hs;obtain ⟨c,hc,rfl⟩:=hs;refine ⟨rfl,?_⟩;have hr:=h i c x (by rw [jd];exact hc) hx
  show AV.Rel F w bs (Hm c) x;unfold Hm;split
  ·trivial
  ·rename_i hne;exact hr (by unfold kH;split<;>simp_all)
 refine ⟨rfl,?_,fun i s x hs hx => ?_,hm⟩
 ·rw [ZJ,Oz];exact this.1
 ·rw [ZJ,Oz] at hx;obtain ⟨h1,h2⟩:=this.2 i s x hs hx;exact ⟨fun _=>h2,fun h=>(h (by rw [h1];exact jA)).elim⟩
theorem jaY {mem m:Mem} {b:Nat} (h:Nc mem b=some m):∃ T f i cs,nth mem b=some (some (T,.lp f i .ready::cs))∧m=jl mem b (some (T,.lp f i .busy::cs)):=by
 unfold Nc at h;split at h
 ·rename_i T f i cs he;exact ⟨T,f,i,cs,he,by simpa using h.symm⟩
 ·cases h
theorem jgZ {mem m:Mem} {b:Nat} {st:LpS} (h:setSt mem b st=some m):∃ T f i st0 cs,nth mem b=some (some (T,.lp f i st0::cs))∧m=jl mem b (some (T,.lp f i st::cs)):=by
 unfold setSt at h;split at h
 ·rename_i T f i st0 cs he;exact ⟨T,f,i,st0,cs,he,by simpa using h.symm⟩
 ·cases h
theorem IV:∀ (c:Code) (j n:Nat) (rc:RC),jS c j n=some rc->∃ d,rc.n=n+d∧(∀ i b,je rc.a i=some b->je c (d+i)=some b)∧(∀ i b,je rc.b i=some b->je c (d+ji rc.a+i)=some b):=by
 have lt:∀ (c:Code) (i:Nat) (b:Code),je c i=some b->i<ji c:=fun c i b h=>by
  rcases Nat.lt_or_ge i (ji c) with h' | h'
  ·exact h'
  ·rw [evCode_ok.nthLoop_none c i h'] at h;cases h
 have two : ∀ (a b : Code) (c : Code), (∀ i, je c i = if i < ji a then je a i else je b (i - ji a)) -> ∀ (j n : Nat) (rc : RC) (ra : Nat),
   (jS a j n=some rc->∃ d,rc.n=n+d∧(∀ i x,je rc.a i=some x->je a (d+i)=some x)∧(∀ i x,je rc.b i=some x->je a (d+ji rc.a+i)=some x)) ->
   (jS b (j - ra) (n+ji a)=some rc->∃ d,rc.n=n+ji a+d∧(∀ i x,je rc.a i=some x->je b (d+i)=some x)∧(∀ i x,je rc.b i=some x->je b (d+ji rc.a+i)=some x)) ->
   (if j<ra then jS a j n else jS b (j - ra) (n+ji a))=some rc->∃ d,rc.n=n+d∧(∀ i x,je rc.a i=some x->je c (d+i)=some x)∧(∀ i x,je rc.b i=some x->je c (d+ji rc.a+i)=some x):=by
  intro a b c hc j n rc ra ha hb h;split at h
  ·obtain ⟨d,h1,h2,h3⟩:=ha h;exact ⟨d,h1,fun i x hx=>by rw [hc,if_pos (lt _ _ _ (h2 i x hx))];exact h2 i x hx,fun i x hx=>by rw [hc,if_pos (lt _ _ _ (h3 i x hx))];exact h3 i x hx⟩
  ·obtain ⟨d,h1,h2,h3⟩:=hb h;refine ⟨ji a+d,by omega,fun i x hx => ?_,fun i x hx => ?_⟩
   ·rw [hc,if_neg (by omega),show ji a+d+i - ji a=d+i by omega];exact h2 i x hx
   ·rw [hc,if_neg (by omega),show ji a+d+ji rc.a+i - ji a=d+ji rc.a+i by omega];exact h3 i x hx
 intro c
 induction c with
 | seq a b iha ihb =>
   intro j n rc h;exact two a b (.seq a b) (fun i=>rfl) j n rc (jP a) (iha j n rc) (ihb _ _ rc) h
 | cond _ a b iha ihb =>
   intro j n rc h;exact two a b (.cond _ a b) (fun i=>rfl) j n rc (jP a) (iha j n rc) (ihb _ _ rc) h
 | block _ b ih=>intro j n rc h;exact ih j n rc h
 | loop b ih =>
   intro j n rc h;obtain ⟨d,h1,h2,h3⟩:=ih j (n+1) rc h;refine ⟨d+1,by omega,fun i x hx => ?_,fun i x hx => ?_⟩
   ·rw [show d+1+i=(d+i)+1 by omega];exact h2 i x hx
   ·rw [show d+1+ji rc.a+i=(d+ji rc.a+i)+1 by omega];exact h3 i x hx
 | scope b ih=>intro j n rc h;exact ih j n rc h
 | rangeFunc g ps a b iha ihb =>
   intro j n rc h;cases j with
  | zero =>
    simp only [jS,sIq] at h;subst h;refine ⟨0,rfl,fun i x hx => ?_,fun i x hx => ?_⟩
    ·simp only [je,Nat.zero_add];rw [if_pos (lt _ _ _ hx)];exact hx
    ·simp only [je,Nat.zero_add];rw [if_neg (by omega),show ji a+i - ji a=i by omega];exact hx
  | succ j=>exact two a b (.rangeFunc g ps a b) (fun i=>rfl) j n rc (jP a) (iha j n rc) (ihb _ _ rc) h
 | _=>intro j n rc h;simp [jS] at h
theorem jcp {H : Hd} (hH : HdOk P H) {call : jw} (hcall : CallOk P call) {b : Nat} {args : List A1} {mem mem' : Mem} {r : AV} (h : (U0 P H call b args mem).sel = some (r, mem')) {F : Nat -> Prop} {w : World} {bs : List BI} {vs : List Value} {x : BI}
  (hm:MemRel P F w bs mem) (ha:All2 (A1.Rel F w bs) args vs) (hb:nth bs b=some x) :
  ∃ R:Loop,w.heap[x.p]? = some (.loop R)∧vs.length=R.params.size∧∀ n,RoundIn Fence.wide n P x.p R.fn (ZJ R vs.toArray) R.assign R.body w
   (fun e w'=>∃ v F' bs',e=.returned v∧Ext bs.length F w bs F' w' bs'∧MemRel P F' w' bs' mem'∧AV.Rel F' w' bs' r v):=by
 unfold U0 at h;split at h
 rotate_left
 ·simp [Tree.sel] at h
 rename_i T f i cs he;obtain ⟨R,h1,h2,⟨rc,h4,h5,h6,h7⟩,h8,h9⟩:=hm.lp b T f i .ready cs x he hb;rw [h4] at h;simp only at h;split at h
 rotate_left
 ·simp [Tree.sel] at h
 rename_i hlen;have hlen:args.length=rc.ps.size:=by simpa using hlen
 obtain ⟨⟨e,s1⟩,g1,g2⟩:=jh h;refine ⟨R,h1,by rw [← ha.length,hlen,h5],fun n => ?_⟩
 have hrc:∃ fn c,P.funcs[f]? = some fn∧fn.body=some c∧jS c i 0=some rc:=by
  unfold NB at h4;split at h4
  ·rename_i fn hfn;rw [jd] at hfn;simp only [Array.getElem?_toList] at hfn;split at h4
   ·rename_i c hc;exact ⟨fn,c,hfn,hc,h4⟩
   ·cases h4
  ·cases h4
 obtain ⟨fn,c,hfn,hc,hnr⟩:=hrc;obtain ⟨d,hd,hla,hlb⟩:=IV c i 0 rc hnr;have hd:rc.n=d:=by omega
 refine roundIn_of_wpIn (F:=Fence.wide) trivial ?_;rw [h6];cases e with
 | normal =>
   simp only at g2;split at g2
   rotate_left
   ·simp [Tree.sel] at g2
   rename_i m hbusy;obtain ⟨T2,f2,i2,cs2,e2,rfl⟩:=jaY hbusy;obtain ⟨⟨e',s2⟩,k1,k2⟩:=jh g2;rw [← h5] at g1;refine evCode_ok hH.pc hcall (lr:=some x.p) f mem.length rc.a rc.n _ g1 (fun j bb hh hj hk=>hH.lh f fn c (rc.n+j) bb hh hfn hc (by rw [hd];exact hla j bb hj) hk) (Nat.le_of_eq hm.len.symm) (jaL ha h8 h9 hm) fun F1 w1 bs1 a1 x1 hs1 => ?_
   have hb1:nth bs1 b=some x:=x1.pre b x (by rw [← hm.len];exact js hb) hb
   obtain ⟨R1,r1,r2,r4,r5,r6⟩:=hs1.mem.lp b T2 f2 i2 .ready cs2 x e2 hb1;refine ⟨_,run_beginRound r1 r2.1,?_⟩;rw [h7];have hloc1:=hs1.mem.loc b x T2 _ hb1 e2 yT;have m2:=hs1.mem.turn hb1 e2 r1 (R':={ R1 with state:=.busy }) (st':=.busy) rfl ⟨rfl,rfl,rfl,rfl⟩
   have x2:Ext bs1.length F1 w1 bs1 F1 (w1.putObj x.p (.loop { R1 with state:=.busy })) bs1:=Ext.putObj hb1 hloc1.1 _
   refine evCode_ok hH.pc hcall (lr:=some x.p) f mem.length rc.b (rc.n+ji rc.a) _ k1 (fun j bb hh hj hk=>hH.lh f fn c (rc.n+ji rc.a+j) bb hh hfn hc (by rw [hd];exact hlb j bb hj) hk) (x1.le (Nat.le_of_eq hm.len.symm)) (hs1.ext x2 m2) fun F3 w3 bs3 a3 x3 hs3 => ?_
   have x13:Ext mem.length F w bs F3 w3 bs3:=x1.trans ((x2.weak (x1.le (Nat.le_of_eq hm.len.symm))).trans x3 (lRq _)) (lRq _);have hb3:nth bs3 b=some x:=x13.pre b x (by rw [← hm.len];exact js hb) hb
   have fin : ∀ (st : LpS) (m' : Mem) (jump : Option Code), setSt s2.mem b st = some m' -> (∀ R : Loop, jfn { R with state := if jump.isNone then .ready else .done, pending := jump } st) ->
     mem'=m'->r=.one (.c (.bool jump.isNone))->∃ v w',(Instr.endRound x.p jump).run P w3=.ok v w'∧(fun e w'=>∃ v F' bs',e=Ending.returned v∧Ext bs.length F w bs F' w' bs'∧MemRel P F' w' bs' mem'∧AV.Rel F' w' bs' r v) (.returned v) w':=by
    intro st m' jump hst hok hme hr;obtain ⟨T3,f3,i3,st3,cs3,e3,rfl⟩:=jgZ hst;obtain ⟨R3,q1,q2,q4,q5,q6⟩:=hs3.mem.lp b T3 f3 i3 st3 cs3 x e3 hb3;have hloc3:=hs3.mem.loc b x T3 _ hb3 e3 yT;have m4:=hs3.mem.turn hb3 e3 q1 (R':={ R3 with state:=if jump.isNone then .ready else .done,pending:=jump }) (st':=st) (hok R3) ⟨rfl,rfl,rfl,rfl⟩
    refine ⟨_,_,run_endRound jump q1,_,F3,bs3,rfl,?_,hme▸m4,hr▸CV.Rel.bool _⟩;rw [hm.len];exact x13.trans (Ext.putObj hb3 hloc3.1 _) (lRq _)
   unfold Ip at k2;cases e' with
  | normal =>
    simp only at k2;split at k2
    ·rename_i m' hst;simp only [Tree.sel,sIq,pIq] at k2;exact fin _ m' none hst (fun R=>⟨rfl,rfl⟩) k2.2.symm k2.1.symm
    ·simp [Tree.sel] at k2
  | ret =>
    simp only at k2;split at k2
    ·rename_i m' hst;simp only [Tree.sel,sIq,pIq] at k2;exact fin _ m' (some .ret) hst (fun R=>⟨rfl,rfl⟩) k2.2.symm k2.1.symm
    ·simp [Tree.sel] at k2
  | exit e0 =>
    simp only at k2;split at k2
    ·rename_i m' hst;simp only [Tree.sel,sIq,pIq] at k2;exact fin _ m' (some (.exit e0)) hst (fun R=>⟨rfl,rfl⟩) k2.2.symm k2.1.symm
    ·simp [Tree.sel] at k2
 | exit e=>simp [Tree.sel] at g2
 | ret=>simp [Tree.sel] at g2
theorem IS {b0 : Nat} {tmps : List Slot} {mem : Mem} {x : XE × St} (h : (GC b0 tmps mem).sel = some x) : ∃ T f i st cs, nth mem b0 = some (some (T, .lp f i st :: cs)) ∧ x.2 = ⟨tmps, jl mem b0 none⟩ ∧
  ((st=.ready∧x.1=.normal)∨(st=.done none∧x.1=.ret)∨∃ e,st=.done (some e)∧x.1=.exit e):=by
 unfold GC at h;split at h
 ·rename_i he;simp only [Tree.sel,sIq] at h;subst h;exact ⟨_,_,_,_,_,he,rfl,.inl ⟨rfl,rfl⟩⟩
 ·rename_i he;simp only [Tree.sel,sIq] at h;subst h;exact ⟨_,_,_,_,_,he,rfl,.inr (.inl ⟨rfl,rfl⟩)⟩
 ·rename_i he;simp only [Tree.sel,sIq] at h;subst h;exact ⟨_,_,_,_,_,he,rfl,.inr (.inr ⟨_,rfl,rfl⟩)⟩
 ·simp [Tree.sel] at h
theorem zX:∀ (c:Code) (i n:Nat),jP c<=i->jS c i n=none
 | .skip,_,_,_=>rfl
 | .region _ _ _,_,_,_=>rfl
 | .seq a b, i, n, h => by
   simp only [jP] at h;simp only [jS];rw [if_neg (by omega)]
   exact zX b _ _ (by omega)
 | .cond _ a b, i, n, h => by
   simp only [jP] at h;simp only [jS];rw [if_neg (by omega)]
   exact zX b _ _ (by omega)
 | .block _ b,i,n,h=>by simpa [jS] using zX b i n h
 | .loop b,i,n,h=>by simpa [jS] using zX b i (n+1) h
 | .rangeFunc _ _ a b, i, n, h => by
   simp only [jP] at h;cases i with
  | zero=>omega
  | succ i =>
    simp only [jS];rw [if_neg (by omega)]
    exact zX b _ _ (by omega)
 | .exit _,_,_,_=>rfl
 | .scope b,i,n,h=>by simpa [jS] using zX b i n h
 | .label _,_,_,_=>rfl
 | .goto _,_,_,_=>rfl
 | .ret,_,_,_=>rfl
 | .refuse _,_,_,_=>rfl
theorem jlf {F w bs} {a:Act} {sl:Slot} {x:Value} (h:MR F w bs a sl x) (hc:kH (cellS sl)=false):CV.Rel F w bs (cellS sl) x:=by
 unfold cellS at *;split
 ·exact h.1 jA
 ·rename_i hne;split at hc
  ·exact (hne _ rfl).elim
  ·simp [kH] at hc
theorem jbe {H : Hd} (hH : HdOk P H) {call : jw} (hcall : CallOk P call) {nn : Nat} (f K z : Nat) : ∀ (c : Code) (n m : Nat) (s : St) {x : XE × St},
  (qY P H call f K n m c s).sel=some x->(∀ i b h,je c i=some b->kY H.lh f (n+i)=some h->LoopOk P b h)->(∀ i rc,jS c i n=some rc->NB P f (m+i)=some rc) ->
  ∀ {D:List Deferred} {F:Nat->Prop} {w:World} {bs:List BI} {a:Act},z<=w.heap.size->K<=bs.length->StRel P D F w bs s a->Marks z F w D->∀ {Q:Exit->Act->World->Prop},
  (∀ F' w' bs' a' D',Ext K F w bs F' w' bs'->Marks z F' w' D'->StRel P D' F' w' bs' x.2 a'->Q (xe x.1) a' w')->c.wpIn (FW none) nn P Q a w:=by
 have plain : ∀ (c : Code) (n : Nat) (s : St) {x : XE × St}, (jQ P H call f K n c s).sel = some x -> (∀ i b h, je c i = some b -> kY H.lh f (n + i) = some h -> LoopOk P b h) ->
   ∀ {D:List Deferred} {F:Nat->Prop} {w:World} {bs:List BI} {a:Act},z<=w.heap.size->K<=bs.length->StRel P D F w bs s a->Marks z F w D->∀ {Q:Exit->Act->World->Prop},
   (∀ F' w' bs' a' D',Ext K F w bs F' w' bs'->Marks z F' w' D'->StRel P D' F' w' bs' x.2 a'->Q (xe x.1) a' w')->c.wpIn (FW none) nn P Q a w :=
  fun c n s x h hl D F w bs a _ hK hs hM Q hQ=>evCode_ok hH.pc hcall f K c n s h hl hK hs fun F' w' bs' a' he hs'=>hQ F' w' bs' a' D he (hM.ext he) hs'
 intro c
 induction c with
 | seq a b iha ihb =>
   intro n m s x h hl hrc D F w bs a' hz hK hs hM Q hQ;simp only [qY] at h;split at h
   ·exact plain _ n s h hl hz hK hs hM hQ
   obtain ⟨y,h1,h2⟩:=jh h
   refine wpIn_seq (iha n m s h1 (fun i bb hh hi hk=>hl i bb hh (by
    simp only [je]
    have:i<ji a:=by
     rcases Nat.lt_or_ge i (ji a) with h' | h'
     ·exact h'
     ·exact absurd hi (by rw [evCode_ok.nthLoop_none a i h'];simp)
    rw [if_pos this];exact hi) hk) (fun i rc hi=>hrc i rc (by
    simp only [jS]
    have:i<jP a:=by
     rcases Nat.lt_or_ge i (jP a) with h' | h'
     ·exact h'
     ·exact absurd hi (by rw [zX a i n h'];simp)
    rw [if_pos this];exact hi)) hz hK hs hM fun F' w' bs' a'' D' he hM' hs' => ?_)
   obtain ⟨e,s'⟩:=y;cases e with
  | normal =>
    simp only [xe,Exit.then]
    refine ihb (n+ji a) (m+jP a) s' h2 (fun i bb hh hi hk=>hl (ji a+i) bb hh (by
     simp only [je];rw [if_neg (by omega)]
     rw [show ji a+i - ji a=i by omega];exact hi) (by rw [← Nat.add_assoc];exact hk)) (fun i rc hi=>(by
     rw [Nat.add_assoc]
     exact hrc (jP a+i) rc (by
      simp only [jS];rw [if_neg (by omega)]
      rw [show jP a+i - jP a=i by omega];exact hi))) (Nat.le_trans hz he.size) (he.le hK) hs' hM' fun F'' w'' bs'' a3 D'' he' hM'' hs''=>hQ _ _ _ _ _ (he.trans he' (lRq _)) hM'' hs''
  | exit k =>
    simp only [Tree.sel,sIq] at h2;subst h2;exact hQ _ _ _ _ _ he hM' hs'
  | ret =>
    simp only [Tree.sel,sIq] at h2;subst h2;exact hQ _ _ _ _ _ he hM' hs'
 | cond c a b iha ihb =>
   intro n m s x h hl hrc D F w bs a' hz hK hs hM Q hQ;simp only [qY] at h;split at h
   ·exact plain _ n s h hl hz hK hs hM hQ
   split at h
   ·rename_i t ht;have hr:=qx hs jA ht
    have hc:a'.eval c=.bool t:=by
     generalize a'.eval c=zz at hr ⊢;cases hr;rfl
    simp only [Tree.sel] at h;cases t
    ·simp only [cond_false] at h
     refine wpIn_cond_false hc (ihb (n+ji a) (m+jP a) s h (fun i bb hh hi hk=>hl (ji a+i) bb hh (by
      simp only [je];rw [if_neg (by omega)]
      rw [show ji a+i - ji a=i by omega];exact hi) (by rw [← Nat.add_assoc];exact hk)) (fun i rc hi=>(by
      rw [Nat.add_assoc]
      exact hrc (jP a+i) rc (by
       simp only [jS];rw [if_neg (by omega)]
       rw [show jP a+i - jP a=i by omega];exact hi))) hz hK hs hM hQ)
    ·simp only [cond_true] at h
     refine wpIn_cond_true hc (iha n m s h (fun i bb hh hi hk=>hl i bb hh (by
      simp only [je]
      have:i<ji a:=by
       rcases Nat.lt_or_ge i (ji a) with h' | h'
       ·exact h'
       ·exact absurd hi (by rw [evCode_ok.nthLoop_none a i h'];simp)
      rw [if_pos this];exact hi) hk) (fun i rc hi=>hrc i rc (by
      simp only [jS]
      have:i<jP a:=by
       rcases Nat.lt_or_ge i (jP a) with h' | h'
       ·exact h'
       ·exact absurd hi (by rw [zX a i n h'];simp)
      rw [if_pos this];exact hi)) hz hK hs hM hQ)
   ·simp [Tree.sel] at h
 | block id b ih =>
   intro n m s x h hl hrc D F w bs a' hz hK hs hM Q hQ;simp only [qY] at h;split at h
   ·exact plain _ n s h hl hz hK hs hM hQ
   obtain ⟨y,h1,h2⟩:=jh h;refine wpIn_block (ih n m s h1 (fun i bb hh hi hk=>hl i bb hh hi hk) (fun i rc hi=>hrc i rc hi) hz hK hs hM fun F' w' bs' a'' D' he hM' hs' => ?_);obtain ⟨e,s'⟩:=y;cases e with
  | normal =>
    simp only [Tree.sel,sIq] at h2;subst h2;exact hQ _ _ _ _ _ he hM' hs'
  | exit k =>
    simp only [Tree.sel,sIq] at h2;subst h2;simp only [xe,Exit.inBlock]
    have:=hQ _ _ _ _ _ he hM' hs'
    by_cases hk:k=id
    ·simpa [hk,xe] using this
    ·simpa [hk,xe] using this
  | ret =>
    simp only [Tree.sel,sIq] at h2;subst h2;exact hQ _ _ _ _ _ he hM' hs'
 | rangeFunc g ps assign body _ _ =>
   intro n m s x h hl hrc D F w bs a hz hK hs hM Q hQ;simp only [qY] at h;split at h
   rotate_left
   ·simp [Tree.sel] at h
   rename_i gf first cap hg
   split at h
   rotate_left
   ·simp [Tree.sel] at h
   rename_i hcl;obtain ⟨⟨rv,mem'⟩,h1,h2⟩:=jh h;have hgr:=qx hs jA hg;have hrc0:=hrc 0 ⟨ps,assign,body,n⟩ rfl;have hcl0:=hcl;generalize he:a.eval g=gv at hgr;cases hgr with
  | fn l1 l2 r1 r2 =>
    rename_i vf vc
    let W0:World:=w.alloc (.deferred (some []))
    have hW0:W0.heap.size=w.heap.size+1:=World.size_alloc ..
    let F0:Nat->Prop:=fun p=>F p∧p<w.heap.size
    have e0:Ext bs.length F w bs F0 W0 bs:=⟨by omega,fun _ _ h=>h.1,fun p h hp _=>⟨h,hp⟩,fun p hp _=>Below.heap_alloc _ _ _ hp,rfl,rfl,rfl,fun _ _ _ h=>h,fun x h=>.inl ⟨x,h,rfl⟩⟩
    have m0:MemRel P F0 W0 bs s.mem:=hs.mem.move e0 fun k x T cs hk hc hv=>⟨hs.mem.loc k x T cs hk hc hv,Below.heap_alloc _ _ _ (hs.mem.loc k x T cs hk hc hv).2⟩
    let R:Go.Loop:={ state:=.ready,pending:=none,fn:=0,tmps:=a.tmps,params:=ps,assign:=assign,body:=body,defers:=w.heap.size }
    refine wpIn_rangeFunc fun fn _ => ?_
    let R:Go.Loop:={ state:=.ready,pending:=none,fn:=fn,tmps:=a.tmps,params:=ps,assign:=assign,body:=body,defers:=w.heap.size }
    let W1:World:=W0.alloc (.loop R)
    have hW1:W1.heap.size=w.heap.size+2:=by
     show (W0.alloc (.loop R)).heap.size=_;rw [World.size_alloc,hW0]
    let F1:Nat->Prop:=fun p=>F0 p∨p=W0.heap.size
    have e1:Ext bs.length F0 W0 bs F1 W1 bs:=Ext.alloc _ _;have m1:MemRel P F1 W1 bs s.mem:=m0.alloc _
    let l:Nat:=w.heap.size+1
    have hl0:W0.heap.size=l:=hW0;have hRl:W1.heap[l]? = some (.loop R):=by rw [← hl0];exact World.alloc_heap_new W0 _
    have e01:Ext bs.length F w bs F1 W1 bs:=e0.trans e1 (lRq _)
    have m2:MemRel P F1 W1 (bs++[⟨l,0,0⟩]) (s.mem++[some (0,.lp f m .ready::s.tmps.map cellS)]):=by
     refine m1.push ⟨l,0,0⟩ (fun _=>⟨.inr hl0.symm,by rw [hW1];show w.heap.size+1<_;omega⟩) (fun _ k y T' cs' hk hc hv e => ?_) (fun h=>by simp [jf] at h) (fun _ _ _ _ h=>by simp at h) (fun f' i' st' cs' h => ?_)
     ·have:=(m0.loc k y T' cs' hk hc hv).2
      rw [hl0] at this;simp only at e;omega
     ·simp only [List.cons.injEq,CV.lp.injEq] at h;obtain ⟨⟨rfl,rfl,rfl⟩,rfl⟩:=h;refine ⟨R,hRl,⟨rfl,rfl⟩,⟨_,hrc0,rfl,rfl,rfl⟩,by simpa using hs.len.symm,fun j c v hc hv ha => ?_⟩
      rw [jd,List.getElem?_map] at hc;simp only [Option.map_eq_some_iff] at hc;obtain ⟨sl,hsl,rfl⟩:=hc;exact (jlf (hs.slots j sl v (by rw [jd];exact hsl) hv) ha).grow e01.grow
    have g2:Grow F F1 bs (bs++[⟨l,0,0⟩]) w W1:=⟨e01.size,e01.F1,e01.grow.same,fun k p h=>qi h⟩;have hb0:nth (bs++[⟨l,0,0⟩]) s.mem.length=some (⟨l,0,0⟩ : BI):=by rw [← hs.mem.len];exact jy _ _
    have hargs:All2 (A1.Rel F1 W1 (bs++[⟨l,0,0⟩])) (first.map .c++(.c (.yld s.mem.length)::cap.map .c)) (vf++(Value.func (.yield l) #[] #[]::vc)):=by
     refine All2.append (All2.of_nth (by simpa using l1) fun i u v hu hv => ?_) (.cons (CV.Rel.yld (x:=⟨l,0,0⟩) hb0) (All2.of_nth (by simpa using l2) fun i u v hu hv => ?_))
     ·rw [jd,List.getElem?_map] at hu;simp only [Option.map_eq_some_iff] at hu;obtain ⟨y,hy,rfl⟩:=hu;exact (r1 i y v (by rw [jd];exact hy) hv).grow g2
     ·rw [jd,List.getElem?_map] at hu;simp only [Option.map_eq_some_iff] at hu;obtain ⟨y,hy,rfl⟩:=hu;exact (r2 i y v (by rw [jd];exact hy) hv).grow g2
    have hinv:(invoke (.fn (.func gf) vc.toArray) (vf.toArray ++ #[Value.func (.yield l) #[] #[]])).run P W1=.ok (.enter gf (vf++(Value.func (.yield l) #[] #[]::vc)).toArray) W1:=by
     unfold qD at hcl0;split at hcl0
     ·rename_i fn' hfn;simp only [aTq,bne_iff_ne,ne_eq] at hcl0;obtain ⟨⟨hn,hb⟩,_⟩:=hcl0;rw [jd] at hfn;simp only [Array.getElem?_toList] at hfn;have hb':fn'.body.isNone=false:=by cases hh:fn'.body<;>simp [hh] at hb ⊢
      have hn':(fn'.name == "runtime.NumGoroutine")=false:=by simpa using hn
      simp only [invoke,callFunc,Sem.run_bind,run_program,hfn,hn',Bool.false_eq_true,if_false,hb',Sem.run_pure,Result.andThen_ok];congr 2;apply Array.ext'
      simp
     ·simp at hcl0
    have hmk:Marks z F1 W1 ({ target:=.collected w.heap.size,args:=#[] }::D):=by
     refine ⟨⟨w.heap.size,rfl,hz,?_,?_,hM.lt⟩,hM.ext e01⟩
     ·rintro (h | h)
      ·exact Nat.lt_irrefl _ h.2
      ·rw [hl0] at h;simp only [l] at h;omega
     ·rw [show W1.heap[w.heap.size]? = W0.heap[w.heap.size]? from Below.heap_alloc _ _ _ (by rw [hW0];omega)]
      exact World.alloc_heap_new w _
    refine ⟨l,[{ target:=.collected w.heap.size,args:=#[] }],W1,⟨.fn (.func gf) vc.toArray,vf.toArray ++ #[Value.func (.yield l) #[] #[]]⟩,W1,gf,_,W1,
     run_enterLoop_outer fn a.tmps ps assign body,?_,fun _ _=>trivial,hinv,fun hd=>by simp [FW,Fence.wide] at hd,G4.2 ?_⟩
    ·simp only [resolve,he,Deferred.ofValue];simp [Act.eval,Sem.run_pure]
    ·refine (hcall.fn gf _ _ rv mem' (Qy hcl) h1 F1 W1 _ _ m2 hargs).mono fun e w' ⟨v,F',bs',hv,hx,hm',_⟩ => ?_;subst hv;obtain ⟨T,f',i',st,cs,hent,hx2,hst⟩:=IS h2;have hbl:nth bs' s.mem.length=some (⟨l,0,0⟩ : BI):=hx.pre _ _ (by rw [← hs.mem.len];simp) hb0
     obtain ⟨⟨rs,rp,rf,rt,rps,ra,rb,rd⟩,q1,q2,_⟩:=hm'.lp _ T f' i' st cs _ hent hbl
     let R':Go.Loop:=⟨rs,rp,rf,rt,rps,ra,rb,rd⟩
     have done:∀ o:Obj,Q (xe x.1) { a with defers:=[{ target:=.collected w.heap.size,args:=#[] }]++a.defers } (w'.putObj l o):=by
      intro o;have hF':=(hm'.loc _ _ T _ hbl hent yT);have m4:=hm'.gone hbl hent yT o;have e4:Ext bs'.length F' w' bs' F' (w'.putObj l o) bs':=Ext.putObj hbl hF'.1 _
      have hxb:Ext bs.length F w bs F' w' bs':=by
       have:Ext bs.length F w bs F1 W1 (bs++[⟨l,0,0⟩]):=e01.push (.inr (by show w.heap.size<=w.heap.size+1;omega))
       exact this.trans hx (by simp)
      have e5:Ext bs.length F w bs F' (w'.putObj l o) bs':=hxb.trans e4 hxb.le
      have s5:StRel P ({ target:=.collected w.heap.size,args:=#[] }::D) F' (w'.putObj l o) bs' x.2 { a with defers:=[{ target:=.collected w.heap.size,args:=#[] }]++a.defers }:=by
       have:=hs.ext e5 m4
       rw [hx2];exact ⟨by rw [← hs.defers];rfl,this.len,this.slots,this.mem⟩
      have k5:=(hmk.ext hx).ext e4;exact hQ _ _ _ _ _ (e5.weak hK) k5 s5
     rcases hst with ⟨rfl,hxe⟩ | ⟨rfl,hxe⟩ | ⟨e,rfl,hxe⟩
     all_goals
      obtain ⟨qa,qb⟩:=q2;simp only at qa qb;subst qa qb;rw [hxe] at done
     ·exact ⟨_,_,run_endLoop q1 (by simp),done _⟩
     ·exact ⟨_,_,run_endLoop q1 (by simp),wpIn_ret (done _)⟩
     ·exact ⟨_,_,run_endLoop q1 (by simp),wpIn_exit (done _)⟩
 | skip=>intro n m s x h hl _ D F w bs a hz hK hs hM Q hQ;exact plain _ n s (by simpa only [qY] using h) hl hz hK hs hM hQ
 | region _ _ _=>intro n m s x h hl _ D F w bs a hz hK hs hM Q hQ;exact plain _ n s (by simpa only [qY] using h) hl hz hK hs hM hQ
 | loop _ _=>intro n m s x h hl _ D F w bs a hz hK hs hM Q hQ;exact plain _ n s (by simpa only [qY] using h) hl hz hK hs hM hQ
 | exit _=>intro n m s x h hl _ D F w bs a hz hK hs hM Q hQ;exact plain _ n s (by simpa only [qY] using h) hl hz hK hs hM hQ
 | ret=>intro n m s x h hl _ D F w bs a hz hK hs hM Q hQ;exact plain _ n s (by simpa only [qY] using h) hl hz hK hs hM hQ
 | scope _ _=>intro n m s x h hl _ D F w bs a hz hK hs hM Q hQ;exact plain _ n s (by simpa only [qY] using h) hl hz hK hs hM hQ
 | label _=>intro n m s x h hl _ D F w bs a hz hK hs hM Q hQ;exact plain _ n s (by simpa only [qY] using h) hl hz hK hs hM hQ
 | goto _=>intro n m s x h hl _ D F w bs a hz hK hs hM Q hQ;exact plain _ n s (by simpa only [qY] using h) hl hz hK hs hM hQ
 | refuse _=>intro n m s x h hl _ D F w bs a hz hK hs hM Q hQ;exact plain _ n s (by simpa only [qY] using h) hl hz hK hs hM hQ
theorem jdm {f:Nat} {fn:Func} {c:Code} (hfn:P.funcs[f]? = some fn) (hc:fn.body=some c) (i:Nat):NB P f i=jS c i 0:=by
 unfold NB
 have:nth P.funcs.toList f=some fn:=by rw [jd];simpa using hfn
 rw [this];simp only [hc]
theorem zu {H:Hd} (hH:HdOk P H):∀ n,CallOk P (jU P H n)
 | 0=>⟨by intro f args mem r mem' _ h;simp [jU,Tree.sel] at h,by intro f args mem r mem' h;simp [jU,Tree.sel] at h⟩
 | n + 1 => by
   have ih:=zu hH n;refine ⟨?_,fun b args mem r mem' h F w bs vs x hm ha hb => ?_⟩
   rotate_left
   ·simp only [jU] at h;rw [if_pos (by simp)] at h
    rw [Nat.add_sub_cancel_left] at h;exact jcp hH ih h hm ha hb
   intro f args mem r mem' hf9 h F w bs vs hm hargs;simp only [jU] at h;rw [if_neg (by simpa using hf9)] at h
   split at h
   ·rename_i G hG;exact hH.pc.mc f G hG args mem r mem' h F w bs vs hm hargs
   ·split at h
    rotate_left
    ·simp [Tree.sel] at h
    rename_i fn hfn;split at h
    ·rename_i c hb;split at h
     ·rename_i hle;obtain ⟨y0,h0,hwk⟩:=jde (P:=P) h;obtain ⟨y,h1,h2⟩:=jh h0;rw [jd] at hfn;simp only [Array.getElem?_toList] at hfn;have hl:=hargs.length;have hle':args.length<=fn.ntmps:=by simpa using hle
      refine (callsIn_wide (n:=0)).1 (callsIn_of_wp_marks (F:=Fence.wide) hfn hb trivial ?_)
      refine jbe hH ih (nn:=0) f mem.length w.heap.size c 0 0 _ h1 (fun i b hh hi hk=>hH.lh f fn c i b hh hfn hb hi (by simpa using hk)) (fun i rc hi=>by rw [Nat.zero_add,jdm hfn hb];exact hi)
       (D:=[]) (F:=F) (bs:=bs) (lRq _) (Nat.le_of_eq hm.len.symm) ⟨rfl,?_,?_,hm⟩ trivial fun F' w' bs' a' D' he hM hs' => ?_
      ·simp [hl]
      ·intro i sl x hsl hx;simp only [jd] at hsl;rcases Nat.lt_or_ge i args.length with hi | hi
       ·rw [List.getElem?_append_left (by simpa using hi)] at hsl
        simp only [List.getElem?_map,Option.map_eq_some_iff] at hsl;obtain ⟨b,hb',rfl⟩:=hsl;rw [Array.getElem?_append_left (by simp;omega)] at hx
        obtain ⟨v,hv,hr⟩:=hargs.nth (by rw [jd];exact hb')
        simp only [List.getElem?_toArray] at hx;rw [hv] at hx;simp at hx;subst hx;exact ⟨fun _=>hr,fun h=>(h jA).elim⟩
       ·rw [List.getElem?_append_right (by simpa using hi)] at hsl
        rw [List.getElem?_replicate] at hsl;split at hsl
        ·simp at hsl;subst hsl;exact ⟨fun _=>trivial,fun h=>(h jA).elim⟩
        ·simp at hsl
      ·obtain ⟨e,s'⟩:=y
       have fin : ∀ zz, zJ P s' fn.results.toList = some zz -> GY zz = y0.1 -> s'.mem = y0.2 ->
         LeavesInM Fence.wide 0 P fn a'.tmps (fun e w'=>∃ v F' bs',e=Ending.returned v∧Ext bs.length F w bs F' w' bs'∧MemRel P F' w' bs' mem'∧AV.Rel F' w' bs' r v) a'.defers .returning w':=by
        intro zz hzz hr hme;rw [hs'.defers];refine Ua D' w' hM fun w2 hsh => ?_;have hs2:=hs'.shut hsh;obtain ⟨v,hv,hrun⟩:=Qw hs2 hzz;rw [hr] at hv;have he2:=he.shut hsh (lRq _);obtain ⟨F2,bs2,e2,m2,r2⟩:=hwk F' w2 bs' v (he2.le (Nat.le_of_eq hm.len.symm)) (hme▸hs2.mem) hv;refine ⟨v,hrun,v,F2,bs2,rfl,?_,m2,r2⟩;have e3:=he2.trans e2 (lRq _);rw [← hm.len] at e3;exact e3
       cases e with
       | normal =>
         simp only at h2;split at h2
         ·rename_i zz hzz;simp only [Tree.sel,sIq] at h2;exact fin zz hzz (by rw [← h2]) (by rw [← h2])
         ·simp [Tree.sel] at h2
       | exit k=>simp [Tree.sel] at h2
       | ret =>
         simp only at h2;split at h2
         ·rename_i zz hzz;simp only [Tree.sel,sIq] at h2;exact fin zz hzz (by rw [← h2]) (by rw [← h2])
         ·simp [Tree.sel] at h2
     ·simp [Tree.sel] at h
    ·simp [Tree.sel] at h
theorem Kv {H : Hd} (hH : HdOk P H) (n f : Nat) (args : List A1) (r : AV) (mem' : Mem) (h : (jU P H n f args []).sel = some (r, mem')) (F : Nat -> Prop) (w : World) (bs : List BI) (vs : List Value) (hm : MemRel P F w bs []) (ha : All2 (A1.Rel F w bs) args vs) :
  Calls P f vs.toArray w (fun e w'=>∃ v F' bs',e=.returned v∧Ext bs.length F w bs F' w' bs'∧MemRel P F' w' bs' mem'∧AV.Rel F' w' bs' r v):=by
 rcases Nat.lt_or_ge f 1000000000 with hf | hf
 ·exact (zu hH n).fn f args [] r mem' hf h F w bs vs hm ha
 ·cases n with
  | zero=>simp [jU,Tree.sel] at h
  | succ n =>
    simp only [jU] at h;rw [if_pos (by simpa using hf)] at h
    simp [U0,nth,Tree.sel] at h
theorem VT {H : Hd} (hpc : SumOk P H) {call : jw} (hcall : CallOk P call) (f K : Nat) (c : Code) (n : Nat) (s : St) {x : XE × St}
  (h:(jQ P H call f K n c s).sel=some x) (hl:∀ i b h,je c i=some b->kY H.lh f (n+i)=some h->LoopOk P b h) {F:Nat->Prop} {w:World} {bs:List BI} {a:Act} (hK:K<=bs.length) (hs:StRel P D F w bs s a) {Q:Exit->Act->World->Prop}
  (hQ:∀ F' w' bs' a',Ext K F w bs F' w' bs'->StRel P D F' w' bs' x.2 a'->Q (xe x.1) a' w'):c.wp P Q a w :=
 (wpIn_wide (n:=0)).1 (evCode_ok (lr:=none) hpc hcall f K c n s h hl hK hs hQ)
end Go.Sx