/-
 Part TaK of the proof: EngH.
-/
import Derived.Test.YtiefjlcakpdfeaaGreatDoorTaI
import Derived.Test.YtiefjlcakpdfeaaGreatDoorTaJ
namespace Go.Sx
open Go Go.RowKit
variable {D:List Deferred}
section
variable {P:Program}
theorem LK {F w bs s} {a:Act} (hs:StRel P D F w bs s a):∀ {K:List (Nat × Bool)} {g:Bool},Nu s K=some g->(g=true↔KH a K)
 | [],g,h=>by simp [Nu] at h;subst h;exact ⟨fun _=>jw,fun _=>rfl⟩
 | (d, b) :: r, g, h => by
   simp only [Nu] at h;split at h
   ·rename_i ks c gr hn hgr;split at h
    ·rename_i hall;simp at h;subst h;have ih:=LK hs hgr;cases gr
     ·refine ⟨fun h=>by simp [LX] at h,fun hk => ?_⟩
      have:=ih.2 fun p hp=>hk p (by simp [hp])
      cases this
     ·have hr:=ih.1 rfl
      have hks:KH a ks:=fun p hp=>by
       rw [List.all_eq_true] at hall;exact hr p (Db (hall p hp))
      obtain ⟨x,hx⟩ : ∃ x,a.tmps[d]? = some x:=by
       have hlt:d<s.tmps.length:=jo hn;rw [hs.len] at hlt;exact ⟨a.tmps[d],by simp [hlt]⟩
      have hv:=(hs.slots d _ x hn hx).1 hks;have hx':x=.bool c:=by cases hv;rfl
      subst hx';simp only [LX];refine ⟨fun hcb => ?_,fun hk => ?_⟩
      ·have hcb:c=b:=by simpa using hcb
       subst hcb;intro p hp;simp only [List.mem_cons] at hp;rcases hp with rfl | hp
       ·exact hx
       ·exact hr p hp
      ·have:=hk (d,b) (by simp)
       simp only [hx,sIq,Value.bool.injEq] at this;simp [this]
    ·simp at h
   ·simp at h
theorem jfp {F : Nat -> Prop} {w : World} {bs : List BI} {ρ : Operand -> Option AV} {a : Act} (hρ : ∀ x av, ρ x = some av -> av.Rel F w bs (a.eval x)) {o : Oper} {b : Nat} {args : List A1} (h : jco ρ o.op = some (b, args)) :
  ∃ (x:BI) (vs:List Value),nth bs b=some x∧All2 (A1.Rel F w bs) args vs∧∀ R:Loop,w.heap[x.p]? = some (.loop R)->vs.length=R.params.size ->
   (execOp a.eval o).run P w=.ok (.round x.p R.fn (Zv R vs.toArray) R.assign R.body) w:=by
 unfold jco at h;split at h
 ·rename_i c ho;split at h
  ·rename_i x hcal;split at h
   ·rename_i b' l hx hl;simp only [sIq,pIq] at h;obtain ⟨rfl,rfl⟩:=h;have hxr:=hρ _ _ hx;have hargs:=qR hρ hl;generalize he:a.eval x=z at hxr;cases hxr with
    | yld hb =>
      rename_i xb;refine ⟨xb,c.args.toList.map a.eval,hb,hargs,fun R hR hs => ?_⟩;unfold execOp;rw [ho];have hs':(c.args.map a.eval).size=R.params.size:=by simpa using hs
      simp only [resolve,hcal,he,Deferred.ofValue,Sem.run_bind,Sem.run_pure,Result.andThen_ok,invoke,Array.empty_append,Zv,Qh];exact run_yield hR (by simpa using hs')
   ·simp at h
  ·simp at h
 ·simp at h
theorem Iw {H : Hd} (hpc : SumOk P H) {call : jt} (hcall : CallOk P call) {lr : Option Nat} {nn : Nat} {F : Nat -> Prop} {w : World} {bs : List BI} {a : Act} {mem : Mem} (hm : MemRel P F w bs mem) {ρ : List (Nat × Bool) -> Operand -> Option AV}
  (hρ:∀ K x av,KH a K->ρ K x=some av->av.Rel F w bs (a.eval x)) {o:Oper} (hd:zK o.op=true) {r:AV} {mem':Mem}
  (h:(O8 P H call mem ρ o.op).sel=some (r,mem')) {K:Act->World->Prop} {Q:Exit->Act->World->Prop}
  (hK:∀ F' w' bs' v,Ext bs.length F w bs F' w' bs'->MemRel P F' w' bs' mem'->r.Rel F' w' bs' v->K (a.put o.dst v) w'):o.wpIn (FW lr) nn P a w K Q:=by
 unfold O8 at h;split at h
 ·rename_i b l hy;obtain ⟨x,vs,hb,hvs,hrun⟩:=jfp (P:=P) (fun x av=>hρ [] x av jw) hy;obtain ⟨R,hR,hsz,hround⟩:=hcall.yl b l mem r mem' h F w bs vs x hm hvs hb;refine OU hd (hrun R hR hsz) (hround _) fun e w' ⟨v,F',bs',he,hx,hm',hr⟩=>⟨v,he,hK F' w' bs' v hx hm' hr⟩
 ·split at h
  ·rename_i T hT;exact y9 hd (jd4 hm (fun x av=>hρ [] x av jw) hT h hK)
  ·split at h
   ·rename_i T hT;exact y9 hd (I8 hpc hcall hm (fun x av=>hρ [] x av jw) hT h hK)
   ·exact y9 hd (Je hpc hcall hm hρ h hK)
theorem Jv {H : Hd} (hpc : SumOk P H) {call : jt} (hcall : CallOk P call) {lr : Option Nat} {nn : Nat} {ops : Array Oper} {Q : Exit -> Act -> World -> Prop} {s' : St} : ∀ (l : List Oper) (s : St) {F : Nat -> Prop} {w : World} {bs : List BI} {a : Act},
  l.all (fun o=>zK o.op)=true->(ZU P H call false ops.toList l s).sel=some s'->StRel P D F w bs s a->(∀ F' w' bs' a',Ext bs.length F w bs F' w' bs'->StRel P D F' w' bs' s' a'->Q .normal a' w')->wpListIn (FW lr) nn P ops Q l a w
 | [], s, F, w, bs, a, _, h, hs, hQ => by
   simp only [ZU,Tree.sel,sIq] at h;subst h;exact wpListIn_nil (hQ F w bs a Ext.refl hs)
 | o :: r, s, F, w, bs, a, hnd, h, hs, hQ => by
   simp only [List.all_cons,aTq] at hnd;obtain ⟨hd,hnd⟩:=hnd;simp only [ZU] at h;split at h
   ·rename_i hg;simp only [Bool.false_and,Bool.false_eq_true,if_false] at h;obtain ⟨⟨rv,mem'⟩,h1,h2⟩:=jg h;refine wpListIn_plain hg fun K hK=>Iw hpc hcall hs.mem (fun _ _ _ hk h=>qo hs hk h) hd h1 fun F' w' bs' v hext hm hr=>hK _ _ ?_;refine Jv hpc hcall r _ hnd h2 (StRel.put (hs.ext hext hm) (fun _ hp=>by cases hp) (fun _=>hr) (fun h=>(h jw).elim)) fun F'' w'' bs'' a'' he hs''=>hQ _ _ _ _ (hext.trans he hext.le) hs''
   ·rename_i j b hg;split at h
    ·rename_i K hkeys;split at h
     ·simp [Tree.sel] at h
     rename_i hdst;simp only [Bool.not_eq_true] at hdst
     have hkd:∀ p ∈ K,some p.1 ≠ o.dst:=by
      intro p hp e;rw [List.any_eq_false] at hdst;exact hdst p hp (by simp [e])
     have hiff:=XN hs hkeys;split at h
     ·rename_i hq;obtain ⟨⟨rv,mem'⟩,h1,h2⟩:=jg h;refine wpListIn_step fun KK hKK => ?_;by_cases hk:KH a K
      ·have hw:Region.wanted o (yielded ops a.tmps)=true:=(qN hg _).2 (hiff.1 hk);rw [if_pos hw];have h1':=Q2 h1 (Zn hs hk);have hρ:∀ K' x av,KH a K'->zp s (K'++K) x=some av->av.Rel F w bs (a.eval x):=fun K' x av hk' hh=>qo hs (fun p hp=>(List.mem_append.1 hp).elim (hk' p) (hk p)) hh;have hme:=ZZ (ρ:=fun K'=>zp s (K'++K)) hpc hs.mem hρ hq h1';subst hme;refine y9 hd (Je hpc hcall hs.mem hρ h1' fun F' w' bs' v hext hm hr=>hKK _ _ ?_);exact Jv hpc hcall r _ hnd h2 (StRel.put (hs.ext hext hm) hkd (fun _=>hr) (fun h=>(h hk).elim)) fun F'' w'' bs'' a'' he hs''=>hQ _ _ _ _ (hext.trans he hext.le) hs''
      ·have hw:¬ Region.wanted o (yielded ops a.tmps)=true:=fun h=>hk (hiff.2 ((qN hg _).1 h));rw [if_neg hw];exact ⟨fun _ _=>trivial,hKK _ _ (Jv hpc hcall r _ hnd h2 (StRel.put hs hkd (fun h=>(hk h).elim) (fun _=>rfl)) hQ)⟩
     ·simp only [Bool.false_eq_true,if_false] at h;split at h
      ·rename_i g hgd;have hgk:=LK hs hgd;simp only [Tree.sel] at h;refine wpListIn_step fun KK hKK => ?_;by_cases hk:KH a K
       ·have hw:Region.wanted o (yielded ops a.tmps)=true:=(qN hg _).2 (hiff.1 hk);rw [if_pos hw];rw [hgk.2 hk,cond_true] at h;obtain ⟨⟨rv,mem'⟩,h1,h2⟩:=jg h;have hρ:∀ K' x av,KH a K'->zp s (K'++K) x=some av->av.Rel F w bs (a.eval x):=fun K' x av hk' hh=>qo hs (fun p hp=>(List.mem_append.1 hp).elim (hk' p) (hk p)) hh;refine Iw hpc hcall hs.mem hρ hd h1 fun F' w' bs' v hext hm hr=>hKK _ _ ?_;exact Jv hpc hcall r _ hnd h2 (StRel.put (hs.ext hext hm) (fun _ hp=>by cases hp) (fun _=>hr) (fun h=>(h jw).elim)) fun F'' w'' bs'' a'' he hs''=>hQ _ _ _ _ (hext.trans he hext.le) hs''
       ·have hw:¬ Region.wanted o (yielded ops a.tmps)=true:=fun h=>hk (hiff.2 ((qN hg _).1 h));rw [if_neg hw];have hg0:g=false:=by cases hgv:g;rfl;exact (hk (hgk.1 hgv)).elim
        rw [hg0,cond_false] at h;exact ⟨fun _ _=>trivial,hKK _ _ (Jv hpc hcall r _ hnd h (StRel.put hs hkd (fun h=>(hk h).elim) (fun _=>rfl)) hQ)⟩
      ·simp [Tree.sel] at h
    ·simp [Tree.sel] at h
theorem jj5 {o:Oper} {d:Nat} {t:TypeId} (h:jeW P o=some (d,t)):o.guard=none∧o.dst=some d∧o.op=.makeMap t none∧Uf P t=true:=by
 unfold jeW at h;split at h
 ·rename_i h1 h2 h3;split at h
  ·rename_i hm;simp only [sIq,pIq] at h;obtain ⟨rfl,rfl⟩:=h;exact ⟨h1,h2,h3,hm⟩
  ·cases h
 ·cases h
theorem jcJ {d:Nat} {t:TypeId} {o:Oper} {k:ByteArray} {v:Operand} (h:Ry d t o=some (k,v)):o.guard=none∧o.dst=none∧o.op=.insert t (.tmp d) (.const (.string k)) v:=by
 unfold Ry at h;split at h
 ·rename_i h1 h2 h3;split at h
  ·rename_i hm;simp only [sIq,pIq] at h;obtain ⟨rfl,rfl⟩:=h;simp only [aTq,beq_iff_eq] at hm;obtain ⟨rfl,rfl⟩:=hm;exact ⟨h1,h2,h3⟩
  ·cases h
 ·cases h
theorem World.alloc_set (w:World) (o o':Obj):{ w.alloc o with heap:=(w.alloc o).heap.setIfInBounds w.heap.size o' }=w.alloc o':=by
 have e:(w.alloc o).heap.setIfInBounds w.heap.size o'=(w.alloc o').heap:=by
  show (w.heap.push o).setIfInBounds w.heap.size o'=w.heap.push o';apply Array.ext'
  simp
 rw [e];rfl
theorem jaC {w : World} {m : Nat} {t : TypeId} {ks : List ByteArray} {es : Array MapEntry} {clock : Nat} {k : ByteArray} {v : Value} (ht : Uf P t = true) (hb : w.heap[m]? = some (.map es clock)) (hk : es.toList.map (·.key) = ks.map .string)
  (hn:ks.any (jb k)=false):(Instr.mapUpdate t (.map (some m)) (.string k) v).run P w=.ok () { w with heap:=w.heap.setIfInBounds m (.map (es.push { key:=.string k,val:=v,born:=clock }) (clock+1)) }:=by
 obtain ⟨kt,e,h1,h2⟩:=I2 ht;have hkey:MapKept.IsKey .string (.string k):=trivial
 have hmem:∀ x ∈ es.toList,∃ k' ∈ ks,x.key=.string k':=fun x hx=>by
  have:x.key ∈ es.toList.map (·.key):=List.mem_map_of_mem hx
  rw [hk] at this;obtain ⟨k',hk',e⟩:=List.mem_map.1 this;exact ⟨k',hk',e.symm⟩
 have hks:∀ x ∈ es.toList,MapKept.IsKey .string x.key:=fun x hx=>by
  obtain ⟨k',_,e⟩:=hmem x hx;rw [e];trivial
 rcases MapKept.findNow_spec hkey es.toList 0 hks with ⟨h3,_⟩ | ⟨j,e',_,h4,h5⟩
 ·simp [Instr.mapUpdate,run_underlying h1,MapKept.run_getObj_map hb,MapKept.run_checkKey h2 hkey,MapKept.run_findKey h2 h3,MapKept.run_setObj_map _ hb,Result.andThen]
 ·obtain ⟨k',hk',e2⟩:=hmem e' (List.mem_of_getElem? h4);rw [h5] at e2
  have:k=k':=by simpa using e2
  subst this
  have:=List.any_eq_false.1 hn k hk'
  rw [(ye _ _).2 rfl] at this;simp at this
theorem jdz {H : Hd} (hpc : SumOk P H) {call : jt} (hcall : CallOk P call) {lr : Option Nat} {nn : Nat} {ops : Array Oper} {Q : Exit -> Act -> World -> Prop} {s' : St} {d : Nat} {t : TypeId} (ht : Uf P t = true) :
  ∀ (l:List Oper) (ks:List ByteArray) (vs:List CV) (s:St) {F:Nat->Prop} {w:World} {bs:List BI} {a:Act} {es:Array MapEntry} {clock:Nat},
  l.all (fun o=>zK o.op)=true->(Wd P H call ops.toList d t l ks vs s).sel=some s'->StRel P D F w bs s a->a.tmps[d]? = some (.map (some w.heap.size)) ->
  es.toList.map (·.key)=ks.map .string->vs.length=es.size->(∀ i x v,nth vs i=some x->nth (es.toList.map (·.val)) i=some v->CV.Rel F w bs x v) ->
  (∀ F' w' bs' a',Ext bs.length F w bs F' w' bs'->StRel P D F' w' bs' s' a'->Q .normal a' w')->wpListIn (FW lr) nn P ops Q l a (w.alloc (.map es clock)):=by
 have fin : ∀ {ks : List ByteArray} {vs : List CV} {s : St} {F : Nat -> Prop} {w : World} {bs : List BI} {a : Act} {es : Array MapEntry} {clock : Nat}, StRel P D F w bs s a -> a.tmps[d]? = some (.map (some w.heap.size)) ->
   es.toList.map (·.key)=ks.map .string->vs.length=es.size->(∀ i x v,nth vs i=some x->nth (es.toList.map (·.val)) i=some v->CV.Rel F w bs x v) ->
   ∃ F',Ext bs.length F w bs F' (w.alloc (.map es clock)) bs∧StRel P D F' (w.alloc (.map es clock)) bs (s.put (some d) [] (.one (.c (.mp ks vs)))) a:=by
  intro ks vs s F w bs a es clock hs hd hk hl hr;have he:Ext bs.length F w bs (fun p=>F p∧p<w.heap.size) (w.alloc (.map es clock)) bs:=⟨by simp,fun p _ h=>h.1,fun p h hp _=>⟨h,hp⟩,fun p hp _=>Below.heap_alloc _ _ _ hp,rfl,rfl,rfl,fun _ _ _ h=>h,fun x h=>.inl ⟨x,h,rfl⟩⟩
  have hm:MemRel P (fun p=>F p∧p<w.heap.size) (w.alloc (.map es clock)) bs s.mem:=hs.mem.move he fun k x T cs hk hc hv=>⟨hs.mem.loc k x T cs hk hc hv,Below.heap_alloc _ _ _ (hs.mem.loc k x T cs hk hc hv).2⟩;refine ⟨_,he,?_⟩;have h1:=hs.ext he hm;have h2:=StRel.put (v:=.one (.c (.mp ks vs))) (x:=.map (some w.heap.size)) (dst:=some d) (ks:=[]) h1 (fun _ hp=>by cases hp) (fun _=>CV.Rel.mp (by simp) (fun h=>by omega) (MapKept.heap_alloc w _).1 hk rfl (by simpa using hl) fun i x v h1 h2=>(hr i x v h1 h2).grow he.grow) (fun h=>(h jw).elim)
  have e:a.put (some d) (.map (some w.heap.size))=a:=by
   unfold Act.put
   have:a.tmps.setIfInBounds d (.map (some w.heap.size))=a.tmps:=by
    apply Array.ext_getElem?;intro i;rw [Array.getElem?_setIfInBounds];split
    ·rename_i e;subst e;split
     ·exact hd.symm
     ·rename_i hn;rw [Array.getElem?_eq_none (by omega)]
    ·rfl
   simp only [this]
  rw [e] at h2;exact h2
 intro l
 induction l with
 | nil =>
   intro ks vs s F w bs a es clock _ h hs hd hk hl hr hQ;simp only [Wd,Tree.sel,sIq] at h;subst h;obtain ⟨F',he,h2⟩:=fin (clock:=clock) hs hd hk hl hr;exact wpListIn_nil (hQ _ _ _ _ he h2)
 | cons o r ih =>
   intro ks vs s F w bs a es clock hnd h hs hd hk hl hr hQ;have hnd0:=hnd;simp only [List.all_cons,aTq] at hnd;obtain ⟨hdf,hnd⟩:=hnd;simp only [Wd] at h;split at h
   ·rename_i k v hi;obtain ⟨hg,hdst,hop⟩:=jcJ hi;split at h
    ·simp [Tree.sel] at h
    rename_i hfresh;simp only [Bool.not_eq_true] at hfresh;split at h
    ·rename_i x hx;have hxr:CV.Rel F w bs x (a.eval v):=qo hs jw hx;have hb:(w.alloc (.map es clock)).heap[w.heap.size]? = some (.map es clock):=(MapKept.heap_alloc w _).1;have hrun:=jaC (v:=a.eval v) ht hb hk hfresh;rw [World.alloc_set] at hrun;refine wpListIn_plain hg fun K hK=>y9 hdf ?_
     have hev:a.eval (.tmp d)=.map (some w.heap.size):=by
      unfold Act.eval;simp [hd]
     refine B5 (w':=w.alloc (.map (es.push { key:=.string k,val:=a.eval v,born:=clock }) (clock+1))) ?_ (hK _ _ ?_)
     ·unfold execOp;rw [hop];simp only [hev];show (do let _ ← Instr.mapUpdate t (.map (some w.heap.size)) (.string k) (a.eval v);pure Next.skip:Sem Next).run P _=_
      simp only [Sem.run_bind,hrun,Result.andThen_ok,Sem.run_pure]
     ·rw [hdst];refine ih (ks++[k]) (vs++[x]) s hnd h hs hd (by simp [hk]) (by simp [hl]) (fun i y z h1 h2 => ?_) hQ
      rw [jd] at h1 h2;simp only [Array.toList_push,List.map_append,List.map_cons,List.map_nil] at h2;rcases lOq i vs.length with hlt | hge
      ·rw [List.getElem?_append_left hlt] at h1;rw [List.getElem?_append_left (by simp;omega)] at h2
       exact hr i y z (by rw [jd];exact h1) (by rw [jd];exact h2)
      ·rw [List.getElem?_append_right hge] at h1;rw [List.getElem?_append_right (by simp;omega)] at h2
       have e1:i - vs.length=0:=by
        rcases Nat.eq_zero_or_pos (i - vs.length) with h | h
        ·exact h
        ·rw [List.getElem?_eq_none (by simp;omega)] at h1;cases h1
       have e2:i - (List.map (fun x=>x.val) es.toList).length=0:=by simp;omega
       rw [e1] at h1;rw [e2] at h2;simp only [List.getElem?_cons_zero,sIq] at h1 h2;subst h1;subst h2;exact hxr
    ·simp [Tree.sel] at h
   ·split at h
    ·split at h
     ·rename_i hg;split at h
      ·simp [Tree.sel] at h
      rename_i hne;obtain ⟨rv,h1,h2⟩:=jg h;obtain ⟨u,hu,hrun⟩:=N8 (fun K x av hk hh=>qo hs hk hh) h1;refine wpListIn_plain hg fun K hK=>y9 hdf ?_;refine qk (hrun _ (Below.alloc (Below.refl _ _) (lRq _) _)) (hK _ _ ?_);refine ih ks vs _ hnd h2 (StRel.put hs (fun _ hp=>by cases hp) (fun _=>hu) (fun h=>(h jw).elim)) ?_ hk hl hr hQ
      cases hdst:o.dst with
      | none=>exact hd
      | some e =>
        simp only [Act.put];rw [Array.getElem?_setIfInBounds,if_neg (fun q=>hne (by rw [hdst,q];simp))]
        exact hd
     ·simp [Tree.sel] at h
    ·obtain ⟨F',he,h2⟩:=fin (clock:=clock) hs hd hk hl hr;exact Jv hpc hcall _ _ hnd0 h h2 fun F'' w'' bs'' a'' he' hs''=>hQ _ _ _ _ (he.trans he' he.le) hs''
theorem jdl {H : Hd} (hpc : SumOk P H) {call : jt} (hcall : CallOk P call) {lr : Option Nat} {nn : Nat} {ops : Array Oper} {Q : Exit -> Act -> World -> Prop} {s s' : St} {F : Nat -> Prop} {w : World} {bs : List BI} {a : Act}
  (hnd:ops.toList.all (fun o=>zK o.op)=true) (h:(DK P H call ops.toList s).sel=some s') (hs:StRel P D F w bs s a) (hQ:∀ F' w' bs' a',Ext bs.length F w bs F' w' bs'->StRel P D F' w' bs' s' a'->Q .normal a' w'):wpListIn (FW lr) nn P ops Q ops.toList a w:=by
 unfold DK at h;generalize hl:ops.toList=l at h hnd ⊢;cases l with
 | nil=>exact Jv hpc hcall [] s hnd (by rw [hl];exact h) hs hQ
 | cons o r =>
   simp only at h;split at h
   ·rename_i d t hmk;obtain ⟨hg,hdst,hop,ht⟩:=jj5 hmk;simp only [List.all_cons,aTq] at hnd;split at h
    ·rename_i hlt0;have hlt:d<a.tmps.size:=by rw [← hs.len];simpa using hlt0
     rw [← hl] at h;refine wpListIn_plain hg fun K hK=>y9 hnd.1 ?_;refine qk (v:=.map (some w.heap.size)) (w':=w.alloc (.map #[] 0)) ?_ (hK _ _ ?_)
     ·unfold execOp;rw [hop];rfl
     ·rw [hdst];refine jdz hpc hcall ht r [] [] _ (es:=#[]) hnd.2 h (StRel.put (v:=.any) hs (fun _ hp=>by cases hp) (fun _=>trivial) (fun h=>(h jw).elim)) ?_ rfl rfl (fun i x v h=>by simp [nth] at h) hQ
      simp only [Act.put];rw [Array.getElem?_setIfInBounds,if_pos rfl,if_pos hlt]
    ·simp [Tree.sel] at h
   ·exact Jv hpc hcall (o::r) s hnd (by rw [hl];exact h) hs hQ
def xe:XE->Exit
 | .normal=>.normal
 | .exit k=>.exit k
 | .ret=>.ret
def LoopOk (P:Program) (b:Code) (h:Nat->St->Tree (XE × St)):Prop :=
 ∀ K s x,(h K s).sel=some x->∀ (lr:Option Nat) (nn:Nat) (D:List Deferred) F w bs a,K<=bs.length->StRel P D F w bs s a->∀ Q:Exit->Act->World->Prop,
  (∀ F' w' bs' a',Ext K F w bs F' w' bs'->StRel P D F' w' bs' x.2 a'->Q (xe x.1) a' w')->(Code.loop b).wpIn (FW lr) nn P Q a w
theorem StRel.unkey {F w bs s} {a:Act} (hs:StRel P D F w bs s a):StRel P D F w bs { s with tmps:=s.tmps.map Sx.unkey } a:=by
 refine ⟨hs.defers,by simp [hs.len],fun i sl x h1 h2 => ?_,hs.mem⟩
 rw [jd,List.getElem?_map] at h1;simp only [Option.map_eq_some_iff] at h1;obtain ⟨s0,h0,rfl⟩:=h1
 have:=hs.slots i s0 x (by rw [jd];exact h0) h2
 unfold Sx.unkey;split
 ·exact this
 ·exact ⟨fun _=>trivial,fun h=>(h jw).elim⟩
theorem evCode_ok {H : Hd} (hpc : SumOk P H) {call : jt} (hcall : CallOk P call) {lr : Option Nat} {nn : Nat} (f K : Nat) : ∀ (c : Code) (n : Nat) (s : St) {x : XE × St},
  (jI P H call f K n c s).sel=some x->(∀ i b h,jf c i=some b->kB H.lh f (n+i)=some h->LoopOk P b h)->∀ {F:Nat->Prop} {w:World} {bs:List BI} {a:Act},K<=bs.length->StRel P D F w bs s a->∀ {Q:Exit->Act->World->Prop},
  (∀ F' w' bs' a',Ext K F w bs F' w' bs'->StRel P D F' w' bs' x.2 a'->Q (xe x.1) a' w')->c.wpIn (FW lr) nn P Q a w:=by
 intro c
 induction c with
 | skip =>
   intro n s x h _ F w bs a hK hs Q hQ;simp only [jI,Tree.sel,sIq] at h;subst h;exact wpIn_skip (hQ F w bs a Ext.refl hs)
 | region id ops draw =>
   intro n s x h _ F w bs a hK hs Q hQ;simp only [jI] at h;split at h
   ·simp [Tree.sel] at h
   rename_i hnd
   have hnd:ops.toList.all (fun o=>zK o.op)=true:=by
    cases hb:ops.toList.all (fun o=>zK o.op)
    ·rw [hb] at hnd;simp at hnd
    ·rfl
   cases draw
   ·simp only [Bool.false_eq_true,if_false] at h;obtain ⟨s',h1,h2⟩:=jg h;simp only [Tree.sel,sIq] at h2;subst h2;exact wpIn_region_list (jdl hpc hcall hnd h1 hs fun F' w' bs' a' he hs'=>hQ F' w' bs' a' (he.weak hK) hs'.unkey)
   ·simp only [if_true] at h;split at h
    ·rename_i hm;obtain ⟨⟨s',is⟩,h1,h2⟩:=jg h;simp only at h2;split at h2
     ·rename_i hd;simp only [Tree.sel,sIq] at h2;subst h2;refine jdM hpc hcall hnd hm h1 hd (fun sl hsl => ?_) hs.unkey fun F' w' bs' a' he hs'=>hQ F' w' bs' a' (he.weak hK) hs'.unkey;simp only [List.mem_map] at hsl;obtain ⟨s0,_,rfl⟩:=hsl;unfold Sx.unkey;split
      ·rename_i hk;simpa using hk
      ·rfl
     ·simp [Tree.sel] at h2
    ·simp [Tree.sel] at h
 | seq a b iha ihb =>
   intro n s x h hl F w bs a' hK hs Q hQ;simp only [jI] at h;obtain ⟨y,h1,h2⟩:=jg h
   refine wpIn_seq (iha n s h1 (fun i bb hh hi hk=>hl i bb hh (by
    simp only [jf]
    have:i<ji a:=by
     rcases lOq i (ji a) with h' | h'
     ·exact h'
     ·exact absurd hi (by rw [nthLoop_none a i h'];simp)
    rw [if_pos this];exact hi) hk) hK hs fun F' w' bs' a'' he hs' => ?_)
   obtain ⟨e,s'⟩:=y;cases e with
  | normal =>
    simp only [xe,Exit.then]
    refine ihb (n+ji a) s' h2 (fun i bb hh hi hk=>hl (ji a+i) bb hh (by
     simp only [jf];rw [if_neg (by omega)]
     rw [show ji a+i - ji a=i by omega];exact hi) (by rw [← Nat.add_assoc];exact hk)) (he.le hK) hs' fun F'' w'' bs'' a3 he' hs''=>hQ _ _ _ _ (he.trans he' (lRq _)) hs''
  | exit k =>
    simp only [Tree.sel,sIq] at h2;subst h2;exact hQ _ _ _ _ he hs'
  | ret =>
    simp only [Tree.sel,sIq] at h2;subst h2;exact hQ _ _ _ _ he hs'
 | cond c a b iha ihb =>
   intro n s x h hl F w bs a' hK hs Q hQ;simp only [jI] at h;split at h
   ·rename_i t ht;have hr:=qo hs jw ht
    have hc:a'.eval c=.bool t:=by
     generalize a'.eval c=z at hr ⊢;cases hr;rfl
    obtain ⟨y,hy,hxe,hwk⟩:=jhR h
    have hQ':∀ F' w' bs' a',Ext K F w bs F' w' bs'->StRel P D F' w' bs' y.2 a'->Q (xe y.1) a' w':=fun F' w' bs' a' he hs'=>by
     obtain ⟨d,hd⟩:=hwk hs';rw [← hxe];exact hQ F' w' _ a' (he.trans (Ext.dummies (K:=K) d) (lRq _)) hd
    cases t
    ·simp only [cond_false] at hy
     refine wpIn_cond_false hc (ihb (n+ji a) s hy (fun i bb hh hi hk=>hl (ji a+i) bb hh (by
      simp only [jf];rw [if_neg (by omega)]
      rw [show ji a+i - ji a=i by omega];exact hi) (by rw [← Nat.add_assoc];exact hk)) hK hs hQ')
    ·simp only [cond_true] at hy
     refine wpIn_cond_true hc (iha n s hy (fun i bb hh hi hk=>hl i bb hh (by
      simp only [jf]
      have:i<ji a:=by
       rcases lOq i (ji a) with h' | h'
       ·exact h'
       ·exact absurd hi (by rw [nthLoop_none a i h'];simp)
      rw [if_pos this];exact hi) hk) hK hs hQ')
   ·simp [Tree.sel] at h
 | block id b ih =>
   intro n s x h hl F w bs a' hK hs Q hQ;simp only [jI] at h;obtain ⟨y,h1,h2⟩:=jg h;refine wpIn_block (ih n s h1 (fun i bb hh hi hk=>hl i bb hh hi hk) hK hs fun F' w' bs' a'' he hs' => ?_);obtain ⟨e,s'⟩:=y;cases e with
  | normal =>
    simp only [Tree.sel,sIq] at h2;subst h2;exact hQ _ _ _ _ he hs'
  | exit k =>
    simp only [Tree.sel,sIq] at h2;subst h2;simp only [xe,Exit.inBlock]
    have:=hQ _ _ _ _ he hs'
    by_cases hk:k=id
    ·simpa [hk,xe] using this
    ·simpa [hk,xe] using this
  | ret =>
    simp only [Tree.sel,sIq] at h2;subst h2;exact hQ _ _ _ _ he hs'
 | loop b _ =>
   intro n s x h hl F w bs a' hK hs Q hQ;simp only [jI] at h;split at h
   ·rename_i hh hk;exact hl 0 b hh rfl (by simpa using hk) K s x h lr nn D F w bs a' hK hs Q hQ
   ·simp [Tree.sel] at h
 | exit id =>
   intro n s x h _ F w bs a hK hs Q hQ;simp only [jI,Tree.sel,sIq] at h;subst h;exact wpIn_exit (hQ F w bs a Ext.refl hs)
 | ret =>
   intro n s x h _ F w bs a hK hs Q hQ;simp only [jI,Tree.sel,sIq] at h;subst h;exact wpIn_ret (hQ F w bs a Ext.refl hs)
 | rangeFunc _ _ _ _ _ _=>intro n s x h;simp [jI,Tree.sel] at h
 | scope _ _=>intro n s x h;simp [jI,Tree.sel] at h
 | label _=>intro n s x h;simp [jI,Tree.sel] at h
 | goto _=>intro n s x h;simp [jI,Tree.sel] at h
 | refuse _=>intro n s x h;simp [jI,Tree.sel] at h
 where nthLoop_none:∀ (c:Code) (i:Nat),ji c<=i->jf c i=none
 | .skip,_,_=>rfl
 | .region _ _ _,_,_=>rfl
 | .seq a b, i, h => by
   simp only [ji] at h;simp only [jf];rw [if_neg (by omega)]
   exact nthLoop_none b _ (by omega)
 | .cond _ a b, i, h => by
   simp only [ji] at h;simp only [jf];rw [if_neg (by omega)]
   exact nthLoop_none b _ (by omega)
 | .block _ b,i,h=>by simpa [jf] using nthLoop_none b i h
 | .loop b, i, h => by
   simp only [ji] at h;cases i with
  | zero=>omega
  | succ i=>simpa [jf] using nthLoop_none b i (by omega)
 | .rangeFunc _ _ a b, i, h => by
   simp only [ji] at h;simp only [jf];rw [if_neg (by omega)]
   exact nthLoop_none b _ (by omega)
 | .exit _,_,_=>rfl
 | .scope b,i,h=>by simpa [jf] using nthLoop_none b i h
 | .label _,_,_=>rfl
 | .goto _,_,_=>rfl
 | .ret,_,_=>rfl
 | .refuse _,_,_=>rfl
structure HdOk (P:Program) (H:Hd):Prop where
 pc:SumOk P H
 lh:∀ f fn c i b h,P.funcs[f]? = some fn->fn.body=some c->jf c i=some b->kB H.lh f i=some h->LoopOk P b h
def GV (tmps:Array Value):ResultVar->Sem Value
 | .tmp t=>pure (tmps.getD t undef)
 | .cell p t=>do loadVar t (← asAddr (tmps.getD p undef))
theorem jbP {F w bs s} {a : Act} (hs : StRel P D F w bs s a) {x : ResultVar} {r : A1} (h : Gf P s x = some r) :
  ∃ z,r.Rel F w bs z∧(GV a.tmps x).run P w=.ok z w:=by
 have slot:∀ {t:Nat} {v:AV},nth s.tmps t=some ⟨[],v⟩->v.Rel F w bs (a.tmps.getD t undef):=by
  intro t v hn
  have:=qo (x:=.tmp t) (av:=v) hs jw (by simp [zp,hn])
  simpa [Act.eval] using this
 unfold Gf at h;cases x with
 | tmp t =>
   simp only at h;split at h
   ·rename_i b hn;simp at h;subst h;exact ⟨_,slot hn,rfl⟩
   ·simp at h
 | cell p t =>
   simp only at h;split at h
   ·rename_i v hn;split at h
    ·rename_i b hb;simp at h;subst h;obtain ⟨b',q,o,z,he,hv,hz,hrun⟩:=Ol hb hs.mem (slot hn);simp at he;subst he;refine ⟨z,hz,?_⟩;simp only [GV,Sem.run_bind,hv,asAddr,Sem.run_pure,Result.andThen_ok,hrun w (Below.refl _ _)]
    ·simp at h
   ·simp at h
theorem Qd {F w bs s} {a : Act} (hs : StRel P D F w bs s a) {fn : Func} {l : List A1} (h : zt P s fn.results.toList = some l) :
  ∃ z,(GQ l).Rel F w bs z∧(results fn a.tmps).run P w=.ok z w:=by
 have key : ∀ (rs : List ResultVar) (l : List A1), zt P s rs = some l -> ∃ zs : List Value, All2 (A1.Rel F w bs) l zs ∧
   (rs.mapM (GV a.tmps)).run P w=.ok zs w:=by
  intro rs
  induction rs with
  | nil=>intro l h;simp [zt] at h;subst h;exact ⟨[],.nil,by simp⟩
  | cons x rs ih =>
    intro l h;simp only [zt] at h;split at h
    ·rename_i b l' hb hl;simp at h;subst h;obtain ⟨zs,h1,h2⟩:=ih l' hl;obtain ⟨z,hz,hrun⟩:=jbP hs hb;exact ⟨z::zs,.cons hz h1,by simp only [List.mapM_cons,Sem.run_bind,hrun,Result.andThen_ok,h2,Sem.run_pure]⟩
    ·simp at h
 obtain ⟨zs,h1,h2⟩:=key _ _ h
 have hres:(results fn a.tmps).run P w=.ok (if h:zs.toArray.size=1 then zs.toArray[0] else .tuple zs.toArray) w:=by
  have hu:results fn a.tmps=(do let vs ← fn.results.mapM (GV a.tmps);pure (if h:vs.size=1 then vs[0] else .tuple vs)):=rfl
  rw [hu,Array.mapM_eq_mapM_toList];simp only [Sem.run_bind,Sem.run_map,h2,Result.andThen_ok,Sem.run_pure]
 rw [hres];refine ⟨_,?_,rfl⟩;unfold GQ;split
 ·rename_i b;cases h1 with
  | cons hb hr=>cases hr;simpa [AV.Rel] using hb
 ·rename_i hne
  have:¬ zs.toArray.size=1:=by
   intro e;have hl:=h1.length;simp at e
   match l,hl with
   | [],hl=>simp [e] at hl
   | [x],_=>exact hne x rfl
   | _::_::_,hl=>simp [e] at hl
  rw [dif_neg this];exact ⟨zs,rfl,h1⟩
end
end Go.Sx