/-
 Part TaI of the proof: EngN EngJa EngYl.
-/
import Derived.Test.YtiefjlcakpdfeaaGreatDoorTaH
import Derived.Orders
import Derived.TacticsIn
import Derived.OrdersIn
namespace Go.Sx
open Go Go.RowKit
variable {D:List Deferred}
section
variable {P:Program}
theorem Q2 {α:Type} {d:α} {g:Bool} {t:Tree α} {x:α} (h:(t.toNeed d g).sel=some x) (hg:g=true):t.sel=some x:=by
 subst hg
 induction t with
 | leaf a=>exact h
 | br c t e _ _=>simp [Tree.toNeed,Tree.sel] at h
 | need c t ih =>
   simp only [Tree.toNeed,Tree.sel,Bool.not_true,Bool.false_or] at h ⊢;cases c
   ·simp at h
   ·exact ih h
 | fail=>simp [Tree.toNeed,Tree.sel] at h
theorem N0 {F w bs s} {a:Act} (hs:StRel P D F w bs s a) {d:Nat} {ks:List (Nat × Bool)} {v:AV} (hn:nth s.tmps d=some ⟨ks,v⟩) {b:Bool} (hb:a.tmps[d]? = some (.bool b)):KH a ks∧v.Rel F w bs (.bool b):=by
 have:=hs.slots d _ _ hn hb
 by_cases hk:KH a ks
 ·exact ⟨hk,this.1 hk⟩
 ·have h2:=this.2 hk;simp [undef] at h2
theorem Zn {F w bs s} {a:Act} (hs:StRel P D F w bs s a):∀ {K:List (Nat × Bool)},KH a K->yy s K=true
 | [],_=>rfl
 | (d, b) :: K, h => by
   have hd:=h (d,b) (by simp)
   have ih:=Zn hs (K:=K) (fun p hp=>h p (by simp [hp]))
   simp only [yy,ih,Bool.and_true];split
   ·rename_i ks c hn
    have:=(N0 hs hn hd).2
    cases this
    simp
   ·rfl
theorem XN {F w bs s} {a:Act} (hs:StRel P D F w bs s a) {ops:Array Oper} {j:Nat} {b:Bool} {K:List (Nat × Bool)} (h:keysOf ops.toList s j b=some K):KH a K↔yielded ops a.tmps j=some b:=by
 unfold keysOf at h;split at h
 ·rename_i o ho;split at h
  ·rename_i d hd;split at h
   ·rename_i ks t hn;simp at h;subst h;rw [jd] at ho;simp only [Array.getElem?_toList] at ho
    have hy:yielded ops a.tmps j=some b↔a.tmps[d]? = some (.bool b):=by
     unfold yielded;simp only [ho,Option.bind_some,hd];cases hh:a.tmps[d]? with
     | none=>simp
     | some v=>cases v<;>simp
    rw [hy];constructor
    ·intro hk;exact hk (d,b) (by simp)
    ·intro hb p hp;simp only [List.mem_cons] at hp;rcases hp with rfl | hp
     ·exact hb
     ·exact (N0 hs hn hb).1 p hp
   ·simp at h
  ·simp at h
 ·simp at h
theorem qN {o:Oper} {j:Nat} {b:Bool} (hg:o.guard=some (j,b)) (y:Nat->Option Bool):Region.wanted o y=true↔y j=some b:=by
 simp [Region.wanted,hg]
theorem StRel.below {F w bs s w'} {a:Act} (hs:StRel P D F w bs s a) (h:Below w.heap.size w w'):StRel P D F w' bs s a :=
 hs.ext (Ext.of_below h) (hs.mem.below h)
theorem jce {α:Type} {l:List α} {i j:Nat} {x:α} (h:i ≠ j):nth (jk l i x) j=nth l j:=by
 rw [jy,jd,jd,List.getElem?_set_ne h]
theorem Ext.le {K F w bs F' w' bs'} (h:Ext K F w bs F' w' bs') (hK:K<=bs.length:=by exact lRq _):K<=bs'.length:=by
 cases K with
 | zero=>exact Nat.zero_le _
 | succ k =>
   have hk:k<bs.length:=by omega
   exact jo (h.pre k bs[k] (by omega) (by rw [jd];exact gEq hk))
theorem Vw {α:Type} {l m:List α} {i:Nat} {x:α} (h:l.length=m.length):nth (jk l i x) i=nth (jk m i x) i:=by
 rw [jy,jy,jd,jd,List.getElem?_set,List.getElem?_set];simp [h]
theorem YO {s:St} {dst:Option Tmp} {K:List (Nat × Bool)} {v:AV} {d:Nat} (h:dst ≠ some d):nth (s.put0 dst K v).tmps d=nth s.tmps d:=by
 cases dst with
 | none=>rfl
 | some e=>exact jce (fun he=>h (by rw [he]))
variable {H:Hd} {call:jt} {all:List Oper}
theorem qs {i:Nat} {o:Oper} (h:all[i]? = some o):i<all.length:=by
 rcases lOq i all.length with h' | h'
 ·exact h'
 ·simp [List.getElem?_eq_none h'] at h
structure J (p:Plan P H call all) (L:Nat->Prop) (s:St):Prop where
 len:s.tmps.length=(p.st 0).tmps.length
 slots:∀ (i:Nat) (o:Oper) (d:Tmp),all[i]? = some o->o.dst=some d->(L i->nth s.tmps d=nth (jk (p.st 0).tmps d ⟨p.K i,p.rs i⟩) d)∧(¬ L i->nth s.tmps d=nth (p.st 0).tmps d)
 free:∀ d:Nat,(∀ (i:Nat) (o:Oper),all[i]? = some o->o.dst ≠ some d)->nth s.tmps d=nth (p.st 0).tmps d
 mem:∀ l,∃ i,i<=all.length∧obs s.mem l=obs (p.st i).mem l∧∀ k,k<all.length->(p.T k).wr l->(L k↔k<i)
theorem J.put {p : Plan P H call all} {L : Nat -> Prop} {s s1 : St} (h : J p L s) {j : Nat} {o : Oper} (ho : all[j]? = some o) (ht : s1.tmps = (s.put0 o.dst (p.K j) (p.rs j)).tmps)
  (hm:∀ l,∃ i,i<=all.length∧obs s1.mem l=obs (p.st i).mem l∧∀ k,k<all.length->(p.T k).wr l->((L k∨k=j)↔k<i)):J p (fun k=>L k∨k=j) s1:=by
 refine ⟨?_,fun i oi d hi hd => ?_,fun d hd => ?_,hm⟩
 ·rw [ht,← h.len];cases o.dst<;>simp [St.put0,jy]
 ·by_cases hij:i=j
  ·subst hij;rw [ho] at hi;simp at hi;subst hi;refine ⟨fun _ => ?_,fun hn=>(hn (.inr rfl)).elim⟩;rw [ht,hd];exact Vw h.len
  ·have hne:o.dst ≠ some d:=fun e=>hij (p.dsts i j oi o d hi ho hd e);rw [ht,YO hne];exact ⟨fun hl=>(h.slots i oi d hi hd).1 (hl.resolve_right hij),fun hn=>(h.slots i oi d hi hd).2 fun hl=>hn (.inl hl)⟩
 ·rw [ht,YO (hd j o ho)];exact h.free d hd
theorem J.congr {p:Plan P H call all} {L L':Nat->Prop} {s:St} (h:J p L s) (hl:∀ k,k<all.length->(L k↔L' k)):J p L' s:=by
 refine ⟨h.len,fun i o d hi hd => ?_,h.free,fun l => ?_⟩
 ·have:=hl i (qs hi)
  exact ⟨fun x=>(h.slots i o d hi hd).1 (this.2 x),fun x=>(h.slots i o d hi hd).2 fun y=>x (this.1 y)⟩
 ·obtain ⟨i,h1,h2,h3⟩:=h.mem l;exact ⟨i,h1,h2,fun k hk hw=>(hl k hk).symm.trans (h3 k hk hw)⟩
theorem jdf {p:Plan P H call all} {k l:Nat} (hk:k<all.length) (hn:¬ (p.T k).wr l):obs (p.st (k+1)).mem l=obs (p.st k).mem l:=by
 have ho:all[k]? = some all[k]:=gEq hk;have hs:=p.step k _ ho;rcases hs.step with ⟨hg,hK,h⟩ | ⟨j,b,m',hg,hK,hq,hkd,hm,h⟩
 ·obtain ⟨m,h1,h2⟩:=Jy (mem:=(p.st k).mem) h (fun _ _=>rfl);have hT:=hs.touch;rw [hK] at hT;rw [← hT] at h2;exact ((h2 l).2 hn).2
 ·rw [hm]
theorem Za {p:Plan P H call all} {l i:Nat}:∀ (d:Nat),i+d<=all.length->(∀ k,i<=k->k<i+d->¬ (p.T k).wr l)->obs (p.st (i+d)).mem l=obs (p.st i).mem l
 | 0,_,_=>rfl
 | d + 1, hd, h => by
   rw [← Nat.add_assoc,jdf (by omega) (h (i+d) (by omega) (by omega))]
   exact Za d (by omega) fun k h1 h2=>h k h1 (by omega)
theorem Hq (p:Plan P H call all):∀ j,j<=all.length->J p (fun k=>k<j) (p.st j)
 | 0,_=>⟨rfl,fun i o d _ _=>⟨fun h=>by omega,fun _=>rfl⟩,fun _ _=>rfl,fun l=>⟨0,by omega,rfl,fun k _ _=>by simp⟩⟩
 | j + 1, hj => by
   have ho:all[j]? = some all[j]:=gEq (by omega)
   have hs:=p.step j _ ho;have h:=Hq p j (by omega)
   have:=h.put ho (s1:=p.st (j+1)) hs.put fun l=>⟨j+1,hj,rfl,fun k _ _=>by omega⟩
   exact this.congr fun k hk=>by omega
theorem J.same {p : Plan P H call all} {L : Nat -> Prop} {s : St} (h : J p L s) {j : Nat} {o : Oper} (ho : all[j]? = some o) (hd : ∀ i, p.anc i j -> L i) (hL : ∀ i k, p.anc i k -> L k -> L i) (hj : ¬ L j) :
  (∀ t ∈ tmpsIn o.op.operands.toList,nth s.tmps t=nth (p.st j).tmps t)∧(∀ (i:Nat) (oi:Oper) (d:Tmp),all[i]? = some oi->oi.dst=some d->p.anc i j->nth s.tmps d=nth (p.st j).tmps d) ∧
  (∀ l,(p.T j).at l->obs s.mem l=obs (p.st j).mem l):=by
 have hjl:=qs ho;have ht:=Hq p j (by omega)
 have hs:∀ (i:Nat) (oi:Oper) (d:Tmp),all[i]? = some oi->oi.dst=some d->p.anc i j->nth s.tmps d=nth (p.st j).tmps d:=by
  intro i oi d hi hdd ha;rw [(h.slots i oi d hi hdd).1 (hd i ha),(ht.slots i oi d hi hdd).1 (p.lt i j ha)]
 refine ⟨fun t htt => ?_,hs,fun l hl => ?_⟩
 ·rcases p.tmps j o t ho htt with ⟨i,oi,hi,hdd,ha | ha | rfl⟩ | hf
  ·exact hs i oi t hi hdd ha
  ·rw [(h.slots i oi t hi hdd).2 (fun hl=>hj (hL _ _ ha hl)),(ht.slots i oi t hi hdd).2 (by have:=p.lt j i ha;omega)]
  ·rw [(h.slots i oi t hi hdd).2 hj,(ht.slots i oi t hi hdd).2 (by omega)]
  ·rw [h.free t hf,ht.free t hf]
 ·obtain ⟨i,hi,hob,hth⟩:=h.mem l;rw [hob];rcases Nat.le_total i j with hij | hij
  ·have := Za (p := p) (l := l) (i := i) (j - i) (by omega) fun k h1 h2 hw => by
    have hk:k<j:=by omega
    have ha:=p.touch k j l hk hjl (.inl ⟨hw,hl⟩)
    have:=(hth k (by omega) hw).1 (hd k ha)
    omega
   rw [show i+(j - i)=j by omega] at this
   exact this.symm
  ·have := Za (p := p) (l := l) (i := j) (i - j) (by omega) fun k h1 h2 hw => by
    have hlk:=(hth k (by omega) hw).2 (by omega)
    rcases Nat.lt_or_eq_of_le h1 with hlt | rfl
    ·exact hj (hL j k (p.touch j k l hlt (by omega) (.inr ⟨hl,hw⟩)) hlk)
    ·exact hj hlk
   rw [show j+(i - j)=i by omega] at this
   exact this
theorem J.eq {p:Plan P H call all} {L:Nat->Prop} {s:St} (h:J p L s) (hall:∀ k,k<all.length->L k):s=p.st all.length:=by
 have ht:=(Hq p all.length (lRq _)).congr (L':=L) fun k hk=>⟨fun _=>hall k hk,fun _=>hk⟩
 have h1:s.tmps=(p.st all.length).tmps:=by
  apply List.ext_getElem?;intro d;rw [← jd,← jd];by_cases hf:∀ (i:Nat) (o:Oper),all[i]? = some o->o.dst ≠ some d
  ·rw [h.free d hf,ht.free d hf]
  ·have : ∃ (i : Nat) (o : Oper), all[i]? = some o ∧ o.dst = some d := by
    apply Classical.byContradiction;intro hn;exact hf fun i o hi hd=>hn ⟨i,o,hi,hd⟩
   obtain ⟨i,o,hi,hd⟩:=this;rw [(h.slots i o d hi hd).1 (hall i (qs hi)),(ht.slots i o d hi hd).1 (hall i (qs hi))]
 have h2:s.mem=(p.st all.length).mem:=by
  refine XJ fun l => ?_;obtain ⟨i,hi,hob,hth⟩:=h.mem l;rw [hob]
  have:=Za (p:=p) (l:=l) (i:=i) (all.length - i) (by omega) fun k h1 h2 hw=>by
   have:=(hth k (by omega) hw).1 (hall k (by omega))
   omega
  rw [show i+(all.length - i)=all.length by omega] at this
  exact this.symm
 cases s;cases hh:p.st all.length
 simp_all
theorem J.put_eq {p : Plan P H call all} {L : Nat -> Prop} {s : St} (h : J p L s) {j : Nat} {o : Oper} (ho : all[j]? = some o) (hL : ∀ i k, p.anc i k -> L k -> L i) (hj : ¬ L j) (K : List (Nat × Bool)) (v : AV) :
  s.put o.dst K v=s.put0 o.dst K v:=by
 cases hd:o.dst with
 | none=>rfl
 | some d =>
   have:s.tmps.map (YR d)=s.tmps:=by
    refine (List.map_congr_left fun sl hsl => ?_).trans (List.map_id _);simp only [id,YR];rw [if_neg];intro hany;obtain ⟨q,hq,hqd⟩:=List.any_eq_true.1 hany;obtain ⟨t,hn⟩:=YN hsl
    have hstart:nth (p.st 0).tmps t=some sl->False:=fun hx=>by
     have:=p.start sl (jH hx)
     rw [this] at hq;cases hq
    by_cases hf:∀ (i:Nat) (o:Oper),all[i]? = some o->o.dst ≠ some t
    ·exact hstart (by rw [← h.free t hf];exact hn)
    ·have : ∃ (i : Nat) (o : Oper), all[i]? = some o ∧ o.dst = some t := by
      apply Classical.byContradiction;intro hn;exact hf fun i o hi hd=>hn ⟨i,o,hi,hd⟩
     obtain ⟨i,oi,hi,hdi⟩:=this;by_cases hl:L i
     ·rw [(h.slots i oi t hi hdi).1 hl,jy,jd,List.getElem?_set_self'] at hn;cases hx:(p.st 0).tmps[t]? with
      | none=>rw [hx] at hn;simp at hn
      | some y =>
        rw [hx] at hn;simp at hn;subst hn;obtain ⟨i',oi',hi',hdi',ha⟩:=p.keys i oi q hi hq
        have:q.1=d:=by simpa using hqd
        rw [this] at hdi'
        have:=p.dsts i' j oi' o d hi' ho hdi' hd
        subst this;exact hj (hL _ _ ha hl)
     ·exact hstart (by rw [← (h.slots i oi t hi hdi).2 hl];exact hn)
   simp only [St.put,St.put0,this]
theorem ZO {s s':St}:∀ {K:List (Nat × Bool)},(∀ q ∈ K,nth s.tmps q.1=nth s'.tmps q.1)->yy s K=yy s' K
 | [],_=>rfl
 | (d, b) :: K, h => by
   simp only [yy];rw [h (d,b) (by simp),ZO fun q hq=>h q (by simp [hq])]
theorem J.mem_step {p : Plan P H call all} {L : Nat -> Prop} {s : St} (h : J p L s) {j : Nat} {o : Oper} (ho : all[j]? = some o) (hd : ∀ i, p.anc i j -> L i) (hL : ∀ i k, p.anc i k -> L k -> L i) (hj : ¬ L j) {mem' : Mem}
  (hm:∀ l,((p.T j).wr l->obs mem' l=obs (p.st (j+1)).mem l)∧(¬ (p.T j).wr l->obs mem' l=obs s.mem l)) :
  ∀ l,∃ i,i<=all.length∧obs mem' l=obs (p.st i).mem l∧∀ k,k<all.length->(p.T k).wr l->((L k∨k=j)↔k<i):=by
 intro l;have hjl:=qs ho;by_cases hw:(p.T j).wr l
 ·refine ⟨j+1,by omega,(hm l).1 hw,fun k hk hwk=>⟨fun hx => ?_,fun hx => ?_⟩⟩
  ·rcases hx with hx | rfl
   ·rcases lOq j k with hjk | hjk
    ·exact (hj (hL j k (p.touch j k l hjk hk (.inl ⟨hw,(Touch.wr_at hwk)⟩)) hx)).elim
    ·omega
   ·omega
  ·rcases Nat.lt_or_eq_of_le (Nat.le_of_lt_succ hx) with hlt | rfl
   ·exact .inl (hd k (p.touch k j l hlt hjl (.inl ⟨hwk,(Touch.wr_at hw)⟩)))
   ·exact .inr rfl
 ·obtain ⟨i,hi,hob,hth⟩:=h.mem l;refine ⟨i,hi,by rw [(hm l).2 hw,hob],fun k hk hwk => ?_⟩
  have:k ≠ j:=fun e=>hw (e▸hwk)
  rw [← hth k hk hwk];simp [this]
def Lof (listed:Array Bool) (i:Nat):Prop:=listed.getD i false=true
theorem Nw {listed:Array Bool} {i:Nat} (hi:i<listed.size) (k:Nat):Lof (listed.setIfInBounds i true) k↔(Lof listed k∨k=i):=by
 unfold Lof;by_cases h:i=k
 ·subst h;simp [hi]
 ·rw [getD_set_ne false h];simp [Ne.symm h]
theorem jew (hpc : SumOk P H) (hcall : CallOk P call) {ops : Array Oper} (hops : ops.toList = all) (p : Plan P H call all) {Q : Exit -> Act -> World -> Prop} {F0 : Nat -> Prop} {w0 : World} {bs0 : List BI}
  (hQ:∀ F' w' bs' a',Ext bs0.length F0 w0 bs0 F' w' bs'->StRel P D F' w' bs' (p.st all.length) a'->Q .normal a' w') :
  ∀ (fuel:Nat) (listed:Array Bool) (a:Act) (w:World) (s:St) (F:Nat->Prop) (bs:List BI),listed.size=all.length->listed.toList.countP (fun b=>!b)<=fuel ->
   (∀ j o,all[j]? = some o->Lof listed j->∀ e ∈ o.after,Region.binds .any e=true->Lof listed e.on)->J p (Lof listed) s->Ext bs0.length F0 w0 bs0 F w bs->StRel P D F w bs s a->wpAny P .any ops Q fuel listed a w:=by
 have hget:∀ i,ops[i]? = all[i]?:=fun i=>by rw [← hops,Array.getElem?_toList]
 have hready:∀ listed:Array Bool,listed.size=all.length->Region.ready .any ops listed=[]->∀ k,k<all.length->Lof listed k:=by
  intro listed hsz hr k
  induction k using Nat.strongRecOn with
  | ind k ih =>
    intro hk;apply Classical.byContradiction;intro hn
    have:k ∈ Region.ready .any ops listed:=by
     rw [mem_ready];refine ⟨?_,all[k],by rw [hget];exact gEq hk,fun e he hb => ?_⟩
     ·unfold Lof at hn;have hk':k<listed.size:=by omega
      simp only [Array.getD_eq_getD_getElem?,Array.getElem?_eq_getElem hk',Option.getD_some] at hn ⊢;simpa using hn
     ·have hlt:=p.edges k _ (gEq hk) e he hb;exact ih e.on hlt (by omega)
    rw [hr] at this;cases this
 intro fuel
 induction fuel with
 | zero =>
   intro listed a w s F bs hsz hc hdn hJ hext hs
   have hnil:Region.ready .any ops listed=[]:=by
    rw [List.eq_nil_iff_forall_not_mem];intro j hj;obtain ⟨h0,o,ho,_⟩:=mem_ready.1 hj;rw [hget] at ho;have hjl:=qs ho;have hj':j<listed.size:=by omega
    have:=List.countP_eq_zero.1 (Nat.le_zero.1 hc) listed[j] (by simp)
    simp only [Array.getD_eq_getD_getElem?,Array.getElem?_eq_getElem hj',Option.getD_some] at h0;simp [h0] at this
   have:=hJ.eq (hready listed hsz hnil)
   subst this;exact ⟨hnil,hQ F w bs a hext hs⟩
 | succ fuel ih =>
   intro listed a w s F bs hsz hc hdn hJ hext hs;refine ⟨fun hnil => ?_,fun j hj => ?_⟩
   ·have:=hJ.eq (hready listed hsz hnil)
    subst this;exact hQ F w bs a hext hs
   ·obtain ⟨h0,o,ho,hed⟩:=mem_ready.1 hj;have ho':=ho;rw [hget] at ho';have hjl:=qs ho';have hj':j<listed.size:=by omega
    have hjf:listed[j]=false:=by simpa only [Array.getD_eq_getD_getElem?,Array.getElem?_eq_getElem hj',Option.getD_some] using h0
    have hnl:¬ Lof listed j:=by
     unfold Lof;simp [Array.getElem?_eq_getElem hj',hjf]
    have hL:∀ i k,p.anc i k->Lof listed k->Lof listed i:=p.down _ _ hdn fun _ h=>h
    have hd:∀ i,p.anc i j->Lof listed i:=fun i hi=>p.down (Lof listed) (fun k=>Lof listed k∨k=j) (fun k ok hk hN e he hb=>by
     rcases hN with hN | rfl
     ·exact hdn k ok hk hN e he hb
     ·rw [ho'] at hk;simp at hk;subst hk;exact hed e he hb) (fun _ h=>.inl h) i j hi (.inr rfl)
    obtain ⟨hsame,hkeys,hmem⟩:=hJ.same ho' hd hL hnl;have hset:∀ k,Lof (listed.setIfInBounds j true) k↔(Lof listed k∨k=j):=Nw hj'
    have next:∀ (a':Act) (w':World) (s':St) (F':Nat->Prop) (bs':List BI),J p (fun k=>Lof listed k∨k=j) s'->Ext bs.length F w bs F' w' bs'->StRel P D F' w' bs' s' a'->wpAny P .any ops Q fuel (listed.setIfInBounds j true) a' w':=by
     intro a' w' s' F' bs' hJ' he hs';refine ih _ a' w' s' F' bs' (by simpa using hsz) ?_ (fun k ok hk hl e hee hb => ?_) (hJ'.congr fun k _=>(hset k).symm) (hext.trans he hext.le) hs'
     ·simp only [Array.toList_setIfInBounds];rw [List.countP_set (by simpa using hj')]
      have:0<listed.toList.countP (fun b=>!b):=List.countP_pos_iff.2 ⟨listed[j],by simp,by simp [hjf]⟩
      have e1:((!listed.toList[j])=true)=True:=by simp [hjf]
      simp only [e1,if_true,Bool.not_true,Bool.false_eq_true,if_false];omega
     ·rw [hset] at hl ⊢;rcases hl with hl | rfl
      ·exact .inl (hdn k ok hk hl e hee hb)
      ·rw [ho'] at hk;simp at hk;subst hk;exact .inl (hed e hee hb)
    have hst:=p.step j o ho';have hlim:∀ K,lim o s K=lim o (p.st j) K:=fun K=>UA hsame;unfold wpOp;simp only [ho];rcases hst.step with ⟨hg,hK,h⟩ | ⟨g,b,m',hg,hK,hq,hkd,hm,h⟩
    ·simp only [Region.wanted,hg,if_true];left;have hT:=hst.touch;rw [hK] at hT;obtain ⟨mem',h1,h2⟩:=Jy (mem:=s.mem) h (fun l hl=>hmem l (by rw [hT];exact hl))
     rw [← hT] at h2;have e1:(fun K'=>lim o (p.st j) K')=fun K'=>lim o s K':=funext fun K=>(hlim K).symm;rw [e1] at h1;refine Je hpc hcall hs.mem (fun K x av hk hh=>qo hs hk (Jz hh)) h1 fun F' w' bs' v he hm' hr => ?_;refine next _ w' ({ s with mem:=mem' }.put o.dst [] (p.rs j)) F' bs' ?_ he (StRel.put (hs.ext he hm') (fun _ hp=>by cases hp) (fun _=>hr) (fun h=>(h jw).elim))
     have hmem':=hJ.mem_step ho' hd hL hnl (mem':=mem') fun l=>⟨(h2 l).1,fun hn=>((h2 l).2 hn).1⟩;refine hJ.put ho' ?_ ?_
     ·have:=hJ.put_eq ho' hL hnl [] (p.rs j)
      rw [hK,← this];cases o.dst<;>rfl
     ·intro l
      have:({ s with mem:=mem' }.put o.dst [] (p.rs j)).mem=mem':=by cases o.dst<;>rfl
      rw [this];exact hmem' l
    ·have hga:=p.guards j o g b ho' hg;have hgs:nth s.tmps=nth s.tmps:=rfl
     have hkeq:keysOf ops.toList s g b=some (p.K j):=by
      rw [hops,← hK];unfold keysOf;split
      ·rename_i og hog;split
       ·rename_i d hdg;rw [jd] at hog;rw [hkeys g og d hog hdg hga]
       ·rfl
      ·rfl
     have hiff:=XN hs hkeq
     have hgt:yy s (p.K j)=yy (p.st j) (p.K j):=ZO fun q hq=>by
      obtain ⟨i,oi,hi,hdi,ha⟩:=p.keys j o q ho' hq;exact hkeys i oi q.1 hi hdi ha
     have hnowr:∀ l,¬ (p.T j).wr l∨True:=fun _=>.inr trivial
     have hmem':∀ l,∃ i,i<=all.length∧obs s.mem l=obs (p.st i).mem l∧∀ k,k<all.length->(p.T k).wr l->((Lof listed k∨k=j)↔k<i) :=
      hJ.mem_step ho' hd hL hnl (mem':=s.mem) fun l=>⟨fun hw=>by rw [hm];exact hmem l (Touch.wr_at hw),fun _=>rfl⟩
     have hput:∀ w':World,J p (fun k=>Lof listed k∨k=j) (s.put o.dst (p.K j) (p.rs j)):=fun _=>by
      refine hJ.put ho' ?_ ?_
      ·rw [hJ.put_eq ho' hL hnl]
      ·have:(s.put o.dst (p.K j) (p.rs j)).mem=s.mem:=by cases o.dst<;>rfl
       rw [this];exact hmem'
     by_cases hk:KH a (p.K j)
     ·have hw:Region.wanted o (yielded ops a.tmps)=true:=(qN hg _).2 (hiff.1 hk);rw [if_pos hw];left;have h1:=Q2 h (by rw [← hgt];exact Zn hs hk)
      have e1:(fun K'=>lim o (p.st j) (K'++p.K j))=fun K'=>lim o s (K'++p.K j):=funext fun K=>(hlim _).symm;rw [e1] at h1;have e2:lim o (p.st j) (p.K j)=lim o s (p.K j):=(hlim _).symm;rw [e2] at hq;have hT:=hst.touch
      obtain ⟨m2,h3,_⟩:=Jy (mem:=s.mem) h1 (fun l hl=>by
       refine (hmem l ?_).trans rfl;rw [hT,e2];exact hl)
      have hρ:∀ K' x av,KH a K'->lim o s (K'++p.K j) x=some av->av.Rel F w bs (a.eval x):=fun K' x av hk' hh=>qo hs (fun q hq=>(List.mem_append.1 hq).elim (hk' q) (hk q)) (Jz hh);have hme:=ZZ (ρ:=fun K'=>lim o s (K'++p.K j)) hpc hs.mem hρ hq h3;subst hme;refine Je hpc hcall hs.mem hρ h3 fun F' w' bs' v he hm' hr => ?_;exact next _ w' _ F' bs' (hput w') he (StRel.put (hs.ext he hm') hkd (fun _=>hr) (fun h=>(h hk).elim))
     ·have hw:¬ Region.wanted o (yielded ops a.tmps)=true:=fun h=>hk (hiff.2 ((qN hg _).1 h));rw [if_neg hw];exact next _ w _ F bs (hput w) Ext.refl (StRel.put hs hkd (fun h=>(hk h).elim) (fun _=>rfl))
end
end Go.Sx
namespace Go.Sx
open Go Go.RowKit
variable {P:Program}
variable {D:List Deferred}
structure MemWk (m m':Mem):Prop where
 len:m.length<=m'.length
 ent:∀ k T cs',nth m' k=some (some (T,cs'))->∃ cs,nth m k=some (some (T,cs))∧(je cs=true->cs'=cs)∧(je cs=false->je cs'=false∧∀ F w bs vs,All2 (CV.Rel F w bs) cs vs->All2 (CV.Rel F w bs) cs' vs)
theorem XQ {α:Type}:∀ {t:Tree α} {l:List Bool} {a:α},lin t=some (l,a)->(∀ b ∈ l,b=true)->t.sel=some a
 | .leaf x,l,a,h,_=>by simp [lin] at h;rw [h.2];rfl
 | .need c t, l, a, h, hl => by
   simp only [lin] at h;split at h
   ·rename_i l' a' h';simp at h;obtain ⟨rfl,rfl⟩:=h;simp only [Tree.sel,hl c (by simp),cond_true]
    exact XQ h' fun b hb=>hl b (by simp [hb])
   ·simp at h
 | .br _ _ _,_,_,h,_=>by simp [lin] at h
 | .fail,_,_,h,_=>by simp [lin] at h
theorem KT {α:Type}:∀ {l:List Bool} {t:Tree α} {x:α},(Wj l t).sel=some x->(∀ b ∈ l,b=true)∧t.sel=some x
 | [],t,x,h=>⟨by simp,h⟩
 | c :: l, t, x, h => by
   simp only [Wj,Tree.sel] at h;cases c
   ·simp at h
   ·simp only [cond_true] at h;obtain ⟨h1,h2⟩:=KT h;exact ⟨by simpa using h1,h2⟩
theorem BU {c:Bool} {l1 l2:List Bool} (h:∀ b ∈ Kh c l1 l2,b=true):(c=true->∀ b ∈ l1,b=true)∧(c=false->∀ b ∈ l2,b=true):=by
 refine ⟨fun hc b hb => ?_,fun hc b hb => ?_⟩
 ·have:=h (!c||b) (by unfold Kh;exact List.mem_append_left _ (List.mem_map_of_mem hb))
  subst hc;simpa using this
 ·have:=h (c||b) (by unfold Kh;exact List.mem_append_right _ (List.mem_map_of_mem hb))
  subst hc;simpa using this
theorem jcF {cs:List CV} (h:je cs=true):(∃ fz es n ρ,cs=[.row fz es n ρ])∨∃ f i st r,cs=.lp f i st::r:=by
 unfold je at h;split at h
 ·exact .inl ⟨_,_,_,_,rfl⟩
 ·exact .inr ⟨_,_,_,_,rfl⟩
 ·cases h
theorem Is {c:Bool} {a b:CV} {fz es n ρ} (h:Qi c a b=.row fz es n ρ):False:=by
 unfold Qi at h;split at h<;>(try split at h)<;>simp_all
theorem II {c:Bool} {a b:CV} {f i st} (h:Qi c a b=.lp f i st):False:=by
 unfold Qi at h;split at h<;>(try split at h)<;>simp_all
theorem Vs {c:Bool} {a b m:List CV} (h:yG c a b=some m):je m=false:=by
 cases hm:je m
 ·rfl
 ·have hn : ∃ x r, m = x :: r ∧ ((∃ fz es n ρ, x = .row fz es n ρ) ∨ ∃ f i st, x = .lp f i st) := by
   rcases jcF hm with ⟨fz,es,n,ρ,rfl⟩ | ⟨f,i,st,r,rfl⟩
   ·exact ⟨_,_,rfl,.inl ⟨_,_,_,_,rfl⟩⟩
   ·exact ⟨_,_,rfl,.inr ⟨_,_,_,rfl⟩⟩
  obtain ⟨x0,r0,rfl,hx⟩:=hn;cases a with
  | nil=>cases b<;>simp [yG] at h
  | cons x a =>
    cases b with
   | nil=>simp [yG] at h
   | cons y b =>
     simp only [yG] at h;split at h
     ·simp only [sIq,List.cons.injEq] at h;rcases hx with ⟨fz,es,n,ρ,rfl⟩ | ⟨f,i,st,rfl⟩
      ·exact (Is h.1).elim
      ·exact (II h.1).elim
     ·simp at h
theorem OQ {c:Bool} {a b m:List CV} (h:Wz c a b=some m):let s:=bif c then a else b;(je s=true->m=s)∧(je s=false->je m=false∧∀ F w bs vs,All2 (CV.Rel F w bs) s vs->All2 (CV.Rel F w bs) m vs):=by
 unfold Wz at h;split at h
 ·rename_i fz es n ρ fz' es' m' σ;split at h
  ·rename_i hh;simp only [aTq,beq_iff_eq] at hh;obtain ⟨rfl,he⟩:=hh;have he:=jj he;subst he;simp at h;subst h;cases c
   ·exact ⟨fun _=>rfl,fun h=>by simp [je] at h⟩
   ·exact ⟨fun _=>rfl,fun h=>by simp [je] at h⟩
  ·simp at h
 ·split at h
  ·simp at h
  ·rename_i hr;simp only [Bool.or_eq_true,not_or,Bool.not_eq_true] at hr;split at h
   ·rename_i m' hm;split at h
    ·simp at h;subst h;cases c
     ·refine ⟨fun hs => ?_,fun _=>⟨Vs hm,fun F w bs vs hv=>kT hm (fun h=>by cases h) (fun _=>hv)⟩⟩
      simp only [cond_false] at hs;rw [hr.2] at hs;cases hs
     ·refine ⟨fun hs => ?_,fun _=>⟨Vs hm,fun F w bs vs hv=>kT hm (fun _=>hv) (fun h=>by cases h)⟩⟩
      simp only [cond_true] at hs;rw [hr.1] at hs;cases hs
    ·simp at h
   ·simp at h
theorem Gt {K:Nat}:∀ {k:Nat} {r m:Mem},Bm K k r=some m->m.length=r.length∧∀ i e,nth m i=some e->e=none
 | k,[],m,h=>by simp [Bm] at h;subst h;exact ⟨rfl,fun i e h=>by simp [nth] at h⟩
 | k, a :: r, m, h => by
   simp only [Bm] at h;split at h
   ·simp at h
   ·split at h
    ·rename_i m' hm;simp at h;subst h;obtain ⟨h1,h2⟩:=Gt hm;refine ⟨by simp [h1],fun i e hi => ?_⟩
     cases i with
     | zero=>simp [nth] at hi;exact hi.symm
     | succ i=>exact h2 i e (by simpa [nth] using hi)
    ·simp at h
theorem jda {c : Bool} {a b e : Option (TypeId × List CV)} (h : Ip c a b = some e) {T : TypeId} {cs' : List CV} (he : e = some (T, cs')) :
  ∃ cs,(bif c then a else b)=some (T,cs)∧(je cs=true->cs'=cs)∧(je cs=false->je cs'=false∧∀ F w bs vs,All2 (CV.Rel F w bs) cs vs->All2 (CV.Rel F w bs) cs' vs):=by
 unfold Ip at h;split at h
 ·simp at h;subst h;cases he
 ·rename_i T1 cs1 T2 cs2;split at h
  ·rename_i ht;have ht:T1=T2:=by simpa using ht
   subst ht;split at h
   ·rename_i m hm;simp at h;subst h;simp only [sIq,pIq] at he;obtain ⟨rfl,rfl⟩:=he
    have:=OQ hm
    cases c
    ·exact ⟨cs2,rfl,this.1,this.2⟩
    ·exact ⟨cs1,rfl,this.1,this.2⟩
   ·simp at h
  ·simp at h
 ·simp at h
theorem ZN {c:Bool} {K:Nat}:∀ {k:Nat} {a b m:Mem},QE c K k a b=some m->MemWk (bif c then a else b) m
 | k, [], r, m, h => by
   simp only [QE] at h;obtain ⟨h1,h2⟩:=Gt h;refine ⟨by cases c<;>simp [h1],fun i T cs' hi => ?_⟩
   have:=h2 i _ hi
   cases this
 | k, a :: l, [], m, h => by
   simp only [QE] at h;obtain ⟨h1,h2⟩:=Gt h;refine ⟨by cases c<;>simp [h1],fun i T cs' hi => ?_⟩
   have:=h2 i _ hi
   cases this
 | k, a :: l, b :: r, m, h => by
   simp only [QE] at h;have cns:(bif c then a::l else b::r)=(bif c then a else b)::(bif c then l else r):=by cases c<;>rfl
   rw [cns];split at h
   ·rename_i e m' he hm;simp at h;subst h;have ih:=ZN hm;refine ⟨by simp [ih.len],fun i T cs' hi => ?_⟩
    cases i with
    | zero =>
      simp only [nth,sIq] at hi;obtain ⟨cs,h1,h2⟩:=jda he hi;exact ⟨cs,by simp [nth,h1],h2⟩
    | succ i =>
      obtain ⟨cs,h1,h2⟩:=ih.ent i T cs' (by simpa [nth] using hi)
      exact ⟨cs,by simpa [nth] using h1,h2⟩
   ·rename_i m' he hm;split at h
    ·simp at h
    ·simp at h;subst h;have ih:=ZN hm;refine ⟨by simp [ih.len],fun i T cs' hi => ?_⟩
     cases i with
     | zero=>simp [nth] at hi
     | succ i =>
       obtain ⟨cs,h1,h2⟩:=ih.ent i T cs' (by simpa [nth] using hi)
       exact ⟨cs,by simpa [nth] using h1,h2⟩
   ·simp at h
theorem MemRel.weak {F w bs m m'} (hm:MemRel P F w bs m) (h:MemWk m m'):MemRel P F w (bs++List.replicate (m'.length - m.length) ⟨w.heap.size,0,0⟩) m':=by
 have old:∀ k x,k<m.length->nth (bs++List.replicate (m'.length - m.length) ⟨w.heap.size,0,0⟩) k=some x->nth bs k=some x:=by
  intro k x hk hx;rw [jd,List.getElem?_append_left (by rw [hm.len];exact hk)] at hx
  rw [jd];exact hx
 have lv:∀ (x:BI) (cs cs':List CV),(je cs=true->cs'=cs)->(je cs=false->je cs'=false∧∀ F w bs vs,All2 (CV.Rel F w bs) cs vs->All2 (CV.Rel F w bs) cs' vs)->jC x cs'->jC x cs:=by
  intro x cs cs' h1 h2 hl;cases hr:je cs
  ·exact j7 hr
  ·rw [h1 hr] at hl;exact hl
 refine ⟨by simp [hm.len,h.len],fun k x T cs' hx hk hl => ?_,fun k k' x x' T cs T' cs' hx hx' hk hk' hl hl' e => ?_,fun k T cs' x hk hr hx => ?_,fun k T fz es n ρ x hk hx => ?_,fun k T f i st cs' x hk hx => ?_⟩
 ·obtain ⟨cs,h0,h1,h2⟩:=h.ent k T cs' hk;exact hm.loc k x T cs (old k x (jo h0) hx) h0 (lv x cs cs' h1 h2 hl)
 ·obtain ⟨ds,h0,h1,h2⟩:=h.ent k T cs hk;obtain ⟨ds',g0,g1,g2⟩:=h.ent k' T' cs' hk';exact hm.inj k k' x x' T ds T' ds' (old k x (jo h0) hx) (old k' x' (jo g0) hx') h0 g0 (lv x ds cs h1 h2 hl) (lv x' ds' cs' g1 g2 hl') e
 ·obtain ⟨cs,h0,h1,h2⟩:=h.ent k T cs' hk
  have hr0:je cs=false:=by
   cases hc:je cs
   ·rfl
   ·rw [h1 hc,hc] at hr;cases hr
  obtain ⟨vs,g1,g2⟩:=hm.cont k T cs x h0 hr0 (old k x (jo h0) hx);exact ⟨vs,g1,((h2 hr0).2 F w bs vs g2).imp fun _ _ hh=>hh.grow ⟨lRq _,fun _ _ h=>h,fun _ _ _=>rfl,fun _ _ h=>jY h⟩⟩
 ·obtain ⟨cs,h0,h1,h2⟩:=h.ent k T _ hk
  have hc:je cs=true:=by
   cases hc:je cs
   ·have:=(h2 hc).1;simp [je] at this
   ·rfl
  rw [← h1 hc] at h0;exact hm.row k T fz es n ρ x h0 (old k x (jo h0) hx)
 ·obtain ⟨cs,h0,h1,h2⟩:=h.ent k T _ hk
  have hc:je cs=true:=by
   cases hc:je cs
   ·have:=(h2 hc).1;simp [je] at this
   ·rfl
  rw [← h1 hc] at h0;exact (hm.lp k T f i st cs' x h0 (old k x (jo h0) hx)).grow ⟨lRq _,fun _ _ h=>h,fun _ _ _=>rfl,fun _ _ h=>jY h⟩ fun _=>rfl
theorem Ext.dummies {K F w bs} (d:Nat):Ext K F w bs F w (bs++List.replicate d ⟨w.heap.size,0,0⟩):=by
 refine ⟨lRq _,fun _ _ h=>h,fun _ h _ _=>h,fun _ _ _=>rfl,rfl,rfl,rfl,fun _ _ _ h=>jY h,fun x hx => ?_⟩;rcases List.mem_append.1 hx with h | h
 ·exact .inl ⟨x,h,rfl⟩
 ·rw [List.mem_replicate] at h;exact .inr (by rw [h.2];exact lRq _)
theorem FZ {F:Nat->Prop} {w:World} {bs r:List BI}:Grow F F bs (bs++r) w w:=⟨lRq _,fun _ _ h=>h,fun _ _ _=>rfl,fun _ _ h=>jY h⟩
theorem Vy {c:Bool}:∀ {a b m:List Slot},kU c a b=some m->m.length=(bif c then a else b).length∧∀ i sl,nth m i=some sl->sl.keys=[]∧∃ s0,nth (bif c then a else b) i=some s0∧(s0.keys=[]->∀ F w bs v,s0.v.Rel F w bs v->sl.v.Rel F w bs v)∧(s0.keys ≠ []->sl.v=.any)
 | [],[],m,h=>by simp [kU] at h;subst h;exact ⟨by cases c<;>rfl,fun i sl h=>by simp [nth] at h⟩
 | x :: a, y :: b, m, h => by
   simp only [kU] at h;split at h
   ·rename_i m' hm;simp at h;subst h;obtain ⟨h1,h2⟩:=Vy hm;have cns:(bif c then x::a else y::b)=(bif c then x else y)::(bif c then a else b):=by cases c<;>rfl
    rw [cns];refine ⟨by simp [h1],fun i sl hi => ?_⟩
    cases i with
    | zero =>
      simp only [nth,sIq] at hi;subst hi;unfold Oy;split
      ·rename_i k1 k2;refine ⟨rfl,_,rfl,fun _ F w bs v hv => ?_,fun hne => ?_⟩
       ·exact QG (fun hc=>by subst hc;exact hv) (fun hc=>by subst hc;exact hv)
       ·cases c
        ·exact (hne k2).elim
        ·exact (hne k1).elim
      ·exact ⟨rfl,_,rfl,fun _ F w bs v _=>trivial,fun _=>rfl⟩
    | succ i =>
      obtain ⟨g1,s0,g2,g3⟩:=h2 i sl (by simpa [nth] using hi)
      exact ⟨g1,s0,by simpa [nth] using g2,g3⟩
   ·simp at h
 | [],_::_,m,h=>by simp [kU] at h
 | _::_,[],m,h=>by simp [kU] at h
theorem jbQ {c : Bool} {K : Nat} {s1 s2 s : St} (h : L9 c K s1 s2 = some s) {F w bs} {a : Act} (hs : StRel P D F w bs (bif c then s1 else s2) a) :
  ∃ d,StRel P D F w (bs++List.replicate d ⟨w.heap.size,0,0⟩) s a:=by
 unfold L9 at h;split at h
 ·rename_i t m ht hm;simp at h;subst h;have wk:=ZN hm;have mcns:(bif c then s1.mem else s2.mem)=(bif c then s1 else s2).mem:=by cases c<;>rfl
  have tcns:(bif c then s1.tmps else s2.tmps)=(bif c then s1 else s2).tmps:=by cases c<;>rfl
  obtain ⟨hl,hsl⟩:=Vy ht;rw [mcns] at wk;rw [tcns] at hl hsl;refine ⟨_,hs.defers,by rw [hl];exact hs.len,fun i sl x hi hx => ?_,hs.mem.weak wk⟩
  obtain ⟨hk,s0,h0,h1,h2⟩:=hsl i sl hi;have hr:=hs.slots i s0 x h0 hx;refine ⟨fun _ => ?_,fun hn => ?_⟩
  ·by_cases hk0:s0.keys=[]
   ·exact AV.Rel.grow FZ (h1 hk0 _ _ _ _ (hr.1 (by rw [hk0];exact jw)))
   ·rw [h2 hk0];trivial
  ·rw [hk] at hn;exact (hn jw).elim
 ·simp at h
theorem jhR {j c : Bool} {K : Nat} {t e : Tree (XE × St)} {x : XE × St} (h : (kS j c K t e).sel = some x) :
  ∃ y,(bif c then t else e).sel=some y∧x.1=y.1∧∀ {F w bs} {a:Act},StRel P D F w bs y.2 a->∃ d,StRel P D F w (bs++List.replicate d ⟨w.heap.size,0,0⟩) x.2 a:=by
 have plain:(Tree.br c t e).sel=some x->∃ y,(bif c then t else e).sel=some y∧x.1=y.1∧∀ {F w bs} {a:Act},StRel P D F w bs y.2 a->∃ d,StRel P D F w (bs++List.replicate d ⟨w.heap.size,0,0⟩) x.2 a:=by
  intro h;simp only [Tree.sel] at h;refine ⟨x,?_,rfl,fun hs=>⟨0,by simpa using hs⟩⟩
  cases c<;>exact h
 unfold kS at h;split at h
 ·split at h
  ·rename_i l1 s1 l2 s2 h1 h2;split at h
   ·rename_i s hs;obtain ⟨hb,hx⟩:=KT h;simp only [Tree.sel,sIq] at hx;subst hx;obtain ⟨b1,b2⟩:=BU hb;refine ⟨(.normal,bif c then s1 else s2),?_,rfl,fun hr=>jbQ hs hr⟩;cases c
    ·exact XQ h2 (b2 rfl)
    ·exact XQ h1 (b1 rfl)
   ·exact plain h
  ·exact plain h
 ·exact plain h
def WkR (P:Program) (K:Nat) (x y:AV × Mem):Prop:=∀ F w bs v,K<=bs.length->MemRel P F w bs x.2->x.1.Rel F w bs v->∃ F' bs',Ext K F w bs F' w bs'∧MemRel P F' w bs' y.2∧y.1.Rel F' w bs' v
theorem WkR.refl {K:Nat} {x:AV × Mem}:WkR P K x x:=fun F _ bs _ _ hm hr=>⟨F,bs,Ext.refl,hm,hr⟩
theorem WkR.trans {K:Nat} {x y z:AV × Mem} (h:WkR P K x y) (g:WkR P K y z):WkR P K x z:=fun F w bs v hK hm hr=>by
 obtain ⟨F1,b1,e1,m1,r1⟩:=h F w bs v hK hm hr;obtain ⟨F2,b2,e2,m2,r2⟩:=g F1 w b1 v (e1.le hK) m1 r1;exact ⟨F2,b2,e1.trans e2 (lRq _),m2,r2⟩
theorem Zo {K:Nat}:∀ {t:Tree (AV × Mem)} {x:AV × Mem},(ky K t).sel=some x->∃ y,t.sel=some y∧WkR P K y x
 | .leaf a,x,h=>⟨x,h,WkR.refl⟩
 | .fail,x,h=>by simp [ky,Tree.sel] at h
 | .need c t, x, h => by
   simp only [ky,Tree.sel] at h ⊢;cases c
   ·simp at h
   ·exact Zo (t:=t) h
 | .br c t e, x, h => by
   have plain:(Tree.br c (ky K t) (ky K e)).sel=some x->∃ y,(Tree.br c t e).sel=some y∧WkR P K y x:=by
    intro h;simp only [Tree.sel] at h ⊢;cases c
    ·exact Zo (t:=e) h
    ·exact Zo (t:=t) h
   simp only [ky] at h;split at h
   ·rename_i l1 r1 m1 l2 r2 m2 h1 h2;split at h
    ·rename_i m hm;split at h
     ·exact plain h
     ·obtain ⟨hb,hx⟩:=KT h;simp only [Tree.sel,sIq] at hx;subst hx;obtain ⟨b1,b2⟩:=BU hb;have wk:=ZN hm
      have last:∀ y:AV × Mem,y.2=(bif c then m1 else m2)->(∀ F w bs v,y.1.Rel F w bs v->(Qg c r1 r2).Rel F w bs v)->WkR P K y (Qg c r1 r2,m):=by
       intro y hy hv F w bs v hK hm' hr;rw [← hy] at wk;exact ⟨F,_,Ext.dummies _,hm'.weak wk,AV.Rel.grow FZ (hv _ _ _ _ hr)⟩
      simp only [Tree.sel];cases c
      ·obtain ⟨y,hy,hw⟩:=Zo (t:=e) (XQ h2 (b2 rfl));exact ⟨y,hy,hw.trans (last _ rfl fun F w bs v hv=>QG (fun h=>by cases h) (fun _=>hv))⟩
      ·obtain ⟨y,hy,hw⟩:=Zo (t:=t) (XQ h1 (b1 rfl));exact ⟨y,hy,hw.trans (last _ rfl fun F w bs v hv=>QG (fun _=>hv) (fun h=>by cases h))⟩
    ·exact plain h
   ·exact plain h
theorem ZB {F w bs mem} (hm : MemRel P F w bs mem) {x : AV} {v : Value} (h : AV.Rel F w bs x v) :
  ∃ F',Ext bs.length F w bs F' w bs∧MemRel P F' w bs (ze mem x).1∧AV.Rel F' w bs (ze mem x).2 v:=by
 cases x with
 | any=>exact ⟨F,Ext.refl,hm,trivial⟩
 | one a=>exact MW hm h
 | tup l =>
   obtain ⟨vs,rfl,h⟩:=h;obtain ⟨F',e,m,r⟩:=Jr hm h;exact ⟨F',e,m,vs,rfl,r⟩
theorem AV.Rel.closed {F w bs} {x:AV} {v:Value} (h:AV.Rel F w bs x v) {bs'} (hc:aw x=true):AV.Rel F w bs' x v:=by
 cases x with
 | any=>trivial
 | one a=>exact A1.Rel.closed h hc
 | tup l =>
   obtain ⟨vs,rfl,h⟩:=h;refine ⟨vs,rfl,?_⟩;simp only [aw,List.all_eq_true] at hc
   induction h with
  | nil=>exact .nil
  | cons h _ ih=>exact .cons (h.closed (hc _ (by simp))) (ih fun x hx=>hc x (by simp [hx]))
theorem zb {α:Type} {l:List α} {K k:Nat} {x:α} (h:nth (l.take K) k=some x):k<K∧nth l k=some x:=by
 rw [jd] at h ⊢;rw [List.getElem?_take] at h;split at h
 ·exact ⟨by assumption,h⟩
 ·cases h
theorem qS {α:Type} {l:List α} {K k:Nat} {x:α} (hk:k<K) (h:nth l k=some x):nth (l.take K) k=some x:=by
 rw [jd] at h ⊢;rw [List.getElem?_take,if_pos hk];exact h
theorem CV.Rel.under {F w bs x v} (h:CV.Rel F w bs x v) {K:Nat} (hu:kf K x=true):CV.Rel F w (bs.take K) x v:=by
 cases x with
 | ptr b o =>
   simp only [kf] at hu;cases h with
  | ptr h=>exact .ptr (qS (by simpa using hu) h)
 | os b sz =>
   simp only [kf] at hu;cases h with
  | os h h0=>exact .os (qS (by simpa using hu) h) h0
 | rowp b sz i off =>
   simp only [kf] at hu;cases h with
  | rowp h h0=>exact .rowp (qS (by simpa using hu) h) h0
 | yld b =>
   simp only [kf] at hu;cases h with
  | yld h=>exact .yld (qS (by simpa using hu) h)
 | row _ _ _ _=>cases h
 | lp _ _ _=>cases h
 | ost _ _ _=>simp [kf,closedC] at hu
 | osh _ _ _=>simp [kf,closedC] at hu
 | oc _ _ _=>simp [kf,closedC] at hu
 | mp _ _=>simp [kf,closedC] at hu
 | any=>exact h.closed hu
 | bool _=>exact h.closed hu
 | int _ _=>exact h.closed hu
 | str _=>exact h.closed hu
 | nilp=>exact h.closed hu
 | rop _ _ _=>exact h.closed hu
 | nils=>exact h.closed hu
 | sl _ _ _=>exact h.closed hu
 | fn _ _ _=>exact h.closed hu
 | nilf=>exact h.closed hu
 | nili=>exact h.closed hu
 | iface _ _=>exact h.closed hu
 | ifa _ _=>exact h.closed hu
 | ifx _=>exact h.closed hu
theorem MemRel.take {F w bs m} (hm:MemRel P F w bs m) {K:Nat} (hu:∀ k T cs,k<K->nth m k=some (some (T,cs))->cs.all (kf K)=true):MemRel P F w (bs.take K) (m.take K):=by
 refine ⟨by simp [hm.len],fun k x T cs hx hk hl => ?_,fun k k' x x' T cs T' cs' hx hx' hk hk' hl hl' e => ?_,fun k T cs x hk hr hx => ?_,fun k T fz es n ρ x hk hx => ?_,fun k T f i st cs x hk hx => ?_⟩
 ·exact hm.loc k x T cs (zb hx).2 (zb hk).2 hl
 ·exact hm.inj k k' x x' T cs T' cs' (zb hx).2 (zb hx').2 (zb hk).2 (zb hk').2 hl hl' e
 ·obtain ⟨vs,g1,g2⟩:=hm.cont k T cs x (zb hk).2 hr (zb hx).2;refine ⟨vs,g1,?_⟩;have hu':=hu k T cs (zb hk).1 (zb hk).2;clear hk hr g1 hu
  induction g2 with
  | nil=>exact .nil
  | cons h _ ih =>
    simp only [List.all_cons,aTq] at hu';exact .cons (h.under hu'.1) (ih hu'.2)
 ·exact hm.row k T fz es n ρ x (zb hk).2 (zb hx).2
 ·have hu':=hu k T _ (zb hk).1 (zb hk).2;simp only [List.all_cons,aTq,List.all_eq_true] at hu';exact (hm.lp k T f i st cs x (zb hk).2 (zb hx).2).cells rfl fun j c hc ha=>⟨c,hc,ha,fun _ h=>h.under (hu'.2 c (jH hc))⟩
theorem jcQ (K:Nat) (y:AV × Mem):WkR P K y (Ib K y):=by
 intro F w bs v hK hm hr;unfold Ib;obtain ⟨F',e,m',r'⟩:=ZB hm hr;generalize ze y.2 y.1=z at m' r';simp only;split
 ·rename_i m ht;split
  ·rename_i hc;simp only [aTq,List.all_eq_true] at hc;obtain ⟨rfl,hlen⟩:=kW ht;refine ⟨F',bs.take K,(e.weak hK).trans (K':=K) ⟨lRq _,fun _ _ h=>h,fun _ h _ _=>h,fun _ _ _=>rfl,rfl,rfl,rfl,fun k x hk hx=>qS hk hx,fun x hx=>.inl ⟨x,List.mem_of_mem_take hx,rfl⟩⟩ (lRq _),m'.take fun k T cs hk hn => ?_,r'.closed hc.1⟩
   have:=hc.2 (some (T,cs)) (jH (qS hk hn))
   simpa [ZV] using this
  ·exact ⟨F,bs,Ext.refl,hm,hr⟩
 ·exact ⟨F,bs,Ext.refl,hm,hr⟩
theorem jdQ {j:Bool} {K:Nat} {t:Tree (AV × Mem)} {x:AV × Mem} (h:(joined j K t).sel=some x):∃ y,t.sel=some y∧WkR P K y x:=by
 unfold joined at h;split at h
 ·obtain ⟨y,hy,hw⟩:=Zo h;obtain ⟨z,hz,he⟩:=jg hy;simp only [Tree.sel,sIq] at he;subst he;exact ⟨z,hz,(jcQ K z).trans hw⟩
 ·exact ⟨x,h,WkR.refl⟩
end Go.Sx
namespace Go.Sx
open Go Go.RowKit
variable {P:Program} {D:List Deferred}
def FW (l:Option Nat):Fence:={ Fence.wide with round:=l }
theorem HI {l:Option Nat} {n:Nat} {f:FuncId} {args:Array Value} {w:World} {R:Ending->World->Prop}:CallsIn (FW l) n P f args w R↔Calls P f args w R :=
 ⟨fun h=>(callsIn_wide (n:=n)).1 ⟨trivial,fun cs hr=>h.2 cs hr⟩,fun h=>⟨trivial,fun cs hr=>((callsIn_wide (n:=n)).2 h).2 cs hr⟩⟩
theorem jbu {l:Option Nat} {n m:Nat} {b:Nat} {f:FuncId} {tmps:Array Value} {assign body:Code} {w:World} {R:Ending->World->Prop} (h:RoundIn Fence.wide m P b f tmps assign body w R):RoundIn (FW l) n P b f tmps assign body w R :=
 ⟨trivial,fun c cs _=>h.2 c cs (room_wide _)⟩
theorem jdS {l:Option Nat} {n:Nat} {row:String} {args:Array Value} {w:World} {R:Value->World->Prop} (h:Rows P row args w R):RowsIn (FW l) n P row args w R :=
 fun c cs _=>let ⟨v,w',r,s⟩:=h c cs;⟨v,w',r,stepsIn_wide.2 s⟩
theorem BH {o:Oper} (h:zK o.op=true):∀ c,o.op ≠ .defer c:=by
 intro c e;rw [e] at h;simp [zK] at h
theorem y9 {l:Option Nat} {n:Nat} {o:Oper} {a:Act} {w:World} {K:Act->World->Prop} {Q:Exit->Act->World->Prop} (hd:zK o.op=true) (h:o.wp P a w K Q):o.wpIn (FW l) n P a w K Q:=by
 refine ⟨fun _ _=>trivial,?_⟩;rw [Oper.semAt_eq _ _ _ (BH hd)];unfold Oper.wp at h;generalize (execOp a.eval o).run P w=r at h;cases r with
 | ok x w' =>
   cases x with
  | value v=>exact h
  | skip=>exact h
  | defer d=>exact h
  | enter f args=>exact ⟨fun hd=>by simp [FW,Fence.wide] at hd,HI.2 h⟩
  | row row args=>exact ⟨fun hd=>by simp [FW,Fence.wide] at hd,jdS h⟩
  | _=>exact h.elim
 | halt x w' =>
   cases x with
  | panic v=>exact h
  | _=>exact h.elim
theorem OU {l : Option Nat} {n : Nat} {o : Oper} {a : Act} {w w' : World} {K : Act -> World -> Prop} {Q : Exit -> Act -> World -> Prop} (hd : zK o.op = true) {b f : Nat} {tmps : Array Value} {as body : Code}
  (hrun:(execOp a.eval o).run P w=.ok (.round b f tmps as body) w') {R:Ending->World->Prop} (h:RoundIn Fence.wide (n - 1) P b f tmps as body w' R) (hR:∀ e w',R e w'->∃ v,e=.returned v∧K (a.put o.dst v) w') :
  o.wpIn (FW l) n P a w K Q:=by
 refine ⟨fun _ _=>trivial,?_⟩;rw [Oper.semAt_eq _ _ _ (BH hd),hrun];refine ⟨fun hd=>by simp [FW,Fence.wide] at hd,jbu (RoundIn.mono h fun e w' he => ?_)⟩
 obtain ⟨v,rfl,hk⟩:=hR e w' he;exact hk
theorem kQ {l : Option Nat} {n : Nat} {md : Region.Mode} {ops : Array Oper} {Q : Exit -> Act -> World -> Prop} (hd : ops.toList.all (fun o => zK o.op) = true) (hQ : ¬ LetsOut Q) :
  ∀ (fuel:Nat) (listed:Array Bool) (a:Act) (w:World),wpAny P md ops Q fuel listed a w->wpAnyIn (FW l) n P md ops Q fuel listed a w
 | 0,_,_,_,h=>h
 | fuel + 1, listed, a, w, h => by
   refine ⟨h.1,fun i hi => ?_⟩
   have:=h.2 i hi
   unfold wpOp at this;unfold wpOpIn;cases ho:ops[i]? with
  | none =>
    rw [ho] at this;exact kQ hd hQ fuel _ _ _ this
  | some o =>
    simp only [ho] at this;simp only
    have hd':zK o.op=true:=by
     rw [List.all_eq_true] at hd;exact hd o (by rw [Array.mem_toList_iff];exact Array.mem_of_getElem? ho)
    split
    ·rename_i hw;rw [if_pos hw] at this;rcases this with this | this
     ·exact Oper.wpIn_mono (fun a w hk=>kQ hd hQ fuel _ a w hk) (y9 hd' this)
     ·exact (hQ this.2).elim
    ·rename_i hw;rw [if_neg hw] at this;exact ⟨fun _ _=>trivial,kQ hd hQ fuel _ _ _ this⟩
def jbb (Q:Exit->Act->World->Prop):Exit->Act->World->Prop
 | .outgrown,_,_=>False
 | e,a,w=>Q e a w
theorem jeX {Q:Exit->Act->World->Prop}:¬ LetsOut (jbb Q):=fun ⟨_,_,h⟩=>h
theorem jiN {Q:Exit->Act->World->Prop} {e:Exit} {a:Act} {w:World} (h:jbb Q e a w):Q e a w:=by
 cases e<;>first | exact h | exact h.elim
theorem jdM {H : Hd} {call : jt} (hpc : SumOk P H) (hcall : CallOk P call) {l : Option Nat} {n id : Nat} {ops : Array Oper} (hd0 : ops.toList.all (fun o => zK o.op) = true) (hm : P.follows .mixedOrders = true) {s s' : St} {is : List kq} (h : (Ze P H call ops.toList ops.toList s).sel = some (s', is)) (hd : Qj ops.toList is = true)
  (h0:∀ sl ∈ s.tmps,sl.keys=[]) {F:Nat->Prop} {w:World} {bs:List BI} {a:Act} (hs:StRel P D F w bs s a) {Q:Exit->Act->World->Prop}
  (hQ:∀ F' w' bs' a',Ext bs.length F w bs F' w' bs'->StRel P D F' w' bs' s' a'->Q .normal a' w'):(Code.region id ops true).wpIn (FW l) n P Q a w:=by
 obtain ⟨p,e0,en⟩:=jkv h hd h0;have hb:Below w.heap.size w { w with drawn:=w.drawn+1 }:=Below.drew (Below.refl _ _)
 refine wpIn_mono (Q:=jbb Q) (wpIn_region_any hm (kQ hd0 jeX _ _ _ _ (jew (Q:=jbb Q) (F0:=F) (w0:=w) (bs0:=bs) hpc hcall rfl p (fun F' w' bs' a' he hs'=>hQ F' w' bs' a' he (en▸hs')) _ _ _ _ s F bs (by simp) ?_ ?_ ?_ (Ext.of_below hb) (hs.below hb)))) fun _ _ _=>jiN
 ·simpa using List.countP_le_length (p:=fun b=>!b) (l:=List.replicate ops.size false)
 ·intro j o _ hl;unfold Lof at hl;simp [Array.getElem?_replicate] at hl;split at hl<;>simp at hl
 ·have:=Hq p 0 (Nat.zero_le _)
  rw [e0] at this;refine this.congr fun k hk=>⟨fun h=>by omega,fun hl => ?_⟩
  unfold Lof at hl;simp [Array.getElem?_replicate] at hl;split at hl<;>simp at hl
end Go.Sx