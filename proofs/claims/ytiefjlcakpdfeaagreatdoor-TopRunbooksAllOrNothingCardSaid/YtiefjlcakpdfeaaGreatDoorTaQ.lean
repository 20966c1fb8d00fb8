/-
 Part TaQ of the proof: EngPc EngPp EngPq EngPr EngPs.
-/
import Derived.Test.YtiefjlcakpdfeaaGreatDoorTaP
namespace Go.Sx
open Go Go.RowKit
variable {P:Program}
structure PRel (P:Program) (F:Nat->Prop) (w:World) (bs:List BI) (s:StP) (a:Act):Prop where
 st:StRel P a.defers F w bs s.s a
 ds:DsRel F w bs s.dl a.defers
def XRel (F:Nat->Prop) (w:World) (bs:List BI):XP->Exit->Prop
 | .normal,e=>e=.normal
 | .exit k,e=>e=.exit k
 | .ret,e=>e=.ret
 | .goto l,e=>e=.goto l
 | .pan x,e=>∃ v,e=.panic [{ v,recovered:=false }]∧x.Rel F w bs v
theorem StRel.setD {D D' F w bs s} {a:Act} (h:StRel P D F w bs s a):StRel P D' F w bs s { a with defers:=D' }:=⟨rfl,h.len,h.slots,h.mem⟩
theorem StRel.toP {D F w bs} {s:St} {dl:List CV} {a:Act} (h:StRel P D F w bs s a) (hd:DsRel F w bs dl D):PRel P F w bs ⟨s,dl⟩ a:=by
 have e:=h.defers;subst e;exact ⟨h,hd⟩
theorem Ju {H : Hd} (hpc : SumOk P H) {X : HdP} (hrx : Vg P X.rx) {call : jt} (hcall : CallOk P call) {callP : qQ} (hcallP : CallPOk P X callP) {ops : Array Oper} {Q : Exit -> Act -> World -> Prop} {x : XP} {s' : StP} : ∀ (l : List Oper) (s : StP) {F : Nat -> Prop} {w : World} {bs : List BI} {a : Act},
  (Q3 P H X call callP ops.toList l s).sel=some (x,s')->PRel P F w bs s a->(∀ F' w' bs' a' e,Ext bs.length F w bs F' w' bs'->PRel P F' w' bs' s' a'->XRel F' w' bs' x e->Q e a' w')->wpList P ops Q l a w
 | [], s, F, w, bs, a, h, hs, hQ => by
   simp only [Q3,Tree.sel,sIq,pIq] at h;obtain ⟨rfl,rfl⟩:=h;exact wpList_nil (hQ F w bs a _ Ext.refl hs rfl)
 | o :: r, s, F, w, bs, a, h, hs, hQ => by
   simp only [Q3] at h;split at h
   ·rename_i hg;obtain ⟨⟨rv,mem',dl'⟩,h1,h2⟩:=jg h;refine wpList_plain hg fun K hK=>jfY hpc hrx hcall hcallP hs.st hs.ds h1 (fun F' w' bs' v av D' hrv hext hm hr hd=>hK _ _ ?_) (fun F' w' bs' v y hrv hext hm hr hd => ?_)
    ·subst hrv;have hst:StRel P D' F' w' bs' { s.s with mem:=mem' } { a with defers:=D' }:=(hs.st.ext hext hm).setD
     exact Ju hpc hrx hcall hcallP r _ h2 ((StRel.put hst (ks:=[]) (fun _ hp=>by cases hp) (fun _=>hr) (fun h=>(h jw).elim)).toP hd) fun F'' w'' bs'' a'' e he hs'' hx=>hQ _ _ _ _ _ (hext.trans he hext.le) hs'' hx
    ·subst hrv;simp only [Tree.sel,sIq,pIq] at h2;obtain ⟨rfl,rfl⟩:=h2;exact hQ F' w' bs' a _ hext ⟨hs.st.ext hext hm,hd⟩ ⟨v,rfl,hr⟩
   ·rename_i j b hg;split at h
    ·rename_i K hkeys;split at h
     ·simp [Tree.sel] at h
     rename_i hdst;simp only [Bool.not_eq_true] at hdst
     have hkd:∀ p ∈ K,some p.1 ≠ o.dst:=by
      intro p hp e;rw [List.any_eq_false] at hdst;exact hdst p hp (by simp [e])
     have hiff:=XN hs.st hkeys;split at h
     ·rename_i hq;obtain ⟨⟨rv,mem'⟩,h1,h2⟩:=jg h;refine wpList_step fun KK hKK => ?_;by_cases hk:KH a K
      ·have hw:Region.wanted o (yielded ops a.tmps)=true:=(qN hg _).2 (hiff.1 hk);rw [if_pos hw];have h1':=Q2 h1 (Zn hs.st hk);have hρ:∀ K' x av,KH a K'->zp s.s (K'++K) x=some av->av.Rel F w bs (a.eval x):=fun K' x av hk' hh=>qo hs.st (fun p hp=>(List.mem_append.1 hp).elim (hk' p) (hk p)) hh;have hme:=ZZ (ρ:=fun K'=>zp s.s (K'++K)) hpc hs.st.mem hρ hq h1';subst hme;refine Je hpc hcall hs.st.mem hρ h1' fun F' w' bs' v hext hm hr=>hKK _ _ ?_;exact Ju hpc hrx hcall hcallP r _ h2 ((StRel.put (hs.st.ext hext hm) hkd (fun _=>hr) (fun h=>(h hk).elim)).toP (hs.ds.grow hext.grow)) fun F'' w'' bs'' a'' e he hs'' hx=>hQ _ _ _ _ _ (hext.trans he hext.le) hs'' hx
      ·have hw:¬ Region.wanted o (yielded ops a.tmps)=true:=fun h=>hk (hiff.2 ((qN hg _).1 h));rw [if_neg hw];exact hKK _ _ (Ju hpc hrx hcall hcallP r _ h2 ((StRel.put hs.st hkd (fun h=>(hk h).elim) (fun _=>rfl)).toP hs.ds) hQ)
     ·split at h
      ·rename_i g hgd;have hgk:=LK hs.st hgd;simp only [Tree.sel] at h;refine wpList_step fun KK hKK => ?_;by_cases hk:KH a K
       ·have hw:Region.wanted o (yielded ops a.tmps)=true:=(qN hg _).2 (hiff.1 hk);rw [if_pos hw];rw [hgk.2 hk,cond_true] at h;obtain ⟨⟨rv,mem'⟩,h1,h2⟩:=jg h;have hρ:∀ K' x av,KH a K'->zp s.s (K'++K) x=some av->av.Rel F w bs (a.eval x):=fun K' x av hk' hh=>qo hs.st (fun p hp=>(List.mem_append.1 hp).elim (hk' p) (hk p)) hh;refine Je hpc hcall hs.st.mem hρ h1 fun F' w' bs' v hext hm hr=>hKK _ _ ?_;exact Ju hpc hrx hcall hcallP r _ h2 ((StRel.put (hs.st.ext hext hm) (fun _ hp=>by cases hp) (fun _=>hr) (fun h=>(h jw).elim)).toP (hs.ds.grow hext.grow)) fun F'' w'' bs'' a'' e he hs'' hx=>hQ _ _ _ _ _ (hext.trans he hext.le) hs'' hx
       ·have hw:¬ Region.wanted o (yielded ops a.tmps)=true:=fun h=>hk (hiff.2 ((qN hg _).1 h));rw [if_neg hw];have hg0:g=false:=by cases hgv:g;rfl;exact (hk (hgk.1 hgv)).elim
        rw [hg0,cond_false] at h;exact hKK _ _ (Ju hpc hrx hcall hcallP r _ h ((StRel.put hs.st hkd (fun h=>(hk h).elim) (fun _=>rfl)).toP hs.ds) hQ)
      ·simp [Tree.sel] at h
    ·simp [Tree.sel] at h
end Go.Sx
namespace Go.Sx
open Go Go.RowKit
structure APlan (all:List Oper) where
 st:Nat->St
 rs:Nat->AV
 T:Nat->Touch
 K:Nat->List (Nat × Bool)
 anc:Nat->Nat->Prop
 put:∀ i o,all[i]? = some o->(st (i+1)).tmps=((st i).put0 o.dst (K i) (rs i)).tmps
 same1:∀ i l,i<all.length->¬ (T i).wr l->obs (st (i+1)).mem l=obs (st i).mem l
 start:∀ sl ∈ (st 0).tmps,sl.keys=[]
 edges:∀ i o,all[i]? = some o->∀ e ∈ o.after,Region.binds .any e=true->e.on<i
 dsts:∀ (i j:Nat) (o o':Oper) (d:Tmp),all[i]? = some o->all[j]? = some o'->o.dst=some d->o'.dst=some d->i=j
 tmps:∀ (j:Nat) (o:Oper) (t:Tmp),all[j]? = some o->t ∈ tmpsIn o.op.operands.toList->(∃ (i:Nat) (oi:Oper),all[i]? = some oi∧oi.dst=some t∧(anc i j∨anc j i∨i=j))∨(∀ (i:Nat) (oi:Oper),all[i]? = some oi->oi.dst ≠ some t)
 guards:∀ (j:Nat) (o:Oper) (g:Nat) (b:Bool),all[j]? = some o->o.guard=some (g,b)->anc g j
 keys:∀ (j:Nat) (o:Oper) p,all[j]? = some o->p ∈ K j->∃ (i:Nat) (oi:Oper),all[i]? = some oi∧oi.dst=some p.1∧anc i j
 touch:∀ i j l,i<j->j<all.length->(T i).wr l∧(T j).at l∨(T i).at l∧(T j).wr l->anc i j
 lt:∀ i j,anc i j->i<j
 down:∀ (L N:Nat->Prop),(∀ j o,all[j]? = some o->N j->∀ e ∈ o.after,Region.binds .any e=true->L e.on)->(∀ j,L j->N j)->∀ i j,anc i j->N j->L i
variable {all:List Oper}
structure JA (p:APlan all) (L:Nat->Prop) (s:St):Prop where
 len:s.tmps.length=(p.st 0).tmps.length
 slots:∀ (i:Nat) (o:Oper) (d:Tmp),all[i]? = some o->o.dst=some d->(L i->nth s.tmps d=nth (jk (p.st 0).tmps d ⟨p.K i,p.rs i⟩) d)∧(¬ L i->nth s.tmps d=nth (p.st 0).tmps d)
 free:∀ d:Nat,(∀ (i:Nat) (o:Oper),all[i]? = some o->o.dst ≠ some d)->nth s.tmps d=nth (p.st 0).tmps d
 mem:∀ l,∃ i,i<=all.length∧obs s.mem l=obs (p.st i).mem l∧∀ k,k<all.length->(p.T k).wr l->(L k↔k<i)
theorem JA.put {p : APlan all} {L : Nat -> Prop} {s s1 : St} (h : JA p L s) {j : Nat} {o : Oper} (ho : all[j]? = some o) (ht : s1.tmps = (s.put0 o.dst (p.K j) (p.rs j)).tmps)
  (hm:∀ l,∃ i,i<=all.length∧obs s1.mem l=obs (p.st i).mem l∧∀ k,k<all.length->(p.T k).wr l->((L k∨k=j)↔k<i)):JA p (fun k=>L k∨k=j) s1:=by
 refine ⟨?_,fun i oi d hi hd => ?_,fun d hd => ?_,hm⟩
 ·rw [ht,← h.len];cases o.dst<;>simp [St.put0,jy]
 ·by_cases hij:i=j
  ·subst hij;rw [ho] at hi;simp at hi;subst hi;refine ⟨fun _ => ?_,fun hn=>(hn (.inr rfl)).elim⟩;rw [ht,hd];exact Vw h.len
  ·have hne:o.dst ≠ some d:=fun e=>hij (p.dsts i j oi o d hi ho hd e);rw [ht,YO hne];exact ⟨fun hl=>(h.slots i oi d hi hd).1 (hl.resolve_right hij),fun hn=>(h.slots i oi d hi hd).2 fun hl=>hn (.inl hl)⟩
 ·rw [ht,YO (hd j o ho)];exact h.free d hd
theorem JA.congr {p:APlan all} {L L':Nat->Prop} {s:St} (h:JA p L s) (hl:∀ k,k<all.length->(L k↔L' k)):JA p L' s:=by
 refine ⟨h.len,fun i o d hi hd => ?_,h.free,fun l => ?_⟩
 ·have:=hl i (qs hi)
  exact ⟨fun x=>(h.slots i o d hi hd).1 (this.2 x),fun x=>(h.slots i o d hi hd).2 fun y=>x (this.1 y)⟩
 ·obtain ⟨i,h1,h2,h3⟩:=h.mem l;exact ⟨i,h1,h2,fun k hk hw=>(hl k hk).symm.trans (h3 k hk hw)⟩
theorem Qn {p:APlan all} {l i:Nat}:∀ (d:Nat),i+d<=all.length->(∀ k,i<=k->k<i+d->¬ (p.T k).wr l)->obs (p.st (i+d)).mem l=obs (p.st i).mem l
 | 0,_,_=>rfl
 | d + 1, hd, h => by
   rw [← Nat.add_assoc,p.same1 _ _ (by omega) (h (i+d) (by omega) (by omega))]
   exact Qn d (by omega) fun k h1 h2=>h k h1 (by omega)
theorem XK (p:APlan all):∀ j,j<=all.length->JA p (fun k=>k<j) (p.st j)
 | 0,_=>⟨rfl,fun i o d _ _=>⟨fun h=>by omega,fun _=>rfl⟩,fun _ _=>rfl,fun l=>⟨0,by omega,rfl,fun k _ _=>by simp⟩⟩
 | j + 1, hj => by
   have ho:all[j]? = some all[j]:=gEq (by omega)
   have hs:=p.put j _ ho;have h:=XK p j (by omega)
   have:=h.put ho (s1:=p.st (j+1)) hs fun l=>⟨j+1,hj,rfl,fun k _ _=>by omega⟩
   exact this.congr fun k hk=>by omega
theorem JA.same {p : APlan all} {L : Nat -> Prop} {s : St} (h : JA p L s) {j : Nat} {o : Oper} (ho : all[j]? = some o) (hd : ∀ i, p.anc i j -> L i) (hL : ∀ i k, p.anc i k -> L k -> L i) (hj : ¬ L j) :
  (∀ t ∈ tmpsIn o.op.operands.toList,nth s.tmps t=nth (p.st j).tmps t)∧(∀ (i:Nat) (oi:Oper) (d:Tmp),all[i]? = some oi->oi.dst=some d->p.anc i j->nth s.tmps d=nth (p.st j).tmps d) ∧
  (∀ l,(p.T j).at l->obs s.mem l=obs (p.st j).mem l):=by
 have hjl:=qs ho;have ht:=XK p j (by omega)
 have hs:∀ (i:Nat) (oi:Oper) (d:Tmp),all[i]? = some oi->oi.dst=some d->p.anc i j->nth s.tmps d=nth (p.st j).tmps d:=by
  intro i oi d hi hdd ha;rw [(h.slots i oi d hi hdd).1 (hd i ha),(ht.slots i oi d hi hdd).1 (p.lt i j ha)]
 refine ⟨fun t htt => ?_,hs,fun l hl => ?_⟩
 ·rcases p.tmps j o t ho htt with ⟨i,oi,hi,hdd,ha | ha | rfl⟩ | hf
  ·exact hs i oi t hi hdd ha
  ·rw [(h.slots i oi t hi hdd).2 (fun hl=>hj (hL _ _ ha hl)),(ht.slots i oi t hi hdd).2 (by have:=p.lt j i ha;omega)]
  ·rw [(h.slots i oi t hi hdd).2 hj,(ht.slots i oi t hi hdd).2 (by omega)]
  ·rw [h.free t hf,ht.free t hf]
 ·obtain ⟨i,hi,hob,hth⟩:=h.mem l;rw [hob];rcases Nat.le_total i j with hij | hij
  ·have := Qn (p := p) (l := l) (i := i) (j - i) (by omega) fun k h1 h2 hw => by
    have hk:k<j:=by omega
    have ha:=p.touch k j l hk hjl (.inl ⟨hw,hl⟩)
    have:=(hth k (by omega) hw).1 (hd k ha)
    omega
   rw [show i+(j - i)=j by omega] at this
   exact this.symm
  ·have := Qn (p := p) (l := l) (i := j) (i - j) (by omega) fun k h1 h2 hw => by
    have hlk:=(hth k (by omega) hw).2 (by omega)
    rcases Nat.lt_or_eq_of_le h1 with hlt | rfl
    ·exact hj (hL j k (p.touch j k l hlt (by omega) (.inr ⟨hl,hw⟩)) hlk)
    ·exact hj hlk
   rw [show j+(i - j)=i by omega] at this
   exact this
theorem JA.eq {p:APlan all} {L:Nat->Prop} {s:St} (h:JA p L s) (hall:∀ k,k<all.length->L k):s=p.st all.length:=by
 have ht:=(XK p all.length (lRq _)).congr (L':=L) fun k hk=>⟨fun _=>hall k hk,fun _=>hk⟩
 have h1:s.tmps=(p.st all.length).tmps:=by
  apply List.ext_getElem?;intro d;rw [← jd,← jd];by_cases hf:∀ (i:Nat) (o:Oper),all[i]? = some o->o.dst ≠ some d
  ·rw [h.free d hf,ht.free d hf]
  ·have : ∃ (i : Nat) (o : Oper), all[i]? = some o ∧ o.dst = some d := by
    apply Classical.byContradiction;intro hn;exact hf fun i o hi hd=>hn ⟨i,o,hi,hd⟩
   obtain ⟨i,o,hi,hd⟩:=this;rw [(h.slots i o d hi hd).1 (hall i (qs hi)),(ht.slots i o d hi hd).1 (hall i (qs hi))]
 have h2:s.mem=(p.st all.length).mem:=by
  refine XJ fun l => ?_;obtain ⟨i,hi,hob,hth⟩:=h.mem l;rw [hob]
  have:=Qn (p:=p) (l:=l) (i:=i) (all.length - i) (by omega) fun k h1 h2 hw=>by
   have:=(hth k (by omega) hw).1 (hall k (by omega))
   omega
  rw [show i+(all.length - i)=all.length by omega] at this
  exact this.symm
 cases s;cases hh:p.st all.length
 simp_all
theorem JA.put_eq {p : APlan all} {L : Nat -> Prop} {s : St} (h : JA p L s) {j : Nat} {o : Oper} (ho : all[j]? = some o) (hL : ∀ i k, p.anc i k -> L k -> L i) (hj : ¬ L j) (K : List (Nat × Bool)) (v : AV) :
  s.put o.dst K v=s.put0 o.dst K v:=by
 cases hd:o.dst with
 | none=>rfl
 | some d =>
   have:s.tmps.map (YR d)=s.tmps:=by
    refine (List.map_congr_left fun sl hsl => ?_).trans (List.map_id _);simp only [id,YR];rw [if_neg];intro hany;obtain ⟨q,hq,hqd⟩:=List.any_eq_true.1 hany;obtain ⟨t,hn⟩:=YN hsl
    have hstart:nth (p.st 0).tmps t=some sl->False:=fun hx=>by
     have:=p.start sl (jH hx)
     rw [this] at hq;cases hq
    by_cases hf:∀ (i:Nat) (o:Oper),all[i]? = some o->o.dst ≠ some t
    ·exact hstart (by rw [← h.free t hf];exact hn)
    ·have : ∃ (i : Nat) (o : Oper), all[i]? = some o ∧ o.dst = some t := by
      apply Classical.byContradiction;intro hn;exact hf fun i o hi hd=>hn ⟨i,o,hi,hd⟩
     obtain ⟨i,oi,hi,hdi⟩:=this;by_cases hl:L i
     ·rw [(h.slots i oi t hi hdi).1 hl,jy,jd,List.getElem?_set_self'] at hn;cases hx:(p.st 0).tmps[t]? with
      | none=>rw [hx] at hn;simp at hn
      | some y =>
        rw [hx] at hn;simp at hn;subst hn;obtain ⟨i',oi',hi',hdi',ha⟩:=p.keys i oi q hi hq
        have:q.1=d:=by simpa using hqd
        rw [this] at hdi'
        have:=p.dsts i' j oi' o d hi' ho hdi' hd
        subst this;exact hj (hL _ _ ha hl)
     ·exact hstart (by rw [← (h.slots i oi t hi hdi).2 hl];exact hn)
   simp only [St.put,St.put0,this]
theorem JA.mem_step {p : APlan all} {L : Nat -> Prop} {s : St} (h : JA p L s) {j : Nat} {o : Oper} (ho : all[j]? = some o) (hd : ∀ i, p.anc i j -> L i) (hL : ∀ i k, p.anc i k -> L k -> L i) (hj : ¬ L j) {mem' : Mem}
  (hm:∀ l,((p.T j).wr l->obs mem' l=obs (p.st (j+1)).mem l)∧(¬ (p.T j).wr l->obs mem' l=obs s.mem l)) :
  ∀ l,∃ i,i<=all.length∧obs mem' l=obs (p.st i).mem l∧∀ k,k<all.length->(p.T k).wr l->((L k∨k=j)↔k<i):=by
 intro l;have hjl:=qs ho;by_cases hw:(p.T j).wr l
 ·refine ⟨j+1,by omega,(hm l).1 hw,fun k hk hwk=>⟨fun hx => ?_,fun hx => ?_⟩⟩
  ·rcases hx with hx | rfl
   ·rcases lOq j k with hjk | hjk
    ·exact (hj (hL j k (p.touch j k l hjk hk (.inl ⟨hw,(Touch.wr_at hwk)⟩)) hx)).elim
    ·omega
   ·omega
  ·rcases Nat.lt_or_eq_of_le (Nat.le_of_lt_succ hx) with hlt | rfl
   ·exact .inl (hd k (p.touch k j l hlt hjl (.inl ⟨hwk,(Touch.wr_at hw)⟩)))
   ·exact .inr rfl
 ·obtain ⟨i,hi,hob,hth⟩:=h.mem l;refine ⟨i,hi,by rw [(hm l).2 hw,hob],fun k hk hwk => ?_⟩
  have:k ≠ j:=fun e=>hw (e▸hwk)
  rw [← hth k hk hwk];simp [this]
end Go.Sx
namespace Go.Sx
open Go Go.RowKit
variable {P:Program}
theorem ID {H : Hd} {X : HdP} {call : jt} {callP : qQ} {m : Mem} {ρ : List (Nat × Bool) -> Operand -> Option AV} {op : Op} (hv : Gj P (ρ []) op = none) (hop : ¬ ∃ c x, op = .call c ∧ c.callee = .value x) :
  Qo P H X call callP m ρ op=(qD P H call m ρ op).bind fun y=>.leaf (.ret y.1,y.2):=by
 unfold Qo;simp only [hv];split
 ·rename_i c;split
  ·rename_i x hx;exact (hop ⟨c,x,rfl,hx⟩).elim
  ·rfl
 ·rfl
theorem Df {H:Hd} {X:HdP} {ρ:Operand->Option AV} {n:Nat} {op:Op} (hv:Gj P ρ op=none) (hop:¬ ∃ c x,op=.call c∧c.callee=.value x):k7 P H X ρ n op=qe H ρ n op:=by
 unfold k7;simp only [hv];split
 ·rename_i c;split
  ·rename_i x hx;exact (hop ⟨c,x,rfl,hx⟩).elim
  ·rfl
 ·rfl
theorem Uh {H : Hd} {X : HdP} {call : jt} {callP : qQ} {M M' mem : Mem} {ρ : List (Nat × Bool) -> Operand -> Option AV} {op : Op} {r : Out} (hloc : ∀ f, JM f X.lo = true -> LocFn (callP f)) (h : (Qo P H X call callP M ρ op).sel = some (r, M'))
  (hat:∀ l,(k7 P H X (ρ []) M.length op).at l->obs mem l=obs M l) :
  ∃ mem',(Qo P H X call callP mem ρ op).sel=some (r,mem')∧∀ l,((k7 P H X (ρ []) M.length op).wr l->obs mem' l=obs M' l)∧(¬ (k7 P H X (ρ []) M.length op).wr l->obs mem' l=obs mem l∧obs M' l=obs M l):=by
 have plain : ∀ {T : Touch}, T = qe H (ρ []) M.length op -> (∀ l, T.at l -> obs mem l = obs M l) -> ((qD P H call M ρ op).bind fun y => (.leaf (.ret y.1, y.2) : Tree (Out × Mem))).sel = some (r, M') ->
   ∃ mem',((qD P H call mem ρ op).bind fun y=>(.leaf (.ret y.1,y.2):Tree (Out × Mem))).sel=some (r,mem')∧∀ l,(T.wr l->obs mem' l=obs M' l)∧(¬ T.wr l->obs mem' l=obs mem l∧obs M' l=obs M l):=fun hT hat h=>by
  subst hT;obtain ⟨⟨rv,m⟩,h1,h2⟩:=jg h;simp only [Tree.sel,sIq,pIq] at h2;obtain ⟨rfl,rfl⟩:=h2;obtain ⟨m2,h3,h4⟩:=Jy h1 hat;exact ⟨m2,by rw [JB h3];rfl,h4⟩
 cases hv:Gj P (ρ []) op with
 | some v0 =>
   unfold Qo at h ⊢;unfold k7 at hat ⊢;simp only [hv] at h hat ⊢;simp only [Tree.sel,sIq,pIq] at h;obtain ⟨rfl,rfl⟩:=h;exact ⟨mem,rfl,fun l=>⟨fun hw=>by simp [Touch.wr] at hw,fun _=>⟨rfl,rfl⟩⟩⟩
 | none =>
   by_cases hop:∃ c x,op=.call c∧c.callee=.value x
   ·obtain ⟨c,x,rfl,hx⟩:=hop;unfold Qo at h ⊢;unfold k7 at hat ⊢;simp only [hv,hx] at h hat ⊢;cases ht:yK (ρ []) c with
    | none=>simp only [ht] at h;simp [Tree.sel] at h
    | some p =>
      obtain ⟨f,args⟩:=p;simp only [ht] at h hat ⊢;by_cases hc:qx P f=true
      ·simp only [hc,if_true] at h hat ⊢;cases hG:XU X.rx f with
       | some G =>
         simp only [hG,Option.isSome_some,if_true] at h hat ⊢
         have hno:args.all (fun a=>a.cells.all B6)=true:=by
          cases hh:args.all (fun a=>a.cells.all B6)
          ·rw [hh,Bool.and_false] at h;simp [Tree.sel] at h
          ·rfl
         have hv:args.map (q8 mem)=args.map (q8 M):=List.map_congr_left fun x hx=>B0 (fun b sz hb=>by
          have:=hat (b+1) ⟨false,Ua hx hb⟩
          simpa [obs] using this) (List.all_eq_true.1 hno x hx)
         rw [hv];split at h
         ·rename_i hcl;obtain ⟨r0,h1,h2⟩:=jg h;simp only [Tree.sel,sIq,pIq] at h2;obtain ⟨rfl,rfl⟩:=h2;refine ⟨mem,by rw [if_pos hcl,JB h1];rfl,fun l=>⟨fun hw => ?_,fun _=>⟨rfl,rfl⟩⟩⟩
          have:=Gh hw
          simp at this
         ·simp [Tree.sel] at h
       | none =>
         simp only [hG,Option.isSome_none,Bool.false_eq_true,if_false] at h hat ⊢;by_cases hp:G3 H f=true
         ·simp only [hp,if_true] at h hat ⊢
          have whole:(∀ l,Touch.at none l->obs mem l=obs M l)->∃ mem',(callP f args mem).sel=some (r,mem')∧∀ l,(Touch.wr none l->obs mem' l=obs M' l)∧(¬ Touch.wr none l->obs mem' l=obs mem l∧obs M' l=obs M l):=fun hat=>by
           obtain rfl:mem=M:=XJ fun l=>hat l trivial;exact ⟨M',h,fun l=>⟨fun _=>rfl,fun hn=>(hn trivial).elim⟩⟩
          by_cases hlo:JM f X.lo=true
          ·simp only [hlo,if_true] at hat ⊢;unfold MZ at hat ⊢;split at hat
           ·rename_i b rest
            have hb:nth mem b=nth M b:=by
             have:=hat (b+1) ⟨true,List.mem_singleton.2 rfl⟩
             simpa [obs] using this
            obtain ⟨e,rfl,h2⟩:=hloc f hlo b rest M r M' h mem hb;refine ⟨_,h2,fun l => ?_⟩;cases l with
            | zero =>
              refine ⟨fun hw => ?_,fun _=>⟨by simp [obs,jy],by simp [obs,jy]⟩⟩
              have:=hw
              simp [Touch.wr] at this
            | succ k =>
              by_cases hk:k=b
              ·subst hk;refine ⟨fun _ => ?_,fun hn=>(hn (by simp [Touch.wr])).elim⟩
               simp only [obs,jd,jy];have hb':mem[k]? = M[k]?:=by rw [← jd,← jd];exact hb
               have h1:=List.getElem?_set_self' (l:=mem) (i:=k) (a:=e);have h2:=List.getElem?_set_self' (l:=M) (i:=k) (a:=e);rw [h1,h2,hb']
              ·refine ⟨fun hw => ?_,fun _ => ?_⟩
               ·simp [Touch.wr] at hw;omega
               ·simp only [obs,jd,jy];rw [List.getElem?_set_ne (by omega),List.getElem?_set_ne (by omega)]
                exact ⟨rfl,rfl⟩
           ·exact whole hat
          ·simp only [hlo] at hat ⊢;exact whole hat
         ·simp only [hp] at h hat ⊢;exact plain rfl hat h
      ·simp only [hc] at h;simp [Tree.sel] at h
   ·rw [Df hv hop] at hat ⊢;rw [ID hv hop] at h ⊢;exact plain rfl hat h
inductive StepQ (P:Program) (H:Hd) (X:HdP) (call:jt) (callP:qQ) (all:List Oper) (masks:List Nat) (K0:Nat) (pn:Option (Nat × CV × Mem)) (i:Nat) (s s1:St) (o:Oper) (T:Touch) (K:List (Nat × Bool)) (r:AV):Prop where
 | dead (h:OY masks pn i=true) (hT:T=some []) (hK:K=[]) (hr:r=.any) (hs:s1=s.put0 o.dst [] .any)
 | pan (z : CV) (m : Mem) (h : pn = some (i, z, m)) (hg : o.guard = none) (hT : T = WK K0 (k7 P H X (lim o s []) s.mem.length o.op)) (hK : K = []) (hr : r = .any) (hs : s1 = s.put0 o.dst [] .any)
   (he:(Qo P H X call callP s.mem (fun K'=>lim o s K') o.op).sel=some (.pan z,m))
 | ret (h : ∀ j z m, pn = some (j, z, m) -> j ≠ i) (hg : o.guard = none) (hT : T = k7 P H X (lim o s []) s.mem.length o.op) (hK : K = []) (hs : s1.tmps = (s.put0 o.dst [] r).tmps)
   (he:(Qo P H X call callP s.mem (fun K'=>lim o s K') o.op).sel=some (.ret r,s1.mem))
 | guarded (h : ∀ j z m, pn = some (j, z, m) -> j ≠ i) (j : Nat) (b : Bool) (m' : Mem) (hg : o.guard = some (j, b)) (hT : T = qe H (lim o s K) s.mem.length o.op) (hk : keysOf all s j b = some K) (hq : JS H (lim o s K) o.op = true) (hd : ∀ p ∈ K, some p.1 ≠ o.dst)
   (hs:s1.tmps=(s.put0 o.dst K r).tmps) (hm:s1.mem=s.mem) (he:((qD P H call s.mem (fun K'=>lim o s (K'++K)) o.op).toNeed dGu (yy s K)).sel=some (r,m'))
theorem Q7 {H : Hd} {X : HdP} {call : jt} {callP : qQ} {all : List Oper} {masks : List Nat} {K0 : Nat} : ∀ (l : List Oper) (n : Nat) (s : St) (pn : Option (Nat × CV × Mem)) {s' : St} {is : List kq} {pn' : Option (Nat × CV × Mem)}, (∀ j z m, pn = some (j, z, m) -> j < n) ->
  (kJ P H X call callP all masks K0 n l s pn).sel=some (s',is,pn') ->
  (pn.isSome=true->pn'=pn)∧(∀ j z m,pn=none->pn'=some (j,z,m)->n<=j∧j<n+l.length)∧∃ (st:Nat->St) (rs:Nat->AV),st 0=s∧st l.length=s'∧is.length=l.length∧∀ i o,l[i]? = some o->∃ T K,is[i]? = some (T,K)∧StepQ P H X call callP all masks K0 pn' (n+i) (st i) (st (i+1)) o T K (rs i)
 | [], n, s, pn, s', is, pn', hlt, h => by
   simp only [kJ,Tree.sel,sIq,pIq] at h;obtain ⟨rfl,rfl,rfl⟩:=h;exact ⟨fun _=>rfl,fun j z m h1 h2=>(by rw [h1] at h2;cases h2),fun _=>s,fun _=>.any,rfl,rfl,rfl,fun i o h=>by simp at h⟩
 | o :: r, n, s, pn, s', is, pn', hlt, h => by
   have key : ∀ (s1 : St) (T : Touch) (K : List (Nat × Bool)) (v : AV) (is' : List kq) (pn1 : Option (Nat × CV × Mem)), (∀ j z m, pn1 = some (j, z, m) -> j < n + 1) -> (kJ P H X call callP all masks K0 (n + 1) r s1 pn1).sel = some (s', is', pn') -> is = (T, K) :: is' ->
     ((pn1=pn∨(pn=none∧∃ z m,pn1=some (n,z,m))))->(pn1.isSome=true->pn'=pn1)->StepQ P H X call callP all masks K0 pn' n s s1 o T K v ->
     (pn.isSome=true->pn'=pn)∧(∀ j z m,pn=none->pn'=some (j,z,m)->n<=j∧j<n+(o::r).length)∧∃ (st:Nat->St) (rs:Nat->AV),st 0=s∧st (o::r).length=s'∧is.length=(o::r).length∧∀ i o',(o::r)[i]? = some o'->∃ T K,is[i]? = some (T,K)∧StepQ P H X call callP all masks K0 pn' (n+i) (st i) (st (i+1)) o' T K (rs i):=by
    intro s1 T K v is' pn1 hlt1 h1 hi hpn hsome hs;obtain ⟨hsm,hge,st,rs,h0,hn,hl,hstep⟩:=Q7 r (n+1) s1 pn1 hlt1 h1;subst hi;refine ⟨fun h => ?_,fun j z m hn0 hj => ?_,fun i=>match i with | 0=>s | i+1=>st i,fun i=>match i with | 0=>v | i+1=>rs i,rfl,hn,by simp [hl],fun i o' hi => ?_⟩
    ·rcases hpn with rfl | ⟨rfl,_⟩
     ·exact hsm h
     ·cases h
    ·rcases hpn with rfl | ⟨_,z',m',rfl⟩
     ·have:=hge j z m hn0 hj
      simp only [List.length_cons];omega
     ·have:=hsm rfl
      rw [this] at hj;simp only [sIq,pIq] at hj;simp only [List.length_cons];omega
    ·cases i with
     | zero =>
       simp at hi;subst hi;exact ⟨T,K,rfl,by simpa [h0] using hs⟩
     | succ i =>
       simp at hi;obtain ⟨T',K',h1,h2⟩:=hstep i o' hi;refine ⟨T',K',by simpa using h1,?_⟩
       rw [show n+(i+1)=n+1+i by omega]
       exact h2
   have rest:∀ {s1:St} {is':List kq},(kJ P H X call callP all masks K0 (n+1) r s1 pn).sel=some (s',is',pn')->(pn.isSome=true->pn'=pn)∧(∀ j z m,pn'=some (j,z,m)->j ≠ n):=fun h1=>by
    obtain ⟨hsm,hge,_⟩:=Q7 r (n+1) _ pn (fun j z m e=>Nat.lt_succ_of_lt (hlt j z m e)) h1;refine ⟨hsm,fun j z m hj e => ?_⟩;cases hp:pn with
    | none=>have:=(hge j z m hp hj).1;omega
    | some q =>
      have e2:=hsm (by rw [hp];rfl)
      rw [e2] at hj
      have:=hlt j z m hj
      omega
   have up:∀ j z m,pn=some (j,z,m)->j<n+1:=fun j z m e=>Nat.lt_succ_of_lt (hlt j z m e);simp only [kJ] at h;split at h
   ·rename_i hdd;obtain ⟨⟨s2,is',pn2⟩,h3,h4⟩:=jg h;simp only [Tree.sel,sIq,pIq] at h4;obtain ⟨rfl,rfl,rfl⟩:=h4
    have hps:pn.isSome=true:=by
     unfold OY at hdd;split at hdd
     ·rfl
     ·cases hdd
    exact key _ _ _ .any _ pn up h3 rfl (.inl rfl) (rest h3).1 (.dead (by rw [(rest h3).1 hps];exact hdd) rfl rfl rfl rfl)
   ·split at h
    ·rename_i hg;obtain ⟨⟨rv,mem'⟩,h1,h2⟩:=jg h;cases rv with
     | ret v =>
       simp only at h2;obtain ⟨⟨s2,is',pn2⟩,h3,h4⟩:=jg h2;simp only [Tree.sel,sIq,pIq] at h4;obtain ⟨rfl,rfl,rfl⟩:=h4;refine key _ _ _ v _ pn up h3 rfl (.inl rfl) (rest h3).1 (.ret (fun j z m hj=>(rest h3).2 j z m hj) hg rfl rfl ?_ ?_)
       ·cases o.dst<;>rfl
       ·rw [zY];exact h1
     | pan z =>
       simp only at h2;split at h2
       ·simp [Tree.sel] at h2
       ·rename_i hns;have hnone:pn=none:=by cases pn with | none=>rfl | some _=>simp at hns
        obtain ⟨⟨s2,is',pn2⟩,h3,h4⟩:=jg h2;simp only [Tree.sel,sIq,pIq] at h4;obtain ⟨rfl,rfl,rfl⟩:=h4
        have up1:∀ j z' m,some (n,z,mem')=some (j,z',m)->j<n+1:=fun j z' m e=>by
         simp only [sIq,pIq] at e;omega
        have hsm:=(Q7 r (n+1) _ _ up1 h3).1;exact key _ _ _ .any _ _ up1 h3 rfl (.inr ⟨hnone,z,mem',rfl⟩) hsm (.pan z mem' (hsm rfl) hg rfl rfl rfl rfl h1)
    ·rename_i j b hg;split at h
     ·rename_i K hK;split at h
      ·simp [Tree.sel] at h
      ·rename_i hcond;simp only [Bool.or_eq_true,Bool.not_eq_true',not_or,Bool.not_eq_false,Bool.not_eq_true] at hcond;obtain ⟨hq,hdst⟩:=hcond;obtain ⟨⟨rv,mem'⟩,h1,h2⟩:=jg h;obtain ⟨⟨s2,is',pn2⟩,h3,h4⟩:=jg h2;simp only [Tree.sel,sIq,pIq] at h4;obtain ⟨rfl,rfl,rfl⟩:=h4
       have hkd:∀ p ∈ K,some p.1 ≠ o.dst:=by
        intro p hp e;rw [List.any_eq_false] at hdst;exact hdst p hp (by simp [e])
       exact key _ _ _ rv _ pn up h3 rfl (.inl rfl) (rest h3).1 (.guarded (fun j z m hj=>(rest h3).2 j z m hj) j b mem' hg rfl hK hq hkd rfl (zY _ _ _ _) h1)
     ·simp [Tree.sel] at h
theorem Rz {m m':Mem} (h:m=m') (l:Nat):obs m l=obs m' l:=h▸rfl
theorem StepQ.same {H : Hd} {X : HdP} {call : jt} {callP : qQ} {all : List Oper} {masks : List Nat} {K0 : Nat} {pn : Option (Nat × CV × Mem)} {i : Nat} {s s1 : St} {o : Oper} {T : Touch} {K : List (Nat × Bool)} {r : AV} (hloc : ∀ f, JM f X.lo = true -> LocFn (callP f))
  (h:StepQ P H X call callP all masks K0 pn i s s1 o T K r):s1.tmps=(s.put0 o.dst K r).tmps∧∀ l,¬ T.wr l->obs s1.mem l=obs s.mem l:=by
 cases h with
 | dead h hT hK hr hs =>
   subst hK;subst hr;subst hs;exact ⟨rfl,fun l _=>Rz (zY _ _ _ _) l⟩
 | pan z m h hg hT hK hr hs he =>
   subst hK;subst hr;subst hs;exact ⟨rfl,fun l _=>Rz (zY _ _ _ _) l⟩
 | ret h hg hT hK hs he =>
   subst hK;refine ⟨hs,fun l hn => ?_⟩;obtain ⟨m,h1,h2⟩:=Uh (mem:=s.mem) hloc he (fun _ _=>rfl);rw [← hT] at h2;exact ((h2 l).2 hn).2
 | guarded h j b m' hg hT hk hq hd hs hm he=>exact ⟨hs,fun l _=>by rw [hm]⟩
theorem jf3 {H : Hd} {X : HdP} {call : jt} {callP : qQ} {all : List Oper} {K0 : Nat} {s s' : St} {is : List kq} {pn : Option (Nat × CV × Mem)} (hloc : ∀ f, JM f X.lo = true -> LocFn (callP f)) (h : (kJ P H X call callP all (qw all []) K0 0 all s none).sel = some (s', is, pn)) (hd : Qj all is = true) (h0 : ∀ sl ∈ s.tmps, sl.keys = []) :
  ∃ p:APlan all,p.st 0=s∧p.st all.length=s'∧(∀ i j,p.anc i j↔zh (qw all []) i j=true)∧(∀ j z m,pn=some (j,z,m)->j<all.length)∧∀ i o,all[i]? = some o->StepQ P H X call callP all (qw all []) K0 pn i (p.st i) (p.st (i+1)) o (p.T i) (p.K i) (p.rs i):=by
 obtain ⟨_,hge,st,rs,e0,en,hl,hstep⟩:=Q7 all 0 s none (fun _ _ _ h=>by cases h) h
 simp only [Qj,aTq] at hd;obtain ⟨⟨⟨h1,h2⟩,h3⟩,h4⟩:=hd
 have hi:∀ i,i<all.length->is[i]? = some ((is[i]?.getD (none,[])).1,(is[i]?.getD (none,[])).2):=by
  intro i hi;rw [gEq (by omega)]
  simp
 have hlt:∀ {i:Nat} {o:Oper},all[i]? = some o->i<all.length:=fun h=>qs h
 have hst:∀ i o,all[i]? = some o->StepQ P H X call callP all (qw all []) K0 pn i (st i) (st (i+1)) o (is[i]?.getD (none,[])).1 (is[i]?.getD (none,[])).2 (rs i):=by
  intro i o ho;obtain ⟨T,K,h1,h2⟩:=hstep i o ho;rw [Nat.zero_add] at h2;simpa [h1] using h2
 refine ⟨{ st:=st,rs:=rs,T:=fun i=>(is[i]?.getD (none,[])).1,K:=fun i=>(is[i]?.getD (none,[])).2,anc:=fun i j=>zh (qw all []) i j=true,put:=?_,same1:=?_,start:=?_,edges:=?_,dsts:=KJ h2,tmps:=?_,guards:=?_,keys:=?_,touch:=?_,lt:=?_,down:=?_ },e0,en,fun _ _=>Iff.rfl,fun j z m hj=>by have:=(hge j z m rfl hj).2;omega,hst⟩
 ·intro i o ho;exact ((hst i o ho).same hloc).1
 ·intro i l hil hn;exact ((hst i _ (gEq hil)).same hloc).2 l hn
 ·rw [e0];exact h0
 ·intro i o ho e he hb
  have:=YB h1 i o ho e he hb
  omega
 ·intro j o t ho ht
  have:=(kr h3 j o _ _ ho (hi j (hlt ho))).1 t ht
  rw [Nat.zero_add] at this;unfold GY at this;split at this
  ·rename_i i hw;obtain ⟨j',o',h1,h2,h3⟩:=kp hw;left;rw [Bool.or_eq_true,Bool.or_eq_true,beq_iff_eq] at this;rw [show i=j' by omega] at this
   exact ⟨j',o',h2,h3,this.elim (fun h=>h.elim .inl fun h=>.inr (.inl h)) fun h=>.inr (.inr h)⟩
  ·rename_i hw;right;exact ZF hw
 ·intro j o g b ho hg
  have:=(kr h3 j o _ _ ho (hi j (hlt ho))).2.1 g b hg
  rwa [Nat.zero_add] at this
 ·intro j o p ho hp
  have:=(kr h3 j o _ _ ho (hi j (hlt ho))).2.2 p hp
  rw [Nat.zero_add] at this;unfold Hu at this;split at this
  ·rename_i i hw;obtain ⟨j',o',h1,h2,h3⟩:=kp hw;exact ⟨j',o',h2,h3,by rw [show j'=i by omega];exact this⟩
  ·simp at this
 ·intro i j l hij hj hl'
  have:=QW h4 i j _ _ _ _ hij (hi i (by omega)) (hi j hj)
  rw [Nat.zero_add,Nat.zero_add] at this;exact Vf this hl'
 ·intro i j h;unfold zh at h;rw [aTq] at h;simpa using h.1
 ·intro L N hd hLN i j h hN;unfold zh at h;rw [aTq] at h;obtain ⟨_,h⟩:=h;split at h
  ·rename_i m hm;exact YE hd hLN all [] (by simp) (fun j m h=>by simp [nth] at h) j m hm i h hN
  ·simp at h
end Go.Sx
namespace Go.Sx
open Go Go.RowKit
variable {P:Program} {D:List Deferred} {all:List Oper}
theorem FY {K0:Nat} {T:Touch} {l:Nat} (h:T.at l):(WK K0 T).at l:=by
 cases T with
 | none=>trivial
 | some t =>
   obtain ⟨b,hb⟩:=h;exact ⟨b,List.mem_append_left _ hb⟩
theorem Ic {b:Nat}:∀ {k:Nat},b<k->b ∈ upto k
 | k + 1, h => by
   unfold upto;rcases Nat.lt_or_eq_of_le (Nat.le_of_lt_succ h) with h | rfl
   ·exact List.mem_append_left _ (Ic h)
   ·exact List.mem_append_right _ (by simp)
theorem OS {K0:Nat} {T:Touch} {b:Nat} (h:b<K0):(WK K0 T).at (b+1):=by
 cases T with
 | none=>trivial
 | some t=>exact ⟨false,List.mem_append_right _ (List.mem_map.2 ⟨b,Ic h,rfl⟩)⟩
theorem jd3 {H : Hd} (hpc : SumOk P H) {X : HdP} (hrx : Vg P X.rx) {call : jt} (hcall : CallOk P call) {callP : qQ} (hcallP : CallPOk P X callP) {K0 : Nat} {pn : Option (Nat × CV × Mem)} {ops : Array Oper} (hops : ops.toList = all) (p : APlan all)
  (hanc:∀ i j,p.anc i j↔zh (qw all []) i j=true) (hpl:∀ j z m,pn=some (j,z,m)->j<all.length)
  (hstep:∀ i o,all[i]? = some o->StepQ P H X call callP all (qw all []) K0 pn i (p.st i) (p.st (i+1)) o (p.T i) (p.K i) (p.rs i)) {Q:Exit->Act->World->Prop} {F0:Nat->Prop} {w0:World} {bs0:List BI}
  (hQ:pn=none->∀ F' w' bs' a',Ext bs0.length F0 w0 bs0 F' w' bs'->StRel P D F' w' bs' (p.st all.length) a'->Q .normal a' w')
  (hP:∀ j z m,pn=some (j,z,m)->∀ F1 w1 bs1 s a' F' w' bs' v m2,Ext bs0.length F0 w0 bs0 F1 w1 bs1->bs0.length<=bs1.length->StRel P D F1 w1 bs1 s a'->s.tmps.length=(p.st 0).tmps.length->(∀ d:Nat,(∀ (i:Nat) (o:Oper),all[i]? = some o->o.dst ≠ some d)->nth s.tmps d=nth (p.st 0).tmps d) ->
   Ext bs1.length F1 w1 bs1 F' w' bs'->MemRel P F' w' bs' m2->(∀ b,b<K0->nth m2 b=nth m b)->z.Rel F' w' bs' v->Q (.panic [{ v,recovered:=false }]) a' w') :
  ∀ (fuel:Nat) (listed:Array Bool) (a:Act) (w:World) (s:St) (F:Nat->Prop) (bs:List BI),listed.size=all.length->listed.toList.countP (fun b=>!b)<=fuel ->
   (∀ j o,all[j]? = some o->Lof listed j->∀ e ∈ o.after,Region.binds .any e=true->Lof listed e.on)->(∀ j z m,pn=some (j,z,m)->¬ Lof listed j)->JA p (Lof listed) s->Ext bs0.length F0 w0 bs0 F w bs->bs0.length<=bs.length->StRel P D F w bs s a->wpAny P .any ops Q fuel listed a w:=by
 have hget:∀ i,ops[i]? = all[i]?:=fun i=>by rw [← hops,Array.getElem?_toList]
 have hready:∀ listed:Array Bool,listed.size=all.length->Region.ready .any ops listed=[]->∀ k,k<all.length->Lof listed k:=by
  intro listed hsz hr k
  induction k using Nat.strongRecOn with
  | ind k ih =>
    intro hk;apply Classical.byContradiction;intro hn
    have:k ∈ Region.ready .any ops listed:=by
     rw [mem_ready];refine ⟨?_,all[k],by rw [hget];exact gEq hk,fun e he hb => ?_⟩
     ·unfold Lof at hn;have hk':k<listed.size:=by omega
      simp only [Array.getD_eq_getD_getElem?,Array.getElem?_eq_getElem hk',Option.getD_some] at hn ⊢;simpa using hn
     ·have hlt:=p.edges k _ (gEq hk) e he hb;exact ih e.on hlt (by omega)
    rw [hr] at this;cases this
 have hnone:∀ listed:Array Bool,(∀ j z m,pn=some (j,z,m)->¬ Lof listed j)->(∀ k,k<all.length->Lof listed k)->pn=none:=by
  intro listed h1 h2;cases hp:pn with
  | none=>rfl
  | some q =>
    obtain ⟨j,z,m⟩:=q;exact (h1 j z m hp (h2 j (hpl j z m hp))).elim
 intro fuel
 induction fuel with
 | zero =>
   intro listed a w s F bs hsz hc hdn hpn hJ hext hK0 hs
   have hnil:Region.ready .any ops listed=[]:=by
    rw [List.eq_nil_iff_forall_not_mem];intro j hj;obtain ⟨h0,o,ho,_⟩:=mem_ready.1 hj;rw [hget] at ho;have hjl:=qs ho;have hj':j<listed.size:=by omega
    have:=List.countP_eq_zero.1 (Nat.le_zero.1 hc) listed[j] (by simp)
    simp only [Array.getD_eq_getD_getElem?,Array.getElem?_eq_getElem hj',Option.getD_some] at h0;simp [h0] at this
   have hall:=hready listed hsz hnil
   have:=hJ.eq hall
   subst this;exact ⟨hnil,hQ (hnone listed hpn hall) F w bs a hext hs⟩
 | succ fuel ih =>
   intro listed a w s F bs hsz hc hdn hpn hJ hext hK0 hs;refine ⟨fun hnil => ?_,fun j hj => ?_⟩
   ·have hall:=hready listed hsz hnil
    have:=hJ.eq hall
    subst this;exact hQ (hnone listed hpn hall) F w bs a hext hs
   ·obtain ⟨h0,o,ho,hed⟩:=mem_ready.1 hj;have ho':=ho;rw [hget] at ho';have hjl:=qs ho';have hj':j<listed.size:=by omega
    have hjf:listed[j]=false:=by simpa only [Array.getD_eq_getD_getElem?,Array.getElem?_eq_getElem hj',Option.getD_some] using h0
    have hnl:¬ Lof listed j:=by
     unfold Lof;simp [Array.getElem?_eq_getElem hj',hjf]
    have hL:∀ i k,p.anc i k->Lof listed k->Lof listed i:=p.down _ _ hdn fun _ h=>h
    have hd:∀ i,p.anc i j->Lof listed i:=fun i hi=>p.down (Lof listed) (fun k=>Lof listed k∨k=j) (fun k ok hk hN e he hb=>by
     rcases hN with hN | rfl
     ·exact hdn k ok hk hN e he hb
     ·rw [ho'] at hk;simp at hk;subst hk;exact hed e he hb) (fun _ h=>.inl h) i j hi (.inr rfl)
    obtain ⟨hsame,hkeys,hmem⟩:=hJ.same ho' hd hL hnl;have hset:∀ k,Lof (listed.setIfInBounds j true) k↔(Lof listed k∨k=j):=Nw hj'
    have next:(∀ j' z m,pn=some (j',z,m)->j' ≠ j)->∀ (a':Act) (w':World) (s':St) (F':Nat->Prop) (bs':List BI),JA p (fun k=>Lof listed k∨k=j) s'->Ext bs.length F w bs F' w' bs'->StRel P D F' w' bs' s' a'->wpAny P .any ops Q fuel (listed.setIfInBounds j true) a' w':=by
     intro hne a' w' s' F' bs' hJ' he hs';refine ih _ a' w' s' F' bs' (by simpa using hsz) ?_ (fun k ok hk hl e hee hb => ?_) (fun j' z m hp hl => ?_) (hJ'.congr fun k _=>(hset k).symm) (hext.trans he hext.le) (Nat.le_trans hK0 he.le) hs'
     ·simp only [Array.toList_setIfInBounds];rw [List.countP_set (by simpa using hj')]
      have:0<listed.toList.countP (fun b=>!b):=List.countP_pos_iff.2 ⟨listed[j],by simp,by simp [hjf]⟩
      have e1:((!listed.toList[j])=true)=True:=by simp [hjf]
      simp only [e1,if_true,Bool.not_true,Bool.false_eq_true,if_false];omega
     ·rw [hset] at hl ⊢;rcases hl with hl | rfl
      ·exact .inl (hdn k ok hk hl e hee hb)
      ·rw [ho'] at hk;simp at hk;subst hk;exact .inl (hed e hee hb)
     ·rw [hset] at hl;rcases hl with hl | hl
      ·exact hpn j' z m hp hl
      ·exact hne j' z m hp hl
    have hlim:∀ K,lim o s K=lim o (p.st j) K:=fun K=>UA hsame;have e1:(fun K'=>lim o (p.st j) K')=fun K'=>lim o s K':=funext fun K=>(hlim K).symm;unfold wpOp;simp only [ho];cases hstep j o ho' with
    | dead hdd hT hK hr hs1 =>
      exfalso
      unfold OY at hdd;split at hdd
      ·rename_i i z m;exact hpn i z m rfl (hd i ((hanc i j).2 hdd))
      ·cases hdd
    | pan z m hp hg hT hK hr hs1 he =>
      simp only [Region.wanted,hg,if_true];left;obtain ⟨m2,h1,h2⟩:=Uh (mem:=s.mem) hcallP.loc he (fun l hl=>hmem l (by rw [hT];exact FY hl))
      rw [e1] at h1;refine Gu hpc hrx hcall hcallP hs.mem (fun K x av hk hh=>qo hs hk (Jz hh)) h1 (fun F' w' bs' v av e=>by cases e) fun F' w' bs' v x e hext' hm' hr' => ?_
      cases e;refine hP j z m hp F w bs s a F' w' bs' v m2 hext hK0 hs hJ.len hJ.free hext' hm' (fun b hb => ?_) hr';have hat:=hmem (b+1) (by rw [hT];exact OS hb)
      have h3:=h2 (b+1)
      have:obs m2 (b+1)=obs m (b+1):=by
       by_cases hw:(k7 P H X (lim o (p.st j) []) (p.st j).mem.length o.op).wr (b+1)
       ·exact h3.1 hw
       ·rw [(h3.2 hw).1,(h3.2 hw).2,hat]
      simpa [obs] using this
    | ret hne hg hT hK hs1 he =>
      simp only [Region.wanted,hg,if_true];left;obtain ⟨mem',h1,h2⟩:=Uh (mem:=s.mem) hcallP.loc he (fun l hl=>hmem l (by rw [hT];exact hl))
      rw [← hT] at h2;rw [e1] at h1;refine Gu hpc hrx hcall hcallP hs.mem (fun K x av hk hh=>qo hs hk (Jz hh)) h1 (fun F' w' bs' v av e he hm' hr => ?_) (fun F' w' bs' v x e=>by cases e)
      simp only [Out.ret.injEq] at e;subst e;refine next hne _ w' ({ s with mem:=mem' }.put o.dst [] (p.rs j)) F' bs' ?_ he (StRel.put (hs.ext he hm') (fun _ hp=>by cases hp) (fun _=>hr) (fun h=>(h jw).elim))
      have hmem':=hJ.mem_step ho' hd hL hnl (mem':=mem') fun l=>⟨(h2 l).1,fun hn=>((h2 l).2 hn).1⟩;refine hJ.put ho' ?_ ?_
      ·have:=hJ.put_eq ho' hL hnl [] (p.rs j)
       rw [hK,← this];cases o.dst<;>rfl
      ·intro l
       have:({ s with mem:=mem' }.put o.dst [] (p.rs j)).mem=mem':=by cases o.dst<;>rfl
       rw [this];exact hmem' l
    | guarded hne g b m' hg hT hK hq hkd hs1 hm h =>
      have hga:=p.guards j o g b ho' hg
      have hkeq:keysOf ops.toList s g b=some (p.K j):=by
       rw [hops,← hK];unfold keysOf;split
       ·rename_i og hog;split
        ·rename_i d hdg;rw [jd] at hog;rw [hkeys g og d hog hdg hga]
        ·rfl
       ·rfl
      have hiff:=XN hs hkeq
      have hgt:yy s (p.K j)=yy (p.st j) (p.K j):=ZO fun q hq=>by
       obtain ⟨i,oi,hi,hdi,ha⟩:=p.keys j o q ho' hq;exact hkeys i oi q.1 hi hdi ha
      have hmem':∀ l,∃ i,i<=all.length∧obs s.mem l=obs (p.st i).mem l∧∀ k,k<all.length->(p.T k).wr l->((Lof listed k∨k=j)↔k<i) :=
       hJ.mem_step ho' hd hL hnl (mem':=s.mem) fun l=>⟨fun hw=>by rw [hm];exact hmem l (Touch.wr_at hw),fun _=>rfl⟩
      have hput:JA p (fun k=>Lof listed k∨k=j) (s.put o.dst (p.K j) (p.rs j)):=by
       refine hJ.put ho' ?_ ?_
       ·rw [hJ.put_eq ho' hL hnl]
       ·have:(s.put o.dst (p.K j) (p.rs j)).mem=s.mem:=by cases o.dst<;>rfl
        rw [this];exact hmem'
      by_cases hk:KH a (p.K j)
      ·have hw:Region.wanted o (yielded ops a.tmps)=true:=(qN hg _).2 (hiff.1 hk);rw [if_pos hw];left;have h1:=Q2 h (by rw [← hgt];exact Zn hs hk)
       have e1:(fun K'=>lim o (p.st j) (K'++p.K j))=fun K'=>lim o s (K'++p.K j):=funext fun K=>(hlim _).symm;rw [e1] at h1;have e2:lim o (p.st j) (p.K j)=lim o s (p.K j):=(hlim _).symm;rw [e2] at hq
       obtain ⟨m2,h3,_⟩:=Jy (mem:=s.mem) h1 (fun l hl=>by
        refine (hmem l ?_).trans rfl;rw [hT,e2];exact hl)
       have hρ:∀ K' x av,KH a K'->lim o s (K'++p.K j) x=some av->av.Rel F w bs (a.eval x):=fun K' x av hk' hh=>qo hs (fun q hq=>(List.mem_append.1 hq).elim (hk' q) (hk q)) (Jz hh);have hme:=ZZ (ρ:=fun K'=>lim o s (K'++p.K j)) hpc hs.mem hρ hq h3;subst hme;refine Je hpc hcall hs.mem hρ h3 fun F' w' bs' v he hm' hr => ?_;exact next hne _ w' _ F' bs' hput he (StRel.put (hs.ext he hm') hkd (fun _=>hr) (fun h=>(h hk).elim))
      ·have hw:¬ Region.wanted o (yielded ops a.tmps)=true:=fun h=>hk (hiff.2 ((qN hg _).1 h));rw [if_neg hw];exact next hne _ w _ F bs hput Ext.refl (StRel.put hs hkd (fun h=>(hk h).elim) (fun _=>rfl))
end Go.Sx