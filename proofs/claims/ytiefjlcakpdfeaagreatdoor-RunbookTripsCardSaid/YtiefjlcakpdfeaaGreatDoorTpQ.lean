/-
 Part TpQ of the proof: EngPq EngPr EngPs EngPt.
-/
import Derived.Test.YtiefjlcakpdfeaaGreatDoorTpP
namespace Go.Sx
open Go Go.RowKit
variable {P:Program}
theorem Il {H : Hd} {X : HdP} {call : ju} {callP : zc} {m : Mem} {ρ : List (Nat × Bool) -> Operand -> Option AV} {op : Op} (hv : B4 P (ρ []) op = none) (hop : ¬ ∃ c x, op = .call c ∧ c.callee = .value x) :
  QF P H X call callP m ρ op=(qP P H call m ρ op).bind fun y=>.leaf (.ret y.1,y.2):=by
 unfold QF;simp only [hv];split
 ·rename_i c;split
  ·rename_i x hx;exact (hop ⟨c,x,rfl,hx⟩).elim
  ·rfl
 ·rfl
theorem TZ {H:Hd} {X:HdP} {ρ:Operand->Option AV} {n:Nat} {op:Op} (hv:B4 P ρ op=none) (hop:¬ ∃ c x,op=.call c∧c.callee=.value x):Jm P H X ρ n op=qi H ρ n op:=by
 unfold Jm;simp only [hv];split
 ·rename_i c;split
  ·rename_i x hx;exact (hop ⟨c,x,rfl,hx⟩).elim
  ·rfl
 ·rfl
theorem VY {H : Hd} {X : HdP} {call : ju} {callP : zc} {M M' mem : Mem} {ρ : List (Nat × Bool) -> Operand -> Option AV} {op : Op} {r : Out} (hloc : ∀ f, JE f X.lo = true -> LocFn (callP f)) (h : (QF P H X call callP M ρ op).sel = some (r, M'))
  (hat:∀ l,(Jm P H X (ρ []) M.length op).at l->obs mem l=obs M l) :
  ∃ mem',(QF P H X call callP mem ρ op).sel=some (r,mem')∧∀ l,((Jm P H X (ρ []) M.length op).wr l->obs mem' l=obs M' l)∧(¬ (Jm P H X (ρ []) M.length op).wr l->obs mem' l=obs mem l∧obs M' l=obs M l):=by
 have plain : ∀ {T : Touch}, T = qi H (ρ []) M.length op -> (∀ l, T.at l -> obs mem l = obs M l) -> ((qP P H call M ρ op).bind fun y => (.leaf (.ret y.1, y.2) : Tree (Out × Mem))).sel = some (r, M') ->
   ∃ mem',((qP P H call mem ρ op).bind fun y=>(.leaf (.ret y.1,y.2):Tree (Out × Mem))).sel=some (r,mem')∧∀ l,(T.wr l->obs mem' l=obs M' l)∧(¬ T.wr l->obs mem' l=obs mem l∧obs M' l=obs M l):=fun hT hat h=>by
  subst hT;obtain ⟨⟨rv,m⟩,h1,h2⟩:=jh h;simp only [Tree.sel,sIq,pIq] at h2;obtain ⟨rfl,rfl⟩:=h2;obtain ⟨m2,h3,h4⟩:=JL h1 hat;exact ⟨m2,by rw [JX h3];rfl,h4⟩
 cases hv:B4 P (ρ []) op with
 | some v0 =>
   unfold QF at h ⊢;unfold Jm at hat ⊢;simp only [hv] at h hat ⊢;simp only [Tree.sel,sIq,pIq] at h;obtain ⟨rfl,rfl⟩:=h;exact ⟨mem,rfl,fun l=>⟨fun hw=>by simp [Touch.wr] at hw,fun _=>⟨rfl,rfl⟩⟩⟩
 | none =>
   by_cases hop:∃ c x,op=.call c∧c.callee=.value x
   ·obtain ⟨c,x,rfl,hx⟩:=hop;unfold QF at h ⊢;unfold Jm at hat ⊢;simp only [hv,hx] at h hat ⊢;cases ht:yW (ρ []) c with
    | none=>simp only [ht] at h;simp [Tree.sel] at h
    | some p =>
      obtain ⟨f,args⟩:=p;simp only [ht] at h hat ⊢;by_cases hc:qH P f=true
      ·simp only [hc,if_true] at h hat ⊢;cases hG:XJ X.rx f with
       | some G =>
         simp only [hG,Option.isSome_some,if_true] at h hat ⊢
         have hno:args.all (fun a=>a.cells.all BQ)=true:=by
          cases hh:args.all (fun a=>a.cells.all BQ)
          ·rw [hh,Bool.and_false] at h;simp [Tree.sel] at h
          ·rfl
         have hv:args.map (zo mem)=args.map (zo M):=List.map_congr_left fun x hx=>BD (fun b sz hb=>by
          have:=hat (b+1) ⟨false,Uq hx hb⟩
          simpa [obs] using this) (List.all_eq_true.1 hno x hx)
         rw [hv];split at h
         ·rename_i hcl;obtain ⟨r0,h1,h2⟩:=jh h;simp only [Tree.sel,sIq,pIq] at h2;obtain ⟨rfl,rfl⟩:=h2;refine ⟨mem,by rw [if_pos hcl,JX h1];rfl,fun l=>⟨fun hw => ?_,fun _=>⟨rfl,rfl⟩⟩⟩
          have:=BP hw
          simp at this
         ·simp [Tree.sel] at h
       | none =>
         simp only [hG,Option.isSome_none,Bool.false_eq_true,if_false] at h hat ⊢;by_cases hp:GZ H f=true
         ·simp only [hp,if_true] at h hat ⊢
          have whole:(∀ l,Touch.at none l->obs mem l=obs M l)->∃ mem',(callP f args mem).sel=some (r,mem')∧∀ l,(Touch.wr none l->obs mem' l=obs M' l)∧(¬ Touch.wr none l->obs mem' l=obs mem l∧obs M' l=obs M l):=fun hat=>by
           obtain rfl:mem=M:=XY fun l=>hat l trivial;exact ⟨M',h,fun l=>⟨fun _=>rfl,fun hn=>(hn trivial).elim⟩⟩
          by_cases hlo:JE f X.lo=true
          ·simp only [hlo,if_true] at hat ⊢;unfold Mu at hat ⊢;split at hat
           ·rename_i b rest
            have hb:nth mem b=nth M b:=by
             have:=hat (b+1) ⟨true,List.mem_singleton.2 rfl⟩
             simpa [obs] using this
            obtain ⟨e,rfl,h2⟩:=hloc f hlo b rest M r M' h mem hb;refine ⟨_,h2,fun l => ?_⟩;cases l with
            | zero =>
              refine ⟨fun hw => ?_,fun _=>⟨by simp [obs,jC],by simp [obs,jC]⟩⟩
              have:=hw
              simp [Touch.wr] at this
            | succ k =>
              by_cases hk:k=b
              ·subst hk;refine ⟨fun _ => ?_,fun hn=>(hn (by simp [Touch.wr])).elim⟩
               simp only [obs,jd,jC];have hb':mem[k]? = M[k]?:=by rw [← jd,← jd];exact hb
               have h1:=List.getElem?_set_self' (l:=mem) (i:=k) (a:=e);have h2:=List.getElem?_set_self' (l:=M) (i:=k) (a:=e);rw [h1,h2,hb']
              ·refine ⟨fun hw => ?_,fun _ => ?_⟩
               ·simp [Touch.wr] at hw;omega
               ·simp only [obs,jd,jC];rw [List.getElem?_set_ne (by omega),List.getElem?_set_ne (by omega)]
                exact ⟨rfl,rfl⟩
           ·exact whole hat
          ·simp only [hlo] at hat ⊢;exact whole hat
         ·simp only [hp] at h hat ⊢;exact plain rfl hat h
      ·simp only [hc] at h;simp [Tree.sel] at h
   ·rw [TZ hv hop] at hat ⊢;rw [Il hv hop] at h ⊢;exact plain rfl hat h
inductive StepQ (P:Program) (H:Hd) (X:HdP) (call:ju) (callP:zc) (all:List Oper) (masks:List Nat) (K0:Nat) (pn:Option (Nat × CV × Mem)) (i:Nat) (s s1:St) (o:Oper) (T:Touch) (K:List (Nat × Bool)) (r:AV):Prop where
 | dead (h:Ri masks pn i=true) (hT:T=some []) (hK:K=[]) (hr:r=.any) (hs:s1=s.put0 o.dst [] .any)
 | pan (z : CV) (m : Mem) (h : pn = some (i, z, m)) (hg : o.guard = none) (hT : T = WY K0 (Jm P H X (lim o s []) s.mem.length o.op)) (hK : K = []) (hr : r = .any) (hs : s1 = s.put0 o.dst [] .any)
   (he:(QF P H X call callP s.mem (fun K'=>lim o s K') o.op).sel=some (.pan z,m))
 | ret (h : ∀ j z m, pn = some (j, z, m) -> j ≠ i) (hg : o.guard = none) (hT : T = Jm P H X (lim o s []) s.mem.length o.op) (hK : K = []) (hs : s1.tmps = (s.put0 o.dst [] r).tmps)
   (he:(QF P H X call callP s.mem (fun K'=>lim o s K') o.op).sel=some (.ret r,s1.mem))
 | guarded (h : ∀ j z m, pn = some (j, z, m) -> j ≠ i) (j : Nat) (b : Bool) (m' : Mem) (hg : o.guard = some (j, b)) (hT : T = qi H (lim o s K) s.mem.length o.op) (hk : keysOf all s j b = some K) (hq : J6 H (lim o s K) o.op = true) (hd : ∀ p ∈ K, some p.1 ≠ o.dst)
   (hs:s1.tmps=(s.put0 o.dst K r).tmps) (hm:s1.mem=s.mem) (he:((qP P H call s.mem (fun K'=>lim o s (K'++K)) o.op).toNeed dGu (yG s K)).sel=some (r,m'))
theorem Zy {H : Hd} {X : HdP} {call : ju} {callP : zc} {all : List Oper} {masks : List Nat} {K0 : Nat} : ∀ (l : List Oper) (n : Nat) (s : St) (pn : Option (Nat × CV × Mem)) {s' : St} {is : List kG} {pn' : Option (Nat × CV × Mem)}, (∀ j z m, pn = some (j, z, m) -> j < n) ->
  (kQ P H X call callP all masks K0 n l s pn).sel=some (s',is,pn') ->
  (pn.isSome=true->pn'=pn)∧(∀ j z m,pn=none->pn'=some (j,z,m)->n<=j∧j<n+l.length)∧∃ (st:Nat->St) (rs:Nat->AV),st 0=s∧st l.length=s'∧is.length=l.length∧∀ i o,l[i]? = some o->∃ T K,is[i]? = some (T,K)∧StepQ P H X call callP all masks K0 pn' (n+i) (st i) (st (i+1)) o T K (rs i)
 | [], n, s, pn, s', is, pn', hlt, h => by
   simp only [kQ,Tree.sel,sIq,pIq] at h;obtain ⟨rfl,rfl,rfl⟩:=h;exact ⟨fun _=>rfl,fun j z m h1 h2=>(by rw [h1] at h2;cases h2),fun _=>s,fun _=>.any,rfl,rfl,rfl,fun i o h=>by simp at h⟩
 | o :: r, n, s, pn, s', is, pn', hlt, h => by
   have key : ∀ (s1 : St) (T : Touch) (K : List (Nat × Bool)) (v : AV) (is' : List kG) (pn1 : Option (Nat × CV × Mem)), (∀ j z m, pn1 = some (j, z, m) -> j < n + 1) -> (kQ P H X call callP all masks K0 (n + 1) r s1 pn1).sel = some (s', is', pn') -> is = (T, K) :: is' ->
     ((pn1=pn∨(pn=none∧∃ z m,pn1=some (n,z,m))))->(pn1.isSome=true->pn'=pn1)->StepQ P H X call callP all masks K0 pn' n s s1 o T K v ->
     (pn.isSome=true->pn'=pn)∧(∀ j z m,pn=none->pn'=some (j,z,m)->n<=j∧j<n+(o::r).length)∧∃ (st:Nat->St) (rs:Nat->AV),st 0=s∧st (o::r).length=s'∧is.length=(o::r).length∧∀ i o',(o::r)[i]? = some o'->∃ T K,is[i]? = some (T,K)∧StepQ P H X call callP all masks K0 pn' (n+i) (st i) (st (i+1)) o' T K (rs i):=by
    intro s1 T K v is' pn1 hlt1 h1 hi hpn hsome hs;obtain ⟨hsm,hge,st,rs,h0,hn,hl,hstep⟩:=Zy r (n+1) s1 pn1 hlt1 h1;subst hi;refine ⟨fun h => ?_,fun j z m hn0 hj => ?_,fun i=>match i with | 0=>s | i+1=>st i,fun i=>match i with | 0=>v | i+1=>rs i,rfl,hn,by simp [hl],fun i o' hi => ?_⟩
    ·rcases hpn with rfl | ⟨rfl,_⟩
     ·exact hsm h
     ·cases h
    ·rcases hpn with rfl | ⟨_,z',m',rfl⟩
     ·have:=hge j z m hn0 hj
      simp only [List.length_cons];omega
     ·have:=hsm rfl
      rw [this] at hj;simp only [sIq,pIq] at hj;simp only [List.length_cons];omega
    ·cases i with
     | zero =>
       simp at hi;subst hi;exact ⟨T,K,rfl,by simpa [h0] using hs⟩
     | succ i =>
       simp at hi;obtain ⟨T',K',h1,h2⟩:=hstep i o' hi;refine ⟨T',K',by simpa using h1,?_⟩
       rw [show n+(i+1)=n+1+i by omega]
       exact h2
   have rest:∀ {s1:St} {is':List kG},(kQ P H X call callP all masks K0 (n+1) r s1 pn).sel=some (s',is',pn')->(pn.isSome=true->pn'=pn)∧(∀ j z m,pn'=some (j,z,m)->j ≠ n):=fun h1=>by
    obtain ⟨hsm,hge,_⟩:=Zy r (n+1) _ pn (fun j z m e=>Nat.lt_succ_of_lt (hlt j z m e)) h1;refine ⟨hsm,fun j z m hj e => ?_⟩;cases hp:pn with
    | none=>have:=(hge j z m hp hj).1;omega
    | some q =>
      have e2:=hsm (by rw [hp];rfl)
      rw [e2] at hj
      have:=hlt j z m hj
      omega
   have up:∀ j z m,pn=some (j,z,m)->j<n+1:=fun j z m e=>Nat.lt_succ_of_lt (hlt j z m e);simp only [kQ] at h;split at h
   ·rename_i hdd;obtain ⟨⟨s2,is',pn2⟩,h3,h4⟩:=jh h;simp only [Tree.sel,sIq,pIq] at h4;obtain ⟨rfl,rfl,rfl⟩:=h4
    have hps:pn.isSome=true:=by
     unfold Ri at hdd;split at hdd
     ·rfl
     ·cases hdd
    exact key _ _ _ .any _ pn up h3 rfl (.inl rfl) (rest h3).1 (.dead (by rw [(rest h3).1 hps];exact hdd) rfl rfl rfl rfl)
   ·split at h
    ·rename_i hg;obtain ⟨⟨rv,mem'⟩,h1,h2⟩:=jh h;cases rv with
     | ret v =>
       simp only at h2;obtain ⟨⟨s2,is',pn2⟩,h3,h4⟩:=jh h2;simp only [Tree.sel,sIq,pIq] at h4;obtain ⟨rfl,rfl,rfl⟩:=h4;refine key _ _ _ v _ pn up h3 rfl (.inl rfl) (rest h3).1 (.ret (fun j z m hj=>(rest h3).2 j z m hj) hg rfl rfl ?_ ?_)
       ·cases o.dst<;>rfl
       ·rw [yi];exact h1
     | pan z =>
       simp only at h2;split at h2
       ·simp [Tree.sel] at h2
       ·rename_i hns;have hnone:pn=none:=by cases pn with | none=>rfl | some _=>simp at hns
        obtain ⟨⟨s2,is',pn2⟩,h3,h4⟩:=jh h2;simp only [Tree.sel,sIq,pIq] at h4;obtain ⟨rfl,rfl,rfl⟩:=h4
        have up1:∀ j z' m,some (n,z,mem')=some (j,z',m)->j<n+1:=fun j z' m e=>by
         simp only [sIq,pIq] at e;omega
        have hsm:=(Zy r (n+1) _ _ up1 h3).1;exact key _ _ _ .any _ _ up1 h3 rfl (.inr ⟨hnone,z,mem',rfl⟩) hsm (.pan z mem' (hsm rfl) hg rfl rfl rfl rfl h1)
    ·rename_i j b hg;split at h
     ·rename_i K hK;split at h
      ·simp [Tree.sel] at h
      ·rename_i hcond;simp only [Bool.or_eq_true,Bool.not_eq_true',not_or,Bool.not_eq_false,Bool.not_eq_true] at hcond;obtain ⟨hq,hdst⟩:=hcond;obtain ⟨⟨rv,mem'⟩,h1,h2⟩:=jh h;obtain ⟨⟨s2,is',pn2⟩,h3,h4⟩:=jh h2;simp only [Tree.sel,sIq,pIq] at h4;obtain ⟨rfl,rfl,rfl⟩:=h4
       have hkd:∀ p ∈ K,some p.1 ≠ o.dst:=by
        intro p hp e;rw [List.any_eq_false] at hdst;exact hdst p hp (by simp [e])
       exact key _ _ _ rv _ pn up h3 rfl (.inl rfl) (rest h3).1 (.guarded (fun j z m hj=>(rest h3).2 j z m hj) j b mem' hg rfl hK hq hkd rfl (yi _ _ _ _) h1)
     ·simp [Tree.sel] at h
theorem Tb {m m':Mem} (h:m=m') (l:Nat):obs m l=obs m' l:=h▸rfl
theorem StepQ.same {H : Hd} {X : HdP} {call : ju} {callP : zc} {all : List Oper} {masks : List Nat} {K0 : Nat} {pn : Option (Nat × CV × Mem)} {i : Nat} {s s1 : St} {o : Oper} {T : Touch} {K : List (Nat × Bool)} {r : AV} (hloc : ∀ f, JE f X.lo = true -> LocFn (callP f))
  (h:StepQ P H X call callP all masks K0 pn i s s1 o T K r):s1.tmps=(s.put0 o.dst K r).tmps∧∀ l,¬ T.wr l->obs s1.mem l=obs s.mem l:=by
 cases h with
 | dead h hT hK hr hs =>
   subst hK;subst hr;subst hs;exact ⟨rfl,fun l _=>Tb (yi _ _ _ _) l⟩
 | pan z m h hg hT hK hr hs he =>
   subst hK;subst hr;subst hs;exact ⟨rfl,fun l _=>Tb (yi _ _ _ _) l⟩
 | ret h hg hT hK hs he =>
   subst hK;refine ⟨hs,fun l hn => ?_⟩;obtain ⟨m,h1,h2⟩:=VY (mem:=s.mem) hloc he (fun _ _=>rfl);rw [← hT] at h2;exact ((h2 l).2 hn).2
 | guarded h j b m' hg hT hk hq hd hs hm he=>exact ⟨hs,fun l _=>by rw [hm]⟩
theorem je3 {H : Hd} {X : HdP} {call : ju} {callP : zc} {all : List Oper} {K0 : Nat} {s s' : St} {is : List kG} {pn : Option (Nat × CV × Mem)} (hloc : ∀ f, JE f X.lo = true -> LocFn (callP f)) (h : (kQ P H X call callP all (qI all []) K0 0 all s none).sel = some (s', is, pn)) (hd : Qq all is = true) (h0 : ∀ sl ∈ s.tmps, sl.keys = []) :
  ∃ p:APlan all,p.st 0=s∧p.st all.length=s'∧(∀ i j,p.anc i j↔zA (qI all []) i j=true)∧(∀ j z m,pn=some (j,z,m)->j<all.length)∧∀ i o,all[i]? = some o->StepQ P H X call callP all (qI all []) K0 pn i (p.st i) (p.st (i+1)) o (p.T i) (p.K i) (p.rs i):=by
 obtain ⟨_,hge,st,rs,e0,en,hl,hstep⟩:=Zy all 0 s none (fun _ _ _ h=>by cases h) h
 simp only [Qq,aTq] at hd;obtain ⟨⟨⟨h1,h2⟩,h3⟩,h4⟩:=hd
 have hi:∀ i,i<all.length->is[i]? = some ((is[i]?.getD (none,[])).1,(is[i]?.getD (none,[])).2):=by
  intro i hi;rw [List.getElem?_eq_getElem (by omega)]
  simp
 have hlt:∀ {i:Nat} {o:Oper},all[i]? = some o->i<all.length:=fun h=>qG h
 have hst:∀ i o,all[i]? = some o->StepQ P H X call callP all (qI all []) K0 pn i (st i) (st (i+1)) o (is[i]?.getD (none,[])).1 (is[i]?.getD (none,[])).2 (rs i):=by
  intro i o ho;obtain ⟨T,K,h1,h2⟩:=hstep i o ho;rw [Nat.zero_add] at h2;simpa [h1] using h2
 refine ⟨{ st:=st,rs:=rs,T:=fun i=>(is[i]?.getD (none,[])).1,K:=fun i=>(is[i]?.getD (none,[])).2,anc:=fun i j=>zA (qI all []) i j=true,put:=?_,same1:=?_,start:=?_,edges:=?_,dsts:=KQ h2,tmps:=?_,guards:=?_,keys:=?_,touch:=?_,lt:=?_,down:=?_ },e0,en,fun _ _=>Iff.rfl,fun j z m hj=>by have:=(hge j z m rfl hj).2;omega,hst⟩
 ·intro i o ho;exact ((hst i o ho).same hloc).1
 ·intro i l hil hn;exact ((hst i _ (List.getElem?_eq_getElem hil)).same hloc).2 l hn
 ·rw [e0];exact h0
 ·intro i o ho e he hb
  have:=YK h1 i o ho e he hb
  omega
 ·intro j o t ho ht
  have:=(kF h3 j o _ _ ho (hi j (hlt ho))).1 t ht
  rw [Nat.zero_add] at this;unfold Hw at this;split at this
  ·rename_i i hw;obtain ⟨j',o',h1,h2,h3⟩:=kH hw;left;rw [Bool.or_eq_true,Bool.or_eq_true,beq_iff_eq] at this;rw [show i=j' by omega] at this
   exact ⟨j',o',h2,h3,this.elim (fun h=>h.elim .inl fun h=>.inr (.inl h)) fun h=>.inr (.inr h)⟩
  ·rename_i hw;right;exact Z7 hw
 ·intro j o g b ho hg
  have:=(kF h3 j o _ _ ho (hi j (hlt ho))).2.1 g b hg
  rwa [Nat.zero_add] at this
 ·intro j o p ho hp
  have:=(kF h3 j o _ _ ho (hi j (hlt ho))).2.2 p hp
  rw [Nat.zero_add] at this;unfold GP at this;split at this
  ·rename_i i hw;obtain ⟨j',o',h1,h2,h3⟩:=kH hw;exact ⟨j',o',h2,h3,by rw [show j'=i by omega];exact this⟩
  ·simp at this
 ·intro i j l hij hj hl'
  have:=Zu h4 i j _ _ _ _ hij (hi i (by omega)) (hi j hj)
  rw [Nat.zero_add,Nat.zero_add] at this;exact WH this hl'
 ·intro i j h;unfold zA at h;rw [aTq] at h;simpa using h.1
 ·intro L N hd hLN i j h hN;unfold zA at h;rw [aTq] at h;obtain ⟨_,h⟩:=h;split at h
  ·rename_i m hm;exact YX hd hLN all [] (by simp) (fun j m h=>by simp [nth] at h) j m hm i h hN
  ·simp at h
end Go.Sx
namespace Go.Sx
open Go Go.RowKit
variable {P:Program} {D:List Deferred} {all:List Oper}
theorem Fj {K0:Nat} {T:Touch} {l:Nat} (h:T.at l):(WY K0 T).at l:=by
 cases T with
 | none=>trivial
 | some t =>
   obtain ⟨b,hb⟩:=h;exact ⟨b,List.mem_append_left _ hb⟩
theorem D2 {b:Nat}:∀ {k:Nat},b<k->b ∈ upto k
 | k + 1, h => by
   unfold upto;rcases Nat.lt_or_eq_of_le (Nat.le_of_lt_succ h) with h | rfl
   ·exact List.mem_append_left _ (D2 h)
   ·exact List.mem_append_right _ (by simp)
theorem OU {K0:Nat} {T:Touch} {b:Nat} (h:b<K0):(WY K0 T).at (b+1):=by
 cases T with
 | none=>trivial
 | some t=>exact ⟨false,List.mem_append_right _ (List.mem_map.2 ⟨b,D2 h,rfl⟩)⟩
theorem jdk {H : Hd} (hpc : SumOk P H) {X : HdP} (hrx : WR P X.rx) {call : ju} (hcall : CallOk P call) {callP : zc} (hcallP : CallPOk P X callP) {K0 : Nat} {pn : Option (Nat × CV × Mem)} {ops : Array Oper} (hops : ops.toList = all) (p : APlan all)
  (hanc:∀ i j,p.anc i j↔zA (qI all []) i j=true) (hpl:∀ j z m,pn=some (j,z,m)->j<all.length)
  (hstep:∀ i o,all[i]? = some o->StepQ P H X call callP all (qI all []) K0 pn i (p.st i) (p.st (i+1)) o (p.T i) (p.K i) (p.rs i)) {Q:Exit->Act->World->Prop} {F0:Nat->Prop} {w0:World} {bs0:List BI}
  (hQ:pn=none->∀ F' w' bs' a',Ext bs0.length F0 w0 bs0 F' w' bs'->StRel P D F' w' bs' (p.st all.length) a'->Q .normal a' w')
  (hP:∀ j z m,pn=some (j,z,m)->∀ F1 w1 bs1 s a' F' w' bs' v m2,Ext bs0.length F0 w0 bs0 F1 w1 bs1->bs0.length<=bs1.length->StRel P D F1 w1 bs1 s a'->s.tmps.length=(p.st 0).tmps.length->(∀ d:Nat,(∀ (i:Nat) (o:Oper),all[i]? = some o->o.dst ≠ some d)->nth s.tmps d=nth (p.st 0).tmps d) ->
   Ext bs1.length F1 w1 bs1 F' w' bs'->MemRel P F' w' bs' m2->(∀ b,b<K0->nth m2 b=nth m b)->z.Rel F' w' bs' v->Q (.panic [{ v,recovered:=false }]) a' w') :
  ∀ (fuel:Nat) (listed:Array Bool) (a:Act) (w:World) (s:St) (F:Nat->Prop) (bs:List BI),listed.size=all.length->listed.toList.countP (fun b=>!b)<=fuel ->
   (∀ j o,all[j]? = some o->Lof listed j->∀ e ∈ o.after,Region.binds .any e=true->Lof listed e.on)->(∀ j z m,pn=some (j,z,m)->¬ Lof listed j)->JA p (Lof listed) s->Ext bs0.length F0 w0 bs0 F w bs->bs0.length<=bs.length->StRel P D F w bs s a->wpAny P .any ops Q fuel listed a w:=by
 have hget:∀ i,ops[i]? = all[i]?:=fun i=>by rw [← hops,Array.getElem?_toList]
 have hready:∀ listed:Array Bool,listed.size=all.length->Region.ready .any ops listed=[]->∀ k,k<all.length->Lof listed k:=by
  intro listed hsz hr k
  induction k using Nat.strongRecOn with
  | ind k ih =>
    intro hk;apply Classical.byContradiction;intro hn
    have:k ∈ Region.ready .any ops listed:=by
     rw [mem_ready];refine ⟨?_,all[k],by rw [hget];exact List.getElem?_eq_getElem hk,fun e he hb => ?_⟩
     ·unfold Lof at hn;have hk':k<listed.size:=by omega
      simp only [Array.getD_eq_getD_getElem?,Array.getElem?_eq_getElem hk',Option.getD_some] at hn ⊢;simpa using hn
     ·have hlt:=p.edges k _ (List.getElem?_eq_getElem hk) e he hb;exact ih e.on hlt (by omega)
    rw [hr] at this;cases this
 have hnone:∀ listed:Array Bool,(∀ j z m,pn=some (j,z,m)->¬ Lof listed j)->(∀ k,k<all.length->Lof listed k)->pn=none:=by
  intro listed h1 h2;cases hp:pn with
  | none=>rfl
  | some q =>
    obtain ⟨j,z,m⟩:=q;exact (h1 j z m hp (h2 j (hpl j z m hp))).elim
 intro fuel
 induction fuel with
 | zero =>
   intro listed a w s F bs hsz hc hdn hpn hJ hext hK0 hs
   have hnil:Region.ready .any ops listed=[]:=by
    rw [List.eq_nil_iff_forall_not_mem];intro j hj;obtain ⟨h0,o,ho,_⟩:=mem_ready.1 hj;rw [hget] at ho;have hjl:=qG ho;have hj':j<listed.size:=by omega
    have:=List.countP_eq_zero.1 (Nat.le_zero.1 hc) listed[j] (by simp)
    simp only [Array.getD_eq_getD_getElem?,Array.getElem?_eq_getElem hj',Option.getD_some] at h0;simp [h0] at this
   have hall:=hready listed hsz hnil
   have:=hJ.eq hall
   subst this;exact ⟨hnil,hQ (hnone listed hpn hall) F w bs a hext hs⟩
 | succ fuel ih =>
   intro listed a w s F bs hsz hc hdn hpn hJ hext hK0 hs;refine ⟨fun hnil => ?_,fun j hj => ?_⟩
   ·have hall:=hready listed hsz hnil
    have:=hJ.eq hall
    subst this;exact hQ (hnone listed hpn hall) F w bs a hext hs
   ·obtain ⟨h0,o,ho,hed⟩:=mem_ready.1 hj;have ho':=ho;rw [hget] at ho';have hjl:=qG ho';have hj':j<listed.size:=by omega
    have hjf:listed[j]=false:=by simpa only [Array.getD_eq_getD_getElem?,Array.getElem?_eq_getElem hj',Option.getD_some] using h0
    have hnl:¬ Lof listed j:=by
     unfold Lof;simp [Array.getElem?_eq_getElem hj',hjf]
    have hL:∀ i k,p.anc i k->Lof listed k->Lof listed i:=p.down _ _ hdn fun _ h=>h
    have hd:∀ i,p.anc i j->Lof listed i:=fun i hi=>p.down (Lof listed) (fun k=>Lof listed k∨k=j) (fun k ok hk hN e he hb=>by
     rcases hN with hN | rfl
     ·exact hdn k ok hk hN e he hb
     ·rw [ho'] at hk;simp at hk;subst hk;exact hed e he hb) (fun _ h=>.inl h) i j hi (.inr rfl)
    obtain ⟨hsame,hkeys,hmem⟩:=hJ.same ho' hd hL hnl;have hset:∀ k,Lof (listed.setIfInBounds j true) k↔(Lof listed k∨k=j):=LZ hj'
    have next:(∀ j' z m,pn=some (j',z,m)->j' ≠ j)->∀ (a':Act) (w':World) (s':St) (F':Nat->Prop) (bs':List BI),JA p (fun k=>Lof listed k∨k=j) s'->Ext bs.length F w bs F' w' bs'->StRel P D F' w' bs' s' a'->wpAny P .any ops Q fuel (listed.setIfInBounds j true) a' w':=by
     intro hne a' w' s' F' bs' hJ' he hs';refine ih _ a' w' s' F' bs' (by simpa using hsz) ?_ (fun k ok hk hl e hee hb => ?_) (fun j' z m hp hl => ?_) (hJ'.congr fun k _=>(hset k).symm) (hext.trans he hext.le) (Nat.le_trans hK0 he.le) hs'
     ·simp only [Array.toList_setIfInBounds];rw [List.countP_set (by simpa using hj')]
      have:0<listed.toList.countP (fun b=>!b):=List.countP_pos_iff.2 ⟨listed[j],by simp,by simp [hjf]⟩
      have e1:((!listed.toList[j])=true)=True:=by simp [hjf]
      simp only [e1,if_true,Bool.not_true,Bool.false_eq_true,if_false];omega
     ·rw [hset] at hl ⊢;rcases hl with hl | rfl
      ·exact .inl (hdn k ok hk hl e hee hb)
      ·rw [ho'] at hk;simp at hk;subst hk;exact .inl (hed e hee hb)
     ·rw [hset] at hl;rcases hl with hl | hl
      ·exact hpn j' z m hp hl
      ·exact hne j' z m hp hl
    have hlim:∀ K,lim o s K=lim o (p.st j) K:=fun K=>Un hsame;have e1:(fun K'=>lim o (p.st j) K')=fun K'=>lim o s K':=funext fun K=>(hlim K).symm;unfold wpOp;simp only [ho];cases hstep j o ho' with
    | dead hdd hT hK hr hs1 =>
      exfalso
      unfold Ri at hdd;split at hdd
      ·rename_i i z m;exact hpn i z m rfl (hd i ((hanc i j).2 hdd))
      ·cases hdd
    | pan z m hp hg hT hK hr hs1 he =>
      simp only [Region.wanted,hg,if_true];left;obtain ⟨m2,h1,h2⟩:=VY (mem:=s.mem) hcallP.loc he (fun l hl=>hmem l (by rw [hT];exact Fj hl))
      rw [e1] at h1;refine B8 hpc hrx hcall hcallP hs.mem (fun K x av hk hh=>qB hs hk (JJ hh)) h1 (fun F' w' bs' v av e=>by cases e) fun F' w' bs' v x e hext' hm' hr' => ?_
      cases e;refine hP j z m hp F w bs s a F' w' bs' v m2 hext hK0 hs hJ.len hJ.free hext' hm' (fun b hb => ?_) hr';have hat:=hmem (b+1) (by rw [hT];exact OU hb)
      have h3:=h2 (b+1)
      have:obs m2 (b+1)=obs m (b+1):=by
       by_cases hw:(Jm P H X (lim o (p.st j) []) (p.st j).mem.length o.op).wr (b+1)
       ·exact h3.1 hw
       ·rw [(h3.2 hw).1,(h3.2 hw).2,hat]
      simpa [obs] using this
    | ret hne hg hT hK hs1 he =>
      simp only [Region.wanted,hg,if_true];left;obtain ⟨mem',h1,h2⟩:=VY (mem:=s.mem) hcallP.loc he (fun l hl=>hmem l (by rw [hT];exact hl))
      rw [← hT] at h2;rw [e1] at h1;refine B8 hpc hrx hcall hcallP hs.mem (fun K x av hk hh=>qB hs hk (JJ hh)) h1 (fun F' w' bs' v av e he hm' hr => ?_) (fun F' w' bs' v x e=>by cases e)
      simp only [Out.ret.injEq] at e;subst e;refine next hne _ w' ({ s with mem:=mem' }.put o.dst [] (p.rs j)) F' bs' ?_ he (StRel.put (hs.ext he hm') (fun _ hp=>by cases hp) (fun _=>hr) (fun h=>(h jA).elim))
      have hmem':=hJ.mem_step ho' hd hL hnl (mem':=mem') fun l=>⟨(h2 l).1,fun hn=>((h2 l).2 hn).1⟩;refine hJ.put ho' ?_ ?_
      ·have:=hJ.put_eq ho' hL hnl [] (p.rs j)
       rw [hK,← this];cases o.dst<;>rfl
      ·intro l
       have:({ s with mem:=mem' }.put o.dst [] (p.rs j)).mem=mem':=by cases o.dst<;>rfl
       rw [this];exact hmem' l
    | guarded hne g b m' hg hT hK hq hkd hs1 hm h =>
      have hga:=p.guards j o g b ho' hg
      have hkeq:keysOf ops.toList s g b=some (p.K j):=by
       rw [hops,← hK];unfold keysOf;split
       ·rename_i og hog;split
        ·rename_i d hdg;rw [jd] at hog;rw [hkeys g og d hog hdg hga]
        ·rfl
       ·rfl
      have hiff:=XQ hs hkeq
      have hgt:yG s (p.K j)=yG (p.st j) (p.K j):=Ye fun q hq=>by
       obtain ⟨i,oi,hi,hdi,ha⟩:=p.keys j o q ho' hq;exact hkeys i oi q.1 hi hdi ha
      have hmem':∀ l,∃ i,i<=all.length∧obs s.mem l=obs (p.st i).mem l∧∀ k,k<all.length->(p.T k).wr l->((Lof listed k∨k=j)↔k<i) :=
       hJ.mem_step ho' hd hL hnl (mem':=s.mem) fun l=>⟨fun hw=>by rw [hm];exact hmem l (Touch.wr_at hw),fun _=>rfl⟩
      have hput:JA p (fun k=>Lof listed k∨k=j) (s.put o.dst (p.K j) (p.rs j)):=by
       refine hJ.put ho' ?_ ?_
       ·rw [hJ.put_eq ho' hL hnl]
       ·have:(s.put o.dst (p.K j) (p.rs j)).mem=s.mem:=by cases o.dst<;>rfl
        rw [this];exact hmem'
      by_cases hk:KH a (p.K j)
      ·have hw:Region.wanted o (yielded ops a.tmps)=true:=(q8 hg _).2 (hiff.1 hk);rw [if_pos hw];left;have h1:=Zj h (by rw [← hgt];exact ZF hs hk)
       have e1:(fun K'=>lim o (p.st j) (K'++p.K j))=fun K'=>lim o s (K'++p.K j):=funext fun K=>(hlim _).symm;rw [e1] at h1;have e2:lim o (p.st j) (p.K j)=lim o s (p.K j):=(hlim _).symm;rw [e2] at hq
       obtain ⟨m2,h3,_⟩:=JL (mem:=s.mem) h1 (fun l hl=>by
        refine (hmem l ?_).trans rfl;rw [hT,e2];exact hl)
       have hρ:∀ K' x av,KH a K'->lim o s (K'++p.K j) x=some av->av.Rel F w bs (a.eval x):=fun K' x av hk' hh=>qB hs (fun q hq=>(List.mem_append.1 hq).elim (hk' q) (hk q)) (JJ hh);have hme:=YA (ρ:=fun K'=>lim o s (K'++p.K j)) hpc hs.mem hρ hq h3;subst hme;refine Js hpc hcall hs.mem hρ h3 fun F' w' bs' v he hm' hr => ?_;exact next hne _ w' _ F' bs' hput he (StRel.put (hs.ext he hm') hkd (fun _=>hr) (fun h=>(h hk).elim))
      ·have hw:¬ Region.wanted o (yielded ops a.tmps)=true:=fun h=>hk (hiff.2 ((q8 hg _).1 h));rw [if_neg hw];exact next hne _ w _ F bs hput Ext.refl (StRel.put hs hkd (fun h=>(hk h).elim) (fun _=>rfl))
end Go.Sx
namespace Go.Sx
open Go Go.RowKit
variable {P:Program}
theorem CV.Rel.cut {F w bs F1 w1 bs1 c x} (h:CV.Rel F1 w1 bs1 c x):∀ {v0:Value},CV.Rel F w bs c v0->CV.Rel F1 w1 (bs1.take bs.length) c x:=by
 induction h with
 | any h=>exact fun _=>.any h
 | bool b=>exact fun _=>.bool b
 | int k n=>exact fun _=>.int k n
 | str s=>exact fun _=>.str s
 | nilp=>exact fun _=>.nilp
 | nils=>exact fun _=>.nils
 | nilf=>exact fun _=>.nilf
 | nili=>exact fun _=>.nili
 | ptr h=>exact fun h0=>by cases h0 with | ptr g=>exact .ptr (zi (jq g) h)
 | os h hb=>exact fun h0=>by cases h0 with | os g _=>exact .os (zi (jq g) h) hb
 | ost h hl=>exact fun h0=>by cases h0 with | ost g _=>exact .ost (zi (jq g) h) hl
 | osh h hl h1=>exact fun h0=>by cases h0 with | osh g _ _=>exact .osh (zi (jq g) h) hl h1
 | oc h hl=>exact fun h0=>by cases h0 with | oc g _=>exact .oc (zi (jq g) h) hl
 | rowp h hi=>exact fun h0=>by cases h0 with | rowp g _=>exact .rowp (zi (jq g) h) hi
 | rop val hb hF hc hr _=>exact fun _=>.rop val hb hF hc hr
 | slnil=>exact fun _=>.slnil
 | sl val hn h0 hc hr _=>exact fun _=>.sl val hn h0 hc hr
 | fn l1 l2 r1 r2 ih1 ih2 =>
   intro v0 h0;cases h0 with
  | fn k1 k2 g1 g2 =>
    refine .fn l1 l2 (fun i x v hx hv => ?_) (fun i x v hx hv => ?_)
    ·have hlt:=jq hx;rw [k1] at hlt;exact ih1 i x v hx hv (g1 i x _ hx (by rw [jd];exact List.getElem?_eq_getElem hlt))
    ·have hlt:=jq hx;rw [k2] at hlt;exact ih2 i x v hx hv (g2 i x _ hx (by rw [jd];exact List.getElem?_eq_getElem hlt))
 | iface h ih=>exact fun h0=>by cases h0 with | iface g=>exact .iface (ih g)
 | ifa hl r ih =>
   intro v0 h0;cases h0 with
  | ifa k1 g1 =>
    refine .ifa hl (fun i x v hx hv => ?_);have hlt:=jq hx;rw [k1] at hlt;exact ih i x v hx hv (g1 i x _ hx (by rw [jd];exact List.getElem?_eq_getElem hlt))
 | ifx0 h=>exact fun _=>.ifx0 h
 | ifx1 h ht r _=>exact fun _=>.ifx1 h ht r
 | ifxa h ht hl r _=>exact fun _=>.ifxa h ht hl r
 | yld h=>exact fun h0=>by cases h0 with | yld g=>exact .yld (zi (jq g) h)
 | mp hp hF he hk hz hl r ih =>
   intro v0 h0;cases h0 with
  | mp hp' hF' he' hk' hz' hl' g =>
    refine .mp hp hF he hk hz hl (fun i x v hx hv => ?_);have hlt:=jq hx;rw [hl'] at hlt;exact ih i x v hx hv (g i x _ hx (by rw [jd];exact List.getElem?_eq_getElem hlt))
theorem All2.cut {F w bs F1 w1 bs1}:∀ {l:List CV} {vs vs0:List Value},All2 (CV.Rel F1 w1 bs1) l vs->All2 (CV.Rel F w bs) l vs0->All2 (CV.Rel F1 w1 (bs1.take bs.length)) l vs
 | _,_,_,.nil,_=>.nil
 | _,_,_,.cons h r,h0=>by cases h0 with | cons g s=>exact .cons (h.cut g) (All2.cut r s)
theorem A1.Rel.cut {F w bs F1 w1 bs1} {c:A1} {x v0:Value} (h:A1.Rel F1 w1 bs1 c x) (h0:A1.Rel F w bs c v0):A1.Rel F1 w1 (bs1.take bs.length) c x:=by
 cases c with
 | c c=>exact CV.Rel.cut h h0
 | agg l =>
   obtain ⟨vs,rfl,h⟩:=h;obtain ⟨vs0,_,h0⟩:=h0;exact ⟨vs,rfl,h.cut h0⟩
theorem All2.cut1 {F w bs F1 w1 bs1}:∀ {l:List A1} {vs vs0:List Value},All2 (A1.Rel F1 w1 bs1) l vs->All2 (A1.Rel F w bs) l vs0->All2 (A1.Rel F1 w1 (bs1.take bs.length)) l vs
 | _,_,_,.nil,_=>.nil
 | _,_,_,.cons h r,h0=>by cases h0 with | cons g s=>exact .cons (A1.Rel.cut h g) (All2.cut1 r s)
theorem AV.Rel.cut {F w bs F1 w1 bs1} {c:AV} {x v0:Value} (h:AV.Rel F1 w1 bs1 c x) (h0:AV.Rel F w bs c v0):AV.Rel F1 w1 (bs1.take bs.length) c x:=by
 cases c with
 | any=>trivial
 | one a=>exact A1.Rel.cut h h0
 | tup l =>
   obtain ⟨vs,rfl,h⟩:=h;obtain ⟨vs0,_,h0⟩:=h0;exact ⟨vs,rfl,All2.cut1 h h0⟩
theorem Wz:∀ (l:List Oper) (s:St),(s.forget l).tmps.length=s.tmps.length
 | [],_=>rfl
 | o :: r, s => by
   show ((s.put0 o.dst [] .any).forget r).tmps.length=_;rw [Wz r];cases o.dst<;>simp [St.put0,jC]
theorem HF:∀ (l:List Oper) (s:St),(s.forget l).mem=s.mem
 | [],_=>rfl
 | o :: r, s => by
   show ((s.put0 o.dst [] .any).forget r).mem=_;rw [HF r,yi]
theorem Bu:∀ (l:List Oper) (s:St) (d:Nat),(∀ o ∈ l,o.dst ≠ some d)->nth (s.forget l).tmps d=nth s.tmps d
 | [],_,_,_=>rfl
 | o :: r, s, d, h => by
   show nth ((s.put0 o.dst [] .any).forget r).tmps d=_;rw [Bu r _ d fun o' ho=>h o' (List.mem_cons_of_mem _ ho),Y9 (h o List.mem_cons_self)]
theorem HL:∀ (l:List Oper) (s:St) (d:Nat) (sl:Slot),(nth s.tmps d=some ⟨[],.any⟩∨∃ o ∈ l,o.dst=some d)->nth (s.forget l).tmps d=some sl->sl=⟨[],.any⟩
 | [], s, d, sl, h, hs => by
   rcases h with h | ⟨o,ho,_⟩
   ·have hs:nth s.tmps d=some sl:=hs;rw [h] at hs;simp at hs;exact hs.symm
   ·cases ho
 | o :: r, s, d, sl, h, hs => by
   have hs:nth ((s.put0 o.dst [] .any).forget r).tmps d=some sl:=hs;refine HL r _ d sl ?_ hs;by_cases hd:o.dst=some d
   ·left;have hlt:=jq hs;rw [Wz] at hlt
    have hlt:d<s.tmps.length:=by
     have e:(s.put0 o.dst [] .any).tmps.length=s.tmps.length:=by cases o.dst<;>simp [St.put0,jC]
     rw [e] at hlt;exact hlt
    rw [hd];exact qo hlt
   ·rcases h with h | ⟨o',ho',hd'⟩
    ·left;rw [Y9 hd];exact h
    ·rcases List.mem_cons.1 ho' with rfl | ho'
     ·exact (hd hd').elim
     ·exact .inr ⟨o',ho',hd'⟩
theorem jb9 {H : Hd} (hpc : SumOk P H) {X : HdP} (hrx : WR P X.rx) {call : ju} (hcall : CallOk P call) {callP : zc} (hcallP : CallPOk P X callP) {id : Nat} {ops : Array Oper} {s s' : StP} {x : XP} (h : (Tv P H X call callP ops.toList s).sel = some (x, s'))
  {F:Nat->Prop} {w:World} {bs:List BI} {a:Act} (hs:PRel P F w bs s a) {Q:Exit->Act->World->Prop}
  (hQ:∀ F' w' bs' a' e,Ext bs.length F w bs F' w' bs'->PRel P F' w' bs' s' a'->XRel F' w' bs' x e->Q e a' w'):(Code.region id ops true).wp P Q a w:=by
 unfold Tv at h;split at h
 ·rename_i hm;obtain ⟨⟨y,is,pn⟩,h1,h2⟩:=jh h;simp only at h2;split at h2
  ·rename_i hd;have hs0:StRel P a.defers F w bs { s.s with tmps:=s.s.tmps.map unkey } a:=hs.st.unkey
   have h0:∀ sl ∈ ({ s.s with tmps:=s.s.tmps.map unkey }:St).tmps,sl.keys=[]:=by
    intro sl hsl;simp only [List.mem_map] at hsl;obtain ⟨sl0,_,rfl⟩:=hsl;unfold unkey;split
    ·rename_i he;exact List.isEmpty_iff.1 he
    ·rfl
   obtain ⟨p,e0,en,hanc,hpl,hstep⟩:=je3 hcallP.loc h1 hd h0;have hb:Below w.heap.size w { w with drawn:=w.drawn+1 }:=Below.drew (Below.refl _ _)
   have hlen:bs.length=s.s.mem.length:=hs.st.mem.len;refine wp_region_any hm (jdk (F0:=F) (w0:=w) (bs0:=bs) (D:=a.defers) hpc hrx hcall hcallP rfl p hanc hpl hstep (fun hn F' w' bs' a' he hs' => ?_) (fun j z m hp F1 w1 bs1 s1 a' F' w' bs' v m2 he1 hK1 hs1 hl1 hfree he2 hm2 hob hz => ?_) _ _ _ _ _ F bs (by simp) ?_ ?_ (fun j z m _ hl => ?_) ?_ (Ext.of_below hb) (lRq _) (hs0.below hb))
   ·subst hn;simp only [Tree.sel,sIq,pIq] at h2;obtain ⟨rfl,rfl⟩:=h2;exact hQ F' w' bs' a' _ he ((StRel.unkey (en▸hs')).toP (hs.ds.grow he.grow)) rfl
   ·subst hp;simp only at h2;split at h2
    ·rename_i m0 ht;split at h2
     ·rename_i hc;simp only [Tree.sel,sIq,pIq] at h2;obtain ⟨rfl,rfl⟩:=h2;rw [aTq,List.all_eq_true] at hc;obtain ⟨hu,hcz⟩:=hc;obtain ⟨rfl,hml⟩:=k6 ht;have he:=he1.trans he2 hK1;have hg:=he.grow;have ex:Ext bs.length F w bs F' w' (bs'.take bs.length):=he.trans (K':=bs.length) ⟨lRq _,fun _ _ h=>h,fun _ h _ _=>h,fun _ _ _=>rfl,rfl,rfl,rfl,fun k x hk hx=>zi hk hx,fun x hx=>.inl ⟨x,List.mem_of_mem_take hx,rfl⟩⟩ (lRq _)
      have hme:m2.take s.s.mem.length=m.take s.s.mem.length:=by
       apply List.ext_getElem?;intro k;rw [List.getElem?_take,List.getElem?_take];split
       ·rename_i hk
        have:=hob k hk
        rwa [jd,jd] at this
       ·rfl
      have hmt:MemRel P F' w' (bs'.take bs.length) (m.take s.s.mem.length):=by
       rw [← hme,hlen];refine hm2.take fun k T cs hk hn => ?_
       have hn':nth (m.take s.s.mem.length) k=some (some (T,cs)):=by
        rw [← hme];exact zi hk hn
       have:=hu (some (T,cs)) (jH hn')
       simpa [Ym] using this
      refine hQ F' w' (bs'.take bs.length) a' _ ex ⟨⟨rfl,?_,fun d sl x hd' hx => ?_,?_⟩,?_⟩ ⟨v,rfl,hz.closed hcz⟩
      ·have l1:=hs1.len;rw [Wz];simp only [List.length_map];rw [← l1,hl1,e0]
       simp
      ·by_cases hdd:∃ o ∈ ops.toList,o.dst=some d
       ·have:=HL _ _ _ _ (.inr hdd) hd'
        subst this;exact ⟨fun _=>trivial,fun h=>(h jA).elim⟩
       ·have hfr:∀ o ∈ ops.toList,o.dst ≠ some d:=fun o ho e=>hdd ⟨o,ho,e⟩;rw [Bu _ _ _ hfr] at hd'
        have hs1d:nth s1.tmps d=some sl:=by
         rw [hfree d fun i o hi=>hfr o (List.mem_of_getElem? hi),e0];exact hd'
        have r1:=hs1.slots d sl x hs1d hx;have hk0:sl.keys=[]:=h0 sl (jH hd');refine ⟨fun hk => ?_,fun hn=>(hn (by rw [hk0];exact jA)).elim⟩
        have r1':=r1.1 hk
        have hlt:d<a.tmps.size:=by
         have h3:d<(s.s.tmps.map unkey).length:=jq hd';have l2:(s.s.tmps.map unkey).length=a.tmps.size:=hs0.len;omega
        have r0:=(hs0.slots d sl _ hd' (Array.getElem?_eq_getElem hlt)).1 (by rw [hk0];exact jA)
        exact (r1'.grow he2.grow).cut r0
      ·rw [HF];exact hmt
      ·rw [hs1.defers];exact hs.ds.grow ex.grow
     ·simp [Tree.sel] at h2
    ·simp [Tree.sel] at h2
   ·simpa using List.countP_le_length (p:=fun b=>!b) (l:=List.replicate ops.size false)
   ·intro j o _ hl;unfold Lof at hl;simp [Array.getElem?_replicate] at hl;split at hl<;>simp at hl
   ·unfold Lof at hl;simp [Array.getElem?_replicate] at hl;split at hl<;>simp at hl
   ·have:=We p 0 (Nat.zero_le _)
    rw [e0] at this;refine this.congr fun k hk=>⟨fun h=>by omega,fun hl => ?_⟩
    unfold Lof at hl;simp [Array.getElem?_replicate] at hl;split at hl<;>simp at hl
  ·simp [Tree.sel] at h2
 ·simp [Tree.sel] at h
end Go.Sx