/-
 Part TpR of the proof: EngPu.
-/
import Derived.Test.YtiefjlcakpdfeaaGreatDoorTpQ
namespace Go.Sx
open Go Go.RowKit
variable {P:Program} {D:List Deferred} {all:List Oper}
def Li (P:Program) (nc:List (Nat × (List A1->Tree (AV × Mem)))):Prop:=∀ f G,XO nc f=some G->NcOne P f G
theorem Q7 {bs:List BI} {b k:Nat} {x y:BI} (hb:k ≠ b) (h:nth bs k=some y):nth (jk bs b x) k=some y:=by
 rw [zm hb];exact h
theorem Xv {ok ok':Nat->Bool} (h:∀ b,ok b=true->ok' b=true) {c:CV} (hc:yf ok c=true):yf ok' c=true:=by
 cases c<;>first | exact h _ hc | exact hc
theorem Up {ok ok':Nat->Bool} (h:∀ b,ok b=true->ok' b=true) {c:A1} (hc:J9 ok c=true):J9 ok' c=true:=by
 cases c with
 | c c=>exact Xv h hc
 | agg l=>simp only [J9,List.all_eq_true] at hc ⊢;exact fun x hx=>Xv h (hc x hx)
theorem Zl {ok ok':Nat->Bool} (h:∀ b,ok b=true->ok' b=true) {c:AV} (hc:yP ok c=true):yP ok' c=true:=by
 cases c with
 | any=>rfl
 | one a=>exact Up h hc
 | tup l=>simp only [yP,List.all_eq_true] at hc ⊢;exact fun x hx=>Up h (hc x hx)
theorem Z8 {ok ok':Nat->Bool} (h:∀ b,ok b=true->ok' b=true) {e:Option (TypeId × List CV)} (hc:kL ok e=true):kL ok' e=true:=by
 cases e with
 | none=>rfl
 | some p=>obtain ⟨T,cs⟩:=p;simp only [kL,List.all_eq_true] at hc ⊢;exact fun x hx=>Xv h (hc x hx)
theorem Vv {ok:Nat->Bool} {c:CV} (h:closedC c=true):yf ok c=true:=by
 cases c<;>first | exact h | (simp [closedC] at h;done)
def zP (b k:Nat):Bool:=!(k==b)
theorem Xo {K:Nat} {c:CV} (h:kq K c=true):yf (fun b=>Nat.blt b K) c=true:=by
 cases c<;>exact h
theorem RH {K:Nat} {e:Option (TypeId × List CV)} (h:Ym K e=true):kL (fun b=>Nat.blt b K) e=true:=by
 cases e with
 | none=>rfl
 | some p=>obtain ⟨T,cs⟩:=p;simp only [Ym,kL,List.all_eq_true] at h ⊢;exact fun x hx=>Xo (h x hx)
theorem Vk {K:Nat} {c:A1} (h:U8 K c=true):J9 (fun b=>Nat.blt b K) c=true:=by
 cases c with
 | c c=>exact Xo h
 | agg l=>simp only [U8,J9,List.all_eq_true] at h ⊢;exact fun x hx=>Xo (h x hx)
theorem Vq {K:Nat} {c:AV} (h:UT K c=true):yP (fun b=>Nat.blt b K) c=true:=by
 cases c with
 | any=>rfl
 | one a=>exact Vk h
 | tup l=>simp only [UT,yP,List.all_eq_true] at h ⊢;exact fun x hx=>Vk (h x hx)
theorem ao {b k:Nat} (h:zP b k=true):k ≠ b:=by
 intro e;subst e;simp [zP] at h
theorem CV.Rel.reset {F w bs c v} (h:CV.Rel F w bs c v) {b:Nat} {x:BI} (hu:yf (zP b) c=true):CV.Rel F w (jk bs b x) c v:=by
 cases c with
 | ptr b' o =>
   cases h with
  | ptr h=>exact .ptr (Q7 (ao hu) h)
 | os b' sz =>
   cases h with
  | os h h0=>exact .os (Q7 (ao hu) h) h0
 | rowp b' sz i off =>
   cases h with
  | rowp h h0=>exact .rowp (Q7 (ao hu) h) h0
 | yld b' =>
   cases h with
  | yld h=>exact .yld (Q7 (ao hu) h)
 | row _ _ _ _=>cases h
 | lp _ _ _=>cases h
 | ost _ _ _=>simp [yf,closedC] at hu
 | osh _ _ _=>simp [yf,closedC] at hu
 | oc _ _ _=>simp [yf,closedC] at hu
 | mp _ _=>simp [yf,closedC] at hu
 | any=>exact h.closed hu
 | bool _=>exact h.closed hu
 | int _ _=>exact h.closed hu
 | str _=>exact h.closed hu
 | nilp=>exact h.closed hu
 | rop _ _ _=>exact h.closed hu
 | nils=>exact h.closed hu
 | sl _ _ _=>exact h.closed hu
 | fn _ _ _=>exact h.closed hu
 | nilf=>exact h.closed hu
 | nili=>exact h.closed hu
 | iface _ _=>exact h.closed hu
 | ifa _ _=>exact h.closed hu
 | ifx _=>exact h.closed hu
theorem All2.reset {F w bs b} {x:BI}:∀ {l:List CV} {vs:List Value},All2 (CV.Rel F w bs) l vs->l.all (yf (zP b))=true->All2 (CV.Rel F w (jk bs b x)) l vs
 | _,_,.nil,_=>.nil
 | _, _, .cons h r, hu => by
   simp only [List.all_cons,aTq] at hu;exact .cons (h.reset hu.1) (All2.reset r hu.2)
theorem A1.Rel.reset {F w bs} {c:A1} {v:Value} (h:A1.Rel F w bs c v) {b:Nat} {x:BI} (hu:J9 (zP b) c=true):A1.Rel F w (jk bs b x) c v:=by
 cases c with
 | c c=>exact CV.Rel.reset h hu
 | agg l =>
   obtain ⟨vs,rfl,h⟩:=h;exact ⟨vs,rfl,All2.reset h hu⟩
theorem All2.reset1 {F w bs b} {x:BI}:∀ {l:List A1} {vs:List Value},All2 (A1.Rel F w bs) l vs->l.all (J9 (zP b))=true->All2 (A1.Rel F w (jk bs b x)) l vs
 | _,_,.nil,_=>.nil
 | _, _, .cons h r, hu => by
   simp only [List.all_cons,aTq] at hu;exact .cons (A1.Rel.reset h hu.1) (All2.reset1 r hu.2)
theorem AV.Rel.reset {F w bs} {c:AV} {v:Value} (h:AV.Rel F w bs c v) {b:Nat} {x:BI} (hu:yP (zP b) c=true):AV.Rel F w (jk bs b x) c v:=by
 cases c with
 | any=>trivial
 | one a=>exact A1.Rel.reset h hu
 | tup l =>
   obtain ⟨vs,rfl,h⟩:=h;exact ⟨vs,rfl,All2.reset1 h hu⟩
theorem MemRel.reset {F w bs mem} (hm:MemRel P F w bs mem) {b:Nat} (x:BI) (hd:∀ T cs,nth mem b ≠ some (some (T,cs))) (hu:∀ k T cs,nth mem k=some (some (T,cs))->cs.all (yf (zP b))=true):MemRel P F w (jk bs b x) mem:=by
 have key:∀ {k y T cs},nth mem k=some (some (T,cs))->nth (jk bs b x) k=some y->nth bs k=some y:=by
  intro k y T cs h hk;by_cases e:k=b
  ·subst e;exact (hd T cs h).elim
  ·rwa [zm e] at hk
 refine ⟨by rw [jX];exact hm.len,fun k y T cs hk hc hv=>hm.loc k y T cs (key hc hk) hc hv,fun k k' y y' T cs T' cs' h1 h2 h3 h4=>hm.inj k k' y y' T cs T' cs' (key h3 h1) (key h4 h2) h3 h4,fun k T cs y hc hr hp => ?_,fun k T fz es n ρ y hc hp=>hm.row k T fz es n ρ y hc (key hc hp),fun k T f i st cs y hc hp=>by
  have hu':=hu k T _ hc;simp only [List.all_cons,aTq,List.all_eq_true] at hu';exact (hm.lp k T f i st cs y hc (key hc hp)).cells rfl fun j c hj ha=>⟨c,hj,ha,fun _ h=>h.reset (hu'.2 c (jH hj))⟩⟩
 obtain ⟨vs,h1,h2⟩:=hm.cont k T cs y hc hr (key hc hp);exact ⟨vs,h1,All2.reset h2 (hu k T cs hc)⟩
theorem jbm {o:Oper} {e:TypeId} {z:List CV} (h:Rm P o=some (e,z)):o.guard=none∧(∃ d,o.dst=some d)∧o.op=.alloc e∧jS P e=some z:=by
 unfold Rm at h;split at h
 ·rename_i hg hd ho;split at h
  ·rename_i z' hz;simp only [sIq,pIq] at h;obtain ⟨rfl,rfl⟩:=h;exact ⟨hg,⟨_,hd⟩,ho,hz⟩
  ·cases h
 ·cases h
theorem jca {X:HdP} {ρ:Operand->Option AV} {o:Oper} {g:Tree (AV × Mem)} (h:jbV P X ρ o=some g):o.guard=none∧(∃ d,o.dst=some d)∧∃ c f args G,o.op=.call c∧yW ρ c=some (f,args)∧XO X.nc f=some G∧qH P f=true∧args.all jB=true∧g=G args:=by
 unfold jbV at h;split at h
 ·rename_i c hg hd ho;split at h
  ·split at h
   ·rename_i f args ht;split at h
    ·rename_i G hG;split at h
     ·rename_i hc;rw [aTq] at hc;simp only [sIq] at h;exact ⟨hg,⟨_,hd⟩,c,f,args,G,ho,ht,hG,hc.1,hc.2,h.symm⟩
     ·cases h
    ·cases h
   ·cases h
  ·cases h
 ·cases h
inductive StepL (P:Program) (H:Hd) (X:HdP) (call:ju) (all:List Oper) (masks:List Nat) (K0:Nat) (i:Nat) (s s1:St) (o:Oper) (T:Touch) (K:List (Nat × Bool)) (r:AV):Prop where
 | lay (e:TypeId) (z:List CV) (h:Rm P o=some (e,z)) (hn:nth s.mem (K0+i)=some none) (hz:z.all closedC=true) (hT:T=some [(K0+i+1,true)]) (hK:K=[]) (hr:r=.one (.c (.ptr (K0+i) 0))) (hs:s1.tmps=(s.put0 o.dst [] r).tmps) (hm:s1.mem=jk s.mem (K0+i) (some (e,z)))
 | nc (g : Tree (AV × Mem)) (sz : Nat) (U : TypeId) (es : List Sh) (m : Nat) (ρ : Val) (h : jbV P X (lim o s []) o = some g) (hg : g.sel = some (.one (.c (.os 0 sz)), [some (U, [.row false es m ρ])])) (hn : nth s.mem (K0 + i) = some none) (hT : T = some [(K0 + i + 1, true)]) (hK : K = [])
   (hr:r=.one (.c (.os (K0+i) sz))) (hs:s1.tmps=(s.put0 o.dst [] r).tmps) (hm:s1.mem=jk s.mem (K0+i) (some (U,[.row false es m ρ])))
 | old (h:StepOk P H call all s s1 o T K r) (hu:yP (JK masks K0 i) r=true) (hm:s1.mem=s.mem∨jkC (JK masks K0 i) s1.mem T=true)
theorem VW {H : Hd} {X : HdP} {call : ju} {all : List Oper} {masks : List Nat} {K0 : Nat} : ∀ (l : List Oper) (n : Nat) (s : St) {s' : St} {is : List kG}, (Jq P H X call all masks K0 n l s).sel = some (s', is) ->
  ∃ (st:Nat->St) (rs:Nat->AV),st 0=s∧st l.length=s'∧is.length=l.length∧∀ i o,l[i]? = some o->∃ T K,is[i]? = some (T,K)∧StepL P H X call all masks K0 (n+i) (st i) (st (i+1)) o T K (rs i)
 | [], n, s, s', is, h => by
   simp only [Jq,Tree.sel,sIq,pIq] at h;obtain ⟨rfl,rfl⟩:=h;exact ⟨fun _=>s,fun _=>.any,rfl,rfl,rfl,fun i o h=>by simp at h⟩
 | o :: r, n, s, s', is, h => by
   have key : ∀ (s1 : St) (T : Touch) (K : List (Nat × Bool)) (v : AV) (is' : List kG), (Jq P H X call all masks K0 (n + 1) r s1).sel = some (s', is') -> is = (T, K) :: is' -> StepL P H X call all masks K0 n s s1 o T K v ->
     ∃ (st:Nat->St) (rs:Nat->AV),st 0=s∧st (o::r).length=s'∧is.length=(o::r).length∧∀ i o',(o::r)[i]? = some o'->∃ T K,is[i]? = some (T,K)∧StepL P H X call all masks K0 (n+i) (st i) (st (i+1)) o' T K (rs i):=by
    intro s1 T K v is' h1 hi hs;obtain ⟨st,rs,h0,hn,hl,hstep⟩:=VW r (n+1) s1 h1;subst hi;refine ⟨fun i=>match i with | 0=>s | i+1=>st i,fun i=>match i with | 0=>v | i+1=>rs i,rfl,hn,by simp [hl],fun i o' hi => ?_⟩
    cases i with
    | zero =>
      simp at hi;subst hi;exact ⟨T,K,rfl,by simpa [h0] using hs⟩
    | succ i =>
      simp at hi;obtain ⟨T',K',h1,h2⟩:=hstep i o' hi;refine ⟨T',K',by simpa using h1,?_⟩
      rw [show n+(i+1)=n+1+i by omega]
      exact h2
   simp only [Jq] at h;split at h
   ·rename_i e z hlay;split at h
    ·rename_i hdead;split at h
     ·rename_i hz;obtain ⟨⟨s2,is'⟩,h3,h4⟩:=jh h;simp only [Tree.sel,sIq,pIq] at h4;obtain ⟨rfl,rfl⟩:=h4;refine key _ _ _ _ _ h3 rfl (.lay e z hlay hdead hz rfl rfl rfl ?_ ?_)
      ·cases o.dst<;>rfl
      ·rw [yi]
     ·simp [Tree.sel] at h
    ·simp [Tree.sel] at h
   ·split at h
    ·rename_i g hnc;split at h
     ·rename_i hdead;obtain ⟨zz,hz,h2⟩:=jh h;split at h2
      ·rename_i sz U es m ρ;obtain ⟨⟨s2,is'⟩,h3,h4⟩:=jh h2;simp only [Tree.sel,sIq,pIq] at h4;obtain ⟨rfl,rfl⟩:=h4;refine key _ _ _ _ _ h3 rfl (.nc g sz U es m ρ hnc hz hdead rfl rfl rfl ?_ ?_)
       ·cases o.dst<;>rfl
       ·rw [yi]
      ·simp [Tree.sel] at h2
     ·simp [Tree.sel] at h
    ·split at h
     ·rename_i hg;obtain ⟨⟨rv,mem'⟩,h1,h2⟩:=jh h;split at h2
      ·rename_i hu;rw [aTq] at hu;obtain ⟨⟨s2,is'⟩,h3,h4⟩:=jh h2;simp only [Tree.sel,sIq,pIq] at h4;obtain ⟨rfl,rfl⟩:=h4;refine key _ _ _ rv _ h3 rfl (.old ⟨rfl,?_,.inl ⟨hg,rfl,?_⟩⟩ hu.1 (.inr ?_))
       ·cases o.dst<;>rfl
       ·rw [yi];exact h1
       ·rw [yi];exact hu.2
      ·simp [Tree.sel] at h2
     ·rename_i j b hg;split at h
      ·rename_i K hK;split at h
       ·simp [Tree.sel] at h
       ·rename_i hcond;simp only [Bool.or_eq_true,Bool.not_eq_true',not_or,Bool.not_eq_false,Bool.not_eq_true] at hcond;obtain ⟨hq,hdst⟩:=hcond;obtain ⟨⟨rv,mem'⟩,h1,h2⟩:=jh h;split at h2
        ·rename_i hu;obtain ⟨⟨s2,is'⟩,h3,h4⟩:=jh h2;simp only [Tree.sel,sIq,pIq] at h4;obtain ⟨rfl,rfl⟩:=h4
         have hkd:∀ p ∈ K,some p.1 ≠ o.dst:=by
          intro p hp e;rw [List.any_eq_false] at hdst;exact hdst p hp (by simp [e])
         exact key _ _ _ rv _ h3 rfl (.old ⟨rfl,rfl,.inr ⟨j,b,mem',hg,hK,hq,hkd,yi _ _ _ _,h1⟩⟩ hu (.inl (yi _ _ _ _)))
        ·simp [Tree.sel] at h2
      ·simp [Tree.sel] at h
theorem StepL.same {H : Hd} {X : HdP} {call : ju} {all : List Oper} {masks : List Nat} {K0 i : Nat} {s s1 : St} {o : Oper} {T : Touch} {K : List (Nat × Bool)} {r : AV}
  (h:StepL P H X call all masks K0 i s s1 o T K r):s1.tmps=(s.put0 o.dst K r).tmps∧∀ l,¬ T.wr l->obs s1.mem l=obs s.mem l:=by
 have one:∀ e,s1.mem=jk s.mem (K0+i) e->T=some [(K0+i+1,true)]->∀ l,¬ T.wr l->obs s1.mem l=obs s.mem l:=by
  intro e hm hT l hw;subst hT;rw [hm];cases l with
  | zero=>simp [obs,jX]
  | succ k =>
    have hk:k ≠ K0+i:=fun e=>hw (by subst e;simp [Touch.wr])
    simp only [obs,Sum.inr.injEq];exact zm hk
 cases h with
 | lay e z h hn hz hT hK hr hs hm=>subst hK;exact ⟨hs,one _ hm hT⟩
 | nc g sz U es m ρ h hg hn hT hK hr hs hm=>subst hK;exact ⟨hs,one _ hm hT⟩
 | old h hu hm =>
   refine ⟨h.put,fun l hn => ?_⟩;rcases h.step with ⟨hg,hK,h1⟩ | ⟨j,b,m',hg,hK,hq,hkd,hm',h1⟩
   ·obtain ⟨m,h2,h3⟩:=JL (mem:=s.mem) h1 (fun _ _=>rfl);have hT:=h.touch;rw [hK] at hT;rw [← hT] at h3;exact ((h3 l).2 hn).2
   ·rw [hm']
theorem StepL.wrote {H : Hd} {X : HdP} {call : ju} {all : List Oper} {masks : List Nat} {K0 i : Nat} {s s1 : St} {o : Oper} {T : Touch} {K : List (Nat × Bool)} {r : AV}
  (h:StepL P H X call all masks K0 i s s1 o T K r) {k:Nat} {e:Option (TypeId × List CV)} (hk:nth s1.mem k=some e):nth s.mem k=some e∨(T.wr (k+1)∧kL (JK masks K0 i) e=true):=by
 by_cases hw:T.wr (k+1)
 ·have one : ∀ e0, s1.mem = jk s.mem (K0 + i) e0 -> kL (JK masks K0 i) e0 = true -> nth s.mem k = some e ∨ (T.wr (k + 1) ∧ kL (JK masks K0 i) e = true) := by
   intro e0 hm h0;rw [hm] at hk;rcases jD hk with ⟨_,rfl⟩ | ⟨_,hk⟩
   ·exact .inr ⟨hw,h0⟩
   ·exact .inl hk
  cases h with
  | lay e z h hn hz hT hK hr hs hm=>exact one _ hm (by simp only [kL,List.all_eq_true] at hz ⊢;exact fun x hx=>Vv (hz x hx))
  | nc g sz U es m ρ h hg hn hT hK hr hs hm=>exact one _ hm rfl
  | old h hu hm =>
    rcases hm with hm | hm
    ·rw [hm] at hk;exact .inl hk
    ·refine .inr ⟨hw,?_⟩;cases T with
     | none=>exact List.all_eq_true.1 hm _ (jH hk)
     | some t =>
       have:=List.all_eq_true.1 hm (k+1,true) hw
       simp only [hk] at this;exact this
 ·have:=h.same.2 (k+1) hw
  left;have e2:nth s1.mem k=nth s.mem k:=by simpa [obs] using this
  rw [← e2];exact hk
theorem je0 {H : Hd} {X : HdP} {call : ju} {all : List Oper} {K0 : Nat} {s s' : St} {is : List kG} (h : (Jq P H X call all (qI all []) K0 0 all s).sel = some (s', is)) (hd : Qq all is = true) (h0 : ∀ sl ∈ s.tmps, sl.keys = []) :
  ∃ p:APlan all,p.st 0=s∧p.st all.length=s'∧(∀ i j,p.anc i j↔zA (qI all []) i j=true)∧∀ i o,all[i]? = some o->StepL P H X call all (qI all []) K0 i (p.st i) (p.st (i+1)) o (p.T i) (p.K i) (p.rs i):=by
 obtain ⟨st,rs,e0,en,hl,hstep⟩:=VW all 0 s h;simp only [Qq,aTq] at hd;obtain ⟨⟨⟨h1,h2⟩,h3⟩,h4⟩:=hd
 have hi:∀ i,i<all.length->is[i]? = some ((is[i]?.getD (none,[])).1,(is[i]?.getD (none,[])).2):=by
  intro i hi;rw [List.getElem?_eq_getElem (by omega)]
  simp
 have hlt:∀ {i:Nat} {o:Oper},all[i]? = some o->i<all.length:=fun h=>qG h
 have hst:∀ i o,all[i]? = some o->StepL P H X call all (qI all []) K0 i (st i) (st (i+1)) o (is[i]?.getD (none,[])).1 (is[i]?.getD (none,[])).2 (rs i):=by
  intro i o ho;obtain ⟨T,K,h1,h2⟩:=hstep i o ho;rw [Nat.zero_add] at h2;simpa [h1] using h2
 refine ⟨{ st:=st,rs:=rs,T:=fun i=>(is[i]?.getD (none,[])).1,K:=fun i=>(is[i]?.getD (none,[])).2,anc:=fun i j=>zA (qI all []) i j=true,put:=?_,same1:=?_,start:=?_,edges:=?_,dsts:=KQ h2,tmps:=?_,guards:=?_,keys:=?_,touch:=?_,lt:=?_,down:=?_ },e0,en,fun _ _=>Iff.rfl,hst⟩
 ·intro i o ho;exact (hst i o ho).same.1
 ·intro i l hil hn;exact (hst i _ (List.getElem?_eq_getElem hil)).same.2 l hn
 ·rw [e0];exact h0
 ·intro i o ho e he hb
  have:=YK h1 i o ho e he hb
  omega
 ·intro j o t ho ht
  have:=(kF h3 j o _ _ ho (hi j (hlt ho))).1 t ht
  rw [Nat.zero_add] at this;unfold Hw at this;split at this
  ·rename_i i hw;obtain ⟨j',o',h1,h2,h3⟩:=kH hw;left;rw [Bool.or_eq_true,Bool.or_eq_true,beq_iff_eq] at this;rw [show i=j' by omega] at this
   exact ⟨j',o',h2,h3,this.elim (fun h=>h.elim .inl fun h=>.inr (.inl h)) fun h=>.inr (.inr h)⟩
  ·rename_i hw;right;exact Z7 hw
 ·intro j o g b ho hg
  have:=(kF h3 j o _ _ ho (hi j (hlt ho))).2.1 g b hg
  rwa [Nat.zero_add] at this
 ·intro j o p ho hp
  have:=(kF h3 j o _ _ ho (hi j (hlt ho))).2.2 p hp
  rw [Nat.zero_add] at this;unfold GP at this;split at this
  ·rename_i i hw;obtain ⟨j',o',h1,h2,h3⟩:=kH hw;exact ⟨j',o',h2,h3,by rw [show j'=i by omega];exact this⟩
  ·simp at this
 ·intro i j l hij hj hl'
  have:=Zu h4 i j _ _ _ _ hij (hi i (by omega)) (hi j hj)
  rw [Nat.zero_add,Nat.zero_add] at this;exact WH this hl'
 ·intro i j h;unfold zA at h;rw [aTq] at h;simpa using h.1
 ·intro L N hd hLN i j h hN;unfold zA at h;rw [aTq] at h;obtain ⟨_,h⟩:=h;split at h
  ·rename_i m hm;exact YX hd hLN all [] (by simp) (fun j m h=>by simp [nth] at h) j m hm i h hN
  ·simp at h
theorem OL {α:Type} {l:List α} {b:Nat} {y x:α} (h:x ∈ jk l b y):x ∈ l∨x=y:=by
 rw [jC] at h;rcases List.mem_or_eq_of_mem_set h with h | h
 ·exact .inl h
 ·exact .inr h
theorem JA.slot {p:APlan all} {L:Nat->Prop} {s:St} (h:JA p L s) {d:Nat} {sl:Slot} (hn:nth s.tmps d=some sl):nth (p.st 0).tmps d=some sl∨∃ (i:Nat) (o:Oper),all[i]? = some o∧L i∧sl=⟨p.K i,p.rs i⟩:=by
 by_cases hf:∀ (i:Nat) (o:Oper),all[i]? = some o->o.dst ≠ some d
 ·left;rw [← h.free d hf];exact hn
 ·have : ∃ (i : Nat) (o : Oper), all[i]? = some o ∧ o.dst = some d := by
   apply Classical.byContradiction;intro hn;exact hf fun i o hi hd=>hn ⟨i,o,hi,hd⟩
  obtain ⟨i,o,hi,hd⟩:=this;by_cases hl:L i
  ·right;refine ⟨i,o,hi,hl,?_⟩;have e:=(h.slots i o d hi hd).1 hl;rw [hn] at e;rcases jD e.symm with ⟨_,h2⟩ | ⟨h2,_⟩
   ·exact h2
   ·exact (h2 rfl).elim
  ·left;rw [← (h.slots i o d hi hd).2 hl];exact hn
theorem jgf {F : Nat -> Prop} {w : World} {bs : List BI} {s : St} {a : Act} (hs : StRel P D F w bs s a) {K0 b : Nat} (hb : K0 <= b) (hn : nth s.mem b = some none) (hu : ∀ k T cs, nth s.mem k = some (some (T, cs)) -> cs.all (yf (zP b)) = true)
  (hsl:∀ d sl,nth s.tmps d=some sl->yP (zP b) sl.v=true) {e:TypeId} {z:List CV} {v:Value} (hr:All2 (CV.Rel F w bs) z v.cells.toList) (hz:z.all closedC=true) :
  ∃ F' bs',(∀ K,K<=K0->Ext K F w bs F' (w.alloc (.cells v.cells e)) bs')∧StRel P D F' (w.alloc (.cells v.cells e)) bs' { s with mem:=jk s.mem b (some (e,z)) } a∧nth bs' b=some ⟨w.heap.size,0,0⟩∧bs'.length=bs.length:=by
 have hbl:b<bs.length:=by rw [hs.mem.len];exact jq hn
 have hdead:∀ T cs,nth s.mem b ≠ some (some (T,cs)):=fun T cs h=>by rw [hn] at h;cases h
 have he0:=Ext.alloc (F:=F) (bs:=bs) bs.length (.cells v.cells e:Obj) (w:=w);have hm1:=hs.mem.alloc (.cells v.cells e);have hm2:=hm1.reset ⟨w.heap.size,0,0⟩ hdead hu;have hx:nth (jk bs b ⟨w.heap.size,0,0⟩) b=some ⟨w.heap.size,0,0⟩:=qo hbl;have hm3:=hm2.put (T:=e) (cs:=z) hx hdead (fun _=>⟨.inr rfl,by simp⟩) (fun _ k y T' cs' hk hc hv => ?_) (fun _=>⟨v.cells.toList,?_,?_⟩) (fun fz es n ρ h=>by have:=hr.noRow;subst h;simp [je] at this) (fun f i st cs' h=>by have:=hr.noRow;subst h;simp [je] at this)
 ·refine ⟨_,jk bs b ⟨w.heap.size,0,0⟩,fun K hK=>⟨he0.size,he0.F1,he0.F2,he0.same,rfl,rfl,rfl,fun k y hk hy=>Q7 (by omega) hy,fun y hy => ?_⟩,⟨hs.defers,hs.len,fun d sl y h1 h2 => ?_,hm3⟩,hx,jX _ _ _⟩
  ·rcases OL hy with hy | rfl
   ·exact .inl ⟨y,hy,rfl⟩
   ·exact .inr (lRq _)
  ·refine ⟨fun hk => ?_,(hs.slots d sl y h1 h2).2⟩;exact (AV.Rel.grow he0.grow ((hs.slots d sl y h1 h2).1 hk)).reset (hsl d sl h1)
 ·by_cases ek:k=b
  ·subst ek;exact (hdead _ _ hc).elim
  ·rw [zm ek] at hk
   have:=(hs.mem.loc k y T' cs' hk hc hv).2
   simp only;omega
 ·rw [Array.toArray_toList];show (w.heap.push _)[_]? = _
  simp
 ·exact All2.reset (hr.imp fun _ _ h=>h.grow he0.grow) (by simp only [List.all_eq_true] at hz ⊢;exact fun x hx=>Vv (hz x hx))
theorem jhM {F : Nat -> Prop} {w w2 : World} {bs : List BI} {s : St} {a : Act} (hs : StRel P D F w bs s a) {K0 b : Nat} (hb : K0 <= b) (hn : nth s.mem b = some none) (hu : ∀ k T cs, nth s.mem k = some (some (T, cs)) -> cs.all (yf (zP b)) = true)
  (hsl:∀ d sl,nth s.tmps d=some sl->yP (zP b) sl.v=true) {F':Nat->Prop} {bs':List BI} {U:TypeId} {es:List Sh} {m sz:Nat} {ρ:Val} {v:Value} (hx:Ext 0 F w [] F' w2 bs') (hmm:MemRel P F' w2 bs' [some (U,[.row false es m ρ])]) (hv:CV.Rel F' w2 bs' (.os 0 sz) v) :
  ∃ F2 bs2,(∀ K,K<=K0->Ext K F w bs F2 w2 bs2)∧StRel P D F2 w2 bs2 { s with mem:=jk s.mem b (some (U,[.row false es m ρ])) } a∧CV.Rel F2 w2 bs2 (.os b sz) v∧bs2.length=bs.length:=by
 have hbl:b<bs.length:=by rw [hs.mem.len];exact jq hn
 have hdead:∀ T cs,nth s.mem b ≠ some (some (T,cs)):=fun T cs h=>by rw [hn] at h;cases h
 cases hv with
 | os hx0 hbase =>
   rename_i x base
   let F2:Nat->Prop:=fun p=>(p<w.heap.size∧F p)∨(w.heap.size<=p∧F' p)
   have hge:w.heap.size<=x.p:=by
    rcases hx.mem x (jH hx0) with ⟨y,hy,_⟩ | h
    ·cases hy
    ·exact h
   have e2:∀ K,Ext K F w bs F2 w2 bs:=fun K=>⟨hx.size,fun p hp h=>h.elim (fun h=>h.2) (fun h=>by omega),fun p h hp _=>.inl ⟨hp,h⟩,fun p hp _=>hx.same p hp (.inr fun x hx=>by cases hx),hx.os,hx.tape,hx.output,fun _ _ _ h=>h,fun x h=>.inl ⟨x,h,rfl⟩⟩
   have m1:MemRel P F2 w2 bs s.mem:=hs.mem.move (e2 _) fun k y T cs hk hc hv=>by
    have hl:=hs.mem.loc k y T cs hk hc hv;exact ⟨.inl ⟨hl.2,hl.1⟩,hx.same _ hl.2 (.inr fun x hx=>by cases hx)⟩
   have m2:=m1.reset x hdead hu;have hxb:nth (jk bs b x) b=some x:=qo hbl;have hr:=hmm.row 0 U false es m ρ x rfl hx0;have g0:Grow F' F2 [] [] w2 w2:=⟨lRq _,fun p _ h=>h.elim (fun h=>hx.F2 p h.2 h.1 (fun x hx=>by cases hx)) (fun h=>h.2),fun _ _ _=>rfl,fun _ _ h=>h⟩
   have m3:=m2.put (T:=U) (cs:=[.row false es m ρ]) hxb hdead (fun hl => ?_) (fun hl k y T' cs' hk hc hv => ?_) (fun h=>by simp [je] at h) (fun fz' es' n' ρ' h => ?_)
   ·refine ⟨F2,jk bs b x,fun K hK=>⟨(e2 K).size,(e2 K).F1,(e2 K).F2,(e2 K).same,(e2 K).os,(e2 K).tape,(e2 K).output,fun k y hk hy=>Q7 (by omega) hy,fun y hy => ?_⟩,⟨hs.defers,hs.len,fun d sl y h1 h2 => ?_,m3⟩,CV.Rel.os hxb hbase,jX _ _ _⟩
    ·rcases OL hy with hy | rfl
     ·exact .inl ⟨y,hy,rfl⟩
     ·exact .inr hge
    ·refine ⟨fun hk => ?_,(hs.slots d sl y h1 h2).2⟩;exact (AV.Rel.grow (e2 bs.length).grow ((hs.slots d sl y h1 h2).1 hk)).reset (hsl d sl h1)
   ·have:=hmm.loc 0 x U _ hx0 rfl hl
    exact ⟨.inr ⟨hge,this.1⟩,this.2⟩
   ·by_cases ek:k=b
    ·subst ek;exact (hdead _ _ hc).elim
    ·rw [zm ek] at hk
     have:=(hs.mem.loc k y T' cs' hk hc hv).2
     omega
   ·simp only [List.cons.injEq,CV.row.injEq,and_true] at h;obtain ⟨rfl,rfl,rfl,rfl⟩:=h;refine ⟨hr.len,hr.le,hr.mx,fun h0 => ?_,fun _ h=>by cases h⟩
    obtain ⟨arr,a1,a2,val,a3,a4⟩:=hr.blk h0;exact ⟨arr,a1,a2,val,a3,fun i f s hi hs=>(a4 i f s hi hs).grow g0⟩
theorem jcO {H : Hd} (hpc : SumOk P H) {X : HdP} (hnc : Li P X.nc) {call : ju} (hcall : CallOk P call) {masks : List Nat} {K0 : Nat} {ops : Array Oper} (hops : ops.toList = all) (p : APlan all)
  (hanc:∀ i j,p.anc i j↔zA masks i j=true) (hstep:∀ i o,all[i]? = some o->StepL P H X call all masks K0 i (p.st i) (p.st (i+1)) o (p.T i) (p.K i) (p.rs i)) (hmu:(p.st 0).mem.all (Ym K0)=true) (hsu:∀ sl ∈ (p.st 0).tmps,UT K0 sl.v=true) {Q:Exit->Act->World->Prop} {F0:Nat->Prop} {w0:World} {bs0:List BI} (hb0:bs0.length=K0)
  (hQ:∀ F' w' bs' a',Ext bs0.length F0 w0 bs0 F' w' bs'->StRel P D F' w' bs' (p.st all.length) a'->Q .normal a' w') :
  ∀ (fuel:Nat) (listed:Array Bool) (a:Act) (w:World) (s:St) (F:Nat->Prop) (bs:List BI),listed.size=all.length->listed.toList.countP (fun b=>!b)<=fuel ->
   (∀ j o,all[j]? = some o->Lof listed j->∀ e ∈ o.after,Region.binds .any e=true->Lof listed e.on)->JA p (Lof listed) s->Ext bs0.length F0 w0 bs0 F w bs->bs0.length<=bs.length->StRel P D F w bs s a->wpAny P .any ops Q fuel listed a w:=by
 have hmU:∀ i,i<=all.length->∀ k e,nth (p.st i).mem k=some e->kL (fun b=>Nat.blt b K0) e=true∨∃ i1,i1<i∧(p.T i1).wr (k+1)∧kL (JK masks K0 i1) e=true:=by
  intro i
  induction i with
  | zero=>exact fun _ k e hk=>.inl (RH (List.all_eq_true.1 hmu _ (jH hk)))
  | succ i ih =>
    intro hi k e hk;rcases (hstep i _ (List.getElem?_eq_getElem hi)).wrote hk with h | ⟨h1,h2⟩
    ·rcases ih (by omega) k e h with h | ⟨i1,h1,h2⟩
     ·exact .inl h
     ·exact .inr ⟨i1,by omega,h2⟩
    ·exact .inr ⟨i,by omega,h1,h2⟩
 have hget:∀ i,ops[i]? = all[i]?:=fun i=>by rw [← hops,Array.getElem?_toList]
 have hready:∀ listed:Array Bool,listed.size=all.length->Region.ready .any ops listed=[]->∀ k,k<all.length->Lof listed k:=by
  intro listed hsz hr k
  induction k using Nat.strongRecOn with
  | ind k ih =>
    intro hk;apply Classical.byContradiction;intro hn
    have:k ∈ Region.ready .any ops listed:=by
     rw [mem_ready];refine ⟨?_,all[k],by rw [hget];exact List.getElem?_eq_getElem hk,fun e he hb => ?_⟩
     ·unfold Lof at hn;have hk':k<listed.size:=by omega
      simp only [Array.getD_eq_getD_getElem?,Array.getElem?_eq_getElem hk',Option.getD_some] at hn ⊢;simpa using hn
     ·have hlt:=p.edges k _ (List.getElem?_eq_getElem hk) e he hb;exact ih e.on hlt (by omega)
    rw [hr] at this;cases this
 intro fuel
 induction fuel with
 | zero =>
   intro listed a w s F bs hsz hc hdn hJ hext hK0 hs
   have hnil:Region.ready .any ops listed=[]:=by
    rw [List.eq_nil_iff_forall_not_mem];intro j hj;obtain ⟨h0,o,ho,_⟩:=mem_ready.1 hj;rw [hget] at ho;have hjl:=qG ho;have hj':j<listed.size:=by omega
    have:=List.countP_eq_zero.1 (Nat.le_zero.1 hc) listed[j] (by simp)
    simp only [Array.getD_eq_getD_getElem?,Array.getElem?_eq_getElem hj',Option.getD_some] at h0;simp [h0] at this
   have hall:=hready listed hsz hnil
   have:=hJ.eq hall
   subst this;exact ⟨hnil,hQ F w bs a hext hs⟩
 | succ fuel ih =>
   intro listed a w s F bs hsz hc hdn hJ hext hK0 hs;refine ⟨fun hnil => ?_,fun j hj => ?_⟩
   ·have hall:=hready listed hsz hnil
    have:=hJ.eq hall
    subst this;exact hQ F w bs a hext hs
   ·obtain ⟨h0,o,ho,hed⟩:=mem_ready.1 hj;have ho':=ho;rw [hget] at ho';have hjl:=qG ho';have hj':j<listed.size:=by omega
    have hjf:listed[j]=false:=by simpa only [Array.getD_eq_getD_getElem?,Array.getElem?_eq_getElem hj',Option.getD_some] using h0
    have hnl:¬ Lof listed j:=by
     unfold Lof;simp [Array.getElem?_eq_getElem hj',hjf]
    have hL:∀ i k,p.anc i k->Lof listed k->Lof listed i:=p.down _ _ hdn fun _ h=>h
    have hd:∀ i,p.anc i j->Lof listed i:=fun i hi=>p.down (Lof listed) (fun k=>Lof listed k∨k=j) (fun k ok hk hN e he hb=>by
     rcases hN with hN | rfl
     ·exact hdn k ok hk hN e he hb
     ·rw [ho'] at hk;simp at hk;subst hk;exact hed e he hb) (fun _ h=>.inl h) i j hi (.inr rfl)
    obtain ⟨hsame,hkeys,hmem⟩:=hJ.same ho' hd hL hnl;have hset:∀ k,Lof (listed.setIfInBounds j true) k↔(Lof listed k∨k=j):=LZ hj'
    have next:∀ (a':Act) (w':World) (s':St) (F':Nat->Prop) (bs':List BI),JA p (fun k=>Lof listed k∨k=j) s'->Ext bs0.length F w bs F' w' bs'->bs0.length<=bs'.length->StRel P D F' w' bs' s' a'->wpAny P .any ops Q fuel (listed.setIfInBounds j true) a' w':=by
     intro a' w' s' F' bs' hJ' he hle hs';refine ih _ a' w' s' F' bs' (by simpa using hsz) ?_ (fun k ok hk hl e hee hb => ?_) (hJ'.congr fun k _=>(hset k).symm) (hext.trans he (lRq _)) hle hs'
     ·simp only [Array.toList_setIfInBounds];rw [List.countP_set (by simpa using hj')]
      have:0<listed.toList.countP (fun b=>!b):=List.countP_pos_iff.2 ⟨listed[j],by simp,by simp [hjf]⟩
      have e1:((!listed.toList[j])=true)=True:=by simp [hjf]
      simp only [e1,if_true,Bool.not_true,Bool.false_eq_true,if_false];omega
     ·rw [hset] at hl ⊢;rcases hl with hl | rfl
      ·exact .inl (hdn k ok hk hl e hee hb)
      ·rw [ho'] at hk;simp at hk;subst hk;exact .inl (hed e hee hb)
    have hlim:∀ K,lim o s K=lim o (p.st j) K:=fun K=>Un hsame;have e1:(fun K'=>lim o (p.st j) K')=fun K'=>lim o s K':=funext fun K=>(hlim K).symm;unfold wpOp;simp only [ho];cases hstep j o ho' with
    | lay e z hlay hn hz hT hK hr hs1 hm1 =>
      obtain ⟨hg,⟨d,hd'⟩,hop,hzc⟩:=jbm hlay;simp only [Region.wanted,hg,if_true];left;obtain ⟨v,hzv,hrv⟩:=kP (F:=F) (w:=w) (bs:=bs) hzc;have hobj:=hmem (K0+j+1) (by rw [hT];exact ⟨true,by simp⟩)
      have hdead:nth s.mem (K0+j)=some none:=by
       have:nth s.mem (K0+j)=nth (p.st j).mem (K0+j):=by simpa [obs] using hobj
       rw [this];exact hn
      have hav0:∀ b,Nat.blt b K0=true->zP (K0+j) b=true:=fun b hb=>by
       have:b<K0:=by simpa using hb
       have:b ≠ K0+j:=by omega
       simpa [zP] using this
      have havI:∀ i,Lof listed i->∀ b,JK masks K0 i b=true->zP (K0+j) b=true:=fun i hi b hb=>by
       suffices b ≠ K0+j by simpa [zP] using this
       intro e;subst e;unfold JK at hb;rw [Bool.or_eq_true,Bool.or_eq_true,Nat.add_sub_cancel_left] at hb;rcases hb with (hb | hb) | hb
       ·have:K0+j<K0:=by simpa using hb
        omega
       ·exact hnl (hL j i ((hanc j i).2 hb) hi)
       ·have:K0+j=K0+i:=by simpa using hb
        exact hnl (by rw [show j=i by omega];exact hi)
      have hu:∀ k T cs,nth s.mem k=some (some (T,cs))->cs.all (yf (zP (K0+j)))=true:=by
       intro k T cs hk;obtain ⟨i,hi,hob,hwr⟩:=hJ.mem (k+1);have e2:nth s.mem k=nth (p.st i).mem k:=by simpa [obs] using hob
       rw [e2] at hk;rcases hmU i hi k _ hk with h | ⟨i1,h1,h2,h3⟩
       ·exact Z8 hav0 h
       ·exact Z8 (havI i1 ((hwr i1 (by omega) h2).2 h1)) h3
      have hsl:∀ d sl,nth s.tmps d=some sl->yP (zP (K0+j)) sl.v=true:=by
       intro d sl hds;rcases hJ.slot hds with h | ⟨i,oi,hi,hl,rfl⟩
       ·exact Zl hav0 (Vq (hsu sl (jH h)))
       ·have hown:JK masks K0 i (K0+i)=true:=by simp [JK]
        cases hstep i oi hi with
        | lay e' z' _ _ _ _ _ hr' _ _=>rw [hr'];exact havI i hl _ hown
        | nc _ _ _ _ _ _ _ _ _ _ _ hr' _ _=>rw [hr'];exact havI i hl _ hown
        | old _ hu _=>exact Zl (havI i hl) hu
      obtain ⟨F',bs',hext',hs2,hnb,hlen⟩:=jgf hs (Nat.le_add_right K0 j) hdead hu hsl hrv hz (e:=e);refine qp (w':=w.alloc (.cells v.cells e)) (v:=.pointer (some ⟨w.heap.size,0,none⟩)) ?_ ?_
      ·unfold execOp;simp [hop,Instr.alloc,hzv,newVar,newRow]
      ·refine next _ _ ({ s with mem:=jk s.mem (K0+j) (some (e,z)) }.put o.dst [] (p.rs j)) F' bs' ?_ (hext' _ (by omega)) (by omega) (StRel.put hs2 (fun _ hp=>by cases hp) (fun _=>by rw [hr];exact CV.Rel.ptr hnb) (fun h=>(h jA).elim))
       have hmem':=hJ.mem_step ho' hd hL hnl (mem':=jk s.mem (K0+j) (some (e,z))) fun l=>⟨fun hw => ?_,fun hn => ?_⟩
       ·refine hJ.put ho' ?_ ?_
        ·have:=hJ.put_eq ho' hL hnl [] (p.rs j)
         rw [hK,← this];cases o.dst<;>rfl
        ·intro l
         have:({ s with mem:=jk s.mem (K0+j) (some (e,z)) }.put o.dst [] (p.rs j)).mem=jk s.mem (K0+j) (some (e,z)):=by cases o.dst<;>rfl
         rw [this];exact hmem' l
       ·rw [hT] at hw;simp [Touch.wr] at hw;subst hw;rw [hm1];simp only [obs,Sum.inr.injEq];rw [qo (jq hdead),qo (jq hn)]
       ·rw [hT] at hn;cases l with
        | zero=>simp [obs,jX]
        | succ k =>
          have hk:k ≠ K0+j:=fun e=>hn (by subst e;simp [Touch.wr])
          simp only [obs,Sum.inr.injEq];exact zm hk
    | nc g sz U es m ρ hncO hgs hn hT hK hr hs1 hm1 =>
      rw [← hlim] at hncO;obtain ⟨hg,⟨d,hd'⟩,c,f,args,G,hop,htar,hG,hcl,hclosed,rfl⟩:=jca hncO;simp only [Region.wanted,hg,if_true];left;have hobj:=hmem (K0+j+1) (by rw [hT];exact ⟨true,by simp⟩)
      have hdead:nth s.mem (K0+j)=some none:=by
       have:nth s.mem (K0+j)=nth (p.st j).mem (K0+j):=by simpa [obs] using hobj
       rw [this];exact hn
      have hav0:∀ b,Nat.blt b K0=true->zP (K0+j) b=true:=fun b hb=>by
       have:b<K0:=by simpa using hb
       have:b ≠ K0+j:=by omega
       simpa [zP] using this
      have havI:∀ i,Lof listed i->∀ b,JK masks K0 i b=true->zP (K0+j) b=true:=fun i hi b hb=>by
       suffices b ≠ K0+j by simpa [zP] using this
       intro e;subst e;unfold JK at hb;rw [Bool.or_eq_true,Bool.or_eq_true,Nat.add_sub_cancel_left] at hb;rcases hb with (hb | hb) | hb
       ·have:K0+j<K0:=by simpa using hb
        omega
       ·exact hnl (hL j i ((hanc j i).2 hb) hi)
       ·have:K0+j=K0+i:=by simpa using hb
        exact hnl (by rw [show j=i by omega];exact hi)
      have hu:∀ k T cs,nth s.mem k=some (some (T,cs))->cs.all (yf (zP (K0+j)))=true:=by
       intro k T cs hk;obtain ⟨i,hi,hob,hwr⟩:=hJ.mem (k+1);have e2:nth s.mem k=nth (p.st i).mem k:=by simpa [obs] using hob
       rw [e2] at hk;rcases hmU i hi k _ hk with h | ⟨i1,h1,h2,h3⟩
       ·exact Z8 hav0 h
       ·exact Z8 (havI i1 ((hwr i1 (by omega) h2).2 h1)) h3
      have hsl:∀ d sl,nth s.tmps d=some sl->yP (zP (K0+j)) sl.v=true:=by
       intro d sl hds;rcases hJ.slot hds with h | ⟨i,oi,hi,hl,rfl⟩
       ·exact Zl hav0 (Vq (hsu sl (jH h)))
       ·have hown:JK masks K0 i (K0+i)=true:=by simp [JK]
        cases hstep i oi hi with
        | lay e' z' _ _ _ _ _ hr' _ _=>rw [hr'];exact havI i hl _ hown
        | nc _ _ _ _ _ _ _ _ _ _ _ hr' _ _=>rw [hr'];exact havI i hl _ hown
        | old _ hu _=>exact Zl (havI i hl) hu
      obtain ⟨vs,hvs,hrun⟩:=Ya (P:=P) (fun x av hh=>qB hs jA (JJ hh)) hop htar hcl
      have hvs':All2 (A1.Rel F w []) args vs:=by
       clear hgs hncO htar hrun
       induction hvs with
       | nil=>exact .nil
       | cons ha _ ih =>
         simp only [List.all_cons,aTq] at hclosed;exact .cons (ha.closed hclosed.1) (ih hclosed.2)
      unfold Oper.wp;rw [hrun];refine (hnc f G hG args _ _ hgs hclosed F w vs hvs').mono fun ee w2 ⟨v,F',bs',he,hx,hmm,hv⟩ => ?_;subst he;obtain ⟨F2,bs2,hext',hs2,hrel,hlen⟩:=jhM hs (Nat.le_add_right K0 j) hdead hu hsl hx hmm hv;refine next _ _ ({ s with mem:=jk s.mem (K0+j) (some (U,[.row false es m ρ])) }.put o.dst [] (p.rs j)) F2 bs2 ?_ (hext' _ (by omega)) (by omega) (StRel.put hs2 (fun _ hp=>by cases hp) (fun _=>by rw [hr];exact hrel) (fun h=>(h jA).elim))
      have hmem':=hJ.mem_step ho' hd hL hnl (mem':=jk s.mem (K0+j) (some (U,[.row false es m ρ]))) fun l=>⟨fun hw => ?_,fun hn => ?_⟩
      ·refine hJ.put ho' ?_ ?_
       ·have:=hJ.put_eq ho' hL hnl [] (p.rs j)
        rw [hK,← this];cases o.dst<;>rfl
       ·intro l
        have:({ s with mem:=jk s.mem (K0+j) (some (U,[.row false es m ρ])) }.put o.dst [] (p.rs j)).mem=jk s.mem (K0+j) (some (U,[.row false es m ρ])):=by cases o.dst<;>rfl
        rw [this];exact hmem' l
      ·rw [hT] at hw;simp [Touch.wr] at hw;subst hw;rw [hm1];simp only [obs,Sum.inr.injEq];rw [qo (jq hdead),qo (jq hn)]
      ·rw [hT] at hn;cases l with
       | zero=>simp [obs,jX]
       | succ k =>
         have hk:k ≠ K0+j:=fun e=>hn (by subst e;simp [Touch.wr])
         simp only [obs,Sum.inr.injEq];exact zm hk
    | old hst hru hmu' =>
      rcases hst.step with ⟨hg,hK,h⟩ | ⟨g,b,m',hg,hK,hq,hkd,hm,h⟩
      ·simp only [Region.wanted,hg,if_true];left;have hT:=hst.touch;rw [hK] at hT;obtain ⟨mem',h1,h2⟩:=JL (mem:=s.mem) h (fun l hl=>hmem l (by rw [hT];exact hl))
       rw [← hT] at h2;rw [e1] at h1;refine Js hpc hcall hs.mem (fun K x av hk hh=>qB hs hk (JJ hh)) h1 fun F' w' bs' v he hm' hr => ?_;refine next _ w' ({ s with mem:=mem' }.put o.dst [] (p.rs j)) F' bs' ?_ (he.weak hK0) (Nat.le_trans hK0 he.le) (StRel.put (hs.ext he hm') (fun _ hp=>by cases hp) (fun _=>hr) (fun h=>(h jA).elim))
       have hmem':=hJ.mem_step ho' hd hL hnl (mem':=mem') fun l=>⟨(h2 l).1,fun hn=>((h2 l).2 hn).1⟩;refine hJ.put ho' ?_ ?_
       ·have:=hJ.put_eq ho' hL hnl [] (p.rs j)
        rw [hK,← this];cases o.dst<;>rfl
       ·intro l
        have:({ s with mem:=mem' }.put o.dst [] (p.rs j)).mem=mem':=by cases o.dst<;>rfl
        rw [this];exact hmem' l
      ·have hT:=hst.touch;have he:=h;have hga:=p.guards j o g b ho' hg
       have hkeq:keysOf ops.toList s g b=some (p.K j):=by
        rw [hops,← hK];unfold keysOf;split
        ·rename_i og hog;split
         ·rename_i d hdg;rw [jd] at hog;rw [hkeys g og d hog hdg hga]
         ·rfl
        ·rfl
       have hiff:=XQ hs hkeq
       have hgt:yG s (p.K j)=yG (p.st j) (p.K j):=Ye fun q hq=>by
        obtain ⟨i,oi,hi,hdi,ha⟩:=p.keys j o q ho' hq;exact hkeys i oi q.1 hi hdi ha
       have hmem':∀ l,∃ i,i<=all.length∧obs s.mem l=obs (p.st i).mem l∧∀ k,k<all.length->(p.T k).wr l->((Lof listed k∨k=j)↔k<i) :=
        hJ.mem_step ho' hd hL hnl (mem':=s.mem) fun l=>⟨fun hw=>by rw [hm];exact hmem l (Touch.wr_at hw),fun _=>rfl⟩
       have hput:JA p (fun k=>Lof listed k∨k=j) (s.put o.dst (p.K j) (p.rs j)):=by
        refine hJ.put ho' ?_ ?_
        ·rw [hJ.put_eq ho' hL hnl]
        ·have:(s.put o.dst (p.K j) (p.rs j)).mem=s.mem:=by cases o.dst<;>rfl
         rw [this];exact hmem'
       by_cases hk:KH a (p.K j)
       ·have hw:Region.wanted o (yielded ops a.tmps)=true:=(q8 hg _).2 (hiff.1 hk);rw [if_pos hw];left;have h1:=Zj h (by rw [← hgt];exact ZF hs hk)
        have e1:(fun K'=>lim o (p.st j) (K'++p.K j))=fun K'=>lim o s (K'++p.K j):=funext fun K=>(hlim _).symm;rw [e1] at h1;have e2:lim o (p.st j) (p.K j)=lim o s (p.K j):=(hlim _).symm;rw [e2] at hq
        obtain ⟨m2,h3,_⟩:=JL (mem:=s.mem) h1 (fun l hl=>by
         refine (hmem l ?_).trans rfl;rw [hT,e2];exact hl)
        have hρ:∀ K' x av,KH a K'->lim o s (K'++p.K j) x=some av->av.Rel F w bs (a.eval x):=fun K' x av hk' hh=>qB hs (fun q hq=>(List.mem_append.1 hq).elim (hk' q) (hk q)) (JJ hh);have hme:=YA (ρ:=fun K'=>lim o s (K'++p.K j)) hpc hs.mem hρ hq h3;subst hme;refine Js hpc hcall hs.mem hρ h3 fun F' w' bs' v he hm' hr => ?_;exact next _ w' _ F' bs' hput (he.weak hK0) (Nat.le_trans hK0 he.le) (StRel.put (hs.ext he hm') hkd (fun _=>hr) (fun h=>(h hk).elim))
       ·have hw:¬ Region.wanted o (yielded ops a.tmps)=true:=fun h=>hk (hiff.2 ((q8 hg _).1 h));rw [if_neg hw];exact next _ w _ F bs hput Ext.refl hK0 (StRel.put hs hkd (fun h=>(hk h).elim) (fun _=>rfl))
theorem jci {H : Hd} (hpc : SumOk P H) {X : HdP} (hnc : Li P X.nc) {call : ju} (hcall : CallOk P call) {id : Nat} {ops : Array Oper} {s s' : StP} {x : XP} (h : (Dw P H X call ops.toList s).sel = some (x, s'))
  {F:Nat->Prop} {w:World} {bs:List BI} {a:Act} (hs:PRel P F w bs s a) {Q:Exit->Act->World->Prop}
  (hQ:∀ F' w' bs' a' e,Ext bs.length F w bs F' w' bs'->PRel P F' w' bs' s' a'->XRel F' w' bs' x e->Q e a' w'):(Code.region id ops true).wp P Q a w:=by
 unfold Dw at h;split at h
 ·rename_i hc;rw [aTq,aTq] at hc;obtain ⟨⟨hm,hmu⟩,hsu⟩:=hc;obtain ⟨⟨y,is⟩,h1,h2⟩:=jh h;simp only at h2;split at h2
  ·rename_i hd;simp only [Tree.sel,sIq,pIq] at h2;obtain ⟨rfl,rfl⟩:=h2;have hlen:bs.length=s.s.mem.length:=hs.st.mem.len;have hs0:StRel P a.defers F w bs { s.s with tmps:=s.s.tmps.map unkey } a:=hs.st.unkey
   have h0:∀ sl ∈ s.s.tmps.map unkey,sl.keys=[]:=by
    intro sl hsl;simp only [List.mem_map] at hsl;obtain ⟨sl0,_,rfl⟩:=hsl;unfold unkey;split
    ·rename_i he;exact List.isEmpty_iff.1 he
    ·rfl
   obtain ⟨p,e0,en,hanc,hstep⟩:=je0 h1 hd h0;have hb:Below w.heap.size w { w with drawn:=w.drawn+1 }:=Below.drew (Below.refl _ _)
   have hwk:MemWk s.s.mem (s.s.mem++ops.toList.map fun _=>none):=by
    refine ⟨by simp,fun k T cs' hk=>⟨cs',?_,fun _=>rfl,fun hr=>⟨hr,fun _ _ _ _ h=>h⟩⟩⟩
    rw [jd,List.getElem?_append] at hk;split at hk
    ·rw [jd];exact hk
    ·rw [List.getElem?_map] at hk;simp only [Option.map_eq_some_iff] at hk;obtain ⟨_,_,hk⟩:=hk;cases hk
   have hs1:=(hs0.below hb);have hm1:=hs1.mem.weak hwk;have hx1:=Ext.dummies (K:=bs.length) (F:=F) (w:={ w with drawn:=w.drawn+1 }) (bs:=bs) ((s.s.mem++ops.toList.map fun _=>none).length - s.s.mem.length)
   have hs2:=hs1.ext hx1 hm1;have hext:=(Ext.of_below hb (K:=bs.length) (F:=F) (bs:=bs)).trans hx1 (lRq _);refine wp_region_any hm (jcO (F0:=F) (w0:=w) (bs0:=bs) (D:=a.defers) hpc hnc hcall rfl p hanc hstep ?_ ?_ hlen (fun F' w' bs' a' he hs' => ?_) _ _ _ _ _ F _ (by simp) ?_ ?_ ?_ hext (by simp) hs2)
   ·rw [e0,List.all_append,hmu,Bool.true_and,List.all_map];exact List.all_eq_true.2 fun _ _=>rfl
   ·rw [e0];intro sl hsl;obtain ⟨sl0,h3,rfl⟩:=List.mem_map.1 hsl;exact List.all_eq_true.1 hsu sl0 h3
   ·exact hQ F' w' bs' a' _ he ((StRel.unkey (en▸hs')).toP (hs.ds.grow he.grow)) rfl
   ·simpa using List.countP_le_length (p:=fun b=>!b) (l:=List.replicate ops.size false)
   ·intro j o _ hl;unfold Lof at hl;simp [Array.getElem?_replicate] at hl;split at hl<;>simp at hl
   ·have:=We p 0 (Nat.zero_le _)
    rw [e0] at this;refine this.congr fun k hk=>⟨fun h=>by omega,fun hl => ?_⟩
    unfold Lof at hl;simp [Array.getElem?_replicate] at hl;split at hl<;>simp at hl
  ·simp [Tree.sel] at h2
 ·simp [Tree.sel] at h
end Go.Sx