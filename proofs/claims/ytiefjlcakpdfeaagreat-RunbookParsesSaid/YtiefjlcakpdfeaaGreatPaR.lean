/-
 Part PaR of the proof: EngPd EngPe EngPg EngPl.
-/
import Derived.Test.YtiefjlcakpdfeaaGreatPaQ
import Derived.LoopN
import Derived.ScopeJumps
import Derived.Recover
namespace Go.Sx
open Go Go.RowKit
variable {P:Program}
theorem ji6 {F w bs} (e:XE):XRel F w bs e.toP (xe e):=by cases e<;>rfl
theorem PRel.unkey {F w bs s} {a:Act} (hs:PRel P F w bs s a):PRel P F w bs ⟨{ s.s with tmps:=s.s.tmps.map Sx.unkey },s.dl⟩ a:=⟨hs.st.unkey,hs.ds⟩
def LU (P:Program) (b:Code) (h:Nat->St->Tree (XP × St)):Prop :=
 ∀ K s x,(h K s).sel=some x->∃ N,∀ (F:Nat->Prop) (w:World) (bs:List BI) (a:Act),K<=bs.length->PRel P F w bs ⟨s,[]⟩ a->∀ Q:Exit->Act->World->Prop,
  (∀ F' w' bs' a' e,Ext K F w bs F' w' bs'->PRel P F' w' bs' ⟨x.2,[]⟩ a'->XRel F' w' bs' x.1 e->Q e a' w')->Code.rounds P b Q N a w
def L1 (P:Program) (c:Code) (h:Nat->St->Tree (XP × St)):Prop :=
 ∀ K s x,(h K s).sel=some x->∀ (F:Nat->Prop) (w:World) (bs:List BI) (a:Act),K<=bs.length->PRel P F w bs ⟨s,[]⟩ a->∀ Q:Exit->Act->World->Prop,
  (∀ F' w' bs' a' e,Ext K F w bs F' w' bs'->PRel P F' w' bs' ⟨x.2,[]⟩ a'->XRel F' w' bs' x.1 e->Q e a' w')->(Code.scope c).wp P Q a w
def Ya (P:Program) (l:Nat) (rest:Code) (Q:Exit->Act->World->Prop):Nat->Act->World->Prop
 | 0,_,_=>False
 | n+1,a,w=>rest.wp P (Exit.jump l (Ya P l rest Q n) Q) a w
theorem jeW {c rest:Code} {l:Nat} (hf:findLabel c l=some rest) {Q:Exit->Act->World->Prop} {N:Nat} {a:Act} {w:World} (h:c.wp P (Exit.jump l (Ya P l rest Q N) Q) a w):(Code.scope c).wp P Q a w:=by
 intro b k cs;have hg:gotoIn l (.inScope c::k)=some (.code rest::.inScope c::k):=by simp [gotoIn,hf]
 have key:∀ n a w,Ya P l rest Q n a w->∃ e a' w',Q e a' w'∧Arrives P (lone (b.at a (.code rest::.inScope c::k)) cs w) b k cs e a' w':=by
  intro n
  induction n with
  | zero=>intro a w h;exact h.elim
  | succ n ih =>
    intro a w hJ;obtain ⟨e,a₁,w₁,hq,harr⟩:=hJ b (.inScope c::k) cs;cases e with
   | normal=>exact ⟨.normal,a₁,w₁,hq,Steps.trans harr (.one step_inScope)⟩
   | exit id=>exact ⟨.exit id,a₁,w₁,hq,fun k' hk=>harr k' (by simp [exitTo,hk])⟩
   | goto l' =>
     obtain ⟨rfl,hJ'⟩:=hq;obtain ⟨e₂,a₂,w₂,hq₂,harr₂⟩:=ih a₁ w₁ hJ';exact ⟨e₂,a₂,w₂,hq₂,.of_steps (harr _ hg) harr₂⟩
   | ret=>exact ⟨_,a₁,w₁,hq,harr⟩
   | panic ch=>exact ⟨_,a₁,w₁,hq,harr⟩
   | outgrown=>exact ⟨_,a₁,w₁,hq,harr⟩
 obtain ⟨e,a₁,w₁,hq,harr⟩:=h b (.inScope c::k) cs;cases e with
 | normal=>exact ⟨.normal,a₁,w₁,hq,.head step_scope (Steps.trans harr (.one step_inScope))⟩
 | exit id=>exact ⟨.exit id,a₁,w₁,hq,fun k' hk=>.head step_scope (harr k' (by simp [exitTo,hk]))⟩
 | goto l' =>
   obtain ⟨rfl,hJ'⟩:=hq;obtain ⟨e₂,a₂,w₂,hq₂,harr₂⟩:=key _ a₁ w₁ hJ';exact ⟨e₂,a₂,w₂,hq₂,.of_steps (.head step_scope (harr _ hg)) harr₂⟩
 | ret=>exact ⟨_,a₁,w₁,hq,.of_steps (.one step_scope) harr⟩
 | panic ch=>exact ⟨_,a₁,w₁,hq,.of_steps (.one step_scope) harr⟩
 | outgrown=>exact ⟨_,a₁,w₁,hq,.of_steps (.one step_scope) harr⟩
theorem I0 {c:Code} {Q:Exit->Act->World->Prop} {a:Act} {w:World} (h:c.wp P (fun e a w=>(∀ l,e ≠ .goto l)∧Q e a w) a w):(Code.scope c).wp P Q a w:=by
 intro b k cs;obtain ⟨e,a₁,w₁,⟨hn,hq⟩,harr⟩:=h b (.inScope c::k) cs;cases e with
 | normal=>exact ⟨.normal,a₁,w₁,hq,.head step_scope (Steps.trans harr (.one step_inScope))⟩
 | exit id=>exact ⟨.exit id,a₁,w₁,hq,fun k' hk=>.head step_scope (harr k' (by simp [exitTo,hk]))⟩
 | goto l'=>exact (hn l' rfl).elim
 | ret=>exact ⟨_,a₁,w₁,hq,.of_steps (.one step_scope) harr⟩
 | panic ch=>exact ⟨_,a₁,w₁,hq,.of_steps (.one step_scope) harr⟩
 | outgrown=>exact ⟨_,a₁,w₁,hq,.of_steps (.one step_scope) harr⟩
def jmm (P:Program) (lx:List ((Nat × Nat) × (Nat->St->Tree (XP × St)))):Prop :=
 ∀ f fn c i b h,P.funcs[f]? = some fn->fn.body=some c->je c i=some b->Wu lx f i=some h->LU P b h
def jmk (P:Program) (sx:List (Nat × (Nat->St->Tree (XP × St)))):Prop :=
 ∀ f fn c b h,P.funcs[f]? = some fn->fn.body=some c->b ∈ jv c->Wj sx f=some h->L1 P b h
theorem WS {F w bs} {s:StP} {a:Act} (hs:PRel P F w bs s a) (h:s.dl.isEmpty=true):a.defers=[]∧s=⟨s.s,[]⟩:=by
 obtain ⟨s,dl⟩:=s;have hd:=List.isEmpty_iff.1 h;simp only at hd;subst hd
 have:=hs.ds
 cases hD:a.defers with
 | nil=>exact ⟨rfl,rfl⟩
 | cons d r=>rw [hD] at this;cases this
theorem ki {H : Hd} (hpc : SumOk P H) {X : HdP} (hrx : Vb P X.rx) (hnc : HP P X.nc) {call : jw} (hcall : CallOk P call) {callP : q9} (hcallP : CallPOk P X callP) (f K : Nat) : ∀ (c : Code) (n : Nat) (s : StP) {x : XP × StP},
  (j5 P H X call callP f K n c s).sel=some x->(∀ i b h,je c i=some b->kY H.lh f (n+i)=some h->LoopOk P b h) ->
  (∀ i b h,je c i=some b->Wu X.lx f (n+i)=some h->LU P b h)->(∀ b h,b ∈ jv c->Wj X.sx f=some h->L1 P b h)->∀ {F:Nat->Prop} {w:World} {bs:List BI} {a:Act},K<=bs.length->PRel P F w bs s a->∀ {Q:Exit->Act->World->Prop},
  (∀ F' w' bs' a' e,Ext K F w bs F' w' bs'->PRel P F' w' bs' x.2 a'->XRel F' w' bs' x.1 e->Q e a' w')->c.wp P Q a w:=by
 intro c
 induction c with
 | skip =>
   intro n s x h _ _ _ F w bs a hK hs Q hQ;simp only [j5,Tree.sel,sIq] at h;subst h;exact wp_skip (hQ F w bs a _ Ext.refl hs rfl)
 | region id ops draw =>
   intro n s x h _ _ _ F w bs a hK hs Q hQ;simp only [j5] at h;cases draw
   ·simp only [Bool.false_eq_true,if_false] at h;obtain ⟨⟨y,s'⟩,h1,h2⟩:=jh h;simp only [Tree.sel,sIq] at h2;subst h2;exact wp_region_list (JE hpc hrx hcall hcallP _ _ h1 hs fun F' w' bs' a' e he hs' hx=>hQ F' w' bs' a' e (he.weak hK) hs'.unkey hx)
   ·simp only [if_true] at h;obtain ⟨y,s'⟩:=x;split at h
    ·exact jdQ hpc hnc hcall h hs fun F' w' bs' a' e he hs' hx=>hQ F' w' bs' a' e (he.weak hK) hs' hx
    exact jdo hpc hrx hcall hcallP h hs fun F' w' bs' a' e he hs' hx=>hQ F' w' bs' a' e (he.weak hK) hs' hx
 | seq a b iha ihb =>
   intro n s x h hl hlx hsx F w bs a' hK hs Q hQ;simp only [j5] at h;obtain ⟨y,h1,h2⟩:=jh h
   refine wp_seq (iha n s h1 (fun i bb hh hi hk=>hl i bb hh (by
    simp only [je]
    have:i<ji a:=by
     rcases Nat.lt_or_ge i (ji a) with h' | h'
     ·exact h'
     ·exact absurd hi (by rw [evCode_ok.nthLoop_none a i h'];simp)
    rw [if_pos this];exact hi) hk) (fun i bb hh hi hk=>hlx i bb hh (by
    simp only [je]
    have:i<ji a:=by
     rcases Nat.lt_or_ge i (ji a) with h' | h'
     ·exact h'
     ·exact absurd hi (by rw [evCode_ok.nthLoop_none a i h'];simp)
    rw [if_pos this];exact hi) hk) (fun bb hh hi hk=>hsx bb hh (by simp only [jv,List.mem_append];exact .inl hi) hk) hK hs fun F' w' bs' a'' e he hs' hx => ?_)
   obtain ⟨xp,s'⟩:=y;cases xp with
  | normal =>
    cases hx;simp only [Exit.then]
    refine ihb (n+ji a) s' h2 (fun i bb hh hi hk=>hl (ji a+i) bb hh (by
     simp only [je];rw [if_neg (by omega)]
     rw [show ji a+i - ji a=i by omega];exact hi) (by rw [← Nat.add_assoc];exact hk)) (fun i bb hh hi hk=>hlx (ji a+i) bb hh (by
     simp only [je];rw [if_neg (by omega)]
     rw [show ji a+i - ji a=i by omega];exact hi) (by rw [← Nat.add_assoc];exact hk)) (fun bb hh hi hk=>hsx bb hh (by simp only [jv,List.mem_append];exact .inr hi) hk) (he.le hK) hs' fun F'' w'' bs'' a3 e' he' hs'' hx'=>hQ _ _ _ _ _ (he.trans he' (lRq _)) hs'' hx'
  | exit k =>
    cases hx;simp only [Tree.sel,sIq] at h2;subst h2;exact hQ _ _ _ _ _ he hs' rfl
  | ret =>
    cases hx;simp only [Tree.sel,sIq] at h2;subst h2;exact hQ _ _ _ _ _ he hs' rfl
  | pan z =>
    obtain ⟨v,rfl,hv⟩:=hx;simp only [Tree.sel,sIq] at h2;subst h2;exact hQ _ _ _ _ _ he hs' ⟨v,rfl,hv⟩
  | goto l =>
    cases hx;simp only [Tree.sel,sIq] at h2;subst h2;exact hQ _ _ _ _ _ he hs' rfl
 | cond c a b iha ihb =>
   intro n s x h hl hlx hsx F w bs a' hK hs Q hQ;simp only [j5] at h;split at h
   ·rename_i t ht;have hr:=qx hs.st jA ht
    have hc:a'.eval c=.bool t:=by
     generalize a'.eval c=z at hr ⊢;cases hr;rfl
    simp only [Tree.sel] at h;cases t
    ·simp only [cond_false] at h
     refine wp_cond_false hc (ihb (n+ji a) s h (fun i bb hh hi hk=>hl (ji a+i) bb hh (by
      simp only [je];rw [if_neg (by omega)]
      rw [show ji a+i - ji a=i by omega];exact hi) (by rw [← Nat.add_assoc];exact hk)) (fun i bb hh hi hk=>hlx (ji a+i) bb hh (by
      simp only [je];rw [if_neg (by omega)]
      rw [show ji a+i - ji a=i by omega];exact hi) (by rw [← Nat.add_assoc];exact hk)) (fun bb hh hi hk=>hsx bb hh (by simp only [jv,List.mem_append];exact .inr hi) hk) hK hs hQ)
    ·simp only [cond_true] at h
     refine wp_cond_true hc (iha n s h (fun i bb hh hi hk=>hl i bb hh (by
      simp only [je]
      have:i<ji a:=by
       rcases Nat.lt_or_ge i (ji a) with h' | h'
       ·exact h'
       ·exact absurd hi (by rw [evCode_ok.nthLoop_none a i h'];simp)
      rw [if_pos this];exact hi) hk) (fun i bb hh hi hk=>hlx i bb hh (by
      simp only [je]
      have:i<ji a:=by
       rcases Nat.lt_or_ge i (ji a) with h' | h'
       ·exact h'
       ·exact absurd hi (by rw [evCode_ok.nthLoop_none a i h'];simp)
      rw [if_pos this];exact hi) hk) (fun bb hh hi hk=>hsx bb hh (by simp only [jv,List.mem_append];exact .inl hi) hk) hK hs hQ)
   ·simp [Tree.sel] at h
 | block id b ih =>
   intro n s x h hl hlx hsx F w bs a' hK hs Q hQ;simp only [j5] at h;obtain ⟨y,h1,h2⟩:=jh h;refine wp_block (ih n s h1 (fun i bb hh hi hk=>hl i bb hh hi hk) (fun i bb hh hi hk=>hlx i bb hh hi hk) (fun bb hh hi hk=>hsx bb hh hi hk) hK hs fun F' w' bs' a'' e he hs' hx => ?_);obtain ⟨xp,s'⟩:=y;cases xp with
  | normal =>
    cases hx;simp only [Tree.sel,sIq] at h2;subst h2;exact hQ _ _ _ _ _ he hs' rfl
  | exit k =>
    cases hx;simp only [Tree.sel,sIq] at h2;subst h2;simp only [Exit.inBlock];by_cases hk:k=id
    ·simp only [hk,if_true] at hQ ⊢;exact hQ _ _ _ _ _ he hs' rfl
    ·simp only [hk,if_false] at hQ ⊢;exact hQ _ _ _ _ _ he hs' rfl
  | ret =>
    cases hx;simp only [Tree.sel,sIq] at h2;subst h2;exact hQ _ _ _ _ _ he hs' rfl
  | pan z =>
    obtain ⟨v,rfl,hv⟩:=hx;simp only [Tree.sel,sIq] at h2;subst h2;exact hQ _ _ _ _ _ he hs' ⟨v,rfl,hv⟩
  | goto l =>
    cases hx;simp only [Tree.sel,sIq] at h2;subst h2;exact hQ _ _ _ _ _ he hs' rfl
 | loop b ih =>
   intro n s x h hl hlx hsx F w bs a' hK hs Q hQ;simp only [j5] at h;split at h
   ·rename_i hh hk;split at h
    ·rename_i hdl;obtain ⟨⟨y,s'⟩,h1,h2⟩:=jh h;simp only [Tree.sel,sIq] at h2;subst h2;obtain ⟨_,he⟩:=WS hs hdl;rw [he] at hs;obtain ⟨N,hN⟩:=hlx 0 b hh rfl (by simpa using hk) K s.s (y,s') h1
     exact wp_loop_rounds N (hN F w bs a' hK hs Q hQ)
    ·simp [Tree.sel] at h
   ·split at h
    ·rename_i hh hk;split at h
     ·rename_i hdl;obtain ⟨⟨y,s'⟩,h1,h2⟩:=jh h;simp only [Tree.sel,sIq] at h2;subst h2;obtain ⟨hd0,_⟩:=WS hs hdl;exact (wpIn_wide (n:=0)).1 (hl 0 b hh rfl (by simpa using hk) K s.s (y,s') h1 none 0 _ F w bs a' hK hs.st Q fun F' w' bs' a'' he hs'=>hQ F' w' bs' a'' _ he (hs'.toP (by rw [hd0];exact .nil)) (ji6 _))
     ·simp [Tree.sel] at h
    ·have key : ∀ (r : Nat) (s : StP), (Wb (fun s' => j5 P H X call callP f K (n + 1) b s') r s).sel = some x -> ∀ {F : Nat -> Prop} {w : World} {bs : List BI} {a : Act}, K <= bs.length -> PRel P F w bs s a ->
       (∀ F' w' bs' a' e,Ext K F w bs F' w' bs'->PRel P F' w' bs' x.2 a'->XRel F' w' bs' x.1 e->Q e a' w')->Code.rounds P b Q r a w:=by
      intro r
      induction r with
      | zero=>intro s h;simp [Wb,Tree.sel] at h
      | succ r ihr =>
        intro s h F w bs a hK hs hQ;simp only [Wb] at h;obtain ⟨⟨y,s'⟩,h1,h2⟩:=jh h;rw [rounds_succ];refine ih (n+1) s h1 (fun i bb hh hi hk=>hl (i+1) bb hh (by simpa only [je] using hi) (by rw [← hk];congr 1;omega)) (fun i bb hh hi hk=>hlx (i+1) bb hh (by simpa only [je] using hi) (by rw [← hk];congr 1;omega)) (fun bb hh hi hk=>hsx bb hh hi hk) hK hs fun F' w' bs' a'' e he hs' hx => ?_
        cases y with
       | normal =>
         cases hx;exact ihr s' h2 (he.le hK) hs' fun F'' w'' bs'' a3 e' he' hs'' hx'=>hQ _ _ _ _ _ (he.trans he' (lRq _)) hs'' hx'
       | exit k =>
         cases hx;simp only [Tree.sel,sIq] at h2;subst h2;exact hQ _ _ _ _ _ he hs' rfl
       | ret =>
         cases hx;simp only [Tree.sel,sIq] at h2;subst h2;exact hQ _ _ _ _ _ he hs' rfl
       | pan z =>
         obtain ⟨v,rfl,hv⟩:=hx;simp only [Tree.sel,sIq] at h2;subst h2;exact hQ _ _ _ _ _ he hs' ⟨v,rfl,hv⟩
       | goto l =>
         cases hx;simp only [Tree.sel,sIq] at h2;subst h2;exact hQ _ _ _ _ _ he hs' rfl
     exact wp_loop_rounds X.rounds (key X.rounds s h hK hs hQ)
 | exit id =>
   intro n s x h _ _ _ F w bs a hK hs Q hQ;simp only [j5,Tree.sel,sIq] at h;subst h;exact wp_exit (hQ F w bs a _ Ext.refl hs rfl)
 | ret =>
   intro n s x h _ _ _ F w bs a hK hs Q hQ;simp only [j5,Tree.sel,sIq] at h;subst h;exact wp_ret (hQ F w bs a _ Ext.refl hs rfl)
 | rangeFunc _ _ _ _ _ _=>intro n s x h;simp [j5,Tree.sel] at h
 | scope b ih =>
   intro n s x h hl hlx hsx F w bs a' hK hs Q hQ;simp only [j5] at h;split at h
   ·rename_i hh hk;split at h
    ·rename_i hdl;obtain ⟨⟨y,s'⟩,h1,h2⟩:=jh h;simp only [Tree.sel,sIq] at h2;subst h2;obtain ⟨_,he⟩:=WS hs hdl;rw [he] at hs;exact hsx b hh (by simp [jv]) hk K s.s (y,s') h1 F w bs a' hK hs Q hQ
    ·simp [Tree.sel] at h
   ·obtain ⟨⟨y,s'⟩,h1,h2⟩:=jh h
    have hx:x=(y,s')∧∀ l,y ≠ .goto l:=by
     cases y with
     | goto l=>simp [Tree.sel] at h2
     | normal=>simp only [Tree.sel,sIq] at h2;exact ⟨h2.symm,fun _ e=>by cases e⟩
     | exit _=>simp only [Tree.sel,sIq] at h2;exact ⟨h2.symm,fun _ e=>by cases e⟩
     | ret=>simp only [Tree.sel,sIq] at h2;exact ⟨h2.symm,fun _ e=>by cases e⟩
     | pan _=>simp only [Tree.sel,sIq] at h2;exact ⟨h2.symm,fun _ e=>by cases e⟩
    obtain ⟨rfl,hng⟩:=hx;refine I0 (ih n s h1 (fun i b' hh hi hk=>hl i b' hh (by simpa [je] using hi) hk) (fun i b' hh hi hk=>hlx i b' hh (by simpa [je] using hi) hk) (fun b' hh hi hk=>hsx b' hh (by simp only [jv,List.mem_cons];exact .inr hi) hk) hK hs fun F' w' bs' a2 e he hs' hx'=>⟨fun l hl' => ?_,hQ F' w' bs' a2 e he hs' hx'⟩)
    subst hl';cases y with
    | goto k=>exact hng k rfl
    | normal=>cases hx'
    | exit _=>cases hx'
    | ret=>cases hx'
    | pan _=>obtain ⟨_,h3,_⟩:=hx';cases h3
 | label l =>
   intro n s x h _ _ _ F w bs a hK hs Q hQ;simp only [j5,Tree.sel,sIq] at h;subst h;exact wp_label (hQ F w bs a _ Ext.refl hs rfl)
 | goto l =>
   intro n s x h _ _ _ F w bs a hK hs Q hQ;simp only [j5,Tree.sel,sIq] at h;subst h;exact wp_goto (hQ F w bs a _ Ext.refl hs rfl)
 | refuse _=>intro n s x h;simp [j5,Tree.sel] at h
def Zq:FrameMode->Value × FrameMode
 | .panicking ({ v,recovered:=false,goexit:=false }::older)=>(v,.panicking ({ v,recovered:=true }::older))
 | m=>(.nilIface,m)
theorem I2 (c:Frame) (cs:List Frame):(match recoverD (c::cs) with | some p=>p | none=>(.nilIface,c::cs))=((Zq c.mode).1,{ c with mode:=(Zq c.mode).2 }::cs):=by
 obtain ⟨fn,kind,mode,d⟩:=c;unfold recoverD Zq;simp only;split
 ·rename_i p h;split at h
  ·rename_i e;simp at h;subst h;rfl
  ·cases h
 ·rename_i h;split at h
  ·cases h
  ·rename_i hne;split
   ·rename_i e;exact (hne _ _ rfl).elim
   ·rfl
theorem ji0 {id : Nat} {ops : Array Oper} {o : Oper} {r : List Oper} {c : Go.Call} (ho : ops.toList = o :: r) (hg : o.guard = none) (hop : o.op = .call c) (hcal : c.callee = .builtin .recover) {Q : Exit -> Act -> List Frame -> World -> Prop} {a : Act} {c0 : Frame} {cs : List Frame} {w : World}
  (h:wpList P ops (fun e a' w'=>Q e a' ({ c0 with mode:=(Zq c0.mode).2 }::cs) w') r (a.put o.dst (Zq c0.mode).1) w):(Code.region id ops false).wpS P Q a (c0::cs) w:=by
 intro b k hb hro;have hsz:ops.size=r.length+1:=by rw [← Array.length_toList,ho];rfl
 have h0:ops[0]? = some o:=by rw [← Array.getElem?_toList,ho];rfl
 have hlist:List.range ops.size=0::List.range' 1 r.length:=by
  rw [hsz,List.range_eq_range',List.range'_succ]
 have hs0:step P (lone (b.at a (.code (.region id ops false)::k)) (c0::cs) w)=.next (lone (b.at a (.inRegion ops (0::List.range' 1 r.length)::k)) (c0::cs) w):=by
  rw [← hlist];exact step_region
 have hw:Region.wanted o (yielded ops a.tmps)=true:=by simp [Region.wanted,hg]
 have hrun:(execOp a.eval o).run P w=.ok .recover w:=by
  unfold execOp;rw [hop];simp only [resolve,hcal,Sem.run_bind,Sem.run_pure,Result.andThen_ok,invoke,builtin]
 have hgg:=stepG_op (P:=P) (b:=b) (k:=k) (cs:=c0::cs) (w:=w) (rest:=List.range' 1 r.length) h0 hw
 have hfin:∀ v,(b.at a (.inRegion ops (0::List.range' 1 r.length)::k)).finish v=b.at (a.put o.dst v) (.inRegion ops (List.range' 1 r.length)::k):=by
  intro v;rw [Frame.finish_at,h0];rfl
 have hk:(b.at a (.inRegion ops (0::List.range' 1 r.length)::k)).kind=.deferred:=hb;have htr:=tryRecover_deferred hk (c0::cs);have hre:=I2 c0 cs
 have hs1:step P (lone (b.at a (.inRegion ops (0::List.range' 1 r.length)::k)) (c0::cs) w)=.next (lone (b.at (a.put o.dst (Zq c0.mode).1) (.inRegion ops (List.range' 1 r.length)::k)) ({ c0 with mode:=(Zq c0.mode).2 }::cs) w):=by
  refine step_lone_go ?_;rw [hgg,← hfin];simp only [Frame.at] at htr ⊢;cases hrec:recoverD (c0::cs) with
  | some p =>
    rw [hrec] at hre;simp only at hre;subst hre;simp [stepG.apply,hrun,htr,hrec]
  | none =>
    rw [hrec] at hre;simp only at hre;rw [pIq] at hre;rw [← hre.1,← hre.2];simp [stepG.apply,hrun,htr,hrec]
 have hwp:wpOps P ops (fun e a' w'=>Q e a' ({ c0 with mode:=(Zq c0.mode).2 }::cs) w') (List.range' 1 r.length) (a.put o.dst (Zq c0.mode).1) w:=by
  rw [wpOps_eq_wpList r 1 (fun j=>by rw [← Array.getElem?_toList,ho,Nat.add_comm];rfl)]
  exact h
 obtain ⟨e,a',w',q,harr⟩:=wp_ops _ _ _ hwp b k ({ c0 with mode:=(Zq c0.mode).2 }::cs);exact ⟨e,a',_,w',q,.of_steps (.head hs0 (.one hs1)) harr⟩
def UMode (F:Nat->Prop) (w:World) (bs:List BI):Option CV->FrameMode->Prop
 | none,u=>u=.returning
 | some y,u=>∃ v,u=.panicking [{ v,recovered:=false }]∧y.Rel F w bs v
theorem UMode.rec {F w bs pan u} (h:UMode F w bs pan u):settle (Zq u).2=.returning∧(jeE pan).Rel F w bs (Zq u).1∧u ≠ .run:=by
 cases pan with
 | none=>cases h;exact ⟨rfl,.nili,by simp⟩
 | some y=>obtain ⟨v,rfl,hv⟩:=h;exact ⟨rfl,hv,by simp⟩
structure XsOk (P:Program) (X:HdP):Prop where
 rx:Vb P X.rx
 nc:HP P X.nc
 lx:jmm P X.lx
 sx:jmk P X.sx
theorem jeM {H : Hd} (hH : HdOk P H) {X : HdP} (hX : XsOk P X) {call : jw} (hcall : CallOk P call) {callP : q9} (hcallP : CallPOk P X callP) {g : Nat} {cap : List CV} {pan : Option CV} {mem : Mem} {res : Option CV} {mem2 : Mem}
  (h:(jb4 P H X call callP g cap pan mem).sel=some (res,mem2)) {F:Nat->Prop} {w:World} {bs:List BI} (hm:MemRel P F w bs mem) {vs:List Value} (hcap:All2 (CV.Rel F w bs) cap vs) {u:FrameMode} (hu:UMode F w bs pan u) :
  qD P g=true∧CallsD P g vs.toArray u w (fun e u' w'=>∃ v,e=.returned v∧settle u'=.returning∧res=none∧∃ F' bs',Ext bs.length F w bs F' w' bs'∧MemRel P F' w' bs' mem2):=by
 obtain ⟨hset,hrv,hrun⟩:=hu.rec;unfold jb4 at h;split at h
 rotate_left
 ·simp [Tree.sel] at h
 rename_i fn hfn;split at h
 rotate_left
 ·simp [Tree.sel] at h
 rename_i c hb;split at h
 rotate_left
 ·simp [Tree.sel] at h
 rename_i o' r x hrh;split at h
 rotate_left
 ·simp [Tree.sel] at h
 rename_i hle;rw [aTq] at hle;obtain ⟨hle,hcb⟩:=hle;refine ⟨hcb,?_⟩;rw [jd,Array.getElem?_toList] at hfn;obtain ⟨y,h1,h2⟩:=jh h;refine callsD_of_wpS hfn hb fun c0 cs hc0 => ?_;unfold Ms at hrh;split at hrh
 rotate_left
 ·simp at hrh
 rename_i id ops x0;split at hrh
 rotate_left
 ·simp at hrh
 rename_i o r0 hops;split at hrh
 rotate_left
 ·simp at hrh
 rename_i c1 hg hop;split at hrh
 rotate_left
 ·simp at hrh
 rename_i hcal;simp only [sIq,pIq] at hrh;obtain ⟨rfl,rfl,rfl⟩:=hrh;have hargs:All2 (A1.Rel F w bs) (cap.map .c) vs:=hcap.map_left fun _ _ h=>h;have hst:=Wp (nt:=fn.ntmps) hm hargs (by simpa using hle)
 simp only [List.length_map,List.map_map] at hst;subst hc0;have hst1:=StRel.put (dst:=o.dst) (ks:=[]) (v:=.one (.c (jeE pan))) (x:=(Zq c0.mode).1) hst (fun _ hp=>by cases hp) (fun _=>hrv) (fun h=>(h jA).elim)
 refine wpS_seq (ji0 hops hg hop hcal ?_);rw [← hops] at h1;refine JE hH.pc hX.rx hcall hcallP (x:=y.1) (s':=y.2) _ _ h1 (hst1.toP .nil) fun F1 w1 bs1 a1 e1 he1 hs1 hx1 => ?_;obtain ⟨xp,s1⟩:=y;cases xp with
 | normal =>
   cases hx1;simp only at h2;obtain ⟨z,h3,h4⟩:=jh h2;refine wpS_of_wp (ki hH.pc hX.rx hX.nc hcall hcallP g mem.length _ 0 _ h3 (fun i b hh hi hk=>hH.lh g fn _ i b hh hfn hb (by simpa [je,ji] using hi) (by simpa using hk)) (fun i b hh hi hk=>hX.lx g fn _ i b hh hfn hb (by simpa [je,ji] using hi) (by simpa using hk)) (fun b hh hi hk=>hX.sx g fn _ b hh hfn hb (by simpa [jv] using hi) hk) (by have:=he1.le;have:=hm.len;omega) hs1.unkey fun F2 w2 bs2 a2 e2 he2 hs2 hx2 => ?_)
   obtain ⟨zx,zs,zd⟩:=z
   have fin : zd = [] -> (zJ P zs fn.results.toList).isSome = true -> res = none -> mem2 = zs.mem -> a2.defers = [] ∧ ∃ u', ({ c0 with mode := (Zq c0.mode).2 } :: cs : List Frame) = { c0 with mode := u' } :: cs ∧ ∃ v, (results fn a2.tmps).run P w2 = .ok v w2 ∧
     ∃ v',Ending.returned v=Ending.returned v'∧settle u'=.returning∧res=none∧∃ F' bs',Ext bs.length F w bs F' w2 bs'∧MemRel P F' w2 bs' mem2:=by
    intro hz hr hres hmm;subst hz
    have hd0:a2.defers=[]:=by
     have:=hs2.ds
     cases hD:a2.defers with
     | nil=>rfl
     | cons d r=>rw [hD] at this;cases this
    obtain ⟨l,hl⟩:=Option.isSome_iff_exists.1 hr;obtain ⟨v,_,hrun⟩:=Qw hs2.st hl;refine ⟨hd0,_,rfl,v,hrun,v,rfl,hset,hres,F2,bs2,?_,hmm▸hs2.st.mem⟩;have e3:=he1.trans he2 (Nat.le_of_eq hm.len);exact e3
   cases zx with
  | normal =>
    cases hx2;simp only at h4;split at h4
    ·rename_i hz;cases hz;split at h4
     ·rename_i hr;simp only [Tree.sel,sIq,pIq] at h4;exact fin rfl hr h4.1.symm h4.2.symm
     ·simp [Tree.sel] at h4
    ·rename_i hz;cases hz
    ·simp [Tree.sel] at h4
  | ret =>
    cases hx2;simp only at h4;split at h4
    ·rename_i hz;cases hz
    ·rename_i hz;cases hz;split at h4
     ·rename_i hr;simp only [Tree.sel,sIq,pIq] at h4;exact fin rfl hr h4.1.symm h4.2.symm
     ·simp [Tree.sel] at h4
    ·simp [Tree.sel] at h4
  | exit k=>simp [Tree.sel] at h4
  | goto k=>simp [Tree.sel] at h4
  | pan q=>simp [Tree.sel] at h4
 | exit k=>simp [Tree.sel] at h2
 | goto k=>simp [Tree.sel] at h2
 | ret=>simp [Tree.sel] at h2
 | pan q=>simp [Tree.sel] at h2
theorem IQ {g:Nat} {vs:List Value} (hc:qD P g=true) (w:World):(invoke (.fn (.func g) vs.toArray) #[]).run P w=.ok (.enter g vs.toArray) w:=by
 unfold qD at hc;split at hc
 ·rename_i fn hfn;simp only [aTq,bne_iff_ne,ne_eq] at hc;obtain ⟨⟨hn,hb⟩,_⟩:=hc;rw [jd] at hfn;simp only [Array.getElem?_toList] at hfn;have hb':fn.body.isNone=false:=by cases hh:fn.body<;>simp [hh] at hb ⊢
  have hn':(fn.name == "runtime.NumGoroutine")=false:=by simpa using hn
  simp only [invoke,callFunc,Sem.run_bind,run_program,Result.andThen_ok,hfn,hn',Bool.false_eq_true,if_false,hb',Sem.run_pure];congr 2;apply Array.ext'
  simp
 ·simp at hc
theorem leaveP_ok {H : Hd} (hH : HdOk P H) {X : HdP} (hX : XsOk P X) {call : jw} (hcall : CallOk P call) {callP : q9} (hcallP : CallPOk P X callP) {fn : Func} {s : St} : ∀ (dl : List CV) (pan : Option CV) (mem : Mem) {out : Out} {mem2 : Mem} {D : List Deferred} {D0 : List Deferred} {F : Nat -> Prop} {w : World} {bs : List BI} {a : Act} {u : FrameMode},
  (ku P H X call callP fn s dl pan mem).sel=some (out,mem2)->StRel P D0 F w bs { s with mem:=mem } a->DsRel F w bs dl D->UMode F w bs pan u ->
  Leaves P fn a.tmps (fun e w'=>∃ F' bs',Ext bs.length F w bs F' w' bs'∧MemRel P F' w' bs' mem2∧out.Ends F' w' bs' e) D u w
 | [], none, mem, out, mem2, D, D0, F, w, bs, a, u, h, hs, hd, hu => by
   cases hd;cases hu;simp only [ku] at h;split at h
   ·rename_i l hl;simp only [Tree.sel,sIq,pIq] at h;obtain ⟨rfl,rfl⟩:=h;obtain ⟨v,hv,hrun⟩:=Qw hs hl;exact ⟨v,hrun,F,bs,Ext.refl,hs.mem,v,rfl,hv⟩
   ·simp [Tree.sel] at h
 | [], some y, mem, out, mem2, D, D0, F, w, bs, a, u, h, hs, hd, hu => by
   cases hd;obtain ⟨v,rfl,hv⟩:=hu;simp only [ku,Tree.sel,sIq,pIq] at h;obtain ⟨rfl,rfl⟩:=h;exact ⟨F,bs,Ext.refl,hs.mem,v,rfl,hv⟩
 | d :: dl, pan, mem, out, mem2, D, D0, F, w, bs, a, u, h, hs, hd, hu => by
   cases hd with
  | cons hd1 hdr =>
    rename_i d0 D1;obtain ⟨g,cap,vs,rfl,rfl,hcap⟩:=hd1;simp only [ku] at h;obtain ⟨⟨res,m1⟩,h1,h2⟩:=jh h;obtain ⟨hcb,hcd⟩:=jeM hH hX hcall hcallP h1 hs.mem hcap hu;refine leaves_cons hu.rec.2.2 (IQ hcb w) (hcd.mono fun e u' w' ⟨v,he,hset,hres,F',bs',hext,hm'⟩ => ?_);subst he;subst hres;simp only;rw [hset];have hs':StRel P D0 F' w' bs' { s with mem:=m1 } a:=hs.ext hext hm'
    have:=leaveP_ok hH hX hcall hcallP dl none m1 h2 hs' (DsRel.grow hext.grow hdr) rfl
    refine leaves_mono (fun e w2 ⟨F2,bs2,he2,hm2,hr2⟩=>⟨F2,bs2,hext.trans he2 hext.le,hm2,hr2⟩) _ _ _ this
 where
 leaves_mono {fn:Func} {tmps:Array Value} {R R':Ending->World->Prop} (hr:∀ e w,R e w->R' e w):∀ (D:List Deferred) (u:FrameMode) (w:World),Leaves P fn tmps R D u w->Leaves P fn tmps R' D u w
  | [],.returning,_,h=>let ⟨v,h1,h2⟩:=h;⟨v,h1,hr _ _ h2⟩
  | [],.panicking _,_,h=>hr _ _ h
  | [],.run,_,h=>h
  | d :: ds, u, w, h => by
    obtain ⟨h1,fv,cap,f,args,h2,h3,h4⟩:=h;refine ⟨h1,fv,cap,f,args,h2,h3,h4.mono fun e u' w' he => ?_⟩;cases e with
   | returned v=>exact leaves_mono hr ds _ _ he
   | panicked c=>exact leaves_mono hr ds _ _ he
   | outgrown=>exact hr _ _ he
def jqH (P:Program) (px:List (Nat × (List A1->Mem->Tree (Out × Mem)))):Prop :=
 ∀ f G,Yt px f=some G->∀ args mem r mem',(G args mem).sel=some (r,mem')->∀ F w bs vs,MemRel P F w bs mem->All2 (A1.Rel F w bs) args vs ->
  Calls P f vs.toArray w (fun e w'=>∃ F' bs',Ext bs.length F w bs F' w' bs'∧MemRel P F' w' bs' mem'∧r.Ends F' w' bs' e)
structure XOk (P:Program) (X:HdP):Prop where
 px:jqH P X.px
 rx:Vb P X.rx
 nc:HP P X.nc
 lx:jmm P X.lx
 sx:jmk P X.sx
 loc:∀ f,JU f X.lo=true->∃ G,Yt X.px f=some G∧LocFn G
theorem XOk.xs {X:HdP} (h:XOk P X):XsOk P X:=⟨h.rx,h.nc,h.lx,h.sx⟩
theorem yu {H:Hd} (hH:HdOk P H) {X:HdP} (hX:XOk P X):∀ n,CallPOk P X (zM P H X n)
 | 0=>⟨by intro f args mem r mem' h;simp [zM,Tree.sel] at h,fun f _ b rest M r M' h=>by simp [zM,Tree.sel] at h⟩
 | n + 1 => by
   refine ⟨?_,fun f hf => ?_⟩
   rotate_left
   ·obtain ⟨G,h1,h2⟩:=hX.loc f hf
    have e:zM P H X (n+1) f=G:=by
     funext args mem;simp only [zM,h1]
    rw [e];exact h2
   intro f args mem r mem' h F w bs vs hm hargs;simp only [zM] at h;split at h
   ·rename_i G hG;exact hX.px f G hG args mem r mem' h F w bs vs hm hargs
   ·split at h
    rotate_left
    ·simp [Tree.sel] at h
    rename_i fn hfn;split at h
    rotate_left
    ·simp [Tree.sel] at h
    rename_i c hb;split at h
    rotate_left
    ·simp [Tree.sel] at h
    rename_i hle;obtain ⟨⟨x,s1⟩,h1,h2⟩:=jh h;rw [jd,Array.getElem?_toList] at hfn;have hst:=Wp (nt:=fn.ntmps) hm hargs (by simpa using hle)
    refine calls_of_wp_defers hfn hb (ki hH.pc hX.rx hX.nc (zu hH n) (yu hH hX n) f mem.length c 0 _ h1 (fun i b hh hi hk=>hH.lh f fn c i b hh hfn hb hi (by simpa using hk)) (fun i b hh hi hk=>hX.lx f fn c i b hh hfn hb hi (by simpa using hk)) (fun b hh hi hk=>hX.sx f fn c b hh hfn hb hi hk) (Nat.le_of_eq hm.len.symm) (hst.toP .nil) fun F' w' bs' a' e he hs' hx => ?_)
    have hext:Ext bs.length F w bs F' w' bs':=he.weak (Nat.le_of_eq hm.len)
    have key:∀ (pan:Option CV) (u:FrameMode),(ku P H X (jU P H n) (zM P H X n) fn s1.s s1.dl pan s1.s.mem).sel=some (r,mem')->UMode F' w' bs' pan u->Leaves P fn a'.tmps (fun e w'=>∃ F' bs',Ext bs.length F w bs F' w' bs'∧MemRel P F' w' bs' mem'∧r.Ends F' w' bs' e) a'.defers u w':=by
     intro pan u hl hu
     have:=leaveP_ok hH hX.xs (zu hH n) (yu hH hX n) s1.dl pan s1.s.mem hl hs'.st hs'.ds hu
     exact leaveP_ok.leaves_mono (fun e w2 ⟨F2,bs2,he2,hm2,hr2⟩=>⟨F2,bs2,hext.trans he2 hext.le,hm2,hr2⟩) _ _ _ this
    cases x with
    | normal=>cases hx;exact key none .returning h2 rfl
    | ret=>cases hx;exact key none .returning h2 rfl
    | pan y=>obtain ⟨v,rfl,hv⟩:=hx;exact key (some y) _ h2 ⟨v,rfl,hv⟩
    | exit k=>simp [Tree.sel] at h2
    | goto k=>simp [Tree.sel] at h2
theorem XOk.nil {r:Nat}:XOk P ⟨[],[],[],[],[],r,[]⟩:=⟨fun f G h=>by simp [Yt] at h,fun f G h=>by simp [XY] at h,fun f G h=>by simp [Wv] at h,fun _ _ _ _ _ _ _ _ _ h=>by simp [Wu] at h,fun _ _ _ _ _ _ _ _ h=>by simp [Wj] at h,fun f h=>by simp [JU] at h⟩
def jn (P:Program) (f:Nat) (G:List A1->Mem->Tree (Out × Mem)):Prop :=
 ∀ args mem r mem',(G args mem).sel=some (r,mem')->∀ F w bs vs,MemRel P F w bs mem->All2 (A1.Rel F w bs) args vs ->
  Calls P f vs.toArray w (fun e w'=>∃ F' bs',Ext bs.length F w bs F' w' bs'∧MemRel P F' w' bs' mem'∧r.Ends F' w' bs' e)
theorem XOk.loCons {px rx nc lx sx r lo} {f:Nat} {G:List A1->Mem->Tree (Out × Mem)} (h:XOk P ⟨px,rx,nc,lx,sx,r,lo⟩) (h1:jn P f G) (hl:LocFn G):XOk P ⟨(f,G)::px,rx,nc,lx,sx,r,f::lo⟩:=by
 refine ⟨fun g G' hl => ?_,h.rx,h.nc,h.lx,h.sx,fun g hg => ?_⟩
 ·simp only [Yt] at hl;split at hl
  ·rename_i e;simp at hl;subst hl;rw [← eq_of_beq e];exact h1
  ·exact h.px g G' hl
 ·by_cases e:f=g
  ·subst e;exact ⟨G,by simp [Yt],hl⟩
  ·have hg' : JU g lo = true := by
    simp only [JU,Bool.or_eq_true,beq_iff_eq] at hg;exact hg.resolve_left fun h=>e h.symm
   obtain ⟨G',h2,h3⟩:=h.loc g hg';exact ⟨G',by simp only [Yt];rw [if_neg (by simpa using e)];exact h2,h3⟩
theorem HdOk.pF {pc hc lh mc} (h:HdOk P ⟨pc,hc,lh,mc⟩) (f:Nat):HdOk P ⟨Sx.pF f::pc,hc,lh,mc⟩:=h.tcCons (fun _ _ h=>by simp [Tree.sel] at h)
theorem jk {α:Type} {Q:α->Prop}:∀ {t:Tree α} {r:α},t.sel=some r->Q r->t.All Q
 | .leaf a,r,h,hq=>by simp only [Tree.sel,sIq] at h;subst h;exact hq
 | .br c t e, r, h, hq => by
   simp only [Tree.sel] at h;cases c
   ·exact ⟨(fun h2=>by cases h2),fun _=>jk h hq⟩
   ·exact ⟨fun _=>jk h hq,(fun h2=>by cases h2)⟩
 | .need c t, r, h, hq => by
   simp only [Tree.sel] at h;cases c
   ·cases h
   ·exact ⟨rfl,jk h hq⟩
 | .fail,r,h,hq=>by cases h
def jI (P:Program) (H:Hd) (X:HdP) (n f:Nat) (args:List A1):Tree AV:=(zM P H X n f args []).bind fun y=>match y.1 with
 | .ret a=>Tree.ofOpt (Xl y.2 a)
 | .pan _=>.fail
theorem jz {H : Hd} (hH : HdOk P H) {X : HdP} (hX : XOk P X) (n f : Nat) {G : List A1 -> Option (Bool × AV)}
  (h:∀ args r,G args=some (true,r)->(jI P H X n f args).All (fun x=>leA x r)):jj P f (nG G):=by
 intro args r hG hcl F w vs hargs;have hG:=zn hG;obtain ⟨x,hsel,hle⟩:=yf (h args r hG);obtain ⟨⟨r',m⟩,h1,h2⟩:=jh hsel;cases r' with
 | pan _=>simp [Tree.sel] at h2
 | ret a =>
   have ho:Xl m a=some x:=by
    cases hx:Xl m a with
    | none=>simp only at h2;rw [hx] at h2;simp [Tree.ofOpt,Tree.sel] at h2
    | some y=>simp only at h2;rw [hx] at h2;simpa [Tree.ofOpt,Tree.sel] using h2
   have hargs1:All2 (A1.Rel (fun p=>F p∧p<w.heap.size) w []) args vs:=hargs.imp fun _ _ hx=>A1.Rel.grow (bs:=[]) (bs':=[]) ⟨lRq _,fun _ _ h=>h.1,fun _ _ _=>rfl,fun _ _ h=>h⟩ hx;refine ((yu hH hX n).ok f args [] _ m h1 _ w [] vs MemRel.nil hargs1).mono fun e w2 ⟨F',bs',hext,hm,u,he,hu⟩ => ?_;refine ⟨u,he,hext.below,hle _ _ _ (AV.Rel.grow (bs:=[]) (bs':=[]) ⟨lRq _,fun p _ hp => ?_,fun _ _ _=>rfl,fun _ _ h=>h⟩ (I7 hm hu ho))⟩;refine ⟨hext.F2 p hp hp.2 (by simp),fun y hy e => ?_⟩
   rcases hext.mem y hy with ⟨z,hz,_⟩ | hs
   ·cases hz
   ·have:=hp.2;omega
def WkO (x y:Out × Mem):Prop:=∀ (P:Program) F w bs e,MemRel P F w bs x.2->x.1.Ends F w bs e->∃ F' bs',Ext 0 F w bs F' w bs'∧MemRel P F' w bs' y.2∧y.1.Ends F' w bs' e
theorem WkO.refl {x:Out × Mem}:WkO x x:=fun _ F _ bs _ hm he=>⟨F,bs,Ext.refl,hm,he⟩
theorem MemRel.rowEq {F w bs mem} (h : MemRel P F w bs mem) {b : Nat} {T : TypeId} {fz : Bool} {es : List Sh} {n : Nat} {ρ σ : Val} (hb : nth mem b = some (some (T, [.row fz es n ρ])))
  (he:∀ i f s,i<n->nth es f=some s->cellOf s ((ρ.at i).at f)=cellOf s ((σ.at i).at f)):MemRel P F w bs (jl mem b (some (T,[.row fz es n σ]))):=by
 have key:∀ k T' cs,nth (jl mem b (some (T,[CV.row fz es n σ]))) k=some (some (T',cs))->(k=b∧T'=T∧cs=[.row fz es n σ])∨(k ≠ b∧nth mem k=some (some (T',cs))):=by
  intro k T' cs hk;rcases jL hk with ⟨rfl,e⟩ | ⟨hne,hk⟩
  ·simp at e;exact .inl ⟨rfl,e.1,e.2⟩
  ·exact .inr ⟨hne,hk⟩
 have live:∀ k T' cs,nth (jl mem b (some (T,[CV.row fz es n σ]))) k=some (some (T',cs))->∀ x:BI,jM x cs->∃ T1 cs1,nth mem k=some (some (T1,cs1))∧jM x cs1∧T'=T1:=by
  intro k T' cs hk x hv;rcases key k T' cs hk with ⟨rfl,rfl,rfl⟩ | ⟨hne,hk⟩
  ·exact ⟨_,_,hb,hv,rfl⟩
  ·exact ⟨_,_,hk,hv,rfl⟩
 refine ⟨by rw [j0];exact h.len,fun k x T' cs hk hc hv => ?_,fun k k' x x' T1 cs1 T2 cs2 h1 h2 h3 h4 h5 h6 h7 => ?_,fun k T' cs x hc hr hk => ?_,fun k T' fz' es' n' ρ' x hc hk => ?_,fun k T' f i st cs x hc hk => ?_⟩
 ·obtain ⟨T1,cs1,g1,g2,rfl⟩:=live k T' cs hc x hv;exact h.loc k x _ cs1 hk g1 g2
 ·obtain ⟨_,_,g1,g2,_⟩:=live k T1 cs1 h3 x h5;obtain ⟨_,_,g3,g4,_⟩:=live k' T2 cs2 h4 x' h6;exact h.inj k k' x x' _ _ _ _ h1 h2 g1 g3 g2 g4 h7
 ·rcases key k T' cs hc with ⟨rfl,rfl,rfl⟩ | ⟨_,hk'⟩
  ·simp [jf] at hr
  ·exact h.cont k T' cs x hk' hr hk
 ·rcases key k T' _ hc with ⟨rfl,rfl,hcs⟩ | ⟨_,hk'⟩
  ·simp only [List.cons.injEq,CV.row.injEq,and_true] at hcs;obtain ⟨rfl,rfl,rfl,rfl⟩:=hcs
   have:=h.row k T' fz' _ _ ρ x hb hk
   refine ⟨this.len,this.le,this.mx,fun h0 => ?_,this.frz⟩;obtain ⟨arr,a1,a2,val,a3,a4⟩:=this.blk h0;exact ⟨arr,a1,a2,val,a3,fun i f s hi hs=>he i f s hi hs▸a4 i f s hi hs⟩
  ·exact h.row k T' fz' es' n' ρ' x hk' hk
 ·rcases key k T' _ hc with ⟨_,_,hcs⟩ | ⟨_,hk'⟩
  ·simp at hcs
  ·exact h.lp k T' f i st cs x hk' hk
def StWk (s1 s2:St):Prop:=∀ (P:Program) D F w bs a,StRel P D F w bs s1 a->StRel P D F w bs s2 a
theorem StWk.refl {s:St}:StWk s s:=fun _ _ _ _ _ _ h=>h
theorem StWk.row {tmps : List Slot} {mem : Mem} {b : Nat} {T : TypeId} {fz : Bool} {es : List Sh} {n : Nat} {ρ σ : Val} (hb : nth mem b = some (some (T, [.row fz es n ρ])))
  (he:∀ i f s,i<n->nth es f=some s->cellOf s ((ρ.at i).at f)=cellOf s ((σ.at i).at f)):StWk ⟨tmps,mem⟩ ⟨tmps,jl mem b (some (T,[.row fz es n σ]))⟩ :=
 fun _ _ _ _ _ _ h=>⟨h.defers,h.len,h.slots,h.mem.rowEq hb he⟩
theorem LoopOk.wk {b:Code} {h h':Nat->St->Tree (XE × St)} (hh:LoopOk P b h) (hw:∀ K s x,(h' K s).sel=some x->∃ s1,(h K s).sel=some (x.1,s1)∧StWk s1 x.2):LoopOk P b h':=by
 intro K s x hx lr nn D F w bs a hK hs Q hQ;obtain ⟨s1,h1,h2⟩:=hw K s x hx;exact hh K s (x.1,s1) h1 lr nn D F w bs a hK hs Q fun F' w' bs' a' he hs'=>hQ F' w' bs' a' he (h2 _ _ _ _ _ _ hs')
def LxOne (P:Program) (f i:Nat) (h:Nat->St->Tree (XP × St)):Prop :=
 ∀ fn c b,P.funcs[f]? = some fn->fn.body=some c->je c i=some b->LU P b h
def SxOne (P:Program) (f:Nat) (h:Nat->St->Tree (XP × St)):Prop :=
 ∀ fn c b,P.funcs[f]? = some fn->fn.body=some c->b ∈ jv c->L1 P b h
theorem XOk.lxCons {px rx nc lx sx r lo} {f i:Nat} {g:Nat->St->Tree (XP × St)} (h:XOk P ⟨px,rx,nc,lx,sx,r,lo⟩) (h1:LxOne P f i g):XOk P ⟨px,rx,nc,((f,i),g)::lx,sx,r,lo⟩:=by
 refine ⟨h.px,h.rx,h.nc,fun f' fn c i' b g' hf hb hi hl => ?_,h.sx,h.loc⟩;simp only [Wu] at hl;split at hl
 ·rename_i e;simp only [aTq,beq_iff_eq] at e;simp at hl;subst hl;obtain ⟨rfl,rfl⟩:=e;exact h1 fn c b hf hb hi
 ·exact h.lx f' fn c i' b g' hf hb hi hl
theorem XOk.sxCons {px rx nc lx sx r lo} {f:Nat} {g:Nat->St->Tree (XP × St)} (h:XOk P ⟨px,rx,nc,lx,sx,r,lo⟩) (h1:SxOne P f g):XOk P ⟨px,rx,nc,lx,(f,g)::sx,r,lo⟩:=by
 refine ⟨h.px,h.rx,h.nc,h.lx,fun f' fn c b g' hf hb hi hl => ?_,h.loc⟩;simp only [Wj] at hl;split at hl
 ·rename_i e;have e:=eq_of_beq e;subst e;simp at hl;subst hl;exact h1 fn c b hf hb hi
 ·exact h.sx f' fn c b g' hf hb hi hl
def jc2 (P:Program) (H:Hd) (X:HdP) (d f i:Nat) (g:Nat->St->Tree (XP × St)) (K:Nat) (s:St):Tree (XP × St) :=
 (j5 P H X (jU P H d) (zM P H X d) f K (i+1) (qn P f i) ⟨s,[]⟩).bind fun y=>if y.2.dl.isEmpty then (match y.1 with
  | .normal=>g K y.2.s
  | e=>.leaf (e,y.2.s)) else .fail
theorem LxOne.round {H:Hd} (hH:HdOk P H) {X:HdP} (hX:XOk P X) (d:Nat) {f i:Nat} {g:Nat->St->Tree (XP × St)} (h:LxOne P f i g):LxOne P f i (jc2 P H X d f i g):=by
 intro fn c b hf hc hb K s x hx
 have hlb:qn P f i=b:=by
  unfold qn;rw [jd];simp only [Array.getElem?_toList,hf,hc,hb]
 unfold jc2 at hx;rw [hlb] at hx;obtain ⟨⟨y,s'⟩,h1,h2⟩:=jh hx;simp only at h2;split at h2
 rotate_left
 ·simp [Tree.sel] at h2
 rename_i hdl;obtain ⟨s',dl⟩:=s';have hd:=List.isEmpty_iff.1 hdl;simp only at hd;subst hd
 have go : ∀ N, (∀ (F : Nat -> Prop) (w : World) (bs : List BI) (a : Act), K <= bs.length -> PRel P F w bs ⟨s', []⟩ a -> ∀ Q : Exit -> Act -> World -> Prop,
   (∀ F' w' bs' a' e,Ext K F w bs F' w' bs'->PRel P F' w' bs' ⟨x.2,[]⟩ a'->XRel F' w' bs' x.1 e->Q e a' w')->∀ e,XRel F w bs y e->Exit.then (Code.rounds P b Q N) Q e a w) ->
   ∃ N,∀ (F:Nat->Prop) (w:World) (bs:List BI) (a:Act),K<=bs.length->PRel P F w bs ⟨s,[]⟩ a->∀ Q:Exit->Act->World->Prop,
    (∀ F' w' bs' a' e,Ext K F w bs F' w' bs'->PRel P F' w' bs' ⟨x.2,[]⟩ a'->XRel F' w' bs' x.1 e->Q e a' w')->Code.rounds P b Q N a w:=by
  intro N hN;refine ⟨N+1,fun F w bs a hK hs Q hQ => ?_⟩;rw [rounds_succ];refine ki hH.pc hX.rx hX.nc (zu hH d) (yu hH hX d) f K b (i+1) ⟨s,[]⟩ h1 (fun j b' h' hj hk=>hH.lh f fn c (i+1+j) b' h' hf hc (qL hb hj) hk) (fun j b' h' hj hk=>hX.lx f fn c (i+1+j) b' h' hf hc (qL hb hj) hk) (fun b' h' hj hk=>hX.sx f fn c b' h' hf hc (scopes_loop hb hj) hk) hK hs fun F' w' bs' a' e he hs' hx' => ?_;exact hN F' w' bs' a' (he.le hK) hs' Q (fun F'' w'' bs'' a'' e' he' hs'' hx''=>hQ F'' w'' bs'' a'' e' (he.trans he' (lRq _)) hs'' hx'') e hx'
 cases y with
 | normal =>
   obtain ⟨N,hN⟩:=h fn c b hf hc hb K s' x h2;exact go N fun F w bs a hK hs Q hQ e he=>by cases he;exact hN F w bs a hK hs Q hQ
 | exit k =>
   simp only [Tree.sel,sIq] at h2;subst h2;exact go 0 fun F w bs a hK hs Q hQ e he=>by cases he;exact hQ F w bs a _ Ext.refl hs rfl
 | ret =>
   simp only [Tree.sel,sIq] at h2;subst h2;exact go 0 fun F w bs a hK hs Q hQ e he=>by cases he;exact hQ F w bs a _ Ext.refl hs rfl
 | pan z =>
   simp only [Tree.sel,sIq] at h2;subst h2;exact go 0 fun F w bs a hK hs Q hQ e he=>by obtain ⟨v,rfl,hv⟩:=he;exact hQ F w bs a _ Ext.refl hs ⟨v,rfl,hv⟩
 | goto l =>
   simp only [Tree.sel,sIq] at h2;subst h2;exact go 0 fun F w bs a hK hs Q hQ e he=>by cases he;exact hQ F w bs a _ Ext.refl hs rfl
 where
 scopes_loop:∀ {c:Code} {i:Nat} {b b':Code},je c i=some b->b' ∈ jv b->b' ∈ jv c
  | .seq x y, i, b, b', h, hb => by
    simp only [je] at h;simp only [jv,List.mem_append];split at h
    ·exact .inl (scopes_loop h hb)
    ·exact .inr (scopes_loop h hb)
  | .cond _ x y, i, b, b', h, hb => by
    simp only [je] at h;simp only [jv,List.mem_append];split at h
    ·exact .inl (scopes_loop h hb)
    ·exact .inr (scopes_loop h hb)
  | .block _ x,i,b,b',h,hb=>by simp only [je] at h;simp only [jv];exact scopes_loop h hb
  | .loop x,0,b,b',h,hb=>by simp only [je,sIq] at h;subst h;simpa only [jv] using hb
  | .loop x,i+1,b,b',h,hb=>by simp only [je] at h;simp only [jv];exact scopes_loop h hb
  | .scope x,i,b,b',h,hb=>by simp only [je] at h;simp only [jv,List.mem_cons];exact .inr (scopes_loop h hb)
  | .rangeFunc _ _ x y, i, b, b', h, hb => by
    simp only [je] at h;simp only [jv,List.mem_append];split at h
    ·exact .inl (scopes_loop h hb)
    ·exact .inr (scopes_loop h hb)
  | .skip,_,_,_,h,_=>by simp [je] at h
  | .region _ _ _,_,_,_,h,_=>by simp [je] at h
  | .exit _,_,_,_,h,_=>by simp [je] at h
  | .label _,_,_,_,h,_=>by simp [je] at h
  | .goto _,_,_,_,h,_=>by simp [je] at h
  | .ret,_,_,_,h,_=>by simp [je] at h
  | .refuse _,_,_,_,h,_=>by simp [je] at h
def j3:Code->Nat->Option (Code × Nat)
 | .seq a b,n=>match j3 a n with
  | some r=>some r
  | none=>j3 b (n+ji a)
 | .cond _ a b,n=>match j3 a n with
  | some r=>some r
  | none=>j3 b (n+ji a)
 | .block _ b,n=>j3 b n
 | .scope b,n=>some (b,n)
 | _,_=>none
def y7 (l:Nat):Code->Nat
 | .seq a b=>match findLabel a l with
  | some _=>y7 l a
  | none=>ji a+y7 l b
 | _=>0
theorem YJ {l:Nat}:∀ {c r:Code},findLabel c l=some r->y7 l c+ji r=ji c
 | .seq a b, r, h => by
   simp only [findLabel] at h;simp only [y7];split at h
   ·rename_i ra ha;simp only [sIq] at h;subst h;rw [ha];simp only [ji]
    have:=YJ ha
    omega
   ·rename_i ha;rw [ha];simp only [ji]
    have:=YJ h
    omega
 | .label l', r, h => by
   simp only [findLabel] at h;split at h
   ·simp at h;subst h;rfl
   ·simp at h
 | .skip,_,h=>by simp [findLabel] at h
 | .region _ _ _,_,h=>by simp [findLabel] at h
 | .cond _ _ _,_,h=>by simp [findLabel] at h
 | .block _ _,_,h=>by simp [findLabel] at h
 | .loop _,_,h=>by simp [findLabel] at h
 | .scope _,_,h=>by simp [findLabel] at h
 | .rangeFunc _ _ _ _,_,h=>by simp [findLabel] at h
 | .exit _,_,h=>by simp [findLabel] at h
 | .goto _,_,h=>by simp [findLabel] at h
 | .ret,_,h=>by simp [findLabel] at h
 | .refuse _,_,h=>by simp [findLabel] at h
theorem Kw {l:Nat}:∀ {c r:Code} {i:Nat} {b:Code},findLabel c l=some r->je r i=some b->je c (y7 l c+i)=some b
 | .seq x y, r, i, b, h, hb => by
   simp only [findLabel] at h;simp only [y7];split at h
   ·rename_i ra ha;simp only [sIq] at h;subst h;rw [ha];have hn:=YJ ha;simp only [je] at hb ⊢;split at hb
    ·rw [if_pos (by omega)]
     exact Kw ha hb
    ·rw [if_neg (by omega)]
     rw [← hb];congr 1;omega
   ·rename_i ha;rw [ha];simp only [je];rw [if_neg (by omega),show ji x+y7 l y+i - ji x=y7 l y+i by omega]
    exact Kw h hb
 | .label l', r, i, b, h, hb => by
   simp only [findLabel] at h;split at h
   ·simp at h;subst h;simp [je] at hb
   ·simp at h
 | .skip,_,_,_,h,_=>by simp [findLabel] at h
 | .region _ _ _,_,_,_,h,_=>by simp [findLabel] at h
 | .cond _ _ _,_,_,_,h,_=>by simp [findLabel] at h
 | .block _ _,_,_,_,h,_=>by simp [findLabel] at h
 | .loop _,_,_,_,h,_=>by simp [findLabel] at h
 | .scope _,_,_,_,h,_=>by simp [findLabel] at h
 | .rangeFunc _ _ _ _,_,_,_,h,_=>by simp [findLabel] at h
 | .exit _,_,_,_,h,_=>by simp [findLabel] at h
 | .goto _,_,_,_,h,_=>by simp [findLabel] at h
 | .ret,_,_,_,h,_=>by simp [findLabel] at h
 | .refuse _,_,_,_,h,_=>by simp [findLabel] at h
theorem Xs {l:Nat}:∀ {c r b:Code},findLabel c l=some r->b ∈ jv r->b ∈ jv c
 | .seq x y, r, b, h, hb => by
   simp only [findLabel] at h;simp only [jv,List.mem_append];split at h
   ·rename_i ra ha;simp only [sIq] at h;subst h;simp only [jv,List.mem_append] at hb;rcases hb with hb | hb
    ·exact .inl (Xs ha hb)
    ·exact .inr hb
   ·exact .inr (Xs h hb)
 | .label l', r, b, h, hb => by
   simp only [findLabel] at h;split at h
   ·simp at h;subst h;simp [jv] at hb
   ·simp at h
 | .skip,_,_,h,_=>by simp [findLabel] at h
 | .region _ _ _,_,_,h,_=>by simp [findLabel] at h
 | .cond _ _ _,_,_,h,_=>by simp [findLabel] at h
 | .block _ _,_,_,h,_=>by simp [findLabel] at h
 | .loop _,_,_,h,_=>by simp [findLabel] at h
 | .scope _,_,_,h,_=>by simp [findLabel] at h
 | .rangeFunc _ _ _ _,_,_,h,_=>by simp [findLabel] at h
 | .exit _,_,_,h,_=>by simp [findLabel] at h
 | .goto _,_,_,h,_=>by simp [findLabel] at h
 | .ret,_,_,h,_=>by simp [findLabel] at h
 | .refuse _,_,_,h,_=>by simp [findLabel] at h
theorem zT:∀ {c0:Code} {n0:Nat} {c:Code} {n:Nat},j3 c0 n0=some (c,n)->n0<=n∧(∀ i b,je c i=some b->je c0 (n - n0+i)=some b)∧c ∈ jv c0∧(∀ b,b ∈ jv c->b ∈ jv c0)
 | .seq x y, n0, c, n, h => by
   simp only [j3] at h;split at h
   ·rename_i r hr;simp only [sIq] at h;subst h;obtain ⟨h1,h2,h3,h4⟩:=zT hr;refine ⟨h1,fun i b hb => ?_,by simp only [jv,List.mem_append];exact .inl h3,fun b hb=>by simp only [jv,List.mem_append];exact .inl (h4 b hb)⟩
    have:=h2 i b hb
    simp only [je];rw [if_pos (lt_nloops this)];exact this
   ·obtain ⟨h1,h2,h3,h4⟩:=zT h;refine ⟨by omega,fun i b hb => ?_,by simp only [jv,List.mem_append];exact .inr h3,fun b hb=>by simp only [jv,List.mem_append];exact .inr (h4 b hb)⟩
    simp only [je];rw [if_neg (by omega),show n - n0+i - ji x=n - (n0+ji x)+i by omega]
    exact h2 i b hb
 | .cond _ x y, n0, c, n, h => by
   simp only [j3] at h;split at h
   ·rename_i r hr;simp only [sIq] at h;subst h;obtain ⟨h1,h2,h3,h4⟩:=zT hr;refine ⟨h1,fun i b hb => ?_,by simp only [jv,List.mem_append];exact .inl h3,fun b hb=>by simp only [jv,List.mem_append];exact .inl (h4 b hb)⟩
    have:=h2 i b hb
    simp only [je];rw [if_pos (lt_nloops this)];exact this
   ·obtain ⟨h1,h2,h3,h4⟩:=zT h;refine ⟨by omega,fun i b hb => ?_,by simp only [jv,List.mem_append];exact .inr h3,fun b hb=>by simp only [jv,List.mem_append];exact .inr (h4 b hb)⟩
    simp only [je];rw [if_neg (by omega),show n - n0+i - ji x=n - (n0+ji x)+i by omega]
    exact h2 i b hb
 | .block _ x, n0, c, n, h => by
   simp only [j3] at h;obtain ⟨h1,h2,h3,h4⟩:=zT h;exact ⟨h1,fun i b hb=>by simp only [je];exact h2 i b hb,by simpa only [jv] using h3,fun b hb=>by simpa only [jv] using h4 b hb⟩
 | .scope x, n0, c, n, h => by
   simp only [j3,sIq,pIq] at h;obtain ⟨rfl,rfl⟩:=h;exact ⟨lRq _,fun i b hb=>by simp only [je,Nat.sub_self,Nat.zero_add];exact hb,by simp [jv],fun b hb=>by simp only [jv,List.mem_cons];exact .inr hb⟩
 | .skip,_,_,_,h=>by simp [j3] at h
 | .region _ _ _,_,_,_,h=>by simp [j3] at h
 | .loop _,_,_,_,h=>by simp [j3] at h
 | .rangeFunc _ _ _ _,_,_,_,h=>by simp [j3] at h
 | .exit _,_,_,_,h=>by simp [j3] at h
 | .label _,_,_,_,h=>by simp [j3] at h
 | .goto _,_,_,_,h=>by simp [j3] at h
 | .ret,_,_,_,h=>by simp [j3] at h
 | .refuse _,_,_,_,h=>by simp [j3] at h
 where
 lt_nloops {c:Code} {i:Nat} {b:Code} (h:je c i=some b):i<ji c:=by
  rcases Nat.lt_or_ge i (ji c) with h' | h'
  ·exact h'
  ·exact absurd h (by rw [evCode_ok.nthLoop_none c i h'];simp)
def zL (P:Program) (f:Nat):Code × Nat :=
 match nth P.funcs.toList f with
 | some fn=>match fn.body with
  | some c=>match j3 c 0 with
   | some r=>r
   | none=>(.skip,0)
  | none=>(.skip,0)
 | none=>(.skip,0)
def Xg (P:Program) (f l:Nat):Code × Nat :=
 match findLabel (zL P f).1 l with
 | some r=>(r,(zL P f).2+y7 l (zL P f).1)
 | none=>(.skip,0)
end Go.Sx