/-
 Part TaT of the proof: EngPd EngPe EngPg EngQa FaiE FaiF FaiG EngNc RcA.
-/
import Derived.Test.YtiefjlcakpdfeaaGreatDoorTaS
import Derived.LoopN
import Derived.ScopeJumps
import Derived.Recover
import Derived.Test.YtiefjlcakpdfeaaGreatDoorTaP
import Derived.Test.YtiefjlcakpdfeaaGreatDoorTaO
namespace Go.Sx
open Go Go.RowKit
variable {P:Program}
theorem jkm {F w bs} (e:XE):XRel F w bs e.toP (xe e):=by cases e<;>rfl
theorem PRel.unkey {F w bs s} {a:Act} (hs:PRel P F w bs s a):PRel P F w bs ⟨{ s.s with tmps:=s.s.tmps.map Sx.unkey },s.dl⟩ a:=⟨hs.st.unkey,hs.ds⟩
def Nq (P:Program) (b:Code) (h:Nat->St->Tree (XP × St)):Prop :=
 ∀ K s x,(h K s).sel=some x->∃ N,∀ (F:Nat->Prop) (w:World) (bs:List BI) (a:Act),K<=bs.length->PRel P F w bs ⟨s,[]⟩ a->∀ Q:Exit->Act->World->Prop,
  (∀ F' w' bs' a' e,Ext K F w bs F' w' bs'->PRel P F' w' bs' ⟨x.2,[]⟩ a'->XRel F' w' bs' x.1 e->Q e a' w')->Code.rounds P b Q N a w
def L2 (P:Program) (c:Code) (h:Nat->St->Tree (XP × St)):Prop :=
 ∀ K s x,(h K s).sel=some x->∀ (F:Nat->Prop) (w:World) (bs:List BI) (a:Act),K<=bs.length->PRel P F w bs ⟨s,[]⟩ a->∀ Q:Exit->Act->World->Prop,
  (∀ F' w' bs' a' e,Ext K F w bs F' w' bs'->PRel P F' w' bs' ⟨x.2,[]⟩ a'->XRel F' w' bs' x.1 e->Q e a' w')->(Code.scope c).wp P Q a w
def ZJ (P:Program) (l:Nat) (rest:Code) (Q:Exit->Act->World->Prop):Nat->Act->World->Prop
 | 0,_,_=>False
 | n+1,a,w=>rest.wp P (Exit.jump l (ZJ P l rest Q n) Q) a w
theorem jeN {c rest:Code} {l:Nat} (hf:findLabel c l=some rest) {Q:Exit->Act->World->Prop} {N:Nat} {a:Act} {w:World} (h:c.wp P (Exit.jump l (ZJ P l rest Q N) Q) a w):(Code.scope c).wp P Q a w:=by
 intro b k cs;have hg:gotoIn l (.inScope c::k)=some (.code rest::.inScope c::k):=by simp [gotoIn,hf]
 have key:∀ n a w,ZJ P l rest Q n a w->∃ e a' w',Q e a' w'∧Arrives P (lone (b.at a (.code rest::.inScope c::k)) cs w) b k cs e a' w':=by
  intro n
  induction n with
  | zero=>intro a w h;exact h.elim
  | succ n ih =>
    intro a w hJ;obtain ⟨e,a₁,w₁,hq,harr⟩:=hJ b (.inScope c::k) cs;cases e with
   | normal=>exact ⟨.normal,a₁,w₁,hq,Steps.trans harr (.one step_inScope)⟩
   | exit id=>exact ⟨.exit id,a₁,w₁,hq,fun k' hk=>harr k' (by simp [exitTo,hk])⟩
   | goto l' =>
     obtain ⟨rfl,hJ'⟩:=hq;obtain ⟨e₂,a₂,w₂,hq₂,harr₂⟩:=ih a₁ w₁ hJ';exact ⟨e₂,a₂,w₂,hq₂,.of_steps (harr _ hg) harr₂⟩
   | ret=>exact ⟨_,a₁,w₁,hq,harr⟩
   | panic ch=>exact ⟨_,a₁,w₁,hq,harr⟩
   | outgrown=>exact ⟨_,a₁,w₁,hq,harr⟩
 obtain ⟨e,a₁,w₁,hq,harr⟩:=h b (.inScope c::k) cs;cases e with
 | normal=>exact ⟨.normal,a₁,w₁,hq,.head step_scope (Steps.trans harr (.one step_inScope))⟩
 | exit id=>exact ⟨.exit id,a₁,w₁,hq,fun k' hk=>.head step_scope (harr k' (by simp [exitTo,hk]))⟩
 | goto l' =>
   obtain ⟨rfl,hJ'⟩:=hq;obtain ⟨e₂,a₂,w₂,hq₂,harr₂⟩:=key _ a₁ w₁ hJ';exact ⟨e₂,a₂,w₂,hq₂,.of_steps (.head step_scope (harr _ hg)) harr₂⟩
 | ret=>exact ⟨_,a₁,w₁,hq,.of_steps (.one step_scope) harr⟩
 | panic ch=>exact ⟨_,a₁,w₁,hq,.of_steps (.one step_scope) harr⟩
 | outgrown=>exact ⟨_,a₁,w₁,hq,.of_steps (.one step_scope) harr⟩
theorem IQ {c:Code} {Q:Exit->Act->World->Prop} {a:Act} {w:World} (h:c.wp P (fun e a w=>(∀ l,e ≠ .goto l)∧Q e a w) a w):(Code.scope c).wp P Q a w:=by
 intro b k cs;obtain ⟨e,a₁,w₁,⟨hn,hq⟩,harr⟩:=h b (.inScope c::k) cs;cases e with
 | normal=>exact ⟨.normal,a₁,w₁,hq,.head step_scope (Steps.trans harr (.one step_inScope))⟩
 | exit id=>exact ⟨.exit id,a₁,w₁,hq,fun k' hk=>.head step_scope (harr k' (by simp [exitTo,hk]))⟩
 | goto l'=>exact (hn l' rfl).elim
 | ret=>exact ⟨_,a₁,w₁,hq,.of_steps (.one step_scope) harr⟩
 | panic ch=>exact ⟨_,a₁,w₁,hq,.of_steps (.one step_scope) harr⟩
 | outgrown=>exact ⟨_,a₁,w₁,hq,.of_steps (.one step_scope) harr⟩
def jnq (P:Program) (lx:List ((Nat × Nat) × (Nat->St->Tree (XP × St)))):Prop :=
 ∀ f fn c i b h,P.funcs[f]? = some fn->fn.body=some c->jf c i=some b->Wk lx f i=some h->Nq P b h
def jl1 (P:Program) (sx:List (Nat × (Nat->St->Tree (XP × St)))):Prop :=
 ∀ f fn c b h,P.funcs[f]? = some fn->fn.body=some c->b ∈ ax c->XW sx f=some h->L2 P b h
theorem WC {F w bs} {s:StP} {a:Act} (hs:PRel P F w bs s a) (h:s.dl.isEmpty=true):a.defers=[]∧s=⟨s.s,[]⟩:=by
 obtain ⟨s,dl⟩:=s;have hd:=List.isEmpty_iff.1 h;simp only at hd;subst hd
 have:=hs.ds
 cases hD:a.defers with
 | nil=>exact ⟨rfl,rfl⟩
 | cons d r=>rw [hD] at this;cases this
theorem yU {H : Hd} (hpc : SumOk P H) {X : HdP} (hrx : Vg P X.rx) (hnc : Lh P X.nc) {call : jt} (hcall : CallOk P call) {callP : qQ} (hcallP : CallPOk P X callP) (f K : Nat) : ∀ (c : Code) (n : Nat) (s : StP) {x : XP × StP},
  (jZ P H X call callP f K n c s).sel=some x->(∀ i b h,jf c i=some b->kB H.lh f (n+i)=some h->LoopOk P b h) ->
  (∀ i b h,jf c i=some b->Wk X.lx f (n+i)=some h->Nq P b h)->(∀ b h,b ∈ ax c->XW X.sx f=some h->L2 P b h)->∀ {F:Nat->Prop} {w:World} {bs:List BI} {a:Act},K<=bs.length->PRel P F w bs s a->∀ {Q:Exit->Act->World->Prop},
  (∀ F' w' bs' a' e,Ext K F w bs F' w' bs'->PRel P F' w' bs' x.2 a'->XRel F' w' bs' x.1 e->Q e a' w')->c.wp P Q a w:=by
 intro c
 induction c with
 | skip =>
   intro n s x h _ _ _ F w bs a hK hs Q hQ;simp only [jZ,Tree.sel,sIq] at h;subst h;exact wp_skip (hQ F w bs a _ Ext.refl hs rfl)
 | region id ops draw =>
   intro n s x h _ _ _ F w bs a hK hs Q hQ;simp only [jZ] at h;cases draw
   ·simp only [Bool.false_eq_true,if_false] at h;obtain ⟨⟨y,s'⟩,h1,h2⟩:=jg h;simp only [Tree.sel,sIq] at h2;subst h2;exact wp_region_list (Ju hpc hrx hcall hcallP _ _ h1 hs fun F' w' bs' a' e he hs' hx=>hQ F' w' bs' a' e (he.weak hK) hs'.unkey hx)
   ·simp only [if_true] at h;obtain ⟨y,s'⟩:=x;split at h
    ·exact jc8 hpc hnc hcall h hs fun F' w' bs' a' e he hs' hx=>hQ F' w' bs' a' e (he.weak hK) hs' hx
    exact jd1 hpc hrx hcall hcallP h hs fun F' w' bs' a' e he hs' hx=>hQ F' w' bs' a' e (he.weak hK) hs' hx
 | seq a b iha ihb =>
   intro n s x h hl hlx hsx F w bs a' hK hs Q hQ;simp only [jZ] at h;obtain ⟨y,h1,h2⟩:=jg h
   refine wp_seq (iha n s h1 (fun i bb hh hi hk=>hl i bb hh (by
    simp only [jf]
    have:i<ji a:=by
     rcases lOq i (ji a) with h' | h'
     ·exact h'
     ·exact absurd hi (by rw [evCode_ok.nthLoop_none a i h'];simp)
    rw [if_pos this];exact hi) hk) (fun i bb hh hi hk=>hlx i bb hh (by
    simp only [jf]
    have:i<ji a:=by
     rcases lOq i (ji a) with h' | h'
     ·exact h'
     ·exact absurd hi (by rw [evCode_ok.nthLoop_none a i h'];simp)
    rw [if_pos this];exact hi) hk) (fun bb hh hi hk=>hsx bb hh (by simp only [ax,List.mem_append];exact .inl hi) hk) hK hs fun F' w' bs' a'' e he hs' hx => ?_)
   obtain ⟨xp,s'⟩:=y;cases xp with
  | normal =>
    cases hx;simp only [Exit.then]
    refine ihb (n+ji a) s' h2 (fun i bb hh hi hk=>hl (ji a+i) bb hh (by
     simp only [jf];rw [if_neg (by omega)]
     rw [show ji a+i - ji a=i by omega];exact hi) (by rw [← Nat.add_assoc];exact hk)) (fun i bb hh hi hk=>hlx (ji a+i) bb hh (by
     simp only [jf];rw [if_neg (by omega)]
     rw [show ji a+i - ji a=i by omega];exact hi) (by rw [← Nat.add_assoc];exact hk)) (fun bb hh hi hk=>hsx bb hh (by simp only [ax,List.mem_append];exact .inr hi) hk) (he.le hK) hs' fun F'' w'' bs'' a3 e' he' hs'' hx'=>hQ _ _ _ _ _ (he.trans he' (lRq _)) hs'' hx'
  | exit k =>
    cases hx;simp only [Tree.sel,sIq] at h2;subst h2;exact hQ _ _ _ _ _ he hs' rfl
  | ret =>
    cases hx;simp only [Tree.sel,sIq] at h2;subst h2;exact hQ _ _ _ _ _ he hs' rfl
  | pan z =>
    obtain ⟨v,rfl,hv⟩:=hx;simp only [Tree.sel,sIq] at h2;subst h2;exact hQ _ _ _ _ _ he hs' ⟨v,rfl,hv⟩
  | goto l =>
    cases hx;simp only [Tree.sel,sIq] at h2;subst h2;exact hQ _ _ _ _ _ he hs' rfl
 | cond c a b iha ihb =>
   intro n s x h hl hlx hsx F w bs a' hK hs Q hQ;simp only [jZ] at h;split at h
   ·rename_i t ht;have hr:=qo hs.st jw ht
    have hc:a'.eval c=.bool t:=by
     generalize a'.eval c=z at hr ⊢;cases hr;rfl
    simp only [Tree.sel] at h;cases t
    ·simp only [cond_false] at h
     refine wp_cond_false hc (ihb (n+ji a) s h (fun i bb hh hi hk=>hl (ji a+i) bb hh (by
      simp only [jf];rw [if_neg (by omega)]
      rw [show ji a+i - ji a=i by omega];exact hi) (by rw [← Nat.add_assoc];exact hk)) (fun i bb hh hi hk=>hlx (ji a+i) bb hh (by
      simp only [jf];rw [if_neg (by omega)]
      rw [show ji a+i - ji a=i by omega];exact hi) (by rw [← Nat.add_assoc];exact hk)) (fun bb hh hi hk=>hsx bb hh (by simp only [ax,List.mem_append];exact .inr hi) hk) hK hs hQ)
    ·simp only [cond_true] at h
     refine wp_cond_true hc (iha n s h (fun i bb hh hi hk=>hl i bb hh (by
      simp only [jf]
      have:i<ji a:=by
       rcases lOq i (ji a) with h' | h'
       ·exact h'
       ·exact absurd hi (by rw [evCode_ok.nthLoop_none a i h'];simp)
      rw [if_pos this];exact hi) hk) (fun i bb hh hi hk=>hlx i bb hh (by
      simp only [jf]
      have:i<ji a:=by
       rcases lOq i (ji a) with h' | h'
       ·exact h'
       ·exact absurd hi (by rw [evCode_ok.nthLoop_none a i h'];simp)
      rw [if_pos this];exact hi) hk) (fun bb hh hi hk=>hsx bb hh (by simp only [ax,List.mem_append];exact .inl hi) hk) hK hs hQ)
   ·simp [Tree.sel] at h
 | block id b ih =>
   intro n s x h hl hlx hsx F w bs a' hK hs Q hQ;simp only [jZ] at h;obtain ⟨y,h1,h2⟩:=jg h;refine wp_block (ih n s h1 (fun i bb hh hi hk=>hl i bb hh hi hk) (fun i bb hh hi hk=>hlx i bb hh hi hk) (fun bb hh hi hk=>hsx bb hh hi hk) hK hs fun F' w' bs' a'' e he hs' hx => ?_);obtain ⟨xp,s'⟩:=y;cases xp with
  | normal =>
    cases hx;simp only [Tree.sel,sIq] at h2;subst h2;exact hQ _ _ _ _ _ he hs' rfl
  | exit k =>
    cases hx;simp only [Tree.sel,sIq] at h2;subst h2;simp only [Exit.inBlock];by_cases hk:k=id
    ·simp only [hk,if_true] at hQ ⊢;exact hQ _ _ _ _ _ he hs' rfl
    ·simp only [hk,if_false] at hQ ⊢;exact hQ _ _ _ _ _ he hs' rfl
  | ret =>
    cases hx;simp only [Tree.sel,sIq] at h2;subst h2;exact hQ _ _ _ _ _ he hs' rfl
  | pan z =>
    obtain ⟨v,rfl,hv⟩:=hx;simp only [Tree.sel,sIq] at h2;subst h2;exact hQ _ _ _ _ _ he hs' ⟨v,rfl,hv⟩
  | goto l =>
    cases hx;simp only [Tree.sel,sIq] at h2;subst h2;exact hQ _ _ _ _ _ he hs' rfl
 | loop b ih =>
   intro n s x h hl hlx hsx F w bs a' hK hs Q hQ;simp only [jZ] at h;split at h
   ·rename_i hh hk;split at h
    ·rename_i hdl;obtain ⟨⟨y,s'⟩,h1,h2⟩:=jg h;simp only [Tree.sel,sIq] at h2;subst h2;obtain ⟨_,he⟩:=WC hs hdl;rw [he] at hs;obtain ⟨N,hN⟩:=hlx 0 b hh rfl (by simpa using hk) K s.s (y,s') h1
     exact wp_loop_rounds N (hN F w bs a' hK hs Q hQ)
    ·simp [Tree.sel] at h
   ·split at h
    ·rename_i hh hk;split at h
     ·rename_i hdl;obtain ⟨⟨y,s'⟩,h1,h2⟩:=jg h;simp only [Tree.sel,sIq] at h2;subst h2;obtain ⟨hd0,_⟩:=WC hs hdl;exact (wpIn_wide (n:=0)).1 (hl 0 b hh rfl (by simpa using hk) K s.s (y,s') h1 none 0 _ F w bs a' hK hs.st Q fun F' w' bs' a'' he hs'=>hQ F' w' bs' a'' _ he (hs'.toP (by rw [hd0];exact .nil)) (jkm _))
     ·simp [Tree.sel] at h
    ·have key : ∀ (r : Nat) (s : StP), (Wl (fun s' => jZ P H X call callP f K (n + 1) b s') r s).sel = some x -> ∀ {F : Nat -> Prop} {w : World} {bs : List BI} {a : Act}, K <= bs.length -> PRel P F w bs s a ->
       (∀ F' w' bs' a' e,Ext K F w bs F' w' bs'->PRel P F' w' bs' x.2 a'->XRel F' w' bs' x.1 e->Q e a' w')->Code.rounds P b Q r a w:=by
      intro r
      induction r with
      | zero=>intro s h;simp [Wl,Tree.sel] at h
      | succ r ihr =>
        intro s h F w bs a hK hs hQ;simp only [Wl] at h;obtain ⟨⟨y,s'⟩,h1,h2⟩:=jg h;rw [rounds_succ];refine ih (n+1) s h1 (fun i bb hh hi hk=>hl (i+1) bb hh (by simpa only [jf] using hi) (by rw [← hk];congr 1;omega)) (fun i bb hh hi hk=>hlx (i+1) bb hh (by simpa only [jf] using hi) (by rw [← hk];congr 1;omega)) (fun bb hh hi hk=>hsx bb hh hi hk) hK hs fun F' w' bs' a'' e he hs' hx => ?_
        cases y with
       | normal =>
         cases hx;exact ihr s' h2 (he.le hK) hs' fun F'' w'' bs'' a3 e' he' hs'' hx'=>hQ _ _ _ _ _ (he.trans he' (lRq _)) hs'' hx'
       | exit k =>
         cases hx;simp only [Tree.sel,sIq] at h2;subst h2;exact hQ _ _ _ _ _ he hs' rfl
       | ret =>
         cases hx;simp only [Tree.sel,sIq] at h2;subst h2;exact hQ _ _ _ _ _ he hs' rfl
       | pan z =>
         obtain ⟨v,rfl,hv⟩:=hx;simp only [Tree.sel,sIq] at h2;subst h2;exact hQ _ _ _ _ _ he hs' ⟨v,rfl,hv⟩
       | goto l =>
         cases hx;simp only [Tree.sel,sIq] at h2;subst h2;exact hQ _ _ _ _ _ he hs' rfl
     exact wp_loop_rounds X.rounds (key X.rounds s h hK hs hQ)
 | exit id =>
   intro n s x h _ _ _ F w bs a hK hs Q hQ;simp only [jZ,Tree.sel,sIq] at h;subst h;exact wp_exit (hQ F w bs a _ Ext.refl hs rfl)
 | ret =>
   intro n s x h _ _ _ F w bs a hK hs Q hQ;simp only [jZ,Tree.sel,sIq] at h;subst h;exact wp_ret (hQ F w bs a _ Ext.refl hs rfl)
 | rangeFunc _ _ _ _ _ _=>intro n s x h;simp [jZ,Tree.sel] at h
 | scope b ih =>
   intro n s x h hl hlx hsx F w bs a' hK hs Q hQ;simp only [jZ] at h;split at h
   ·rename_i hh hk;split at h
    ·rename_i hdl;obtain ⟨⟨y,s'⟩,h1,h2⟩:=jg h;simp only [Tree.sel,sIq] at h2;subst h2;obtain ⟨_,he⟩:=WC hs hdl;rw [he] at hs;exact hsx b hh (by simp [ax]) hk K s.s (y,s') h1 F w bs a' hK hs Q hQ
    ·simp [Tree.sel] at h
   ·obtain ⟨⟨y,s'⟩,h1,h2⟩:=jg h
    have hx:x=(y,s')∧∀ l,y ≠ .goto l:=by
     cases y with
     | goto l=>simp [Tree.sel] at h2
     | normal=>simp only [Tree.sel,sIq] at h2;exact ⟨h2.symm,fun _ e=>by cases e⟩
     | exit _=>simp only [Tree.sel,sIq] at h2;exact ⟨h2.symm,fun _ e=>by cases e⟩
     | ret=>simp only [Tree.sel,sIq] at h2;exact ⟨h2.symm,fun _ e=>by cases e⟩
     | pan _=>simp only [Tree.sel,sIq] at h2;exact ⟨h2.symm,fun _ e=>by cases e⟩
    obtain ⟨rfl,hng⟩:=hx;refine IQ (ih n s h1 (fun i b' hh hi hk=>hl i b' hh (by simpa [jf] using hi) hk) (fun i b' hh hi hk=>hlx i b' hh (by simpa [jf] using hi) hk) (fun b' hh hi hk=>hsx b' hh (by simp only [ax,List.mem_cons];exact .inr hi) hk) hK hs fun F' w' bs' a2 e he hs' hx'=>⟨fun l hl' => ?_,hQ F' w' bs' a2 e he hs' hx'⟩)
    subst hl';cases y with
    | goto k=>exact hng k rfl
    | normal=>cases hx'
    | exit _=>cases hx'
    | ret=>cases hx'
    | pan _=>obtain ⟨_,h3,_⟩:=hx';cases h3
 | label l =>
   intro n s x h _ _ _ F w bs a hK hs Q hQ;simp only [jZ,Tree.sel,sIq] at h;subst h;exact wp_label (hQ F w bs a _ Ext.refl hs rfl)
 | goto l =>
   intro n s x h _ _ _ F w bs a hK hs Q hQ;simp only [jZ,Tree.sel,sIq] at h;subst h;exact wp_goto (hQ F w bs a _ Ext.refl hs rfl)
 | refuse _=>intro n s x h;simp [jZ,Tree.sel] at h
def Zd:FrameMode->Value × FrameMode
 | .panicking ({ v,recovered:=false,goexit:=false }::older)=>(v,.panicking ({ v,recovered:=true }::older))
 | m=>(.nilIface,m)
theorem ag (c:Frame) (cs:List Frame):(match recoverD (c::cs) with | some p=>p | none=>(.nilIface,c::cs))=((Zd c.mode).1,{ c with mode:=(Zd c.mode).2 }::cs):=by
 obtain ⟨fn,kind,mode,d⟩:=c;unfold recoverD Zd;simp only;split
 ·rename_i p h;split at h
  ·rename_i e;simp at h;subst h;rfl
  ·cases h
 ·rename_i h;split at h
  ·cases h
  ·rename_i hne;split
   ·rename_i e;exact (hne _ _ rfl).elim
   ·rfl
theorem jj7 {id : Nat} {ops : Array Oper} {o : Oper} {r : List Oper} {c : Go.Call} (ho : ops.toList = o :: r) (hg : o.guard = none) (hop : o.op = .call c) (hcal : c.callee = .builtin .recover) {Q : Exit -> Act -> List Frame -> World -> Prop} {a : Act} {c0 : Frame} {cs : List Frame} {w : World}
  (h:wpList P ops (fun e a' w'=>Q e a' ({ c0 with mode:=(Zd c0.mode).2 }::cs) w') r (a.put o.dst (Zd c0.mode).1) w):(Code.region id ops false).wpS P Q a (c0::cs) w:=by
 intro b k hb hro;have hsz:ops.size=r.length+1:=by rw [← Array.length_toList,ho];rfl
 have h0:ops[0]? = some o:=by rw [← Array.getElem?_toList,ho];rfl
 have hlist:List.range ops.size=0::List.range' 1 r.length:=by
  rw [hsz,List.range_eq_range',List.range'_succ]
 have hs0:step P (lone (b.at a (.code (.region id ops false)::k)) (c0::cs) w)=.next (lone (b.at a (.inRegion ops (0::List.range' 1 r.length)::k)) (c0::cs) w):=by
  rw [← hlist];exact step_region
 have hw:Region.wanted o (yielded ops a.tmps)=true:=by simp [Region.wanted,hg]
 have hrun:(execOp a.eval o).run P w=.ok .recover w:=by
  unfold execOp;rw [hop];simp only [resolve,hcal,Sem.run_bind,Sem.run_pure,Result.andThen_ok,invoke,builtin]
 have hgg:=stepG_op (P:=P) (b:=b) (k:=k) (cs:=c0::cs) (w:=w) (rest:=List.range' 1 r.length) h0 hw
 have hfin:∀ v,(b.at a (.inRegion ops (0::List.range' 1 r.length)::k)).finish v=b.at (a.put o.dst v) (.inRegion ops (List.range' 1 r.length)::k):=by
  intro v;rw [Frame.finish_at,h0];rfl
 have hk:(b.at a (.inRegion ops (0::List.range' 1 r.length)::k)).kind=.deferred:=hb;have htr:=tryRecover_deferred hk (c0::cs);have hre:=ag c0 cs
 have hs1:step P (lone (b.at a (.inRegion ops (0::List.range' 1 r.length)::k)) (c0::cs) w)=.next (lone (b.at (a.put o.dst (Zd c0.mode).1) (.inRegion ops (List.range' 1 r.length)::k)) ({ c0 with mode:=(Zd c0.mode).2 }::cs) w):=by
  refine step_lone_go ?_;rw [hgg,← hfin];simp only [Frame.at] at htr ⊢;cases hrec:recoverD (c0::cs) with
  | some p =>
    rw [hrec] at hre;simp only at hre;subst hre;simp [stepG.apply,hrun,htr,hrec]
  | none =>
    rw [hrec] at hre;simp only at hre;rw [pIq] at hre;rw [← hre.1,← hre.2];simp [stepG.apply,hrun,htr,hrec]
 have hwp:wpOps P ops (fun e a' w'=>Q e a' ({ c0 with mode:=(Zd c0.mode).2 }::cs) w') (List.range' 1 r.length) (a.put o.dst (Zd c0.mode).1) w:=by
  rw [wpOps_eq_wpList r 1 (fun j=>by rw [← Array.getElem?_toList,ho,Nat.add_comm];rfl)]
  exact h
 obtain ⟨e,a',w',q,harr⟩:=wp_ops _ _ _ hwp b k ({ c0 with mode:=(Zd c0.mode).2 }::cs);exact ⟨e,a',_,w',q,.of_steps (.head hs0 (.one hs1)) harr⟩
def UMode (F:Nat->Prop) (w:World) (bs:List BI):Option CV->FrameMode->Prop
 | none,u=>u=.returning
 | some y,u=>∃ v,u=.panicking [{ v,recovered:=false }]∧y.Rel F w bs v
theorem UMode.rec {F w bs pan u} (h:UMode F w bs pan u):settle (Zd u).2=.returning∧(jeG pan).Rel F w bs (Zd u).1∧u ≠ .run:=by
 cases pan with
 | none=>cases h;exact ⟨rfl,.nili,by simp⟩
 | some y=>obtain ⟨v,rfl,hv⟩:=h;exact ⟨rfl,hv,by simp⟩
structure XsOk (P:Program) (X:HdP):Prop where
 rx:Vg P X.rx
 nc:Lh P X.nc
 lx:jnq P X.lx
 sx:jl1 P X.sx
theorem jex {H : Hd} (hH : HdOk P H) {X : HdP} (hX : XsOk P X) {call : jt} (hcall : CallOk P call) {callP : qQ} (hcallP : CallPOk P X callP) {g : Nat} {cap : List CV} {pan : Option CV} {mem : Mem} {res : Option CV} {mem2 : Mem}
  (h:(jan P H X call callP g cap pan mem).sel=some (res,mem2)) {F:Nat->Prop} {w:World} {bs:List BI} (hm:MemRel P F w bs mem) {vs:List Value} (hcap:All2 (CV.Rel F w bs) cap vs) {u:FrameMode} (hu:UMode F w bs pan u) :
  qx P g=true∧CallsD P g vs.toArray u w (fun e u' w'=>∃ v,e=.returned v∧settle u'=.returning∧res=none∧∃ F' bs',Ext bs.length F w bs F' w' bs'∧MemRel P F' w' bs' mem2):=by
 obtain ⟨hset,hrv,hrun⟩:=hu.rec;unfold jan at h;split at h
 rotate_left
 ·simp [Tree.sel] at h
 rename_i fn hfn;split at h
 rotate_left
 ·simp [Tree.sel] at h
 rename_i c hb;split at h
 rotate_left
 ·simp [Tree.sel] at h
 rename_i o' r x hrh;split at h
 rotate_left
 ·simp [Tree.sel] at h
 rename_i hle;rw [aTq] at hle;obtain ⟨hle,hcb⟩:=hle;refine ⟨hcb,?_⟩;rw [jd,Array.getElem?_toList] at hfn;obtain ⟨y,h1,h2⟩:=jg h;refine callsD_of_wpS hfn hb fun c0 cs hc0 => ?_;unfold Ml at hrh;split at hrh
 rotate_left
 ·simp at hrh
 rename_i id ops x0;split at hrh
 rotate_left
 ·simp at hrh
 rename_i o r0 hops;split at hrh
 rotate_left
 ·simp at hrh
 rename_i c1 hg hop;split at hrh
 rotate_left
 ·simp at hrh
 rename_i hcal;simp only [sIq,pIq] at hrh;obtain ⟨rfl,rfl,rfl⟩:=hrh;have hargs:All2 (A1.Rel F w bs) (cap.map .c) vs:=hcap.map_left fun _ _ h=>h;have hst:=Wi (nt:=fn.ntmps) hm hargs (by simpa using hle)
 simp only [List.length_map,List.map_map] at hst;subst hc0;have hst1:=StRel.put (dst:=o.dst) (ks:=[]) (v:=.one (.c (jeG pan))) (x:=(Zd c0.mode).1) hst (fun _ hp=>by cases hp) (fun _=>hrv) (fun h=>(h jw).elim)
 refine wpS_seq (jj7 hops hg hop hcal ?_);rw [← hops] at h1;refine Ju hH.pc hX.rx hcall hcallP (x:=y.1) (s':=y.2) _ _ h1 (hst1.toP .nil) fun F1 w1 bs1 a1 e1 he1 hs1 hx1 => ?_;obtain ⟨xp,s1⟩:=y;cases xp with
 | normal =>
   cases hx1;simp only at h2;obtain ⟨z,h3,h4⟩:=jg h2;refine wpS_of_wp (yU hH.pc hX.rx hX.nc hcall hcallP g mem.length _ 0 _ h3 (fun i b hh hi hk=>hH.lh g fn _ i b hh hfn hb (by simpa [jf,ji] using hi) (by simpa using hk)) (fun i b hh hi hk=>hX.lx g fn _ i b hh hfn hb (by simpa [jf,ji] using hi) (by simpa using hk)) (fun b hh hi hk=>hX.sx g fn _ b hh hfn hb (by simpa [ax] using hi) hk) (by have:=he1.le;have:=hm.len;omega) hs1.unkey fun F2 w2 bs2 a2 e2 he2 hs2 hx2 => ?_)
   obtain ⟨zx,zs,zd⟩:=z
   have fin : zd = [] -> (zt P zs fn.results.toList).isSome = true -> res = none -> mem2 = zs.mem -> a2.defers = [] ∧ ∃ u', ({ c0 with mode := (Zd c0.mode).2 } :: cs : List Frame) = { c0 with mode := u' } :: cs ∧ ∃ v, (results fn a2.tmps).run P w2 = .ok v w2 ∧
     ∃ v',Ending.returned v=Ending.returned v'∧settle u'=.returning∧res=none∧∃ F' bs',Ext bs.length F w bs F' w2 bs'∧MemRel P F' w2 bs' mem2:=by
    intro hz hr hres hmm;subst hz
    have hd0:a2.defers=[]:=by
     have:=hs2.ds
     cases hD:a2.defers with
     | nil=>rfl
     | cons d r=>rw [hD] at this;cases this
    obtain ⟨l,hl⟩:=Option.isSome_iff_exists.1 hr;obtain ⟨v,_,hrun⟩:=Qd hs2.st hl;refine ⟨hd0,_,rfl,v,hrun,v,rfl,hset,hres,F2,bs2,?_,hmm▸hs2.st.mem⟩;have e3:=he1.trans he2 (Nat.le_of_eq hm.len);exact e3
   cases zx with
  | normal =>
    cases hx2;simp only at h4;split at h4
    ·rename_i hz;cases hz;split at h4
     ·rename_i hr;simp only [Tree.sel,sIq,pIq] at h4;exact fin rfl hr h4.1.symm h4.2.symm
     ·simp [Tree.sel] at h4
    ·rename_i hz;cases hz
    ·simp [Tree.sel] at h4
  | ret =>
    cases hx2;simp only at h4;split at h4
    ·rename_i hz;cases hz
    ·rename_i hz;cases hz;split at h4
     ·rename_i hr;simp only [Tree.sel,sIq,pIq] at h4;exact fin rfl hr h4.1.symm h4.2.symm
     ·simp [Tree.sel] at h4
    ·simp [Tree.sel] at h4
  | exit k=>simp [Tree.sel] at h4
  | goto k=>simp [Tree.sel] at h4
  | pan q=>simp [Tree.sel] at h4
 | exit k=>simp [Tree.sel] at h2
 | goto k=>simp [Tree.sel] at h2
 | ret=>simp [Tree.sel] at h2
 | pan q=>simp [Tree.sel] at h2
theorem IX {g:Nat} {vs:List Value} (hc:qx P g=true) (w:World):(invoke (.fn (.func g) vs.toArray) #[]).run P w=.ok (.enter g vs.toArray) w:=by
 unfold qx at hc;split at hc
 ·rename_i fn hfn;simp only [aTq,bne_iff_ne,ne_eq] at hc;obtain ⟨⟨hn,hb⟩,_⟩:=hc;rw [jd] at hfn;simp only [Array.getElem?_toList] at hfn;have hb':fn.body.isNone=false:=by cases hh:fn.body<;>simp [hh] at hb ⊢
  have hn':(fn.name == "runtime.NumGoroutine")=false:=by simpa using hn
  simp only [invoke,callFunc,Sem.run_bind,run_program,Result.andThen_ok,hfn,hn',Bool.false_eq_true,if_false,hb',Sem.run_pure];congr 2;apply Array.ext'
  simp
 ·simp at hc
theorem leaveP_ok {H : Hd} (hH : HdOk P H) {X : HdP} (hX : XsOk P X) {call : jt} (hcall : CallOk P call) {callP : qQ} (hcallP : CallPOk P X callP) {fn : Func} {s : St} : ∀ (dl : List CV) (pan : Option CV) (mem : Mem) {out : Out} {mem2 : Mem} {D : List Deferred} {D0 : List Deferred} {F : Nat -> Prop} {w : World} {bs : List BI} {a : Act} {u : FrameMode},
  (y7 P H X call callP fn s dl pan mem).sel=some (out,mem2)->StRel P D0 F w bs { s with mem:=mem } a->DsRel F w bs dl D->UMode F w bs pan u ->
  Leaves P fn a.tmps (fun e w'=>∃ F' bs',Ext bs.length F w bs F' w' bs'∧MemRel P F' w' bs' mem2∧out.Ends F' w' bs' e) D u w
 | [], none, mem, out, mem2, D, D0, F, w, bs, a, u, h, hs, hd, hu => by
   cases hd;cases hu;simp only [y7] at h;split at h
   ·rename_i l hl;simp only [Tree.sel,sIq,pIq] at h;obtain ⟨rfl,rfl⟩:=h;obtain ⟨v,hv,hrun⟩:=Qd hs hl;exact ⟨v,hrun,F,bs,Ext.refl,hs.mem,v,rfl,hv⟩
   ·simp [Tree.sel] at h
 | [], some y, mem, out, mem2, D, D0, F, w, bs, a, u, h, hs, hd, hu => by
   cases hd;obtain ⟨v,rfl,hv⟩:=hu;simp only [y7,Tree.sel,sIq,pIq] at h;obtain ⟨rfl,rfl⟩:=h;exact ⟨F,bs,Ext.refl,hs.mem,v,rfl,hv⟩
 | d :: dl, pan, mem, out, mem2, D, D0, F, w, bs, a, u, h, hs, hd, hu => by
   cases hd with
  | cons hd1 hdr =>
    rename_i d0 D1;obtain ⟨g,cap,vs,rfl,rfl,hcap⟩:=hd1;simp only [y7] at h;obtain ⟨⟨res,m1⟩,h1,h2⟩:=jg h;obtain ⟨hcb,hcd⟩:=jex hH hX hcall hcallP h1 hs.mem hcap hu;refine leaves_cons hu.rec.2.2 (IX hcb w) (hcd.mono fun e u' w' ⟨v,he,hset,hres,F',bs',hext,hm'⟩ => ?_);subst he;subst hres;simp only;rw [hset];have hs':StRel P D0 F' w' bs' { s with mem:=m1 } a:=hs.ext hext hm'
    have:=leaveP_ok hH hX hcall hcallP dl none m1 h2 hs' (DsRel.grow hext.grow hdr) rfl
    refine leaves_mono (fun e w2 ⟨F2,bs2,he2,hm2,hr2⟩=>⟨F2,bs2,hext.trans he2 hext.le,hm2,hr2⟩) _ _ _ this
 where
 leaves_mono {fn:Func} {tmps:Array Value} {R R':Ending->World->Prop} (hr:∀ e w,R e w->R' e w):∀ (D:List Deferred) (u:FrameMode) (w:World),Leaves P fn tmps R D u w->Leaves P fn tmps R' D u w
  | [],.returning,_,h=>let ⟨v,h1,h2⟩:=h;⟨v,h1,hr _ _ h2⟩
  | [],.panicking _,_,h=>hr _ _ h
  | [],.run,_,h=>h
  | d :: ds, u, w, h => by
    obtain ⟨h1,fv,cap,f,args,h2,h3,h4⟩:=h;refine ⟨h1,fv,cap,f,args,h2,h3,h4.mono fun e u' w' he => ?_⟩;cases e with
   | returned v=>exact leaves_mono hr ds _ _ he
   | panicked c=>exact leaves_mono hr ds _ _ he
   | outgrown=>exact hr _ _ he
def jqB (P:Program) (px:List (Nat × (List A1->Mem->Tree (Out × Mem)))):Prop :=
 ∀ f G,Z7 px f=some G->∀ args mem r mem',(G args mem).sel=some (r,mem')->∀ F w bs vs,MemRel P F w bs mem->All2 (A1.Rel F w bs) args vs ->
  Calls P f vs.toArray w (fun e w'=>∃ F' bs',Ext bs.length F w bs F' w' bs'∧MemRel P F' w' bs' mem'∧r.Ends F' w' bs' e)
structure XOk (P:Program) (X:HdP):Prop where
 px:jqB P X.px
 rx:Vg P X.rx
 nc:Lh P X.nc
 lx:jnq P X.lx
 sx:jl1 P X.sx
 loc:∀ f,JM f X.lo=true->∃ G,Z7 X.px f=some G∧LocFn G
theorem XOk.xs {X:HdP} (h:XOk P X):XsOk P X:=⟨h.rx,h.nc,h.lx,h.sx⟩
theorem yn {H:Hd} (hH:HdOk P H) {X:HdP} (hX:XOk P X):∀ n,CallPOk P X (zD P H X n)
 | 0=>⟨by intro f args mem r mem' h;simp [zD,Tree.sel] at h,fun f _ b rest M r M' h=>by simp [zD,Tree.sel] at h⟩
 | n + 1 => by
   refine ⟨?_,fun f hf => ?_⟩
   rotate_left
   ·obtain ⟨G,h1,h2⟩:=hX.loc f hf
    have e:zD P H X (n+1) f=G:=by
     funext args mem;simp only [zD,h1]
    rw [e];exact h2
   intro f args mem r mem' h F w bs vs hm hargs;simp only [zD] at h;split at h
   ·rename_i G hG;exact hX.px f G hG args mem r mem' h F w bs vs hm hargs
   ·split at h
    rotate_left
    ·simp [Tree.sel] at h
    rename_i fn hfn;split at h
    rotate_left
    ·simp [Tree.sel] at h
    rename_i c hb;split at h
    rotate_left
    ·simp [Tree.sel] at h
    rename_i hle;obtain ⟨⟨x,s1⟩,h1,h2⟩:=jg h;rw [jd,Array.getElem?_toList] at hfn;have hst:=Wi (nt:=fn.ntmps) hm hargs (by simpa using hle)
    refine calls_of_wp_defers hfn hb (yU hH.pc hX.rx hX.nc (qY hH n) (yn hH hX n) f mem.length c 0 _ h1 (fun i b hh hi hk=>hH.lh f fn c i b hh hfn hb hi (by simpa using hk)) (fun i b hh hi hk=>hX.lx f fn c i b hh hfn hb hi (by simpa using hk)) (fun b hh hi hk=>hX.sx f fn c b hh hfn hb hi hk) (Nat.le_of_eq hm.len.symm) (hst.toP .nil) fun F' w' bs' a' e he hs' hx => ?_)
    have hext:Ext bs.length F w bs F' w' bs':=he.weak (Nat.le_of_eq hm.len)
    have key:∀ (pan:Option CV) (u:FrameMode),(y7 P H X (jU P H n) (zD P H X n) fn s1.s s1.dl pan s1.s.mem).sel=some (r,mem')->UMode F' w' bs' pan u->Leaves P fn a'.tmps (fun e w'=>∃ F' bs',Ext bs.length F w bs F' w' bs'∧MemRel P F' w' bs' mem'∧r.Ends F' w' bs' e) a'.defers u w':=by
     intro pan u hl hu
     have:=leaveP_ok hH hX.xs (qY hH n) (yn hH hX n) s1.dl pan s1.s.mem hl hs'.st hs'.ds hu
     exact leaveP_ok.leaves_mono (fun e w2 ⟨F2,bs2,he2,hm2,hr2⟩=>⟨F2,bs2,hext.trans he2 hext.le,hm2,hr2⟩) _ _ _ this
    cases x with
    | normal=>cases hx;exact key none .returning h2 rfl
    | ret=>cases hx;exact key none .returning h2 rfl
    | pan y=>obtain ⟨v,rfl,hv⟩:=hx;exact key (some y) _ h2 ⟨v,rfl,hv⟩
    | exit k=>simp [Tree.sel] at h2
    | goto k=>simp [Tree.sel] at h2
theorem XOk.nil {r:Nat}:XOk P ⟨[],[],[],[],[],r,[]⟩:=⟨fun f G h=>by simp [Z7] at h,fun f G h=>by simp [XU] at h,fun f G h=>by simp [XT] at h,fun _ _ _ _ _ _ _ _ _ h=>by simp [Wk] at h,fun _ _ _ _ _ _ _ _ h=>by simp [XW] at h,fun f h=>by simp [JM] at h⟩
def ju (P:Program) (f:Nat) (G:List A1->Mem->Tree (Out × Mem)):Prop :=
 ∀ args mem r mem',(G args mem).sel=some (r,mem')->∀ F w bs vs,MemRel P F w bs mem->All2 (A1.Rel F w bs) args vs ->
  Calls P f vs.toArray w (fun e w'=>∃ F' bs',Ext bs.length F w bs F' w' bs'∧MemRel P F' w' bs' mem'∧r.Ends F' w' bs' e)
theorem XOk.loCons {px rx nc lx sx r lo} {f:Nat} {G:List A1->Mem->Tree (Out × Mem)} (h:XOk P ⟨px,rx,nc,lx,sx,r,lo⟩) (h1:ju P f G) (hl:LocFn G):XOk P ⟨(f,G)::px,rx,nc,lx,sx,r,f::lo⟩:=by
 refine ⟨fun g G' hl => ?_,h.rx,h.nc,h.lx,h.sx,fun g hg => ?_⟩
 ·simp only [Z7] at hl;split at hl
  ·rename_i e;simp at hl;subst hl;rw [← eq_of_beq e];exact h1
  ·exact h.px g G' hl
 ·by_cases e:f=g
  ·subst e;exact ⟨G,by simp [Z7],hl⟩
  ·have hg' : JM g lo = true := by
    simp only [JM,Bool.or_eq_true,beq_iff_eq] at hg;exact hg.resolve_left fun h=>e h.symm
   obtain ⟨G',h2,h3⟩:=h.loc g hg';exact ⟨G',by simp only [Z7];rw [if_neg (by simpa using e)];exact h2,h3⟩
theorem HdOk.pF {pc hc lh mc} (h:HdOk P ⟨pc,hc,lh,mc⟩) (f:Nat):HdOk P ⟨Sx.pF f::pc,hc,lh,mc⟩:=h.tcCons (fun _ _ h=>by simp [Tree.sel] at h)
theorem jl {α:Type} {Q:α->Prop}:∀ {t:Tree α} {r:α},t.sel=some r->Q r->t.All Q
 | .leaf a,r,h,hq=>by simp only [Tree.sel,sIq] at h;subst h;exact hq
 | .br c t e, r, h, hq => by
   simp only [Tree.sel] at h;cases c
   ·exact ⟨(fun h2=>by cases h2),fun _=>jl h hq⟩
   ·exact ⟨fun _=>jl h hq,(fun h2=>by cases h2)⟩
 | .need c t, r, h, hq => by
   simp only [Tree.sel] at h;cases c
   ·cases h
   ·exact ⟨rfl,jl h hq⟩
 | .fail,r,h,hq=>by cases h
def qf (P:Program) (H:Hd) (X:HdP) (n f:Nat) (args:List A1):Tree AV:=(zD P H X n f args []).bind fun y=>match y.1 with
 | .ret a=>Tree.ofOpt (KZ y.2 a)
 | .pan _=>.fail
theorem jR {H : Hd} (hH : HdOk P H) {X : HdP} (hX : XOk P X) (n f : Nat) {G : List A1 -> Option (Bool × AV)}
  (h:∀ args r,G args=some (true,r)->(qf P H X n f args).All (fun x=>leA x r)):UcOne P f (nG G):=by
 intro args r hG hcl F w vs hargs;have hG:=zA hG;obtain ⟨x,hsel,hle⟩:=yh (h args r hG);obtain ⟨⟨r',m⟩,h1,h2⟩:=jg hsel;cases r' with
 | pan _=>simp [Tree.sel] at h2
 | ret a =>
   have ho:KZ m a=some x:=by
    cases hx:KZ m a with
    | none=>simp only at h2;rw [hx] at h2;simp [Tree.ofOpt,Tree.sel] at h2
    | some y=>simp only at h2;rw [hx] at h2;simpa [Tree.ofOpt,Tree.sel] using h2
   have hargs1:All2 (A1.Rel (fun p=>F p∧p<w.heap.size) w []) args vs:=hargs.imp fun _ _ hx=>A1.Rel.grow (bs:=[]) (bs':=[]) ⟨lRq _,fun _ _ h=>h.1,fun _ _ _=>rfl,fun _ _ h=>h⟩ hx;refine ((yn hH hX n).ok f args [] _ m h1 _ w [] vs MemRel.nil hargs1).mono fun e w2 ⟨F',bs',hext,hm,u,he,hu⟩ => ?_;refine ⟨u,he,hext.below,hle _ _ _ (AV.Rel.grow (bs:=[]) (bs':=[]) ⟨lRq _,fun p _ hp => ?_,fun _ _ _=>rfl,fun _ _ h=>h⟩ (MK hm hu ho))⟩;refine ⟨hext.F2 p hp hp.2 (by simp),fun y hy e => ?_⟩
   rcases hext.mem y hy with ⟨z,hz,_⟩ | hs
   ·cases hz
   ·have:=hp.2;omega
def WkO (x y:Out × Mem):Prop:=∀ (P:Program) F w bs e,MemRel P F w bs x.2->x.1.Ends F w bs e->∃ F' bs',Ext 0 F w bs F' w bs'∧MemRel P F' w bs' y.2∧y.1.Ends F' w bs' e
theorem WkO.refl {x:Out × Mem}:WkO x x:=fun _ F _ bs _ hm he=>⟨F,bs,Ext.refl,hm,he⟩
theorem MemRel.rowEq {F w bs mem} (h : MemRel P F w bs mem) {b : Nat} {T : TypeId} {fz : Bool} {es : List Sh} {n : Nat} {ρ σ : Val} (hb : nth mem b = some (some (T, [.row fz es n ρ])))
  (he:∀ i f s,i<n->nth es f=some s->cellOf s ((ρ.at i).at f)=cellOf s ((σ.at i).at f)):MemRel P F w bs (jk mem b (some (T,[.row fz es n σ]))):=by
 have key:∀ k T' cs,nth (jk mem b (some (T,[CV.row fz es n σ]))) k=some (some (T',cs))->(k=b∧T'=T∧cs=[.row fz es n σ])∨(k ≠ b∧nth mem k=some (some (T',cs))):=by
  intro k T' cs hk;rcases jA hk with ⟨rfl,e⟩ | ⟨hne,hk⟩
  ·simp at e;exact .inl ⟨rfl,e.1,e.2⟩
  ·exact .inr ⟨hne,hk⟩
 have live:∀ k T' cs,nth (jk mem b (some (T,[CV.row fz es n σ]))) k=some (some (T',cs))->∀ x:BI,jC x cs->∃ T1 cs1,nth mem k=some (some (T1,cs1))∧jC x cs1∧T'=T1:=by
  intro k T' cs hk x hv;rcases key k T' cs hk with ⟨rfl,rfl,rfl⟩ | ⟨hne,hk⟩
  ·exact ⟨_,_,hb,hv,rfl⟩
  ·exact ⟨_,_,hk,hv,rfl⟩
 refine ⟨by rw [jS];exact h.len,fun k x T' cs hk hc hv => ?_,fun k k' x x' T1 cs1 T2 cs2 h1 h2 h3 h4 h5 h6 h7 => ?_,fun k T' cs x hc hr hk => ?_,fun k T' fz' es' n' ρ' x hc hk => ?_,fun k T' f i st cs x hc hk => ?_⟩
 ·obtain ⟨T1,cs1,g1,g2,rfl⟩:=live k T' cs hc x hv;exact h.loc k x _ cs1 hk g1 g2
 ·obtain ⟨_,_,g1,g2,_⟩:=live k T1 cs1 h3 x h5;obtain ⟨_,_,g3,g4,_⟩:=live k' T2 cs2 h4 x' h6;exact h.inj k k' x x' _ _ _ _ h1 h2 g1 g3 g2 g4 h7
 ·rcases key k T' cs hc with ⟨rfl,rfl,rfl⟩ | ⟨_,hk'⟩
  ·simp [je] at hr
  ·exact h.cont k T' cs x hk' hr hk
 ·rcases key k T' _ hc with ⟨rfl,rfl,hcs⟩ | ⟨_,hk'⟩
  ·simp only [List.cons.injEq,CV.row.injEq,and_true] at hcs;obtain ⟨rfl,rfl,rfl,rfl⟩:=hcs
   have:=h.row k T' fz' _ _ ρ x hb hk
   refine ⟨this.len,this.le,this.mx,fun h0 => ?_,this.frz⟩;obtain ⟨arr,a1,a2,val,a3,a4⟩:=this.blk h0;exact ⟨arr,a1,a2,val,a3,fun i f s hi hs=>he i f s hi hs▸a4 i f s hi hs⟩
  ·exact h.row k T' fz' es' n' ρ' x hk' hk
 ·rcases key k T' _ hc with ⟨_,_,hcs⟩ | ⟨_,hk'⟩
  ·simp at hcs
  ·exact h.lp k T' f i st cs x hk' hk
def StWk (s1 s2:St):Prop:=∀ (P:Program) D F w bs a,StRel P D F w bs s1 a->StRel P D F w bs s2 a
theorem StWk.refl {s:St}:StWk s s:=fun _ _ _ _ _ _ h=>h
theorem StWk.row {tmps : List Slot} {mem : Mem} {b : Nat} {T : TypeId} {fz : Bool} {es : List Sh} {n : Nat} {ρ σ : Val} (hb : nth mem b = some (some (T, [.row fz es n ρ])))
  (he:∀ i f s,i<n->nth es f=some s->cellOf s ((ρ.at i).at f)=cellOf s ((σ.at i).at f)):StWk ⟨tmps,mem⟩ ⟨tmps,jk mem b (some (T,[.row fz es n σ]))⟩ :=
 fun _ _ _ _ _ _ h=>⟨h.defers,h.len,h.slots,h.mem.rowEq hb he⟩
theorem LoopOk.wk {b:Code} {h h':Nat->St->Tree (XE × St)} (hh:LoopOk P b h) (hw:∀ K s x,(h' K s).sel=some x->∃ s1,(h K s).sel=some (x.1,s1)∧StWk s1 x.2):LoopOk P b h':=by
 intro K s x hx lr nn D F w bs a hK hs Q hQ;obtain ⟨s1,h1,h2⟩:=hw K s x hx;exact hh K s (x.1,s1) h1 lr nn D F w bs a hK hs Q fun F' w' bs' a' he hs'=>hQ F' w' bs' a' he (h2 _ _ _ _ _ _ hs')
end Go.Sx
namespace Go.Sx
open Go Go.RowKit Classical
variable {P:Program}
theorem Gk {X:Type} {S:X->St} {y:XE × X}:∀ {es:List XE},y.1 ∈ es->(outT S y es).sel=some (y.1,S y.2)
 | [],h=>by cases h
 | [e], h => by
   have h:y.1=e:=by simpa using h
   simp only [outT,Tree.sel,h];rw [Y7.2 rfl];rfl
 | e :: e' :: r, h => by
   simp only [outT,Tree.sel];cases he:J9 y.1 e
   ·simp only [cond_false];refine Gk ?_;rcases List.mem_cons.1 h with h | h
    ·rw [Y7.2 h] at he;cases he
    ·exact h
   ·simp only [cond_true];rw [Y7.1 he]
noncomputable def lq1 {V:Type} (S:V->St) (ok:Prop) (e0:XE) (v0:V):Tree (XE × St):=.need (dec ok) (.leaf (e0,S v0))
def lqH {C V:Type} (keep:List Nat) (k0 nt:Nat) (get:List (Nat × AV)->Mem->Option (C × V)) (T:C->V->Tree (XE × St)) (K:Nat) (s:St):Tree (XE × St) :=
 if s.tmps.length==nt&&Nat.ble K k0 then
  match s.gc keep k0 with
  | some s'=>match JQ s' keep with
   | some l=>match get l s'.mem with
    | some (c,v)=>T c v
    | none=>.fail
   | none=>.fail
  | none=>.fail
 else .fail
theorem jnh {H : Hd} (hH : HdOk P H) (d f i : Nat) {fn : Func} {c b : Code} (hf : P.funcs[f]? = some fn) (hc : fn.body = some c) (hb : jf c i = some b) {C V : Type} (keep : List Nat) (k0 nt : Nat) (S : C -> V -> St) (TX : C -> V -> Tree (XE × V))
  (hT:∀ c v,((jI P H (jU P H d) f k0 (i+1) (qd P f i) (S c v)).bind fun y=>gcT keep k0 y)=(TX c v).bind fun y=>.leaf (y.1,S c y.2))
  (get:List (Nat × AV)->Mem->Option (C × V)) (hget:∀ l m c v,get l m=some (c,v)->mkS nt l m=S c v)
  (good:C->Prop) (μ:C->V->Nat) (st sb:C->Nat->V) (n:C->Nat) (bad:C->Nat->Bool) (e1 e0:XE)
  (hsq:∀ c,good c->Sq (TX c) (μ c) (st c) (sb c) (n c) (bad c) e1 e0) (T:C->V->Tree (XE × St))
  (hw:∀ c v x,(T c v).sel=some x->good c∧v=st c 0∧∃ s1,(x.1,s1)=(bif jQ (bad c) (n c) then (e1,S c (sb c (yc (bad c) (n c)))) else (e0,S c (st c (n c))))∧StWk s1 x.2) :
  LoopOk P b (lqH keep k0 nt get T):=by
 have hl:=JI hH d f i hf hc hb keep k0 nt S TX hT get (fun c v=>dec (good c∧∃ i,i<=n c∧v=st c i)) μ [e1,e0] (Q:=fun c y=>(∃ i,i<n c∧bad c i=true∧y=(e1,sb c i))∨y=(e0,st c (n c))) hget
  (fun c v hv=>by
   have hg:=(js.1 hv).1;exact (hsq c hg).rounds (inv:=fun v=>dec (good c∧∃ i,i<=n c∧v=st c i)=true) (fun x=>by rw [js];exact ⟨fun h=>h.2,fun k=>⟨hg,k⟩⟩) v hv)
 refine hl.wk fun K s x hx => ?_;unfold lqH at hx;unfold YG;split at hx
 ·rename_i hlen;rw [if_pos hlen];cases hg:s.gc keep k0 with
  | none=>rw [hg] at hx;simp [Tree.sel] at hx
  | some s' =>
    rw [hg] at hx;simp only at hx ⊢;cases hl:JQ s' keep with
   | none=>rw [hl] at hx;simp [Tree.sel] at hx
   | some l =>
     rw [hl] at hx;simp only at hx ⊢;cases hgt:get l s'.mem with
    | none=>rw [hgt] at hx;simp [Tree.sel] at hx
    | some p =>
      obtain ⟨cc,v⟩:=p;rw [hgt] at hx;simp only at hx ⊢;obtain ⟨hgood,rfl,s1,h1,h2⟩:=hw cc v x hx;have hfin:=(hsq cc hgood).fin0;refine ⟨s1,?_,h2⟩;simp only [Tree.sel,js.2 (show good cc∧∃ i,i<=n cc∧st cc 0=st cc i from ⟨hgood,0,Nat.zero_le _,rfl⟩),cond_true];rw [hfin];cases hany:jQ (bad cc) (n cc)
      ·rw [hany] at h1;simp only [cond_false,pIq] at h1 ⊢;rw [Gk (by simp),h1.1,h1.2]
      ·rw [hany] at h1;simp only [cond_true,pIq] at h1 ⊢;rw [Gk (by simp),h1.1,h1.2]
 ·simp [Tree.sel] at hx
theorem joz {H : Hd} (hH : HdOk P H) (d f i : Nat) {fn : Func} {c b : Code} (hf : P.funcs[f]? = some fn) (hc : fn.body = some c) (hb : jf c i = some b) {C V : Type} (keep : List Nat) (k0 nt : Nat) (S : C -> V -> St) (TX : C -> V -> Tree (XE × V))
  (hT:∀ c v,((jI P H (jU P H d) f k0 (i+1) (qd P f i) (S c v)).bind fun y=>gcT keep k0 y)=(TX c v).bind fun y=>.leaf (y.1,S c y.2))
  (get:List (Nat × AV)->Mem->Option (C × V)) (hget:∀ l m c v,get l m=some (c,v)->mkS nt l m=S c v)
  (good:C->Prop) (μ:C->V->Nat) (st:C->Nat->V) (n:C->Nat) (e0:XE)
  (hsq:∀ c,good c->Sq (TX c) (μ c) (st c) (st c) (n c) (fun _=>false) .ret e0) (v0:C->V)
  (h0:∀ c,good c->StWk (S c (st c (n c))) (S c (v0 c))) :
  LoopOk P b (lqH keep k0 nt get fun c v=>lq1 (S c) (good c∧v=st c 0) e0 (v0 c)) :=
 jnh hH d f i hf hc hb keep k0 nt S TX hT get hget good μ st st n (fun _ _=>false) .ret e0 hsq _ fun c v x hx=>by
  unfold lq1 at hx;simp only [Tree.sel] at hx;cases hd:dec (good c∧v=st c 0)
  ·rw [hd] at hx;simp at hx
  ·rw [hd] at hx;obtain ⟨hg,hv⟩:=js.1 hd;simp only [cond_true,sIq] at hx;subst hx;have hno:jQ (fun _=>false) (n c)=false:=V3 fun _ _=>rfl;exact ⟨hg,hv,_,by rw [hno];rfl,h0 c hg⟩
end Go.Sx
namespace Go.Proofs.YtiefjlcakpdfeaaGreatDoor.Ro
open Go Go.Sx Go.RowKit Classical
set_option maxRecDepth 100000
namespace Fo
def out (l:Ses) (t:Int):Bool:=lt t 0||le (ja l.n) t
def jfH:List A1->Option (Bool × AV)
 | [.c (.sl [.int .i64,.int .i64,.int .i64] n ρ)]=>some (Nat.ble ((0+n)*24) 140737488355328,.one (.c (.sl spSh n ρ)))
 | _=>none
theorem jrL:UcOne Tryz.prog 70 (nG jfH):=jX h37 10 70 fun args r h=>by
 unfold jfH at h;split at h
 ·rename_i n ρ;obtain ⟨hp,rfl⟩:=Prod.mk.inj (Option.some.inj h);refine ⟨.need (Nat.ble ((0+n)*24) 140737488355328) (.leaf (.one (.c (.sl spSh n ρ)))),by kernel_rfl,hp,leA.refl⟩
 ·cases h
end Fo
end Go.Proofs.YtiefjlcakpdfeaaGreatDoor.Ro
namespace Go.Proofs.YtiefjlcakpdfeaaGreatDoor.Ro
open Go Go.Sx Go.RowKit Classical
set_option maxRecDepth 100000
set_option maxHeartbeats 4000000
namespace Fo
def Ra (es:List Sh) (n:Nat) (ρ σ:Val):Prop:=∀ i f s,i<n->nth es f=some s->cellOf s ((ρ.at i).at f)=cellOf s ((σ.at i).at f)
theorem jm7 {es:List Sh} (v:Val):Val.ofC (.sl es (v.L []) v)=v:=by
 obtain ⟨B,N,S,L⟩:=v;show (⟨B,N,S,_⟩ : Val)=⟨B,N,S,L⟩;congr 1;funext p;cases p<;>rfl
def cs (x:Sit):List CV:=[I x.a,I x.r,I x.e,I x.p,.sl spSh x.n x.ρ,I x.s,.bool x.l,.bool x.c]
def okT (k:Int) (x:Sit):Sit:=⟨bif k==0 then x.a else 0,bif k==0 then x.r else 0,bif k==0 then x.e else 0,bif k==0 then x.p else 0,bif k==0 then x.n else 0,x.ρ,bif k==0 then x.s else 0,k==0&&x.l,k==0&&x.c⟩
def smallS (l:Ses):Prop:=l.n<=1000∧∀ i,i<l.n->small (l.at i).n
theorem small_fewS {l:Ses} (h:smallS l):fewS l:=⟨by unfold fewN;have:=h.1;omega,fun i hi=>js.1 (Ko (h.2 i hi))⟩
end Fo
end Go.Proofs.YtiefjlcakpdfeaaGreatDoor.Ro
namespace Go.Sx
open Go Go.RowKit
variable {P:Program}
theorem OT {H : Hd} (hH : HdOk P H) (n f : Nat) {G : List A1 -> Tree (AV × Mem)}
  (h:∀ args r m,(G args).sel=some (r,m)->∃ u,jU P H n f args []=u∧u.All (fun y=>WkO (.ret y.1,y.2) (.ret r,m))):NcOne P f G:=by
 intro args r m hG _ F w vs hargs;obtain ⟨u,hu,ha⟩:=h args r m hG;rw [← hu] at ha;obtain ⟨y,hsel,hw⟩:=yh ha;refine (Va hH n f args y.1 y.2 hsel F w [] vs MemRel.nil hargs).mono fun e w2 ⟨v,F',bs',he,hext,hm',hr⟩ => ?_;obtain ⟨F2,bs2,e2,m2,v2,hv2,r2⟩:=hw P F' w2 bs' (.returned v) hm' ⟨v,rfl,hr⟩;simp only [Ending.returned.injEq] at hv2;subst hv2;exact ⟨v,F2,bs2,he,hext.trans e2 (lRq _),m2,r2⟩
end Go.Sx
namespace Go.Proofs.YtiefjlcakpdfeaaGreatDoor.Ro
open Go Go.Sx Go.RowKit Classical
set_option maxRecDepth 100000
namespace Fo
theorem nSites:NcOne Tryz.prog 69 (Xv 53 siSh 8 72):=RL Tryz.func69 rfl rfl rfl rfl rfl rfl rfl rfl (by kernel_rfl) rfl (fun n ρ=>by kernel_rfl)
 (fun n ρ=>stC siSh n ρ true) (fun n ρ=>mkS 8 [(0,.one (.c (.sl siSh n ρ))),(2,.one (.c (.os 1 8))),(3,.one (.c (.sl siSh n ρ))),(4,.one (.c (.bool false))),(5,.one (.c (.os 0 8))),(6,.one (.c (.sl siSh n ρ))),(7,.one (.c (.os 1 8)))] [none,some (53,[.row false siSh (0+n) (Val.cat 0 (Val.ofFlat 8 []) ρ)])])
 (fun n ρ=>by kernel_rfl) (fun n ρ=>by kernel_rfl) (fun n ρ=>rfl) (fun n ρ=>by kernel_rfl) (fun n ρ=>by kernel_rfl) (fun n ρ=>rfl)
noncomputable abbrev HCa:Hd:=⟨H37.pc,H15.hc,[],H37.mc⟩
theorem hCa:HdOk Tryz.prog HCa:=⟨⟨h37.pc.pc,h15.pc.hc,h37.pc.mc⟩,h37.lh⟩
noncomputable abbrev HC:Hd:=⟨HCa.pc,(70,nG jfH)::HCa.hc,[],(69,ncG (Xv 53 siSh 8 72))::HCa.mc⟩
theorem hC:HdOk Tryz.prog HC:=(hCa.ucCons jrL).mcCons nSites.mc
theorem jk8 (ρ:Val) (i f:Nat) (x:CV) (k g:Nat):((ρ.upd i f x).at k).at g=if k=i∧g=f then .ofC x else (ρ.at k).at g:=by
 have e:((ρ.upd i f x).at k).at g=(zn (Nat.beq k i) (.byFst fun g=>zn (Nat.beq g f) (.ofC x) ((ρ.at k).at g)) (ρ.at k)).at g:=rfl;rw [e];by_cases hk:k=i
 ·subst hk;rw [Nat.beq_refl];have e2:(zn true (.byFst fun g=>zn (Nat.beq g f) (.ofC x) ((ρ.at k).at g)) (ρ.at k)).at g=zn (Nat.beq g f) (.ofC x) ((ρ.at k).at g):=rfl;rw [e2];by_cases hg:g=f
  ·subst hg;rw [Nat.beq_refl,if_pos ⟨rfl,rfl⟩];rfl
  ·rw [if_neg (fun h=>hg h.2)]
   have:Nat.beq g f=false:=by
    cases h:Nat.beq g f
    ·rfl
    ·exact (hg (eBq h)).elim
   rw [this];rfl
 ·rw [if_neg (fun h=>hk h.1)]
  have:Nat.beq k i=false:=by
   cases h:Nat.beq k i
   ·rfl
   ·exact (hk (eBq h)).elim
  rw [this];rfl
theorem jdJ {n:Nat} {ρ σ:Val} (h:Ra siSh n ρ σ) (j:Nat):Ra siSh n (ρ.upds j 4 [.sl spSh (((ρ.at j).at 4).L []) ((ρ.at j).at 4)]) σ:=by
 intro i f s hi hf;rw [← h i f s hi hf];show cellOf s (((ρ.upd j 4 _).at i).at f)=_;rw [jk8];split
 ·rename_i hh;obtain ⟨rfl,rfl⟩:=hh;simp only [nth,sIq] at hf;subst hf;show cellOf (.sl spSh) (Val.ofC (.sl spSh (((ρ.at i).at 4).L []) ((ρ.at i).at 4)))=_;rw [jm7]
 ·rfl
theorem jfN {n:Nat} {ρ σ:Val} (h:Ra siSh n ρ σ) {i:Nat} (hi:i<n):((ρ.at i).at 4).L []=((σ.at i).at 4).L []:=by
 have:=h i 4 (.sl spSh) hi rfl
 simp only [cellOf,CV.sl.injEq] at this;exact this.2.1
namespace Ca
structure C where
 l:Ses
 m:Int
structure V where
 ρ:Val
 i:Int
def S (c:C) (v:V):St:=mkS 24 [(3,.one (.c (.os 0 8))),(8,.one (.c (I c.m))),(9,.one (.c (I v.i)))] [some (53,[.row false siSh c.l.n v.ρ])]
def up4 (ρ:Val) (i:Nat):Val:=ρ.upds i 4 [.sl spSh (((ρ.at i).at 4).L []) ((ρ.at i).at 4)]
def TX (c:C) (v:V):Tree (XE × V) :=
 .br (lt v.i c.m) (.need (jc v.i c.l.n) (.need (Nat.ble ((0+((v.ρ.at v.i.toNat).at 4).L [])*24) 140737488355328) (.need (jc v.i c.l.n) (.leaf (.normal,⟨up4 v.ρ v.i.toNat,IntKind.i64.wrap (v.i+1)⟩))))) (.leaf (.exit 0,v))
theorem t (c:C) (v:V):((jI Tryz.prog HC (jU Tryz.prog HC 10) 37 0 1 (qd Tryz.prog 37 0) (S c v)).bind fun y=>gcT [3,8,9] 0 y)=(TX c v).bind fun y=>.leaf (y.1,S c y.2):=by kernel_rfl
def ups (ρ:Val):Nat->Val
 | 0=>ρ
 | i+1=>up4 (ups ρ i) i
theorem Gz (ρ:Val) (n:Nat):∀ i,Ra siSh n (ups ρ i) ρ
 | 0=>fun _ _ _ _ _=>rfl
 | i+1=>jdJ (Gz ρ n i) i
def st (c:C) (i:Nat):V:=⟨ups c.l.ρ i,i⟩
def good (c:C):Prop:=c.m=ja c.l.n∧smallS c.l
theorem sq (c:C) (h:good c):Sq (TX c) (fun v=>(c.l.n - v.i).toNat) (st c) (st c) c.l.n (fun _=>false) .ret (.exit 0) where
 out:=by simp
 hit:=by simp
 meas i hi:=by show ((c.l.n:Int) - (i:Int)).toNat=_;omega
 round i hi:=by
  obtain ⟨hm,hn,hs⟩:=h;have hsi:=hs i hi;have hw:IntKind.i64.wrap ((i:Int)+1)=((i+1:Nat):Int):=by rw [w64_id (by omega) (by omega)];omega
  refine ⟨fun _=>⟨inR hi,?_,inR hi,?_⟩,fun hlt => ?_⟩
  ·show Nat.ble ((0+(((ups c.l.ρ i).at i).at 4).L [])*24) 140737488355328=true;rw [jfN (Gz c.l.ρ c.l.n i) hi];exact Ky hsi
  ·show (XE.normal,(⟨up4 (ups c.l.ρ i) i,IntKind.i64.wrap ((i:Int)+1)⟩ : V))=(.normal,st c (i+1));rw [hw];rfl
  ·have:lt (i:Int) c.m=false:=hlt
   rw [hm,ltF hi] at this;cases this
 stop:=by
  refine ⟨fun hlt => ?_,fun _=>rfl⟩
  have:lt (c.l.n:Int) c.m=true:=hlt
  rw [h.1,ltS] at this;cases this
def get:List (Nat × AV)->Mem->Option (C × V)
 | [(3,.one (.c (.os 0 8))),(8,.one (.c (.int .i64 m))),(9,.one (.c (.int .i64 i)))],[some (53,[.row false [.int .i64,.int .i64,.int .i64,.int .i64,.sl [.int .i64,.int .i64,.int .i64],.int .i64,.bool,.bool] n ρ])]=>some (⟨⟨n,ρ⟩,m⟩,⟨ρ,i⟩)
 | _,_=>none
noncomputable def L:Nat->St->Tree (XE × St):=lqH [3,8,9] 0 24 get fun c v=>lq1 (S c) (good c∧v=st c 0) (.exit 0) ⟨c.l.ρ,c.l.n⟩
theorem ok (fn:Func) (c b:Code) (hf:Tryz.prog.funcs[37]? = some fn) (hc:fn.body=some c) (hb:jf c 0=some b):LoopOk Tryz.prog b L :=
 joz hC 10 37 0 hf hc hb [3,8,9] 0 24 S TX t get (fun l m c v h=>by unfold get at h;split at h<;>simp at h;obtain ⟨rfl,rfl⟩:=h;rfl)
  good (fun c v=>(c.l.n - v.i).toNat) st (fun c=>c.l.n) (.exit 0) sq (fun c=>⟨c.l.ρ,c.l.n⟩)
  (fun c _=>StWk.row (tmps:=mkL [(3,.one (.c (.os 0 8))),(8,.one (.c (I c.m))),(9,.one (.c (I c.l.n)))] 24 0) (b:=0) rfl (Gz c.l.ρ c.l.n c.l.n))
end Ca
noncomputable abbrev HC1:Hd:=⟨HC.pc,HC.hc,[((37,0),Ca.L)],HC.mc⟩
theorem hC1:HdOk Tryz.prog HC1:=HdOk.lhCons hC Ca.ok
noncomputable def Gcop:List A1->Tree (AV × Mem)
 | [.c (.sl [.int .i64, .int .i64, .int .i64, .int .i64, .sl [.int .i64, .int .i64, .int .i64], .int .i64, .bool, .bool] n ρ)] =>
   .need (dec (smallS ⟨n,ρ⟩)) (.leaf (.one (.c (.os 0 8)),[some (53,[.row false siSh n ρ])]))
 | _=>.fail
theorem nCop:NcOne Tryz.prog 37 Gcop:=OT hC1 10 37 fun args r m h=>by
 unfold Gcop at h;split at h
 ·rename_i n ρ;simp only [Tree.sel] at h;cases hs:dec (smallS ⟨n,ρ⟩)
  ·rw [hs] at h;simp at h
  rw [hs] at h;simp only [cond_true,sIq,pIq] at h;obtain ⟨rfl,rfl⟩:=h;have hsm:=js.1 hs;refine ⟨.need (Nat.ble ((0+n)*72) 140737488355328) (.need (dec (Ca.good ⟨⟨n,ρ⟩,ja n⟩∧(⟨ρ,0⟩ : Ca.V)=Ca.st ⟨⟨n,ρ⟩,ja n⟩ 0)) (.leaf (.one (.c (.os 0 8)),[some (53,[.row false siSh n ρ])]))),by kernel_rfl,?_,js.2 ⟨⟨rfl,hsm⟩,rfl⟩,WkO.refl⟩
  have:=hsm.1
  exact Nat.ble_eq_true_of_le (by simp only at this;omega)
 ·simp [Tree.sel] at h
end Fo
end Go.Proofs.YtiefjlcakpdfeaaGreatDoor.Ro