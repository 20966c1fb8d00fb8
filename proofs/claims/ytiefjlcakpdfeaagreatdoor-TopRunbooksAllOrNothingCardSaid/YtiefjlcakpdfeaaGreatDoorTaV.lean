/-
 Part TaV of the proof: EngPo RbC RbS RbD RbE RbF RcB.
-/
import Derived.Test.YtiefjlcakpdfeaaGreatDoorTaU
import Derived.Test.YtiefjlcakpdfeaaGreatDoorTaT
namespace Go.Sx
open Go Go.RowKit
variable {P:Program}
theorem Ow (T : TypeId) (u : List A1 -> List CV -> Tree (Out × List CV)) (b : Nat) (rest : List A1) (mem : Mem) : localG T u (.c (.ptr b 0) :: rest) mem = match nth mem b with
  | some (some (T',cs))=>if T'==T&&!je cs&&cs.all closedC&&rest.all jx then (u rest cs).bind fun r=>.leaf (r.1,jk mem b (some (T,r.2))) else .fail
  | _=>.fail:=rfl
theorem LocFn.localG (T:TypeId) (u:List A1->List CV->Tree (Out × List CV)):LocFn (localG T u):=by
 intro b rest M r M' h mem hb;rw [Ow] at h;rw [Ow,hb];split at h
 rotate_left
 ·simp [Tree.sel] at h
 rename_i T' cs hM;split at h
 rotate_left
 ·simp [Tree.sel] at h
 rename_i hc;obtain ⟨y,h1,h2⟩:=jg h;simp only [Tree.sel,sIq,pIq] at h2;obtain ⟨rfl,rfl⟩:=h2;refine ⟨some (T,y.2),rfl,?_⟩;simp only [if_pos hc];rw [JB h1];rfl
theorem DsRel.empty {F w bs F' w' bs'} {l:List Deferred} (h:DsRel F w bs [] l):DsRel F' w' bs' [] l:=by cases h;exact .nil
def JU {C:Type} (keep:List Nat) (k0 n:Nat) (get:List (Nat × AV)->Mem->Option C) (s:St):Option C :=
 match s.gc keep k0 with
 | some s'=>if s'.tmps.length==n then (match JQ s' keep with
  | some l=>get l s'.mem
  | none=>none) else none
 | none=>none
theorem kR {C : Type} {keep : List Nat} {k0 n : Nat} {get : List (Nat × AV) -> Mem -> Option C} {S : C -> St} (hget : ∀ l m c, get l m = some c -> StWk (mkS n l m) (S c)) {s : St} {c : C} (h : JU keep k0 n get s = some c)
  {D F w bs} {a:Act} (hs:StRel P D F w bs s a):∃ bs',Ext k0 F w bs F w bs'∧k0<=bs'.length∧StRel P D F w bs' (S c) a:=by
 unfold JU at h;split at h
 ·rename_i s' hg;split at h
  ·rename_i hn;split at h
   ·rename_i l hl;have e:=jh9 hg hl;obtain ⟨bs1,he1,hl1,hs2⟩:=hs.gc hg
    have hlen:s.tmps.length=n:=by
     obtain ⟨pm,_,_,_,rfl⟩:=NM hg;simpa [JW] using hn
    rw [hlen] at e;rw [e] at hs2;exact ⟨bs1,he1,hl1,hget l _ c h _ _ _ _ _ _ hs2⟩
   ·simp at h
  ·simp at h
 ·simp at h
def closedX:XP->Bool
 | .pan x=>closedC x
 | _=>true
theorem XRel.closedX {F w bs bs'} {x:XP} {e:Exit} (h:XRel F w bs x e) (hc:closedX x=true):XRel F w bs' x e:=by
 cases x with
 | pan z=>obtain ⟨v,rfl,hv⟩:=h;exact ⟨v,rfl,hv.closed hc⟩
 | normal=>exact h
 | ret=>exact h
 | exit _=>exact h
 | goto _=>exact h
def CoreOk (P:Program) (f i k0:Nat) {C D:Type} (S:C->St) (E:D->St) (g:C->Tree (XP × D)):Prop :=
 ∀ fn c b,P.funcs[f]? = some fn->fn.body=some c->jf c i=some b->∀ c0 x,(g c0).sel=some x->∃ N,∀ (F:Nat->Prop) (w:World) (bs:List BI) (a:Act),k0<=bs.length->PRel P F w bs ⟨S c0,[]⟩ a->∀ Q:Exit->Act->World->Prop,
  (∀ F' w' bs' a' e,Ext k0 F w bs F' w' bs'->PRel P F' w' bs' ⟨E x.2,[]⟩ a'->XRel F' w' bs' x.1 e->Q e a' w')->Code.rounds P b Q N a w
structure Frame (C D:Type) where
 k0:Nat
 n:Nat
 keep:List Nat
 get:List (Nat × AV)->Mem->Option C
 S:C->St
 keepE:List Nat
 getE:List (Nat × AV)->Mem->Option D
 E:D->St
structure Frame.Ok {C D:Type} (A:Frame C D):Prop where
 get:∀ l m c,A.get l m=some c->StWk (mkS A.n l m) (A.S c)
 getE:∀ l m c,A.getE l m=some c->StWk (mkS A.n l m) (A.E c)
theorem Frame.Ok.of_eq {C D:Type} {A:Frame C D} (h1:∀ l m c,A.get l m=some c->mkS A.n l m=A.S c) (h2:∀ l m c,A.getE l m=some c->mkS A.n l m=A.E c):A.Ok :=
 ⟨fun l m c h=>h1 l m c h▸StWk.refl,fun l m c h=>h2 l m c h▸StWk.refl⟩
def jD {C D:Type} (A:Frame C D) (P:Program) (H:Hd) (X:HdP) (d f i:Nat) (g:C->Tree (XP × D)) (c:C):Tree (XP × D) :=
 (jZ P H X (jU P H d) (zD P H X d) f A.k0 (i+1) (qd P f i) ⟨A.S c,[]⟩).bind fun y=>if y.2.dl.isEmpty&&closedX y.1 then (match y.1 with
  | .normal=>(match JU A.keep A.k0 A.n A.get y.2.s with
   | some c'=>g c'
   | none=>.fail)
  | e=>(match JU A.keepE A.k0 A.n A.getE y.2.s with
   | some r=>.leaf (e,r)
   | none=>.fail)) else .fail
theorem CoreOk.fail {f i k0:Nat} {C D:Type} {S:C->St} {E:D->St}:CoreOk P f i k0 S E fun _=>.fail:=fun _ _ _ _ _ _ _ _ h=>by simp [Tree.sel] at h
theorem CoreOk.le {f i k0:Nat} {C D:Type} {S:C->St} {E:D->St} {g g':C->Tree (XP × D)} (h:CoreOk P f i k0 S E g) (hl:∀ c x,(g' c).sel=some x->(g c).sel=some x):CoreOk P f i k0 S E g' :=
 fun fn c b h1 h2 h3 c0 x hx=>h fn c b h1 h2 h3 c0 x (hl c0 x hx)
theorem CoreOk.round {C D:Type} {A:Frame C D} (hA:A.Ok) {H:Hd} (hH:HdOk P H) {X:HdP} (hX:XOk P X) (d:Nat) {f i:Nat} {g:C->Tree (XP × D)} (h:CoreOk P f i A.k0 A.S A.E g):CoreOk P f i A.k0 A.S A.E (jD A P H X d f i g):=by
 intro fn c b hf hc hb c0 x hx
 have hlb:qd P f i=b:=by
  unfold qd;rw [jd];simp only [Array.getElem?_toList,hf,hc,hb]
 unfold jD at hx;rw [hlb] at hx;obtain ⟨⟨y,s'⟩,h1,h2⟩:=jg hx;simp only at h2;split at h2
 rotate_left
 ·simp [Tree.sel] at h2
 rename_i hcond;rw [aTq] at hcond;obtain ⟨hdl,hcl⟩:=hcond;obtain ⟨s',dl⟩:=s';have hd:=List.isEmpty_iff.1 hdl;simp only at hd;subst hd
 have go : ∀ N, (∀ (F : Nat -> Prop) (w : World) (bs : List BI) (a : Act), A.k0 <= bs.length -> PRel P F w bs ⟨s', []⟩ a -> ∀ Q : Exit -> Act -> World -> Prop,
   (∀ F' w' bs' a' e,Ext A.k0 F w bs F' w' bs'->PRel P F' w' bs' ⟨A.E x.2,[]⟩ a'->XRel F' w' bs' x.1 e->Q e a' w')->∀ e,XRel F w bs y e->Exit.then (Code.rounds P b Q N) Q e a w) ->
   ∃ N,∀ (F:Nat->Prop) (w:World) (bs:List BI) (a:Act),A.k0<=bs.length->PRel P F w bs ⟨A.S c0,[]⟩ a->∀ Q:Exit->Act->World->Prop,
    (∀ F' w' bs' a' e,Ext A.k0 F w bs F' w' bs'->PRel P F' w' bs' ⟨A.E x.2,[]⟩ a'->XRel F' w' bs' x.1 e->Q e a' w')->Code.rounds P b Q N a w:=by
  intro N hN;refine ⟨N+1,fun F w bs a hK hs Q hQ => ?_⟩;rw [rounds_succ];refine yU hH.pc hX.rx hX.nc (qY hH d) (yn hH hX d) f A.k0 b (i+1) ⟨A.S c0,[]⟩ h1 (fun j b' h' hj hk=>hH.lh f fn c (i+1+j) b' h' hf hc (qt hb hj) hk) (fun j b' h' hj hk=>hX.lx f fn c (i+1+j) b' h' hf hc (qt hb hj) hk) (fun b' h' hj hk=>hX.sx f fn c b' h' hf hc (LxOne.round.scopes_loop hb hj) hk) hK hs fun F' w' bs' a' e he hs' hx' => ?_;exact hN F' w' bs' a' (he.le hK) hs' Q (fun F'' w'' bs'' a'' e' he' hs'' hx''=>hQ F'' w'' bs'' a'' e' (he.trans he' (lRq _)) hs'' hx'') e hx'
 have stop : ∀ {e0 : XP} {r : D}, JU A.keepE A.k0 A.n A.getE s' = some r -> x = (e0, r) -> y = e0 -> (∀ {F w bs} {e : Exit} {a : Act} {Q : Exit -> Act -> World -> Prop} {N : Nat}, XRel F w bs e0 e -> Q e a w -> Exit.then (Code.rounds P b Q N) Q e a w) -> ∃ N, ∀ (F : Nat -> Prop) (w : World) (bs : List BI) (a : Act), A.k0 <= bs.length -> PRel P F w bs ⟨A.S c0, []⟩ a -> ∀ Q : Exit -> Act -> World -> Prop,
    (∀ F' w' bs' a' e,Ext A.k0 F w bs F' w' bs'->PRel P F' w' bs' ⟨A.E x.2,[]⟩ a'->XRel F' w' bs' x.1 e->Q e a' w')->Code.rounds P b Q N a w:=by
  intro e0 r hr hxe hy hthen;subst hxe;subst hy;refine go 0 fun F w bs a hK hs Q hQ e he => ?_;obtain ⟨bs1,he1,hl1,hs2⟩:=kR hA.getE hr hs.st;exact hthen he (hQ F w bs1 a e he1 ⟨hs2,DsRel.empty hs.ds⟩ (he.closedX hcl))
 cases y with
 | normal =>
   simp only at h2;split at h2
   ·rename_i c' hc';obtain ⟨N,hN⟩:=h fn c b hf hc hb c' x h2;refine go N fun F w bs a hK hs Q hQ e he => ?_;cases he;obtain ⟨bs1,he1,hl1,hs2⟩:=kR hA.get hc' hs.st;exact hN F w bs1 a hl1 ⟨hs2,DsRel.empty hs.ds⟩ Q fun F' w' bs' a' e' he' hs' hx'=>hQ F' w' bs' a' e' (he1.trans he' (lRq _)) hs' hx'
   ·simp [Tree.sel] at h2
 | exit k =>
   simp only at h2;split at h2
   ·rename_i r hr;simp only [Tree.sel,sIq] at h2;exact stop hr h2.symm rfl fun he hq=>by cases he;exact hq
   ·simp [Tree.sel] at h2
 | ret =>
   simp only at h2;split at h2
   ·rename_i r hr;simp only [Tree.sel,sIq] at h2;exact stop hr h2.symm rfl fun he hq=>by cases he;exact hq
   ·simp [Tree.sel] at h2
 | pan z =>
   simp only at h2;split at h2
   ·rename_i r hr;simp only [Tree.sel,sIq] at h2;exact stop hr h2.symm rfl fun he hq=>by obtain ⟨v,rfl,hv⟩:=he;exact hq
   ·simp [Tree.sel] at h2
 | goto l =>
   simp only at h2;split at h2
   ·rename_i r hr;simp only [Tree.sel,sIq] at h2;exact stop hr h2.symm rfl fun he hq=>by cases he;exact hq
   ·simp [Tree.sel] at h2
theorem CoreOk.fuel {C D : Type} {A : Frame C D} (hA : A.Ok) {H : Hd} (hH : HdOk P H) {X : HdP} (hX : XOk P X) (d : Nat) {f i : Nat} {g : Nat -> C -> Tree (XP × D)} (h0 : ∀ c, (g 0 c).sel = none)
  (hs:∀ k c x,(g (k+1) c).sel=some x->(jD A P H X d f i (g k) c).sel=some x):∀ k,CoreOk P f i A.k0 A.S A.E (g k)
 | 0=>CoreOk.fail.le fun c x h=>by rw [h0] at h;cases h
 | k+1=>(CoreOk.round hA hH hX d (CoreOk.fuel hA hH hX d h0 hs k)).le (hs k)
def qz {C D:Type} (A:Frame C D) (g:C->Tree (XP × D)) (K:Nat) (s:St):Tree (XP × St) :=
 if Nat.ble K A.k0 then (match JU A.keep A.k0 A.n A.get s with
  | some c=>(g c).bind fun x=>.leaf (x.1,A.E x.2)
  | none=>.fail) else .fail
theorem CoreOk.lx {C D:Type} {A:Frame C D} (hA:A.Ok) {f i:Nat} {g:C->Tree (XP × D)} (h:CoreOk P f i A.k0 A.S A.E g):LxOne P f i (qz A g):=by
 intro fn c b hf hc hb K s x hx;unfold qz at hx;split at hx
 rotate_left
 ·simp [Tree.sel] at hx
 rename_i hK;have hK:=Nat.ble_eq.mp hK;split at hx
 rotate_left
 ·simp [Tree.sel] at hx
 rename_i c0 hc0;obtain ⟨y,h1,h2⟩:=jg hx;simp only [Tree.sel,sIq] at h2;subst h2;obtain ⟨N,hN⟩:=h fn c b hf hc hb c0 y h1;refine ⟨N,fun F w bs a hKb hs Q hQ => ?_⟩;obtain ⟨bs1,he1,hl1,hs2⟩:=kR hA.get hc0 hs.st;exact hN F w bs1 a hl1 ⟨hs2,DsRel.empty hs.ds⟩ Q fun F' w' bs' a' e' he' hs' hx'=>hQ F' w' bs' a' e' ((he1.trans he' (lRq _)).weak hK) hs' hx'
def PassCore (P:Program) (f l k0:Nat) {C D:Type} (S:C->St) (E:D->St) (g:C->Tree (XP × D)):Prop :=
 ∀ fn c0 c n rest,P.funcs[f]? = some fn->fn.body=some c0->jT c0 0=some (c,n)->findLabel c l=some rest ->
  ∀ s0 x,(g s0).sel=some x->∃ N,∀ (F:Nat->Prop) (w:World) (bs:List BI) (a:Act),k0<=bs.length->PRel P F w bs ⟨S s0,[]⟩ a->∀ Q:Exit->Act->World->Prop,
   (∀ F' w' bs' a' e,Ext k0 F w bs F' w' bs'->PRel P F' w' bs' ⟨E x.2,[]⟩ a'->XRel F' w' bs' x.1 e->Q e a' w')->ZJ P l rest Q N a w
def UT {C D:Type} (A:Frame C D) (l:Nat) (g:C->Tree (XP × D)) (y:XP × StP):Tree (XP × D) :=
 if y.2.dl.isEmpty&&closedX y.1 then (match y.1 with
  | .goto l'=>if l'==l then (match JU A.keep A.k0 A.n A.get y.2.s with
   | some c'=>g c'
   | none=>.fail) else .fail
  | e=>(match JU A.keepE A.k0 A.n A.getE y.2.s with
   | some r=>.leaf (e,r)
   | none=>.fail)) else .fail
def US {C D:Type} (A:Frame C D) (P:Program) (H:Hd) (X:HdP) (d f l:Nat) (g:C->Tree (XP × D)) (c:C):Tree (XP × D) :=
 (jZ P H X (jU P H d) (zD P H X d) f A.k0 (KG P f l).2 (KG P f l).1 ⟨A.S c,[]⟩).bind (UT A l g)
theorem PassCore.fail {f l k0:Nat} {C D:Type} {S:C->St} {E:D->St}:PassCore P f l k0 S E fun _=>.fail:=fun _ _ _ _ _ _ _ _ _ _ _ h=>by simp [Tree.sel] at h
theorem PassCore.le {f l k0:Nat} {C D:Type} {S:C->St} {E:D->St} {g g':C->Tree (XP × D)} (h:PassCore P f l k0 S E g) (hl:∀ c x,(g' c).sel=some x->(g c).sel=some x):PassCore P f l k0 S E g' :=
 fun fn c0 c n rest h1 h2 h3 h4 s0 x hx=>h fn c0 c n rest h1 h2 h3 h4 s0 x (hl s0 x hx)
theorem DL {C D : Type} {A : Frame C D} (hA : A.Ok) {l : Nat} {rest : Code} {g : C -> Tree (XP × D)}
  (hg:∀ s0 x,(g s0).sel=some x->∃ N,∀ (F:Nat->Prop) (w:World) (bs:List BI) (a:Act),A.k0<=bs.length->PRel P F w bs ⟨A.S s0,[]⟩ a->∀ Q:Exit->Act->World->Prop,
   (∀ F' w' bs' a' e,Ext A.k0 F w bs F' w' bs'->PRel P F' w' bs' ⟨A.E x.2,[]⟩ a'->XRel F' w' bs' x.1 e->Q e a' w')->ZJ P l rest Q N a w)
  {c:Code} {s:St} {t:Tree (XP × StP)} {x:XP × D} (hx:(t.bind (UT A l g)).sel=some x)
  (hc:∀ y,t.sel=some y->∀ (F:Nat->Prop) (w:World) (bs:List BI) (a:Act),A.k0<=bs.length->PRel P F w bs ⟨s,[]⟩ a->∀ Q:Exit->Act->World->Prop,
   (∀ F' w' bs' a' e,Ext A.k0 F w bs F' w' bs'->PRel P F' w' bs' y.2 a'->XRel F' w' bs' y.1 e->Q e a' w')->c.wp P Q a w) :
  ∃ N,∀ (F:Nat->Prop) (w:World) (bs:List BI) (a:Act),A.k0<=bs.length->PRel P F w bs ⟨s,[]⟩ a->∀ Q:Exit->Act->World->Prop,
   (∀ F' w' bs' a' e,Ext A.k0 F w bs F' w' bs'->PRel P F' w' bs' ⟨A.E x.2,[]⟩ a'->XRel F' w' bs' x.1 e->Q e a' w')->c.wp P (Exit.jump l (ZJ P l rest Q N) Q) a w:=by
 obtain ⟨⟨y,s'⟩,h1,h2⟩:=jg hx;unfold UT at h2;split at h2
 rotate_left
 ·simp [Tree.sel] at h2
 rename_i hcond;rw [aTq] at hcond;obtain ⟨hdl,hcl⟩:=hcond;obtain ⟨s',dl⟩:=s';have hd:=List.isEmpty_iff.1 hdl;simp only at hd;subst hd
 have go : ∀ N, (∀ (F : Nat -> Prop) (w : World) (bs : List BI) (a : Act), A.k0 <= bs.length -> PRel P F w bs ⟨s', []⟩ a -> ∀ Q : Exit -> Act -> World -> Prop,
   (∀ F' w' bs' a' e,Ext A.k0 F w bs F' w' bs'->PRel P F' w' bs' ⟨A.E x.2,[]⟩ a'->XRel F' w' bs' x.1 e->Q e a' w')->∀ e,XRel F w bs y e->Exit.jump l (ZJ P l rest Q N) Q e a w) ->
   ∃ N,∀ (F:Nat->Prop) (w:World) (bs:List BI) (a:Act),A.k0<=bs.length->PRel P F w bs ⟨s,[]⟩ a->∀ Q:Exit->Act->World->Prop,
    (∀ F' w' bs' a' e,Ext A.k0 F w bs F' w' bs'->PRel P F' w' bs' ⟨A.E x.2,[]⟩ a'->XRel F' w' bs' x.1 e->Q e a' w')->c.wp P (Exit.jump l (ZJ P l rest Q N) Q) a w:=by
  intro N hN
  exact ⟨N,fun F w bs a hK hs Q hQ=>hc _ h1 F w bs a hK hs _ fun F' w' bs' a' e he hs' hx' =>
   hN F' w' bs' a' (he.le hK) hs' Q (fun F'' w'' bs'' a'' e' he' hs'' hx''=>hQ F'' w'' bs'' a'' e' (he.trans he' (lRq _)) hs'' hx'') e hx'⟩
 have stop : ∀ {e0 : XP} {r : D}, JU A.keepE A.k0 A.n A.getE s' = some r -> x = (e0, r) -> y = e0 -> (∀ {F w bs} {e : Exit} {a : Act} {Q : Exit -> Act -> World -> Prop} {N : Nat}, XRel F w bs e0 e -> Q e a w -> Exit.jump l (ZJ P l rest Q N) Q e a w) -> ∃ N, ∀ (F : Nat -> Prop) (w : World) (bs : List BI) (a : Act), A.k0 <= bs.length -> PRel P F w bs ⟨s, []⟩ a -> ∀ Q : Exit -> Act -> World -> Prop,
    (∀ F' w' bs' a' e,Ext A.k0 F w bs F' w' bs'->PRel P F' w' bs' ⟨A.E x.2,[]⟩ a'->XRel F' w' bs' x.1 e->Q e a' w')->c.wp P (Exit.jump l (ZJ P l rest Q N) Q) a w:=by
  intro e0 r hr hxe hy hthen;subst hxe;subst hy;refine go 0 fun F w bs a hK hs Q hQ e he => ?_;obtain ⟨bs1,he1,hl1,hs2⟩:=kR hA.getE hr hs.st;exact hthen he (hQ F w bs1 a e he1 ⟨hs2,DsRel.empty hs.ds⟩ (he.closedX hcl))
 cases y with
 | normal =>
   simp only at h2;split at h2
   ·rename_i r hr;simp only [Tree.sel,sIq] at h2;exact stop hr h2.symm rfl fun he hq=>by cases he;exact hq
   ·simp [Tree.sel] at h2
 | exit k =>
   simp only at h2;split at h2
   ·rename_i r hr;simp only [Tree.sel,sIq] at h2;exact stop hr h2.symm rfl fun he hq=>by cases he;exact hq
   ·simp [Tree.sel] at h2
 | ret =>
   simp only at h2;split at h2
   ·rename_i r hr;simp only [Tree.sel,sIq] at h2;exact stop hr h2.symm rfl fun he hq=>by cases he;exact hq
   ·simp [Tree.sel] at h2
 | pan z =>
   simp only at h2;split at h2
   ·rename_i r hr;simp only [Tree.sel,sIq] at h2;exact stop hr h2.symm rfl fun he hq=>by obtain ⟨v,rfl,hv⟩:=he;exact hq
   ·simp [Tree.sel] at h2
 | goto l' =>
   simp only at h2;split at h2
   rotate_left
   ·simp [Tree.sel] at h2
   rename_i e;have e:=eq_of_beq e;subst e;split at h2
   ·rename_i c' hc';obtain ⟨N,hN⟩:=hg c' x h2;refine go N fun F w bs a hK hs Q hQ e he => ?_;cases he;obtain ⟨bs1,he1,hl1,hs2⟩:=kR hA.get hc' hs.st;exact ⟨rfl,hN F w bs1 a hl1 ⟨hs2,DsRel.empty hs.ds⟩ Q fun F' w' bs' a' e' he' hs' hx'=>hQ F' w' bs' a' e' (he1.trans he' (lRq _)) hs' hx'⟩
   ·simp [Tree.sel] at h2
theorem PassCore.pass {C D:Type} {A:Frame C D} (hA:A.Ok) {H:Hd} (hH:HdOk P H) {X:HdP} (hX:XOk P X) (d:Nat) {f l:Nat} {g:C->Tree (XP × D)} (h:PassCore P f l A.k0 A.S A.E g):PassCore P f l A.k0 A.S A.E (US A P H X d f l g):=by
 intro fn c0 c n rest hf hc hsc hl s0 x hx
 have hbody:zB P f=(c,n):=by
  unfold zB;rw [jd];simp only [Array.getElem?_toList,hf,hc,hsc]
 have hrest:KG P f l=(rest,n+ke l c):=by
  unfold KG;simp only [hbody,hl]
 unfold US at hx;rw [hrest] at hx;obtain ⟨_,hlp,hm,hm2⟩:=zM hsc
 have hlp':∀ i b,jf rest i=some b->jf c0 (n+ke l c+i)=some b:=fun i b hb=>by
  have:=hlp _ b (Y2 hl hb)
  rwa [show n - 0+(ke l c+i)=n+ke l c+i by omega] at this
 obtain ⟨N,hN⟩:=DL hA (c:=rest) (s:=A.S s0) (h fn c0 c n rest hf hc hsc hl) hx fun y hy F w bs a hK hs Q hQ =>
  yU hH.pc hX.rx hX.nc (qY hH d) (yn hH hX d) f A.k0 rest (n+ke l c) ⟨A.S s0,[]⟩ hy (fun j b' h' hj hk=>hH.lh f fn c0 _ b' h' hf hc (hlp' j b' hj) hk) (fun j b' h' hj hk=>hX.lx f fn c0 _ b' h' hf hc (hlp' j b' hj) hk) (fun b' h' hj hk=>hX.sx f fn c0 b' h' hf hc (hm2 _ (Xk hl hj)) hk) hK hs hQ
 exact ⟨N+1,hN⟩
theorem PassCore.fuel {C D : Type} {A : Frame C D} (hA : A.Ok) {H : Hd} (hH : HdOk P H) {X : HdP} (hX : XOk P X) (d : Nat) {f l : Nat} {g : Nat -> C -> Tree (XP × D)} (h0 : ∀ c, (g 0 c).sel = none)
  (hs:∀ k c x,(g (k+1) c).sel=some x->(US A P H X d f l (g k) c).sel=some x):∀ k,PassCore P f l A.k0 A.S A.E (g k)
 | 0=>PassCore.fail.le fun c x h=>by rw [h0] at h;cases h
 | k+1=>(PassCore.pass hA hH hX d (PassCore.fuel hA hH hX d h0 hs k)).le (hs k)
def Ut {B C D:Type} (A:Frame C D) (Z:Frame B D) (P:Program) (H:Hd) (X:HdP) (d f l:Nat) (g:C->Tree (XP × D)) (b:B):Tree (XP × D) :=
 (jZ P H X (jU P H d) (zD P H X d) f A.k0 (zB P f).2 (zB P f).1 ⟨Z.S b,[]⟩).bind (UT A l g)
theorem SxOne.core {B C D : Type} {A : Frame C D} {Z : Frame B D} (hA : A.Ok) (hZ : Z.Ok) (hk : Z.k0 = A.k0) (hE : Z.E = A.E) {H : Hd} (hH : HdOk P H) {X : HdP} (hX : XOk P X) (d : Nat) {f l : Nat} {g : C -> Tree (XP × D)} (h : PassCore P f l A.k0 A.S A.E g) {u : B -> Tree (XP × D)}
  (hu:∀ b x,(u b).sel=some x->(Ut A Z P H X d f l g b).sel=some x)
  (h1:((nth P.funcs.toList f).bind fun fn=>fn.body.map fun c=>(ax c).length)=some 1) (h2:(findLabel (zB P f).1 l).isSome=true):SxOne P f (qz Z u):=by
 intro fn c0 b hf hc hb K s x hx F w bs a hKb hs Q hQ
 have hlen:(ax c0).length=1:=by
  rw [jd] at h1;simpa [Array.getElem?_toList,hf,hc] using h1
 obtain ⟨rest,hl⟩:=Option.isSome_iff_exists.1 h2;unfold qz at hx;split at hx
 rotate_left
 ·simp [Tree.sel] at hx
 rename_i hK;have hK:=Nat.ble_eq.mp hK;split at hx
 rotate_left
 ·simp [Tree.sel] at hx
 rename_i b0 hb0;obtain ⟨y,hy1,hy2⟩:=jg hx;simp only [Tree.sel,sIq] at hy2;subst hy2;have hy1:=hu b0 y hy1;obtain ⟨bs1,he1,hl1,hs2⟩:=kR hZ.get hb0 hs.st;rw [hk] at hl1 he1 hK;cases hsc:jT c0 0 with
 | none =>
   have hbody:zB P f=(.skip,0):=by
    unfold zB;rw [jd];simp only [Array.getElem?_toList,hf,hc,hsc]
   rw [hbody] at hl;simp [findLabel] at hl
 | some r =>
   obtain ⟨c,n⟩:=r
   have hbody:zB P f=(c,n):=by
    unfold zB;rw [jd];simp only [Array.getElem?_toList,hf,hc,hsc]
   rw [hbody] at hl;unfold Ut at hy1;rw [hbody] at hy1;obtain ⟨_,hlp,hm,hm2⟩:=zM hsc
   have hbc:b=c:=by
    cases hS:ax c0 with
    | nil=>rw [hS] at hlen;simp at hlen
    | cons y r =>
      rw [hS] at hlen hm hb
      have:r=[]:=List.length_eq_zero_iff.1 (by simpa using hlen)
      subst this;simp only [List.mem_cons,List.not_mem_nil,or_false] at hm hb;rw [hm,hb]
   subst hbc
   have hlp':∀ i b',jf b i=some b'->jf c0 (n+i)=some b':=fun i b' hb'=>by
    have:=hlp _ b' hb'
    rwa [show n - 0+i=n+i by omega] at this
   obtain ⟨N,hN⟩:=DL hA (c:=b) (s:=Z.S b0) (h fn c0 b n rest hf hc hsc hl) hy1 fun y hy F w bs a hK hs Q hQ =>
    yU hH.pc hX.rx hX.nc (qY hH d) (yn hH hX d) f A.k0 b n ⟨Z.S b0,[]⟩ hy (fun j b' h' hj hk=>hH.lh f fn c0 _ b' h' hf hc (hlp' j b' hj) hk) (fun j b' h' hj hk=>hX.lx f fn c0 _ b' h' hf hc (hlp' j b' hj) hk) (fun b' h' hj hk=>hX.sx f fn c0 b' h' hf hc (hm2 _ hj) hk) hK hs hQ
   refine jeN hl (hN F w bs1 a hl1 ⟨hs2,DsRel.empty hs.ds⟩ Q fun F' w' bs' a' e' he' hs' hx'=>hQ F' w' bs' a' e' ((he1.trans he' (lRq _)).weak hK) ?_ hx');rw [hE];exact hs'
end Go.Sx
namespace Go.Proofs.YtiefjlcakpdfeaaGreatDoor
open Go Go.Sx Go.RowKit Rb
set_option maxRecDepth 100000
abbrev CP:=ByteArray × PS
def SP (n:Nat) (c:CP):St:=mkS n [(0,.one (.c (.ptr 0 0)))] [some (70,qB c.1 c.2)]
def jb8:List (Nat × AV)->Mem->Option CP
 | [(0,.one (.c (.ptr 0 0)))],[some (70,[.str s,.int .i64 n,.str t,.int .i64 a])]=>some (s,⟨n,t,a⟩)
 | _,_=>none
theorem MC (n:Nat):∀ l m c,jb8 l m=some c->mkS n l m=SP n c:=by
 intro l m c h;unfold jb8 at h;split at h
 ·cases h;rfl
 ·cases h
noncomputable abbrev HA:Hd:=⟨[(49,oG G82),(50,oG G83),(80,oG NU)],[],[],[]⟩
theorem hA:HdOk Tryz.prog HA:=((HdOk.nil.pcCons jpa).pcCons p83).pcCons p82
abbrev XA:HdP:=⟨[],[],[],[],[],0,[]⟩
theorem xA:XOk Tryz.prog XA:=XOk.nil
def A81:Sx.Frame CP CP:=⟨1,65,[0],jb8,SP 65,[0],jb8,SP 65⟩
theorem a81:A81.Ok:=.of_eq (MC 65) (MC 65)
def Gi (s:ByteArray) (n:Int):Int:=Lib.indexByte (y4 s n.toNat s.size).data.toList 10
def Ny (s:ByteArray) (n:Int):Int:=bif lt (Gi s n) 0 then IntKind.wrap .i64 (n+IntKind.wrap .i64 (ja s.size - n)) else IntKind.wrap .i64 (n+Gi s n)
def isSp (c:Int):Bool:=c==32||(c==9||c==10)
def Ql:Nat->ByteArray->Int->Option (Bool × Int)
 | 0,_,_=>none
 | k + 1, s, n =>
   bif lt n (ja s.size) then
    bif jc n s.size then
     bif isSp (jB s n.toNat) then Ql k s (IntKind.wrap .i64 (n+1))
     else bif jB s n.toNat==35 then
      bif (le 0 n&&le n (ja s.size)&&le (ja s.size) (ja s.size)) then Ql k s (Ny s n) else none
     else some (true,n)
    else none
   else some (false,n)
def skD:Option (Bool × Int)->Bool | some _=>true | none=>false
def skB:Option (Bool × Int)->Bool | some (b,_)=>b | none=>false
def skN:Option (Bool × Int)->Int | some (_,n)=>n | none=>0
def U2 (k:Nat) (c:CP):Tree (XP × CP) :=
 .need (skD (Ql k c.1 c.2.nx)) (.br (skB (Ql k c.1 c.2.nx)) (.leaf (.ret,(c.1,⟨skN (Ql k c.1 c.2.nx),c.2.tx,c.2.pos⟩))) (.leaf (.exit 0,(c.1,⟨skN (Ql k c.1 c.2.nx),c.2.tx,c.2.pos⟩))))
theorem Od (k:Nat) (c:CP):(U2 k c).sel=match Ql k c.1 c.2.nx with | some (b,n)=>some (bif b then (.ret,(c.1,⟨n,c.2.tx,c.2.pos⟩)) else (.exit 0,(c.1,⟨n,c.2.tx,c.2.pos⟩))) | none=>none:=by
 unfold U2;cases Ql k c.1 c.2.nx with
 | none=>rfl
 | some r=>obtain ⟨b,n⟩:=r;cases b<;>rfl
def jiq (g:CP->Tree (XP × CP)) (s:ByteArray) (p:PS):Tree (XP × CP) :=
 let A:=g (s,⟨IntKind.wrap .i64 (p.nx+1),p.tx,p.pos⟩)
 let B:=.br (jB s p.nx.toNat==35) (.need (le 0 p.nx&&le p.nx (ja s.size)&&le (ja s.size) (ja s.size))
  (.br (lt (Gi s p.nx) 0) (g (s,⟨IntKind.wrap .i64 (p.nx+IntKind.wrap .i64 (ja s.size - p.nx)),p.tx,p.pos⟩)) (g (s,⟨IntKind.wrap .i64 (p.nx+Gi s p.nx),p.tx,p.pos⟩)))) (.leaf (.ret,(s,p)))
 .br (lt p.nx (ja s.size)) (.need (jc p.nx s.size)
  (.br (jB s p.nx.toNat==32) (.br (jB s p.nx.toNat==32) A B) (.br (jB s p.nx.toNat==9) (.br (jB s p.nx.toNat==9) A B) (.br (jB s p.nx.toNat==10) A B)))) (.leaf (.exit 0,(s,p)))
theorem jey (g:CP->Tree (XP × CP)) (s t:ByteArray) (n a:Int):jD A81 Tryz.prog HA XA 10 48 0 g (s,⟨n,t,a⟩)=jiq g s ⟨n,t,a⟩:=by kernel_rfl
theorem j9 {α:Type} (c:Bool) (t e:Tree α):(Tree.br c t e).sel=bif c then t.sel else e.sel:=rfl
theorem jG {α:Type} (c:Bool) (t:Tree α):(Tree.need c t).sel=bif c then t.sel else none:=rfl
theorem j3 {α:Type} (a:α):(Tree.leaf a).sel=some a:=rfl
theorem jc7 (k:Nat) (c:CP) (x:XP × CP) (h:(U2 (k+1) c).sel=some x):(jD A81 Tryz.prog HA XA 10 48 0 (U2 k) c).sel=some x:=by
 obtain ⟨s,n,t,a⟩:=c;rw [jey];rw [Od] at h;simp only [Ql] at h;simp only [jiq,j9,jG,j3,Od];revert h;generalize lt n (ja s.size)=c1;cases c1
 ·exact fun h=>h
 generalize jc n s.size=c2;cases c2
 ·exact fun h=>h
 simp only [cond_true,isSp];generalize (jB s n.toNat==32)=c3;generalize (jB s n.toNat==9)=c4;generalize (jB s n.toNat==10)=c5;generalize (jB s n.toNat==35)=c6;generalize (le 0 n&&le n (ja s.size)&&le (ja s.size) (ja s.size))=c7;unfold Ny;generalize lt (Gi s n) 0=c8;cases c3<;>cases c4<;>cases c5<;>cases c6<;>cases c7<;>cases c8<;>exact fun h=>h
theorem jei (k:Nat):CoreOk Tryz.prog 48 0 1 (SP 65) (SP 65) (U2 k) :=
 CoreOk.fuel a81 hA xA 10 (fun _=>rfl) jc7 k
def ZL (s:ByteArray) (n:Int):Option (Bool × Int):=Ql (s.size+1) s n
def g81 (c:CP):Tree (XP × CP):=U2 (c.1.size+1) c
theorem core81:CoreOk Tryz.prog 48 0 1 (SP 65) (SP 65) g81:=fun fn c b h1 h2 h3 c0 x hx=>jei _ fn c b h1 h2 h3 c0 x hx
def XB:HdP:=⟨[],[],[],[((48,0),qz A81 g81)],[],0,[]⟩
theorem xB:XOk Tryz.prog XB:=XOk.nil.lxCons (core81.lx a81)
def Qa (_:Unit):AV:=.tup []
def Hx (s:ByteArray) (p:PS):PR PS Unit:=match ZL s p.nx with | some (_,n)=>.ret () ⟨n,p.tx,p.pos⟩ | none=>.stuck
def jhc:List A1->ByteArray->PS->PR PS Unit
 | [],s,p=>Hx s p
 | _,_,_=>.stuck
theorem jql:ju Tryz.prog 48 (localG 70 (uOf () Qa jhc)):=Ba hA xB 10 48 fun rest s n t a=>by
 cases rest with
 | nil =>
   show Tells _ _ _ (Hx s ⟨n,t,a⟩);have e:kx Tryz.prog HA XB 10 48 70 [] [.str s,.int .i64 n,.str t,.int .i64 a]=.need (skD (ZL s n)) (.br (skB (ZL s n)) (.leaf (.ret (.tup []),qB s ⟨skN (ZL s n),t,a⟩)) (.leaf (.ret (.tup []),qB s ⟨skN (ZL s n),t,a⟩))):=by kernel_rfl
   rw [e];clear e;unfold Hx;cases ZL s n with
  | none=>exact trivial
  | some r=>obtain ⟨b,m⟩:=r;cases b<;>exact Tells.of_ret rfl
 | cons _ _=>exact trivial
def ab:List A1->Option (Bool × AV)
 | [.c (.str s),.c (.int .i32 r)]=>if s=signs∧128<=r∧r<256 then some (true,.one (.c (.bool (kz r)))) else none
 | _=>none
theorem jee {args:List A1} {r:AV} (h:ab args=some (true,r)):∃ n,args=[.c (.str signs),.c (.int .i32 n)]∧128<=n∧n<256∧r=.one (.c (.bool (kz n))):=by
 unfold ab at h;split at h
 ·rename_i s n;split at h
  ·rename_i hc;exact ⟨n,by rw [hc.1],hc.2.1,hc.2.2,(congrArg Prod.snd (Option.some.inj h)).symm⟩
  ·cases h
 ·cases h
theorem jrB {args:List A1} {r:AV} (h:ab args=some (true,r)):(qf Tryz.prog HC0 XR 20 51 args).All (fun x=>leA x r):=by
 obtain ⟨n,e1,h0,h1,e2⟩:=jee h;have hs:=jjf n h0 h1;unfold t84 at hs;rw [← e1,← e2] at hs;exact jl hs leA.refl
theorem jrv:UcOne Tryz.prog 51 (nG ab):=by
 refine jR (H:=HC0) (X:=XR) hC0 XOk.nil 20 51 ?_;intro args r h;exact jrB h
theorem Jq {a b:ByteArray} (h:jb a b=true):a=b:=by
 have key:∀ l r:List UInt8,kH l r=true->l=r:=by
  intro l
  induction l with
  | nil=>intro r h;cases r with | nil=>rfl | cons _ _=>simp [kH] at h
  | cons x l ih =>
    intro r h;cases r with
   | nil=>simp [kH] at h
   | cons y r =>
     simp only [kH,aTq] at h;rw [ih r h.2,UInt8.toNat_inj.1 (eBq h.1)]
 unfold jb at h
 have:=key _ _ h
 cases a with | mk a=>cases b with | mk b =>
  congr 1;exact Array.ext' this
theorem jej (r:Int) (h0:0<=r) (h1:r<256):decide (0<=Lib.indexByte signs.data.toList r.toNat.toUInt8)=kz r:=by
 have:∀ k:Fin 256,decide (0<=Lib.indexByte signs.data.toList ((k.val:Int)).toNat.toUInt8)=kz (k.val:Int):=by decide +kernel
 have:=this ⟨r.toNat,by omega⟩
 simp only [Int.toNat_of_nonneg h0] at this;exact this
theorem p84:UcOne Tryz.prog 51 (nG G84):=by
 intro args r hG hcl F w vs hargs;have h:=zA hG;unfold G84 at h;split at h
 ·rename_i s n;simp only [sIq,pIq,aTq] at h;obtain ⟨⟨h1,h2,h3⟩,rfl⟩:=h;have h1:=Jq h1;subst h1;unfold le at h2;unfold lt at h3;have h2:=of_decide_eq_true h2;have h3:=of_decide_eq_true h3;by_cases hn:n<128
  ·cases hargs with
   | cons a1 a2=>cases a2 with
    | cons a2 a3 =>
      cases a3;cases a1;cases a2;refine (Tryz.strings_ContainsRune_ascii signs n w h2 hn).mono fun e w2 ⟨he,hw⟩ => ?_;subst hw;rw [jej n h2 h3] at he;exact ⟨.bool (kz n),he,Below.refl _ _,CV.Rel.bool _⟩
  ·refine jrv _ _ ?_ hcl F w vs hargs;have e:ab [.c (.str signs),.c (.int .i32 n)]=some (true,.one (.c (.bool (kz n)))):=if_pos ⟨rfl,by omega,h3⟩
   unfold nG;rw [e];rfl
 ·cases h
noncomputable abbrev HB:Hd:=⟨[pF 48,(49,oG G82),(50,oG G83),(80,oG NU)],[],[],[]⟩
theorem hB:HdOk Tryz.prog HB:=hA.pF 48
abbrev XC:HdP:=⟨[(48,localG 70 (uOf () Qa jhc))],[],[],[],[],0,[48]⟩
theorem xC:XOk Tryz.prog XC:=XOk.nil.loCons jql (LocFn.localG _ _)
abbrev CQ:=CP × Int
def SQ (c:CQ):St:=mkS 105 [(0,.one (.c (.ptr 0 0))),(2,.one (.c (.int .i64 c.2)))] [some (70,qB c.1.1 c.1.2)]
def jcA:List (Nat × AV)->Mem->Option CQ
 | [(0,.one (.c (.ptr 0 0))),(2,.one (.c (.int .i64 b)))],[some (70,[.str s,.int .i64 n,.str t,.int .i64 a])]=>some ((s,⟨n,t,a⟩),b)
 | _,_=>none
theorem I5:∀ l m c,jcA l m=some c->mkS 105 l m=SQ c:=by
 intro l m c h;unfold jcA at h;split at h
 ·cases h;rfl
 ·cases h
def A31:Sx.Frame CQ CQ:=⟨1,105,[0,2],jcA,SQ,[0,2],jcA,SQ⟩
theorem a31:A31.Ok:=.of_eq I5 I5
def jnK (g:CQ->Tree (XP × CQ)) (s:ByteArray) (p:PS) (b:Int):Tree (XP × CQ) :=
 let c0:=lt p.nx (ja s.size)
 let c:=jB s p.nx.toNat
 .need (!((c0==true)&&true)||jc p.nx s.size) (.need (!((Ja c==false)&&((c0==true)&&true))||jc p.nx s.size)
  (.br (bif c0 then bif Ja c then true else yO c else false) (g ((s,⟨IntKind.wrap .i64 (p.nx+1),p.tx,p.pos⟩),b)) (.leaf (.exit 0,((s,p),b)))))
theorem jiL (g:CQ->Tree (XP × CQ)) (s t:ByteArray) (n a b:Int):jD A31 Tryz.prog HB XC 10 27 0 g ((s,⟨n,t,a⟩),b)=jnK g s ⟨n,t,a⟩ b:=by kernel_rfl
def Vi:Nat->ByteArray->Int->Option Int
 | 0,_,_=>none
 | k + 1, s, n =>
   bif lt n (ja s.size) then
    bif jc n s.size then
     bif Kq (jB s n.toNat) then Vi k s (IntKind.wrap .i64 (n+1)) else some n
    else none
   else some n
def opD:Option Int->Bool | some _=>true | none=>false
def opN:Option Int->Int | some n=>n | none=>0
def NJ (k:Nat) (c:CQ):Tree (XP × CQ) :=
 .need (opD (Vi k c.1.1 c.1.2.nx)) (.leaf (.exit 0,((c.1.1,⟨opN (Vi k c.1.1 c.1.2.nx),c.1.2.tx,c.1.2.pos⟩),c.2)))
theorem D5 (k:Nat) (c:CQ):(NJ k c).sel=match Vi k c.1.1 c.1.2.nx with | some n=>some (.exit 0,((c.1.1,⟨n,c.1.2.tx,c.1.2.pos⟩),c.2)) | none=>none:=by
 unfold NJ;cases Vi k c.1.1 c.1.2.nx<;>rfl
theorem jhT (k:Nat) (c:CQ) (x:XP × CQ) (h:(NJ (k+1) c).sel=some x):(jD A31 Tryz.prog HB XC 10 27 0 (NJ k) c).sel=some x:=by
 obtain ⟨⟨s,⟨n,t,a⟩⟩,b⟩:=c;rw [jiL];rw [D5] at h;simp only [Vi] at h;simp only [jnK,j9,jG,j3,D5];revert h;unfold Kq;generalize lt n (ja s.size)=c1;generalize jc n s.size=c2;generalize Ja (jB s n.toNat)=c3;generalize yO (jB s n.toNat)=c4;cases c1<;>cases c2<;>cases c3<;>cases c4<;>exact fun h=>h
theorem jgD (k:Nat):CoreOk Tryz.prog 27 0 1 SQ SQ (NJ k) :=
 CoreOk.fuel a31 hB xC 10 (fun _=>rfl) jhT k
def FM (s:ByteArray) (n:Int):Option Int:=Vi (s.size+1) s n
def g31 (c:CQ):Tree (XP × CQ):=NJ (c.1.1.size+1) c
theorem core31:CoreOk Tryz.prog 27 0 1 SQ SQ g31:=fun fn c b h1 h2 h3 c0 x hx=>jgD _ fn c b h1 h2 h3 c0 x hx
def Kv (s:ByteArray) (a b:Int):Bool:=le 0 a&&le a b&&le b (ja s.size)
def jfU (s:ByteArray) (st:Int):PR Int Unit :=
 match FM s st with
 | none=>.stuck
 | some n => bif (bif n == st then lt n (ja s.size) else false) then
   bif jc n s.size&&(le 0 (IntKind.wrap .i32 (jB s n.toNat))&&lt (IntKind.wrap .i32 (jB s n.toNat)) 256) then
    bif kz (IntKind.wrap .i32 (jB s n.toNat)) then .ret () (IntKind.wrap .i64 (n+1)) else .pan st
   else .stuck
   else .ret () n
def kX (s:ByteArray) (p:PS):PR PS Unit :=
 match ZL s p.nx with
 | none=>.stuck
 | some (_,st)=>match jfU s st with
  | .stuck=>.stuck
  | .pan a=>.pan a
  | .ret _ n=>bif Kv s st n then .ret () ⟨n,y4 s st.toNat n.toNat,st⟩ else .stuck
def Nb:List A1->ByteArray->PS->PR PS Unit
 | [],s,p=>kX s p
 | _,_,_=>.stuck
noncomputable abbrev HC:Hd:=⟨[pF 48,(49,oG G82),(50,oG G83),(80,oG NU)],[(51,nG G84)],[],[]⟩
theorem hC:HdOk Tryz.prog HC:=hB.ucCons p84
def XD:HdP:=⟨[(48,localG 70 (uOf () Qa jhc))],[],[],[((27,0),qz A31 g31)],[],0,[48]⟩
theorem xD:XOk Tryz.prog XD:=xC.lxCons (core31.lx a31)
def jfs (s:ByteArray) (p:PS):Tree (Out × List CV) :=
 nxT () (Hx s p) (fun _ p1 =>
  let st:=p1.nx
  let n:=opN (FM s st)
  let fin:=fun m:Int=>Tree.need (Kv s st m) (.leaf (.ret (.tup []),[.str s,.int .i64 m,.str (y4 s st.toNat m.toNat),.int .i64 st]))
  .need (opD (FM s st)) (.br (bif n==st then lt n (ja s.size) else false)
   (.need (jc n s.size) (.need (jb signs signs&&(le 0 (IntKind.wrap .i32 (jB s n.toNat))&&lt (IntKind.wrap .i32 (jB s n.toNat)) 256))
    (.br (!kz (IntKind.wrap .i32 (jB s n.toNat))) (.leaf (.pan (J4 st),Ji)) (fin (IntKind.wrap .i64 (n+1)))))) (fin n)))
  fun a=>.leaf (.pan (J4 a),Ji)
theorem jiR (s t:ByteArray) (n a:Int):kx Tryz.prog HC XD 10 27 70 [] [.str s,.int .i64 n,.str t,.int .i64 a]=jfs s ⟨n,t,a⟩:=by kernel_rfl
theorem jd5 (s:ByteArray) (p:PS):Tells (jfs s p) Qa s (kX s p):=by
 unfold jfs kX Hx;cases hsk:ZL s p.nx with
 | none=>exact trivial
 | some r =>
   obtain ⟨b,st⟩:=r;simp only;unfold jfU;cases hl:FM s st with
  | none=>exact trivial
  | some n =>
    simp only;cases h1:(bif n==st then lt n (ja s.size) else false) with
   | false =>
     simp only [cond_false];cases h2:Kv s st n with
    | false=>exact trivial
    | true =>
      refine Tells.of_ret ?_;rw [Zg];simp only [hl,opD,opN,jG,j9,j3,h1,h2,cond_true,cond_false];rfl
   | true =>
     simp only [cond_true];cases h2:jc n s.size with
    | false=>simp only [Bool.false_and,cond_false];exact trivial
    | true =>
      cases h3:(le 0 (IntKind.wrap .i32 (jB s n.toNat))&&lt (IntKind.wrap .i32 (jB s n.toNat)) 256) with
     | false=>simp only [Bool.and_false,cond_false];exact trivial
     | true =>
       simp only [Bool.and_true,cond_true];have h4:jb signs signs=true:=rfl;cases h5:kz (IntKind.wrap .i32 (jB s n.toNat)) with
      | false =>
        simp only [cond_false];refine Tells.of_pan ?_;rw [Zg];simp only [hl,opD,opN,jG,j9,j3,h1,h2,h3,h4,h5,cond_true,Bool.not_false,Bool.and_true]
      | true =>
        simp only [cond_true];cases h6:Kv s st (IntKind.wrap .i64 (n+1)) with
       | false=>exact trivial
       | true =>
         refine Tells.of_ret ?_;rw [Zg];simp only [hl,opD,opN,jG,j9,j3,h1,h2,h3,h4,h5,h6,cond_true,cond_false,Bool.not_true,Bool.and_true];rfl
theorem jhE:ju Tryz.prog 27 (localG 70 (uOf () Qa Nb)):=Ba hC xD 10 27 fun rest s n t a=>by
 cases rest with
 | nil =>
   show Tells _ _ _ (kX s ⟨n,t,a⟩);rw [jiR];exact jd5 s ⟨n,t,a⟩
 | cons _ _=>exact trivial
noncomputable abbrev HW:Hd:=⟨[(49,oG G82),(50,oG G83)],[],[],[]⟩
theorem hW:HdOk Tryz.prog HW:=(HdOk.nil.pcCons p83).pcCons p82
abbrev X0:HdP:=⟨[],[],[],[],[],0,[]⟩
theorem x0:XOk Tryz.prog X0:=XOk.nil
abbrev C87:=ByteArray × Bool × Int × Int
def S87 (c:C87):St:=mkS 25 [(0,.one (.c (.str c.1))),(2,.one (.c (.bool c.2.1))),(5,.one (.c (.int .i64 c.2.2.1))),(6,.one (.c (.int .i64 c.2.2.2)))] []
def O7:List (Nat × AV)->Mem->Option C87
 | [(0,.one (.c (.str s))),(2,.one (.c (.bool b))),(5,.one (.c (.int .i64 l))),(6,.one (.c (.int .i64 i)))],[]=>some (s,b,l,i)
 | _,_=>none
theorem Dc:∀ l m c,O7 l m=some c->mkS 25 l m=S87 c:=by
 intro l m c h;unfold O7 at h;split at h
 ·cases h;rfl
 ·cases h
def A87:Sx.Frame C87 C87:=⟨0,25,[0,2,5,6],O7,S87,[0,2,5,6],O7,S87⟩
theorem a87:A87.Ok:=.of_eq Dc Dc
def r87 (g:C87->Tree (XP × C87)) (s:ByteArray) (b:Bool) (l i:Int):Tree (XP × C87) :=
 let c:=jB s i.toNat
 .br (lt i l) (.need (jc i s.size) (.need (!(((!Ja c)==true)&&true)||jc i s.size) (.br (bif !Ja c then !yO c else false) (.leaf (.ret,(s,false,l,i))) (g (s,b,l,IntKind.wrap .i64 (i+1)))))) (.leaf (.exit 0,(s,b,l,i)))
theorem joB (g:C87->Tree (XP × C87)) (s:ByteArray) (b:Bool) (l i:Int):jD A87 Tryz.prog HW X0 10 54 0 g (s,b,l,i)=r87 g s b l i:=by kernel_rfl
def J3:Nat->ByteArray->Int->Int->Option Bool
 | 0,_,_,_=>none
 | k+1,s,l,i=>bif lt i l then (bif jc i s.size then (bif Kq (jB s i.toNat) then J3 k s l (IntKind.wrap .i64 (i+1)) else some false) else none) else some true
def Bs:Nat->ByteArray->Int->Int->Int
 | 0,_,_,i=>i
 | k+1,s,l,i=>bif lt i l then (bif Kq (jB s i.toNat) then Bs k s l (IntKind.wrap .i64 (i+1)) else i) else i
def obD:Option Bool->Bool | some _=>true | none=>false
def obV:Option Bool->Bool | some b=>b | none=>false
def g87 (k:Nat) (c:C87):Tree (XP × C87) :=
 .need (obD (J3 k c.1 c.2.2.1 c.2.2.2)) (.br (obV (J3 k c.1 c.2.2.1 c.2.2.2)) (.leaf (.exit 0,(c.1,c.2.1,c.2.2.1,Bs k c.1 c.2.2.1 c.2.2.2))) (.leaf (.ret,(c.1,false,c.2.2.1,Bs k c.1 c.2.2.1 c.2.2.2))))
theorem M0 (k : Nat) (c : C87) : (g87 k c).sel = match J3 k c.1 c.2.2.1 c.2.2.2 with
  | some true=>some (.exit 0,(c.1,c.2.1,c.2.2.1,Bs k c.1 c.2.2.1 c.2.2.2))
  | some false=>some (.ret,(c.1,false,c.2.2.1,Bs k c.1 c.2.2.1 c.2.2.2))
  | none=>none:=by
 unfold g87;cases J3 k c.1 c.2.2.1 c.2.2.2 with
 | none=>rfl
 | some b=>cases b<;>rfl
theorem jl8 (k:Nat) (c:C87) (x:XP × C87) (h:(g87 (k+1) c).sel=some x):(jD A87 Tryz.prog HW X0 10 54 0 (g87 k) c).sel=some x:=by
 obtain ⟨s,b,l,i⟩:=c;rw [joB];rw [M0] at h;simp only [J3,Bs] at h;simp only [r87,j9,jG,j3,M0];revert h;unfold Kq;generalize lt i l=c1;generalize jc i s.size=c2;generalize Ja (jB s i.toNat)=c3;generalize yO (jB s i.toNat)=c4;cases c1<;>cases c2<;>cases c3<;>cases c4<;>exact fun h=>h
theorem jo8 (k:Nat):CoreOk Tryz.prog 54 0 0 S87 S87 (g87 k):=CoreOk.fuel a87 hW x0 10 (fun _=>rfl) jl8 k
abbrev J8:=ByteArray × Int × Bool × Int × Int × Int
def DI (c:J8):St:=mkS 45 [(0,.one (.c (.str c.1))),(2,.one (.c (.int .i64 c.2.1))),(3,.one (.c (.bool c.2.2.1))),(4,.one (.c (.int .i64 c.2.2.2.1))),(24,.one (.c (.int .i64 c.2.2.2.2.1))),(25,.one (.c (.int .i64 c.2.2.2.2.2)))] []
def HK:List (Nat × AV)->Mem->Option J8
 | [(0,.one (.c (.str s))),(2,.one (.c (.int .i64 v))),(3,.one (.c (.bool b))),(4,.one (.c (.int .i64 n))),(24,.one (.c (.int .i64 l))),(25,.one (.c (.int .i64 i)))],[]=>some (s,v,b,n,l,i)
 | _,_=>none
theorem N9:∀ l m c,HK l m=some c->mkS 45 l m=DI c:=by
 intro l m c h;unfold HK at h;split at h
 ·cases h;rfl
 ·cases h
def A162:Sx.Frame J8 J8:=⟨0,45,[0,2,3,4,24,25],HK,DI,[0,2,3,4,24,25],HK,DI⟩
theorem joZ:A162.Ok:=.of_eq N9 N9
def jnV (g:J8->Tree (XP × J8)) (s:ByteArray) (v:Int) (b:Bool) (n l i:Int):Tree (XP × J8) :=
 let c:=jB s i.toNat
 .br (lt i l) (.need (jc i s.size) (.br (!yO c) (.leaf (.ret,(s,0,false,n,l,i))) (.need (jc i s.size) (g (s,v,b,IntKind.wrap .i64 (IntKind.wrap .i64 (10*n)+IntKind.wrap .i64 (IntKind.wrap .u8 (c - 48))),l,IntKind.wrap .i64 (i+1)))))) (.leaf (.exit 0,(s,v,b,n,l,i)))
theorem jjZ (g:J8->Tree (XP × J8)) (s:ByteArray) (v:Int) (b:Bool) (n l i:Int):jD A162 Tryz.prog HW X0 10 113 0 g (s,v,b,n,l,i)=jnV g s v b n l i:=by kernel_rfl
def Ka:Nat->ByteArray->Int->Int->Int->Option (Bool × Int × Int)
 | 0,_,_,_,_=>none
 | k+1,s,l,n,i=>bif lt i l then (bif jc i s.size then (bif yO (jB s i.toNat) then Ka k s l (IntKind.wrap .i64 (IntKind.wrap .i64 (10*n)+IntKind.wrap .i64 (IntKind.wrap .u8 (jB s i.toNat - 48)))) (IntKind.wrap .i64 (i+1)) else some (true,n,i)) else none) else some (false,n,i)
def nfD:Option (Bool × Int × Int)->Bool | some _=>true | none=>false
def nfB:Option (Bool × Int × Int)->Bool | some (b,_)=>b | none=>false
def nfN:Option (Bool × Int × Int)->Int | some (_,n,_)=>n | none=>0
def nfI:Option (Bool × Int × Int)->Int | some (_,_,i)=>i | none=>0
def NK (k:Nat) (c:J8):Tree (XP × J8) :=
 let r:=Ka k c.1 c.2.2.2.2.1 c.2.2.2.1 c.2.2.2.2.2
 .need (nfD r) (.br (nfB r) (.leaf (.ret,(c.1,0,false,nfN r,c.2.2.2.2.1,nfI r))) (.leaf (.exit 0,(c.1,c.2.1,c.2.2.1,nfN r,c.2.2.2.2.1,nfI r))))
theorem RZ (k : Nat) (c : J8) : (NK k c).sel = match Ka k c.1 c.2.2.2.2.1 c.2.2.2.1 c.2.2.2.2.2 with
  | some (true,n,i)=>some (.ret,(c.1,0,false,n,c.2.2.2.2.1,i))
  | some (false,n,i)=>some (.exit 0,(c.1,c.2.1,c.2.2.1,n,c.2.2.2.2.1,i))
  | none=>none:=by
 unfold NK;cases Ka k c.1 c.2.2.2.2.1 c.2.2.2.1 c.2.2.2.2.2 with
 | none=>rfl
 | some r=>obtain ⟨b,n,i⟩:=r;cases b<;>rfl
theorem jkz (k:Nat) (c:J8) (x:XP × J8) (h:(NK (k+1) c).sel=some x):(jD A162 Tryz.prog HW X0 10 113 0 (NK k) c).sel=some x:=by
 obtain ⟨s,v,b,n,l,i⟩:=c;rw [jjZ];rw [RZ] at h;simp only [Ka] at h;simp only [jnV,j9,jG,j3,RZ];revert h;generalize lt i l=c1;generalize jc i s.size=c2;generalize yO (jB s i.toNat)=c4;cases c1<;>cases c2<;>cases c4<;>exact fun h=>h
theorem jlx (k:Nat):CoreOk Tryz.prog 113 0 0 DI DI (NK k):=CoreOk.fuel joZ hW x0 10 (fun _=>rfl) jkz k
def jlP (c:C87):Tree (XP × C87):=g87 (c.1.size+1) c
def jih (c:J8):Tree (XP × J8):=NK (c.1.size+1) c
def X1:HdP:=⟨[],[],[],[((54,0),qz A87 jlP),((113,0),qz A162 jih)],[],0,[]⟩
theorem x1:XOk Tryz.prog X1:=(XOk.nil.lxCons (CoreOk.lx (g:=jih) joZ fun fn c b h1 h2 h3 c0 x hx=>jlx _ fn c b h1 h2 h3 c0 x hx)).lxCons (CoreOk.lx (g:=jlP) a87 fun fn c b h1 h2 h3 c0 x hx=>jo8 _ fn c b h1 h2 h3 c0 x hx)
def jV (s:ByteArray):Option Bool:=match J3 (s.size+1) s (ja s.size) 0 with
 | some b=>some (bif b then lt 0 (ja s.size) else false)
 | none=>none
def G87:List A1->Option (Bool × AV)
 | [.c (.str s)]=>some (obD (jV s),.one (.c (.bool (obV (jV s)))))
 | _=>none
def t87 (s:ByteArray):Tree AV :=
 let r:=J3 (s.size+1) s (ja s.size) 0
 .need (obD r) (.br (obV r) (.leaf (.one (.c (.bool (lt 0 (ja s.size)))))) (.leaf (.one (.c (.bool false)))))
theorem jns (s:ByteArray):qf Tryz.prog HW X1 10 54 [.c (.str s)]=t87 s:=by kernel_rfl
theorem p87:UcOne Tryz.prog 54 (nG G87):=by
 refine jR (H:=HW) (X:=X1) hW x1 10 54 ?_;intro args r h;unfold G87 at h;split at h
 ·rename_i s;rw [jns];simp only [sIq,pIq] at h;obtain ⟨h1,rfl⟩:=h;unfold jV at h1 ⊢;unfold t87;revert h1;cases J3 (s.size+1) s (ja s.size) 0 with
  | none=>exact fun h=>by cases h
  | some b=>cases b<;>exact fun _=>jl rfl leA.refl
 ·cases h
theorem jjy (s:ByteArray) (h:lt 1 (ja s.size)=true):jc 0 s.size=true:=by
 unfold lt ja at h
 have:=of_decide_eq_true h
 unfold jc le lt ja;simp only [aTq,decide_eq_true_eq];simp at this ⊢;omega
def jE (s:ByteArray):Option (Int × Bool) :=
 bif bif bif jb s (bs []) then true else bif lt 1 (ja s.size) then jB s 0==48 else false then true else lt 10 (ja s.size) then some (0,false)
 else match Ka (s.size+1) s (ja s.size) 0 0 with
  | some (true,_,_)=>some (0,false)
  | some (false,n,_)=>some (n,le n 1073741824)
  | none=>none
def nmD:Option (Int × Bool)->Bool | some _=>true | none=>false
def nmV:Option (Int × Bool)->Int | some (n,_)=>n | none=>0
def nmO:Option (Int × Bool)->Bool | some (_,b)=>b | none=>false
def Tz:List A1->Option (Bool × AV)
 | [.c (.str s)]=>some (nmD (jE s),.tup [.c (.int .i64 (nmV (jE s))),.c (.bool (nmO (jE s)))])
 | _=>none
def joC (s:ByteArray):Tree AV :=
 let c1:=jb s (bs [])
 let c2:=lt 1 (ja s.size)
 let r:=Ka (s.size+1) s (ja s.size) 0 0
 .need (!((c2==true)&&((c1==false)&&true))||jc 0 s.size)
  (.br (bif bif c1 then true else bif c2 then jB s 0==48 else false then true else lt 10 (ja s.size)) (.leaf (.tup [.c (.int .i64 0),.c (.bool false)]))
   (.need (nfD r) (.br (nfB r) (.leaf (.tup [.c (.int .i64 0),.c (.bool false)])) (.leaf (.tup [.c (.int .i64 (nfN r)),.c (.bool (le (nfN r) 1073741824))])))))
theorem jkt (s:ByteArray):qf Tryz.prog HW X1 10 113 [.c (.str s)]=joC s:=by kernel_rfl
theorem jg2:UcOne Tryz.prog 113 (nG Tz):=by
 refine jR (H:=HW) (X:=X1) hW x1 10 113 ?_;intro args r h;unfold Tz at h;split at h
 ·rename_i s;rw [jkt];simp only [sIq,pIq] at h;obtain ⟨h1,rfl⟩:=h
  have hn:(!((lt 1 (ja s.size)==true)&&((jb s (bs [])==false)&&true))||jc 0 s.size)=true:=by
   cases h2:lt 1 (ja s.size) with
   | false=>rfl
   | true=>rw [jjy s h2];simp
  unfold joC;unfold jE at h1 ⊢;refine ⟨hn,?_⟩;revert h1;cases (bif bif jb s (bs []) then true else bif lt 1 (ja s.size) then jB s 0==48 else false then true else lt 10 (ja s.size)) with
  | true=>exact fun _=>jl rfl leA.refl
  | false =>
    cases Ka (s.size+1) s (ja s.size) 0 0 with
   | none=>exact fun h=>by cases h
   | some r=>obtain ⟨b,n,i⟩:=r;cases b<;>exact fun _=>jl rfl leA.refl
 ·cases h
theorem jka (s:ByteArray) (h:(ja s.size != 2)=false):jc 0 s.size=true∧jc 1 s.size=true:=by
 unfold ja at h;simp at h;unfold jc le lt ja;simp only [aTq,decide_eq_true_eq]
 simp;omega
def jbG (s:ByteArray):Bool:=bif bif (ja s.size != 2) then true else jB s 0 != 115 then true else !yO (jB s 1)
def J2 (s:ByteArray):Int:=bif jbG s then 0 else IntKind.wrap .i64 (IntKind.wrap .u8 (jB s 1 - 48))
def yz (s:ByteArray):Bool:=!jbG s
def G86:List A1->Option AV
 | [.c (.str s)]=>some (.tup [.c (.int .i64 (J2 s)),.c (.bool (yz s))])
 | _=>none
def t86 (s:ByteArray):Tree AV :=
 let c1:=(ja s.size != 2)
 let c2:=bif c1 then true else jB s 0 != 115
 .need (!((c1==false)&&true)||jc 0 s.size) (.need (!((c2==false)&&true)||jc 1 s.size)
  (.br (bif c2 then true else !yO (jB s 1)) (.leaf (.tup [.c (.int .i64 0),.c (.bool false)]))
   (.need (jc 1 s.size) (.leaf (.tup [.c (.int .i64 (IntKind.wrap .i64 (IntKind.wrap .u8 (jB s 1 - 48)))),.c (.bool true)])))))
theorem joL (s:ByteArray):(jU Tryz.prog HW 10 53 [.c (.str s)] []).vals=t86 s:=by kernel_rfl
theorem jjX (s:ByteArray):(t86 s).All (fun z=>z=.tup [.c (.int .i64 (J2 s)),.c (.bool (yz s))]):=by
 unfold t86 J2 yz jbG;cases h1:(ja s.size != 2) with
 | true=>exact jl rfl rfl
 | false =>
   obtain ⟨h2,h3⟩:=jka s h1;rw [h2,h3];cases (jB s 0 != 115) with
  | true=>exact jl rfl rfl
  | false=>cases yO (jB s 1)<;>exact jl rfl rfl
theorem p86:PcOne Tryz.prog 53 G86:=kY hW 10 53 fun args r h=>by
 unfold G86 at h;split at h
 ·rename_i s;obtain rfl:=Option.some.inj h;exact ⟨rfl,_,joL s,jjX s⟩
 ·cases h
noncomputable abbrev HN0:Hd:=⟨[(53,oG G86)],[(54,nG G87)],[],[]⟩
theorem hN0:HdOk Tryz.prog HN0:=(HdOk.nil.pcCons p86).ucCons p87
def yg (s:ByteArray):Bool :=
 bif bif bif bif obV (jV s) then le (ja s.size) 32 else false then le 97 (jB s 0) else false then le (jB s 0) 122 else false then !yz s else false
def Jj (s:ByteArray):Bool :=
 let b1:=bif obV (jV s) then le (ja s.size) 32 else false
 let b2:=bif b1 then le 97 (jB s 0) else false
 obD (jV s)&&((!((b1==true)&&true)||jc 0 s.size)&&(!((b2==true)&&true)||jc 0 s.size))
def G34:List A1->Option (Bool × AV)
 | [.c (.str s)]=>some (Jj s,.one (.c (.bool (yg s))))
 | _=>none
def t34 (s:ByteArray):Tree AV :=
 let b1:=bif obV (jV s) then le (ja s.size) 32 else false
 let b2:=bif b1 then le 97 (jB s 0) else false
 let b3:=bif b2 then le (jB s 0) 122 else false
 .need (obD (jV s)) (.need (!((b1==true)&&true)||jc 0 s.size) (.need (!((b2==true)&&true)||jc 0 s.size)
  (.leaf (.one (.c (.bool (bif b3 then !yz s else false)))))))
theorem jnG (s:ByteArray):j5 Tryz.prog HN0 10 30 [.c (.str s)]=t34 s:=by kernel_rfl
theorem p34:UcOne Tryz.prog 30 (nG G34):=by
 refine jX (H:=HN0) hN0 10 30 ?_;intro args r h;unfold G34 at h;split at h
 ·rename_i s;refine ⟨_,jnG s,?_⟩;simp only [sIq,pIq] at h;obtain ⟨h1,rfl⟩:=h;unfold Jj at h1;simp only [aTq] at h1;unfold t34 yg;exact ⟨h1.1,by simpa using h1.2.1,by simpa using h1.2.2,leA.refl⟩
 ·cases h
def rK:Nat × (List A1->Tree AV):=(4294967289,fun _=>.fail)
theorem HdOk.rK {P:Program} {pc hc lh mc} (h:HdOk P ⟨pc,hc,lh,mc⟩):HdOk P ⟨rK::pc,hc,lh,mc⟩:=h.tcCons (f:=4294967289) (fun _ _ h=>by simp [Tree.sel] at h)
noncomputable abbrev HW0:Hd:=⟨[(53,oG G86)],[(113,nG Tz)],[],[]⟩
theorem hW0:HdOk Tryz.prog HW0:=(HdOk.nil.ucCons jg2).pcCons p86
def Qz (ρ:Val) (i:Int):ByteArray:=((ρ.at i.toNat).at 0).S []
def Hw (es:List Sh):Bool:=match es with
 | [.sl a,.sl [.str],.int .i64]=>shEq.shsEq a Ro.siSh
 | _=>false
theorem N5 {es:List Sh} (h:Hw es=true):es=[.sl Ro.siSh,.sl [.str],.int .i64]:=by
 unfold Hw at h;split at h
 ·rw [jj h]
 ·cases h
def jgy:List A1->Option (Bool × AV)
 | [.c (.rop es 0 ρ),.c (.int .i64 i)]=>if Hw es then some (jc i ((ρ.at 1).L [])&&nmD (jE (Qz (ρ.at 1) i)),.one (.c (.int .i64 (nmV (jE (Qz (ρ.at 1) i)))))) else none
 | _=>none
theorem jrM:TcOne Tryz.prog 142 (nG jgy):=by
 refine qE (H:=HW0) hW0 10 142 ?_;intro args r h;unfold jgy at h;split at h
 ·rename_i es ρ i;split at h
  ·rename_i hs;rw [N5 hs];simp only [sIq,pIq,aTq] at h;obtain ⟨⟨h1,h2⟩,rfl⟩:=h;exact ⟨rfl,.need (jc i ((ρ.at 1).L [])) (.need (nmD (jE (Qz (ρ.at 1) i))) (.leaf (.one (.c (.int .i64 (nmV (jE (Qz (ρ.at 1) i)))))))),by kernel_rfl,h1,h2,rfl⟩
  ·cases h
 ·cases h
def Nc (sn:Nat) (wn:Nat) (wρ:Val) (i:Int):Bool:=jc i wn&&(!yz (Qz wρ i)||jc (J2 (Qz wρ i)) sn)
def FU (sρ:Val) (wρ:Val) (i:Int):Int:=bif !yz (Qz wρ i) then -1 else ((sρ.at (J2 (Qz wρ i)).toNat).at 0).N []
def je2:List A1->Option (Bool × AV)
 | [.c (.rop es 0 ρ),.c (.int .i64 i)]=>if Hw es then some (Nc ((ρ.at 0).L []) ((ρ.at 1).L []) (ρ.at 1) i,.one (.c (.int .i64 (FU (ρ.at 0) (ρ.at 1) i)))) else none
 | _=>none
theorem jrs:TcOne Tryz.prog 145 (nG je2):=by
 refine qE (H:=HW0) hW0 10 145 ?_;intro args r h;unfold je2 at h;split at h
 ·rename_i es ρ i;split at h
  ·rename_i hs;rw [N5 hs];simp only [sIq,pIq] at h;obtain ⟨h1,rfl⟩:=h;unfold Nc at h1;rw [aTq] at h1;obtain ⟨h1,h2⟩:=h1;refine ⟨rfl,.need (jc i ((ρ.at 1).L [])) (.br (!yz (Qz (ρ.at 1) i)) (.leaf (.one (.c (.int .i64 (-1))))) (.need (jc (J2 (Qz (ρ.at 1) i)) ((ρ.at 0).L [])) (.leaf (.one (.c (.int .i64 (((((ρ.at 0).at (J2 (Qz (ρ.at 1) i)).toNat).at 0).N [])))))))),by kernel_rfl,h1,fun h => ?_,fun h=>⟨?_,?_⟩⟩
   ·unfold FU;rw [h];rfl
   ·rw [h] at h2;simpa using h2
   ·unfold FU;rw [h];rfl
  ·cases h
 ·cases h
end Go.Proofs.YtiefjlcakpdfeaaGreatDoor