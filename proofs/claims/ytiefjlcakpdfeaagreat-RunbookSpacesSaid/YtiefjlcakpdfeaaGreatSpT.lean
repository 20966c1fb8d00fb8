/-
 Part SpT of the proof: EngPo RbC RbS RbD RbE RbF.
-/
import Derived.Test.YtiefjlcakpdfeaaGreatSpS
namespace Go.Sx
open Go Go.RowKit
variable {P:Program}
theorem localG_eq (T : TypeId) (u : List A1 → List CV → Tree (Out × List CV)) (b : Nat) (rest : List A1) (mem : Mem) : localG T u (.c (.ptr b 0) :: rest) mem = match nth mem b with
  | some (some (T',cs)) => if T' == T && !isRowL cs && cs.all closedC && rest.all closedA then (u rest cs).bind fun r => .leaf (r.1,setN mem b (some (T,r.2))) else .fail
  | _ => .fail:=rfl
theorem LocFn.localG (T:TypeId) (u:List A1 → List CV → Tree (Out × List CV)):LocFn (localG T u):=by
 intro b rest M r M' h mem hb
 rw [localG_eq] at h
 rw [localG_eq,hb]
 split at h
 rotate_left
 ·simp [Tree.sel] at h
 rename_i T' cs hM
 split at h
 rotate_left
 ·simp [Tree.sel] at h
 rename_i hc
 obtain ⟨y,h1,h2⟩:=sel_bind h
 simp only [Tree.sel,Option.some.injEq,Prod.mk.injEq] at h2
 obtain ⟨rfl,rfl⟩:=h2
 refine ⟨some (T,y.2),rfl,?_⟩
 simp only [if_pos hc]
 rw [bind_sel h1]
 rfl
theorem DsRel.empty {F w bs F' w' bs'} {l:List Deferred} (h:DsRel F w bs [] l):DsRel F' w' bs' [] l:=by cases h; exact .nil
def stepC {C:Type} (keep:List Nat) (k0 n:Nat) (get:List (Nat × AV) → Mem → Option C) (s:St):Option C :=
 match s.gc keep k0 with
 | some s' => if s'.tmps.length == n then (match getKept s' keep with
  | some l => get l s'.mem
  | none => none) else none
 | none => none
theorem stepC_ok {C : Type} {keep : List Nat} {k0 n : Nat} {get : List (Nat × AV) → Mem → Option C} {S : C → St} (hget : ∀ l m c, get l m = some c → StWk (mkS n l m) (S c)) {s : St} {c : C} (h : stepC keep k0 n get s = some c)
  {D F w bs} {a:Act} (hs:StRel P D F w bs s a):∃ bs',Ext k0 F w bs F w bs' ∧ k0 ≤ bs'.length ∧ StRel P D F w bs' (S c) a:=by
 unfold stepC at h
 split at h
 ·rename_i s' hg
  split at h
  ·rename_i hn
   split at h
   ·rename_i l hl
    have e:=gc_eq hg hl
    obtain ⟨bs1,he1,hl1,hs2⟩:=hs.gc hg
    have hlen:s.tmps.length = n:=by
     obtain ⟨pm,_,_,_,rfl⟩:=gc_some hg
     simpa [forgetL_length] using hn
    rw [hlen] at e
    rw [e] at hs2
    exact ⟨bs1,he1,hl1,hget l _ c h _ _ _ _ _ _ hs2⟩
   ·simp at h
  ·simp at h
 ·simp at h
def closedX:XP → Bool
 | .pan x => closedC x
 | _ => true
theorem XRel.closedX {F w bs bs'} {x:XP} {e:Exit} (h:XRel F w bs x e) (hc:closedX x = true):XRel F w bs' x e:=by
 cases x with
 | pan z => obtain ⟨v,rfl,hv⟩:=h; exact ⟨v,rfl,hv.closed hc⟩
 | normal => exact h
 | ret => exact h
 | exit _ => exact h
 | goto _ => exact h
def CoreOk (P:Program) (f i k0:Nat) {C D:Type} (S:C → St) (E:D → St) (g:C → Tree (XP × D)):Prop :=
 ∀ fn c b,P.funcs[f]? = some fn → fn.body = some c → nthLoop c i = some b → ∀ c0 x,(g c0).sel = some x → ∃ N,∀ (F:Nat → Prop) (w:World) (bs:List BI) (a:Act),k0 ≤ bs.length → PRel P F w bs ⟨S c0,[]⟩ a → ∀ Q:Exit → Act → World → Prop,
  (∀ F' w' bs' a' e,Ext k0 F w bs F' w' bs' → PRel P F' w' bs' ⟨E x.2,[]⟩ a' → XRel F' w' bs' x.1 e → Q e a' w') → Code.rounds P b Q N a w
structure Frame (C D:Type) where
 k0:Nat
 n:Nat
 keep:List Nat
 get:List (Nat × AV) → Mem → Option C
 S:C → St
 keepE:List Nat
 getE:List (Nat × AV) → Mem → Option D
 E:D → St
structure Frame.Ok {C D:Type} (A:Frame C D):Prop where
 get:∀ l m c,A.get l m = some c → StWk (mkS A.n l m) (A.S c)
 getE:∀ l m c,A.getE l m = some c → StWk (mkS A.n l m) (A.E c)
theorem Frame.Ok.of_eq {C D:Type} {A:Frame C D} (h1:∀ l m c,A.get l m = some c → mkS A.n l m = A.S c) (h2:∀ l m c,A.getE l m = some c → mkS A.n l m = A.E c):A.Ok :=
 ⟨fun l m c h => h1 l m c h ▸ StWk.refl,fun l m c h => h2 l m c h ▸ StWk.refl⟩
def roundC {C D:Type} (A:Frame C D) (P:Program) (H:Hd) (X:HdP) (d f i:Nat) (g:C → Tree (XP × D)) (c:C):Tree (XP × D) :=
 (evCodeP P H X (evFn P H d) (evFnP P H X d) f A.k0 (i + 1) (loopBody P f i) ⟨A.S c,[]⟩).bind fun y => if y.2.dl.isEmpty && closedX y.1 then (match y.1 with
  | .normal => (match stepC A.keep A.k0 A.n A.get y.2.s with
   | some c' => g c'
   | none => .fail)
  | e => (match stepC A.keepE A.k0 A.n A.getE y.2.s with
   | some r => .leaf (e,r)
   | none => .fail)) else .fail
theorem CoreOk.fail {f i k0:Nat} {C D:Type} {S:C → St} {E:D → St}:CoreOk P f i k0 S E fun _ => .fail:=fun _ _ _ _ _ _ _ _ h => by simp [Tree.sel] at h
theorem CoreOk.le {f i k0:Nat} {C D:Type} {S:C → St} {E:D → St} {g g':C → Tree (XP × D)} (h:CoreOk P f i k0 S E g) (hl:∀ c x,(g' c).sel = some x → (g c).sel = some x):CoreOk P f i k0 S E g' :=
 fun fn c b h1 h2 h3 c0 x hx => h fn c b h1 h2 h3 c0 x (hl c0 x hx)
theorem CoreOk.round {C D:Type} {A:Frame C D} (hA:A.Ok) {H:Hd} (hH:HdOk P H) {X:HdP} (hX:XOk P X) (d:Nat) {f i:Nat} {g:C → Tree (XP × D)} (h:CoreOk P f i A.k0 A.S A.E g):CoreOk P f i A.k0 A.S A.E (roundC A P H X d f i g):=by
 intro fn c b hf hc hb c0 x hx
 have hlb:loopBody P f i = b:=by
  unfold loopBody
  rw [nth_eq]
  simp only [Array.getElem?_toList,hf,hc,hb]
 unfold roundC at hx
 rw [hlb] at hx
 obtain ⟨⟨y,s'⟩,h1,h2⟩:=sel_bind hx
 simp only at h2
 split at h2
 rotate_left
 ·simp [Tree.sel] at h2
 rename_i hcond
 rw [Bool.and_eq_true] at hcond
 obtain ⟨hdl,hcl⟩:=hcond
 obtain ⟨s',dl⟩:=s'
 have hd:=List.isEmpty_iff.1 hdl
 simp only at hd
 subst hd
 have go : ∀ N, (∀ (F : Nat → Prop) (w : World) (bs : List BI) (a : Act), A.k0 ≤ bs.length → PRel P F w bs ⟨s', []⟩ a → ∀ Q : Exit → Act → World → Prop,
   (∀ F' w' bs' a' e,Ext A.k0 F w bs F' w' bs' → PRel P F' w' bs' ⟨A.E x.2,[]⟩ a' → XRel F' w' bs' x.1 e → Q e a' w') → ∀ e,XRel F w bs y e → Exit.then (Code.rounds P b Q N) Q e a w) →
   ∃ N,∀ (F:Nat → Prop) (w:World) (bs:List BI) (a:Act),A.k0 ≤ bs.length → PRel P F w bs ⟨A.S c0,[]⟩ a → ∀ Q:Exit → Act → World → Prop,
    (∀ F' w' bs' a' e,Ext A.k0 F w bs F' w' bs' → PRel P F' w' bs' ⟨A.E x.2,[]⟩ a' → XRel F' w' bs' x.1 e → Q e a' w') → Code.rounds P b Q N a w:=by
  intro N hN
  refine ⟨N + 1,fun F w bs a hK hs Q hQ => ?_⟩
  rw [rounds_succ]
  refine evCodeP_ok hH.pc hX.rx hX.nc (evFn_ok hH d) (evFnP_ok hH hX d) f A.k0 b (i + 1) ⟨A.S c0,[]⟩ h1 (fun j b' h' hj hk => hH.lh f fn c (i + 1 + j) b' h' hf hc (nthLoop_in hb hj) hk) (fun j b' h' hj hk => hX.lx f fn c (i + 1 + j) b' h' hf hc (nthLoop_in hb hj) hk) (fun b' h' hj hk => hX.sx f fn c b' h' hf hc (LxOne.round.scopes_loop hb hj) hk) hK hs fun F' w' bs' a' e he hs' hx' => ?_
  exact hN F' w' bs' a' (he.le hK) hs' Q (fun F'' w'' bs'' a'' e' he' hs'' hx'' => hQ F'' w'' bs'' a'' e' (he.trans he' (Nat.le_refl _)) hs'' hx'') e hx'
 have stop : ∀ {e0 : XP} {r : D}, stepC A.keepE A.k0 A.n A.getE s' = some r → x = (e0, r) → y = e0 → (∀ {F w bs} {e : Exit} {a : Act} {Q : Exit → Act → World → Prop} {N : Nat}, XRel F w bs e0 e → Q e a w → Exit.then (Code.rounds P b Q N) Q e a w) → ∃ N, ∀ (F : Nat → Prop) (w : World) (bs : List BI) (a : Act), A.k0 ≤ bs.length → PRel P F w bs ⟨A.S c0, []⟩ a → ∀ Q : Exit → Act → World → Prop,
    (∀ F' w' bs' a' e,Ext A.k0 F w bs F' w' bs' → PRel P F' w' bs' ⟨A.E x.2,[]⟩ a' → XRel F' w' bs' x.1 e → Q e a' w') → Code.rounds P b Q N a w:=by
  intro e0 r hr hxe hy hthen
  subst hxe
  subst hy
  refine go 0 fun F w bs a hK hs Q hQ e he => ?_
  obtain ⟨bs1,he1,hl1,hs2⟩:=stepC_ok hA.getE hr hs.st
  exact hthen he (hQ F w bs1 a e he1 ⟨hs2,DsRel.empty hs.ds⟩ (he.closedX hcl))
 cases y with
 | normal =>
   simp only at h2
   split at h2
   ·rename_i c' hc'
    obtain ⟨N,hN⟩:=h fn c b hf hc hb c' x h2
    refine go N fun F w bs a hK hs Q hQ e he => ?_
    cases he
    obtain ⟨bs1,he1,hl1,hs2⟩:=stepC_ok hA.get hc' hs.st
    exact hN F w bs1 a hl1 ⟨hs2,DsRel.empty hs.ds⟩ Q fun F' w' bs' a' e' he' hs' hx' => hQ F' w' bs' a' e' (he1.trans he' (Nat.le_refl _)) hs' hx'
   ·simp [Tree.sel] at h2
 | exit k =>
   simp only at h2
   split at h2
   ·rename_i r hr
    simp only [Tree.sel,Option.some.injEq] at h2
    exact stop hr h2.symm rfl fun he hq => by cases he; exact hq
   ·simp [Tree.sel] at h2
 | ret =>
   simp only at h2
   split at h2
   ·rename_i r hr
    simp only [Tree.sel,Option.some.injEq] at h2
    exact stop hr h2.symm rfl fun he hq => by cases he; exact hq
   ·simp [Tree.sel] at h2
 | pan z =>
   simp only at h2
   split at h2
   ·rename_i r hr
    simp only [Tree.sel,Option.some.injEq] at h2
    exact stop hr h2.symm rfl fun he hq => by obtain ⟨v,rfl,hv⟩:=he; exact hq
   ·simp [Tree.sel] at h2
 | goto l =>
   simp only at h2
   split at h2
   ·rename_i r hr
    simp only [Tree.sel,Option.some.injEq] at h2
    exact stop hr h2.symm rfl fun he hq => by cases he; exact hq
   ·simp [Tree.sel] at h2
theorem CoreOk.fuel {C D : Type} {A : Frame C D} (hA : A.Ok) {H : Hd} (hH : HdOk P H) {X : HdP} (hX : XOk P X) (d : Nat) {f i : Nat} {g : Nat → C → Tree (XP × D)} (h0 : ∀ c, (g 0 c).sel = none)
  (hs:∀ k c x,(g (k + 1) c).sel = some x → (roundC A P H X d f i (g k) c).sel = some x):∀ k,CoreOk P f i A.k0 A.S A.E (g k)
 | 0 => CoreOk.fail.le fun c x h => by rw [h0] at h; cases h
 | k + 1 => (CoreOk.round hA hH hX d (CoreOk.fuel hA hH hX d h0 hs k)).le (hs k)
def loopC {C D:Type} (A:Frame C D) (g:C → Tree (XP × D)) (K:Nat) (s:St):Tree (XP × St) :=
 if Nat.ble K A.k0 then (match stepC A.keep A.k0 A.n A.get s with
  | some c => (g c).bind fun x => .leaf (x.1,A.E x.2)
  | none => .fail) else .fail
theorem CoreOk.lx {C D:Type} {A:Frame C D} (hA:A.Ok) {f i:Nat} {g:C → Tree (XP × D)} (h:CoreOk P f i A.k0 A.S A.E g):LxOne P f i (loopC A g):=by
 intro fn c b hf hc hb K s x hx
 unfold loopC at hx
 split at hx
 rotate_left
 ·simp [Tree.sel] at hx
 rename_i hK
 have hK:=Nat.ble_eq.mp hK
 split at hx
 rotate_left
 ·simp [Tree.sel] at hx
 rename_i c0 hc0
 obtain ⟨y,h1,h2⟩:=sel_bind hx
 simp only [Tree.sel,Option.some.injEq] at h2
 subst h2
 obtain ⟨N,hN⟩:=h fn c b hf hc hb c0 y h1
 refine ⟨N,fun F w bs a hKb hs Q hQ => ?_⟩
 obtain ⟨bs1,he1,hl1,hs2⟩:=stepC_ok hA.get hc0 hs.st
 exact hN F w bs1 a hl1 ⟨hs2,DsRel.empty hs.ds⟩ Q fun F' w' bs' a' e' he' hs' hx' => hQ F' w' bs' a' e' ((he1.trans he' (Nat.le_refl _)).weak hK) hs' hx'
def PassCore (P:Program) (f l k0:Nat) {C D:Type} (S:C → St) (E:D → St) (g:C → Tree (XP × D)):Prop :=
 ∀ fn c0 c n rest,P.funcs[f]? = some fn → fn.body = some c0 → firstScope c0 0 = some (c,n) → findLabel c l = some rest →
  ∀ s0 x,(g s0).sel = some x → ∃ N,∀ (F:Nat → Prop) (w:World) (bs:List BI) (a:Act),k0 ≤ bs.length → PRel P F w bs ⟨S s0,[]⟩ a → ∀ Q:Exit → Act → World → Prop,
   (∀ F' w' bs' a' e,Ext k0 F w bs F' w' bs' → PRel P F' w' bs' ⟨E x.2,[]⟩ a' → XRel F' w' bs' x.1 e → Q e a' w') → passN P l rest Q N a w
def onGotoC {C D:Type} (A:Frame C D) (l:Nat) (g:C → Tree (XP × D)) (y:XP × StP):Tree (XP × D) :=
 if y.2.dl.isEmpty && closedX y.1 then (match y.1 with
  | .goto l' => if l' == l then (match stepC A.keep A.k0 A.n A.get y.2.s with
   | some c' => g c'
   | none => .fail) else .fail
  | e => (match stepC A.keepE A.k0 A.n A.getE y.2.s with
   | some r => .leaf (e,r)
   | none => .fail)) else .fail
def passC {C D:Type} (A:Frame C D) (P:Program) (H:Hd) (X:HdP) (d f l:Nat) (g:C → Tree (XP × D)) (c:C):Tree (XP × D) :=
 (evCodeP P H X (evFn P H d) (evFnP P H X d) f A.k0 (scopeRest P f l).2 (scopeRest P f l).1 ⟨A.S c,[]⟩).bind (onGotoC A l g)
theorem PassCore.fail {f l k0:Nat} {C D:Type} {S:C → St} {E:D → St}:PassCore P f l k0 S E fun _ => .fail:=fun _ _ _ _ _ _ _ _ _ _ _ h => by simp [Tree.sel] at h
theorem PassCore.le {f l k0:Nat} {C D:Type} {S:C → St} {E:D → St} {g g':C → Tree (XP × D)} (h:PassCore P f l k0 S E g) (hl:∀ c x,(g' c).sel = some x → (g c).sel = some x):PassCore P f l k0 S E g' :=
 fun fn c0 c n rest h1 h2 h3 h4 s0 x hx => h fn c0 c n rest h1 h2 h3 h4 s0 x (hl s0 x hx)
theorem jumpC_ok {C D : Type} {A : Frame C D} (hA : A.Ok) {l : Nat} {rest : Code} {g : C → Tree (XP × D)}
  (hg:∀ s0 x,(g s0).sel = some x → ∃ N,∀ (F:Nat → Prop) (w:World) (bs:List BI) (a:Act),A.k0 ≤ bs.length → PRel P F w bs ⟨A.S s0,[]⟩ a → ∀ Q:Exit → Act → World → Prop,
   (∀ F' w' bs' a' e,Ext A.k0 F w bs F' w' bs' → PRel P F' w' bs' ⟨A.E x.2,[]⟩ a' → XRel F' w' bs' x.1 e → Q e a' w') → passN P l rest Q N a w)
  {c:Code} {s:St} {t:Tree (XP × StP)} {x:XP × D} (hx:(t.bind (onGotoC A l g)).sel = some x)
  (hc:∀ y,t.sel = some y → ∀ (F:Nat → Prop) (w:World) (bs:List BI) (a:Act),A.k0 ≤ bs.length → PRel P F w bs ⟨s,[]⟩ a → ∀ Q:Exit → Act → World → Prop,
   (∀ F' w' bs' a' e,Ext A.k0 F w bs F' w' bs' → PRel P F' w' bs' y.2 a' → XRel F' w' bs' y.1 e → Q e a' w') → c.wp P Q a w) :
  ∃ N,∀ (F:Nat → Prop) (w:World) (bs:List BI) (a:Act),A.k0 ≤ bs.length → PRel P F w bs ⟨s,[]⟩ a → ∀ Q:Exit → Act → World → Prop,
   (∀ F' w' bs' a' e,Ext A.k0 F w bs F' w' bs' → PRel P F' w' bs' ⟨A.E x.2,[]⟩ a' → XRel F' w' bs' x.1 e → Q e a' w') → c.wp P (Exit.jump l (passN P l rest Q N) Q) a w:=by
 obtain ⟨⟨y,s'⟩,h1,h2⟩:=sel_bind hx
 unfold onGotoC at h2
 split at h2
 rotate_left
 ·simp [Tree.sel] at h2
 rename_i hcond
 rw [Bool.and_eq_true] at hcond
 obtain ⟨hdl,hcl⟩:=hcond
 obtain ⟨s',dl⟩:=s'
 have hd:=List.isEmpty_iff.1 hdl
 simp only at hd
 subst hd
 have go : ∀ N, (∀ (F : Nat → Prop) (w : World) (bs : List BI) (a : Act), A.k0 ≤ bs.length → PRel P F w bs ⟨s', []⟩ a → ∀ Q : Exit → Act → World → Prop,
   (∀ F' w' bs' a' e,Ext A.k0 F w bs F' w' bs' → PRel P F' w' bs' ⟨A.E x.2,[]⟩ a' → XRel F' w' bs' x.1 e → Q e a' w') → ∀ e,XRel F w bs y e → Exit.jump l (passN P l rest Q N) Q e a w) →
   ∃ N,∀ (F:Nat → Prop) (w:World) (bs:List BI) (a:Act),A.k0 ≤ bs.length → PRel P F w bs ⟨s,[]⟩ a → ∀ Q:Exit → Act → World → Prop,
    (∀ F' w' bs' a' e,Ext A.k0 F w bs F' w' bs' → PRel P F' w' bs' ⟨A.E x.2,[]⟩ a' → XRel F' w' bs' x.1 e → Q e a' w') → c.wp P (Exit.jump l (passN P l rest Q N) Q) a w:=by
  intro N hN
  exact ⟨N,fun F w bs a hK hs Q hQ => hc _ h1 F w bs a hK hs _ fun F' w' bs' a' e he hs' hx' =>
   hN F' w' bs' a' (he.le hK) hs' Q (fun F'' w'' bs'' a'' e' he' hs'' hx'' => hQ F'' w'' bs'' a'' e' (he.trans he' (Nat.le_refl _)) hs'' hx'') e hx'⟩
 have stop : ∀ {e0 : XP} {r : D}, stepC A.keepE A.k0 A.n A.getE s' = some r → x = (e0, r) → y = e0 → (∀ {F w bs} {e : Exit} {a : Act} {Q : Exit → Act → World → Prop} {N : Nat}, XRel F w bs e0 e → Q e a w → Exit.jump l (passN P l rest Q N) Q e a w) → ∃ N, ∀ (F : Nat → Prop) (w : World) (bs : List BI) (a : Act), A.k0 ≤ bs.length → PRel P F w bs ⟨s, []⟩ a → ∀ Q : Exit → Act → World → Prop,
    (∀ F' w' bs' a' e,Ext A.k0 F w bs F' w' bs' → PRel P F' w' bs' ⟨A.E x.2,[]⟩ a' → XRel F' w' bs' x.1 e → Q e a' w') → c.wp P (Exit.jump l (passN P l rest Q N) Q) a w:=by
  intro e0 r hr hxe hy hthen
  subst hxe
  subst hy
  refine go 0 fun F w bs a hK hs Q hQ e he => ?_
  obtain ⟨bs1,he1,hl1,hs2⟩:=stepC_ok hA.getE hr hs.st
  exact hthen he (hQ F w bs1 a e he1 ⟨hs2,DsRel.empty hs.ds⟩ (he.closedX hcl))
 cases y with
 | normal =>
   simp only at h2
   split at h2
   ·rename_i r hr
    simp only [Tree.sel,Option.some.injEq] at h2
    exact stop hr h2.symm rfl fun he hq => by cases he; exact hq
   ·simp [Tree.sel] at h2
 | exit k =>
   simp only at h2
   split at h2
   ·rename_i r hr
    simp only [Tree.sel,Option.some.injEq] at h2
    exact stop hr h2.symm rfl fun he hq => by cases he; exact hq
   ·simp [Tree.sel] at h2
 | ret =>
   simp only at h2
   split at h2
   ·rename_i r hr
    simp only [Tree.sel,Option.some.injEq] at h2
    exact stop hr h2.symm rfl fun he hq => by cases he; exact hq
   ·simp [Tree.sel] at h2
 | pan z =>
   simp only at h2
   split at h2
   ·rename_i r hr
    simp only [Tree.sel,Option.some.injEq] at h2
    exact stop hr h2.symm rfl fun he hq => by obtain ⟨v,rfl,hv⟩:=he; exact hq
   ·simp [Tree.sel] at h2
 | goto l' =>
   simp only at h2
   split at h2
   rotate_left
   ·simp [Tree.sel] at h2
   rename_i e
   have e:=eq_of_beq e
   subst e
   split at h2
   ·rename_i c' hc'
    obtain ⟨N,hN⟩:=hg c' x h2
    refine go N fun F w bs a hK hs Q hQ e he => ?_
    cases he
    obtain ⟨bs1,he1,hl1,hs2⟩:=stepC_ok hA.get hc' hs.st
    exact ⟨rfl,hN F w bs1 a hl1 ⟨hs2,DsRel.empty hs.ds⟩ Q fun F' w' bs' a' e' he' hs' hx' => hQ F' w' bs' a' e' (he1.trans he' (Nat.le_refl _)) hs' hx'⟩
   ·simp [Tree.sel] at h2
theorem PassCore.pass {C D:Type} {A:Frame C D} (hA:A.Ok) {H:Hd} (hH:HdOk P H) {X:HdP} (hX:XOk P X) (d:Nat) {f l:Nat} {g:C → Tree (XP × D)} (h:PassCore P f l A.k0 A.S A.E g):PassCore P f l A.k0 A.S A.E (passC A P H X d f l g):=by
 intro fn c0 c n rest hf hc hsc hl s0 x hx
 have hbody:scopeBody P f = (c,n):=by
  unfold scopeBody
  rw [nth_eq]
  simp only [Array.getElem?_toList,hf,hc,hsc]
 have hrest:scopeRest P f l = (rest,n + labOff l c):=by
  unfold scopeRest
  simp only [hbody,hl]
 unfold passC at hx
 rw [hrest] at hx
 obtain ⟨_,hlp,hm,hm2⟩:=firstScope_loop hsc
 have hlp':∀ i b,nthLoop rest i = some b → nthLoop c0 (n + labOff l c + i) = some b:=fun i b hb => by
  have:=hlp _ b (nthLoop_rest hl hb)
  rwa [show n - 0 + (labOff l c + i) = n + labOff l c + i by omega] at this
 obtain ⟨N,hN⟩:=jumpC_ok hA (c:=rest) (s:=A.S s0) (h fn c0 c n rest hf hc hsc hl) hx fun y hy F w bs a hK hs Q hQ =>
  evCodeP_ok hH.pc hX.rx hX.nc (evFn_ok hH d) (evFnP_ok hH hX d) f A.k0 rest (n + labOff l c) ⟨A.S s0,[]⟩ hy (fun j b' h' hj hk => hH.lh f fn c0 _ b' h' hf hc (hlp' j b' hj) hk) (fun j b' h' hj hk => hX.lx f fn c0 _ b' h' hf hc (hlp' j b' hj) hk) (fun b' h' hj hk => hX.sx f fn c0 b' h' hf hc (hm2 _ (scopes_rest hl hj)) hk) hK hs hQ
 exact ⟨N + 1,hN⟩
theorem PassCore.fuel {C D : Type} {A : Frame C D} (hA : A.Ok) {H : Hd} (hH : HdOk P H) {X : HdP} (hX : XOk P X) (d : Nat) {f l : Nat} {g : Nat → C → Tree (XP × D)} (h0 : ∀ c, (g 0 c).sel = none)
  (hs:∀ k c x,(g (k + 1) c).sel = some x → (passC A P H X d f l (g k) c).sel = some x):∀ k,PassCore P f l A.k0 A.S A.E (g k)
 | 0 => PassCore.fail.le fun c x h => by rw [h0] at h; cases h
 | k + 1 => (PassCore.pass hA hH hX d (PassCore.fuel hA hH hX d h0 hs k)).le (hs k)
def scopeC {B C D:Type} (A:Frame C D) (Z:Frame B D) (P:Program) (H:Hd) (X:HdP) (d f l:Nat) (g:C → Tree (XP × D)) (b:B):Tree (XP × D) :=
 (evCodeP P H X (evFn P H d) (evFnP P H X d) f A.k0 (scopeBody P f).2 (scopeBody P f).1 ⟨Z.S b,[]⟩).bind (onGotoC A l g)
theorem SxOne.core {B C D : Type} {A : Frame C D} {Z : Frame B D} (hA : A.Ok) (hZ : Z.Ok) (hk : Z.k0 = A.k0) (hE : Z.E = A.E) {H : Hd} (hH : HdOk P H) {X : HdP} (hX : XOk P X) (d : Nat) {f l : Nat} {g : C → Tree (XP × D)} (h : PassCore P f l A.k0 A.S A.E g) {u : B → Tree (XP × D)}
  (hu:∀ b x,(u b).sel = some x → (scopeC A Z P H X d f l g b).sel = some x)
  (h1:((nth P.funcs.toList f).bind fun fn => fn.body.map fun c => (scopesOf c).length) = some 1) (h2:(findLabel (scopeBody P f).1 l).isSome = true):SxOne P f (loopC Z u):=by
 intro fn c0 b hf hc hb K s x hx F w bs a hKb hs Q hQ
 have hlen:(scopesOf c0).length = 1:=by
  rw [nth_eq] at h1
  simpa [Array.getElem?_toList,hf,hc] using h1
 obtain ⟨rest,hl⟩:=Option.isSome_iff_exists.1 h2
 unfold loopC at hx
 split at hx
 rotate_left
 ·simp [Tree.sel] at hx
 rename_i hK
 have hK:=Nat.ble_eq.mp hK
 split at hx
 rotate_left
 ·simp [Tree.sel] at hx
 rename_i b0 hb0
 obtain ⟨y,hy1,hy2⟩:=sel_bind hx
 simp only [Tree.sel,Option.some.injEq] at hy2
 subst hy2
 have hy1:=hu b0 y hy1
 obtain ⟨bs1,he1,hl1,hs2⟩:=stepC_ok hZ.get hb0 hs.st
 rw [hk] at hl1 he1 hK
 cases hsc:firstScope c0 0 with
 | none =>
   have hbody:scopeBody P f = (.skip,0):=by
    unfold scopeBody
    rw [nth_eq]
    simp only [Array.getElem?_toList,hf,hc,hsc]
   rw [hbody] at hl
   simp [findLabel] at hl
 | some r =>
   obtain ⟨c,n⟩:=r
   have hbody:scopeBody P f = (c,n):=by
    unfold scopeBody
    rw [nth_eq]
    simp only [Array.getElem?_toList,hf,hc,hsc]
   rw [hbody] at hl
   unfold scopeC at hy1
   rw [hbody] at hy1
   obtain ⟨_,hlp,hm,hm2⟩:=firstScope_loop hsc
   have hbc:b = c:=by
    cases hS:scopesOf c0 with
    | nil => rw [hS] at hlen; simp at hlen
    | cons y r =>
      rw [hS] at hlen hm hb
      have:r = []:=List.length_eq_zero_iff.1 (by simpa using hlen)
      subst this
      simp only [List.mem_cons,List.not_mem_nil,or_false] at hm hb
      rw [hm,hb]
   subst hbc
   have hlp':∀ i b',nthLoop b i = some b' → nthLoop c0 (n + i) = some b':=fun i b' hb' => by
    have:=hlp _ b' hb'
    rwa [show n - 0 + i = n + i by omega] at this
   obtain ⟨N,hN⟩:=jumpC_ok hA (c:=b) (s:=Z.S b0) (h fn c0 b n rest hf hc hsc hl) hy1 fun y hy F w bs a hK hs Q hQ =>
    evCodeP_ok hH.pc hX.rx hX.nc (evFn_ok hH d) (evFnP_ok hH hX d) f A.k0 b n ⟨Z.S b0,[]⟩ hy (fun j b' h' hj hk => hH.lh f fn c0 _ b' h' hf hc (hlp' j b' hj) hk) (fun j b' h' hj hk => hX.lx f fn c0 _ b' h' hf hc (hlp' j b' hj) hk) (fun b' h' hj hk => hX.sx f fn c0 b' h' hf hc (hm2 _ hj) hk) hK hs hQ
   refine scope_of hl (hN F w bs1 a hl1 ⟨hs2,DsRel.empty hs.ds⟩ Q fun F' w' bs' a' e' he' hs' hx' => hQ F' w' bs' a' e' ((he1.trans he' (Nat.le_refl _)).weak hK) ?_ hx')
   rw [hE]
   exact hs'
end Go.Sx
namespace Go.Proofs.YtiefjlcakpdfeaaGreat
open Go Go.Sx Go.RowKit Rb
set_option maxRecDepth 100000
abbrev CP:=ByteArray × PS
def SP (n:Nat) (c:CP):St:=mkS n [(0,.one (.c (.ptr 0 0)))] [some (82,cellsP c.1 c.2)]
def getP:List (Nat × AV) → Mem → Option CP
 | [(0,.one (.c (.ptr 0 0)))],[some (82,[.str s,.int .i64 n,.str t,.int .i64 a])] => some (s,⟨n,t,a⟩)
 | _,_ => none
theorem getP_ok (n:Nat):∀ l m c,getP l m = some c → mkS n l m = SP n c:=by
 intro l m c h
 unfold getP at h
 split at h
 ·cases h; rfl
 ·cases h
noncomputable abbrev HA:Hd:=⟨[(82,oG G82),(83,oG G83),(113,oG G113)],[],[],[]⟩
theorem hA:HdOk Tryz.prog HA:=((HdOk.nil.pcCons p113).pcCons p83).pcCons p82
abbrev XA:HdP:=⟨[],[],[],[],[],0,[]⟩
theorem xA:XOk Tryz.prog XA:=XOk.nil
def A81:Sx.Frame CP CP:=⟨1,65,[0],getP,SP 65,[0],getP,SP 65⟩
theorem a81:A81.Ok:=.of_eq (getP_ok 65) (getP_ok 65)
def cmtI (s:ByteArray) (n:Int):Int:=Lib.indexByte (strSub s n.toNat s.size).data.toList 10
def cmtN (s:ByteArray) (n:Int):Int:=bif lt (cmtI s n) 0 then IntKind.wrap .i64 (n + IntKind.wrap .i64 (toInt64 s.size - n)) else IntKind.wrap .i64 (n + cmtI s n)
def isSp (c:Int):Bool:=c == 32 || (c == 9 || c == 10)
def skipF:Nat → ByteArray → Int → Option (Bool × Int)
 | 0,_,_ => none
 | k + 1, s, n =>
   bif lt n (toInt64 s.size) then
    bif inRange n s.size then
     bif isSp (strAt s n.toNat) then skipF k s (IntKind.wrap .i64 (n + 1))
     else bif strAt s n.toNat == 35 then
      bif (le 0 n && le n (toInt64 s.size) && le (toInt64 s.size) (toInt64 s.size)) then skipF k s (cmtN s n) else none
     else some (true,n)
    else none
   else some (false,n)
def skD:Option (Bool × Int) → Bool | some _ => true | none => false
def skB:Option (Bool × Int) → Bool | some (b,_) => b | none => false
def skN:Option (Bool × Int) → Int | some (_,n) => n | none => 0
def gSkip (k:Nat) (c:CP):Tree (XP × CP) :=
 .need (skD (skipF k c.1 c.2.nx)) (.br (skB (skipF k c.1 c.2.nx)) (.leaf (.ret,(c.1,⟨skN (skipF k c.1 c.2.nx),c.2.tx,c.2.pos⟩))) (.leaf (.exit 0,(c.1,⟨skN (skipF k c.1 c.2.nx),c.2.tx,c.2.pos⟩))))
theorem gSkip_sel (k:Nat) (c:CP):(gSkip k c).sel = match skipF k c.1 c.2.nx with | some (b,n) => some (bif b then (.ret,(c.1,⟨n,c.2.tx,c.2.pos⟩)) else (.exit 0,(c.1,⟨n,c.2.tx,c.2.pos⟩))) | none => none:=by
 unfold gSkip
 cases skipF k c.1 c.2.nx with
 | none => rfl
 | some r => obtain ⟨b,n⟩:=r; cases b <;> rfl
def rSkip (g:CP → Tree (XP × CP)) (s:ByteArray) (p:PS):Tree (XP × CP) :=
 let A:=g (s,⟨IntKind.wrap .i64 (p.nx + 1),p.tx,p.pos⟩)
 let B:=.br (strAt s p.nx.toNat == 35) (.need (le 0 p.nx && le p.nx (toInt64 s.size) && le (toInt64 s.size) (toInt64 s.size))
  (.br (lt (cmtI s p.nx) 0) (g (s,⟨IntKind.wrap .i64 (p.nx + IntKind.wrap .i64 (toInt64 s.size - p.nx)),p.tx,p.pos⟩)) (g (s,⟨IntKind.wrap .i64 (p.nx + cmtI s p.nx),p.tx,p.pos⟩)))) (.leaf (.ret,(s,p)))
 .br (lt p.nx (toInt64 s.size)) (.need (inRange p.nx s.size)
  (.br (strAt s p.nx.toNat == 32) (.br (strAt s p.nx.toNat == 32) A B) (.br (strAt s p.nx.toNat == 9) (.br (strAt s p.nx.toNat == 9) A B) (.br (strAt s p.nx.toNat == 10) A B)))) (.leaf (.exit 0,(s,p)))
theorem rSkip_eq (g:CP → Tree (XP × CP)) (s t:ByteArray) (n a:Int):roundC A81 Tryz.prog HA XA 10 81 0 g (s,⟨n,t,a⟩) = rSkip g s ⟨n,t,a⟩:=by kernel_rfl
theorem sel_br {α:Type} (c:Bool) (t e:Tree α):(Tree.br c t e).sel = bif c then t.sel else e.sel:=rfl
theorem sel_need {α:Type} (c:Bool) (t:Tree α):(Tree.need c t).sel = bif c then t.sel else none:=rfl
theorem sel_leaf {α:Type} (a:α):(Tree.leaf a).sel = some a:=rfl
theorem skip_step (k:Nat) (c:CP) (x:XP × CP) (h:(gSkip (k + 1) c).sel = some x):(roundC A81 Tryz.prog HA XA 10 81 0 (gSkip k) c).sel = some x:=by
 obtain ⟨s,n,t,a⟩:=c
 rw [rSkip_eq]
 rw [gSkip_sel] at h
 simp only [skipF] at h
 simp only [rSkip,sel_br,sel_need,sel_leaf,gSkip_sel]
 revert h
 generalize lt n (toInt64 s.size) = c1
 cases c1
 ·exact fun h => h
 generalize inRange n s.size = c2
 cases c2
 ·exact fun h => h
 simp only [cond_true,isSp]
 generalize (strAt s n.toNat == 32) = c3
 generalize (strAt s n.toNat == 9) = c4
 generalize (strAt s n.toNat == 10) = c5
 generalize (strAt s n.toNat == 35) = c6
 generalize (le 0 n && le n (toInt64 s.size) && le (toInt64 s.size) (toInt64 s.size)) = c7
 unfold cmtN
 generalize lt (cmtI s n) 0 = c8
 cases c3 <;> cases c4 <;> cases c5 <;> cases c6 <;> cases c7 <;> cases c8 <;> exact fun h => h
theorem skip_core (k:Nat):CoreOk Tryz.prog 81 0 1 (SP 65) (SP 65) (gSkip k) :=
 CoreOk.fuel a81 hA xA 10 (fun _ => rfl) skip_step k
def skipS (s:ByteArray) (n:Int):Option (Bool × Int):=skipF (s.size + 1) s n
def g81 (c:CP):Tree (XP × CP):=gSkip (c.1.size + 1) c
theorem core81:CoreOk Tryz.prog 81 0 1 (SP 65) (SP 65) g81:=fun fn c b h1 h2 h3 c0 x hx => skip_core _ fn c b h1 h2 h3 c0 x hx
def XB:HdP:=⟨[],[],[],[((81,0),loopC A81 g81)],[],0,[]⟩
theorem xB:XOk Tryz.prog XB:=XOk.nil.lxCons (core81.lx a81)
def encU (_:Unit):AV:=.tup []
def skipP (s:ByteArray) (p:PS):PR PS Unit:=match skipS s p.nx with | some (_,n) => .ret () ⟨n,p.tx,p.pos⟩ | none => .stuck
def sp81:List A1 → ByteArray → PS → PR PS Unit
 | [],s,p => skipP s p
 | _,_,_ => .stuck
theorem px81:PxOne Tryz.prog 81 (localG 82 (uOf () encU sp81)):=px_of hA xB 10 81 fun rest s n t a => by
 cases rest with
 | nil =>
   show Tells _ _ _ (skipP s ⟨n,t,a⟩)
   have e:oneZ Tryz.prog HA XB 10 81 82 [] [.str s,.int .i64 n,.str t,.int .i64 a] = .need (skD (skipS s n)) (.br (skB (skipS s n)) (.leaf (.ret (.tup []),cellsP s ⟨skN (skipS s n),t,a⟩)) (.leaf (.ret (.tup []),cellsP s ⟨skN (skipS s n),t,a⟩))):=by kernel_rfl
   rw [e]; clear e
   unfold skipP
   cases skipS s n with
  | none => exact trivial
  | some r => obtain ⟨b,m⟩:=r; cases b <;> exact Tells.of_ret rfl
 | cons _ _ => exact trivial
def G84b:List A1 → Option (Bool × AV)
 | [.c (.str s),.c (.int .i32 r)] => if s = signs ∧ 128 ≤ r ∧ r < 256 then some (true,.one (.c (.bool (signB r)))) else none
 | _ => none
theorem G84b_some {args:List A1} {r:AV} (h:G84b args = some (true,r)):∃ n,args = [.c (.str signs),.c (.int .i32 n)] ∧ 128 ≤ n ∧ n < 256 ∧ r = .one (.c (.bool (signB n))):=by
 unfold G84b at h
 split at h
 ·rename_i s n
  split at h
  ·rename_i hc
   exact ⟨n,by rw [hc.1],hc.2.1,hc.2.2,(congrArg Prod.snd (Option.some.inj h)).symm⟩
  ·cases h
 ·cases h
theorem u84b {args:List A1} {r:AV} (h:G84b args = some (true,r)):(hcTreeP Tryz.prog HC0 XR 20 84 args).All (fun x => leA x r):=by
 obtain ⟨n,e1,h0,h1,e2⟩:=G84b_some h
 have hs:=t84_sel n h0 h1
 unfold t84 at hs
 rw [← e1,← e2] at hs
 exact sel_all hs leA.refl
theorem p84b:UcOne Tryz.prog 84 (nG G84b):=by
 refine ucOneP_of_all (H:=HC0) (X:=XR) hC0 XOk.nil 20 84 ?_
 intro args r h
 exact u84b h
theorem strEq_eq {a b:ByteArray} (h:strEq a b = true):a = b:=by
 have key:∀ l r:List UInt8,bytesEq l r = true → l = r:=by
  intro l
  induction l with
  | nil => intro r h; cases r with | nil => rfl | cons _ _ => simp [bytesEq] at h
  | cons x l ih =>
    intro r h
    cases r with
   | nil => simp [bytesEq] at h
   | cons y r =>
     simp only [bytesEq,Bool.and_eq_true] at h
     rw [ih r h.2,UInt8.toNat_inj.1 (Nat.eq_of_beq_eq_true h.1)]
 unfold strEq at h
 have:=key _ _ h
 cases a with | mk a => cases b with | mk b =>
  congr 1
  exact Array.ext' this
theorem idx_signs (r:Int) (h0:0 ≤ r) (h1:r < 256):decide (0 ≤ Lib.indexByte signs.data.toList r.toNat.toUInt8) = signB r:=by
 have:∀ k:Fin 256,decide (0 ≤ Lib.indexByte signs.data.toList ((k.val:Int)).toNat.toUInt8) = signB (k.val:Int):=by decide +kernel
 have:=this ⟨r.toNat,by omega⟩
 simp only [Int.toNat_of_nonneg h0] at this
 exact this
theorem p84:UcOne Tryz.prog 84 (nG G84):=by
 intro args r hG hcl F w vs hargs
 have h:=nG_sel hG
 unfold G84 at h
 split at h
 ·rename_i s n
  simp only [Option.some.injEq,Prod.mk.injEq,Bool.and_eq_true] at h
  obtain ⟨⟨h1,h2,h3⟩,rfl⟩:=h
  have h1:=strEq_eq h1
  subst h1
  unfold le at h2
  unfold lt at h3
  have h2:=of_decide_eq_true h2
  have h3:=of_decide_eq_true h3
  by_cases hn:n < 128
  ·cases hargs with
   | cons a1 a2 => cases a2 with
    | cons a2 a3 =>
      cases a3
      cases a1; cases a2
      refine (Tryz.strings_ContainsRune_ascii signs n w h2 hn).mono fun e w2 ⟨he,hw⟩ => ?_
      subst hw
      rw [idx_signs n h2 h3] at he
      exact ⟨.bool (signB n),he,Below.refl _ _,CV.Rel.bool _⟩
  ·refine p84b _ _ ?_ hcl F w vs hargs
   have e:G84b [.c (.str signs),.c (.int .i32 n)] = some (true,.one (.c (.bool (signB n)))):=if_pos ⟨rfl,by omega,h3⟩
   unfold nG
   rw [e]
   rfl
 ·cases h
noncomputable abbrev HB:Hd:=⟨[pF 81,(82,oG G82),(83,oG G83),(113,oG G113)],[],[],[]⟩
theorem hB:HdOk Tryz.prog HB:=hA.pF 81
abbrev XC:HdP:=⟨[(81,localG 82 (uOf () encU sp81))],[],[],[],[],0,[81]⟩
theorem xC:XOk Tryz.prog XC:=XOk.nil.loCons px81 (LocFn.localG _ _)
abbrev CQ:=CP × Int
def SQ (c:CQ):St:=mkS 105 [(0,.one (.c (.ptr 0 0))),(2,.one (.c (.int .i64 c.2)))] [some (82,cellsP c.1.1 c.1.2)]
def getQ:List (Nat × AV) → Mem → Option CQ
 | [(0,.one (.c (.ptr 0 0))),(2,.one (.c (.int .i64 b)))],[some (82,[.str s,.int .i64 n,.str t,.int .i64 a])] => some ((s,⟨n,t,a⟩),b)
 | _,_ => none
theorem getQ_ok:∀ l m c,getQ l m = some c → mkS 105 l m = SQ c:=by
 intro l m c h
 unfold getQ at h
 split at h
 ·cases h; rfl
 ·cases h
def A31:Sx.Frame CQ CQ:=⟨1,105,[0,2],getQ,SQ,[0,2],getQ,SQ⟩
theorem a31:A31.Ok:=.of_eq getQ_ok getQ_ok
def rLet (g:CQ → Tree (XP × CQ)) (s:ByteArray) (p:PS) (b:Int):Tree (XP × CQ) :=
 let c0:=lt p.nx (toInt64 s.size)
 let c:=strAt s p.nx.toNat
 .need (!((c0 == true) && true) || inRange p.nx s.size) (.need (!((letterB c == false) && ((c0 == true) && true)) || inRange p.nx s.size)
  (.br (bif c0 then bif letterB c then true else digitB c else false) (g ((s,⟨IntKind.wrap .i64 (p.nx + 1),p.tx,p.pos⟩),b)) (.leaf (.exit 0,((s,p),b)))))
theorem rLet_eq (g:CQ → Tree (XP × CQ)) (s t:ByteArray) (n a b:Int):roundC A31 Tryz.prog HB XC 10 31 0 g ((s,⟨n,t,a⟩),b) = rLet g s ⟨n,t,a⟩ b:=by kernel_rfl
def letF:Nat → ByteArray → Int → Option Int
 | 0,_,_ => none
 | k + 1, s, n =>
   bif lt n (toInt64 s.size) then
    bif inRange n s.size then
     bif wordB (strAt s n.toNat) then letF k s (IntKind.wrap .i64 (n + 1)) else some n
    else none
   else some n
def opD:Option Int → Bool | some _ => true | none => false
def opN:Option Int → Int | some n => n | none => 0
def gLet (k:Nat) (c:CQ):Tree (XP × CQ) :=
 .need (opD (letF k c.1.1 c.1.2.nx)) (.leaf (.exit 0,((c.1.1,⟨opN (letF k c.1.1 c.1.2.nx),c.1.2.tx,c.1.2.pos⟩),c.2)))
theorem gLet_sel (k:Nat) (c:CQ):(gLet k c).sel = match letF k c.1.1 c.1.2.nx with | some n => some (.exit 0,((c.1.1,⟨n,c.1.2.tx,c.1.2.pos⟩),c.2)) | none => none:=by
 unfold gLet
 cases letF k c.1.1 c.1.2.nx <;> rfl
theorem let_step (k:Nat) (c:CQ) (x:XP × CQ) (h:(gLet (k + 1) c).sel = some x):(roundC A31 Tryz.prog HB XC 10 31 0 (gLet k) c).sel = some x:=by
 obtain ⟨⟨s,⟨n,t,a⟩⟩,b⟩:=c
 rw [rLet_eq]
 rw [gLet_sel] at h
 simp only [letF] at h
 simp only [rLet,sel_br,sel_need,sel_leaf,gLet_sel]
 revert h
 unfold wordB
 generalize lt n (toInt64 s.size) = c1
 generalize inRange n s.size = c2
 generalize letterB (strAt s n.toNat) = c3
 generalize digitB (strAt s n.toNat) = c4
 cases c1 <;> cases c2 <;> cases c3 <;> cases c4 <;> exact fun h => h
theorem let_core (k:Nat):CoreOk Tryz.prog 31 0 1 SQ SQ (gLet k) :=
 CoreOk.fuel a31 hB xC 10 (fun _ => rfl) let_step k
def letS (s:ByteArray) (n:Int):Option Int:=letF (s.size + 1) s n
def g31 (c:CQ):Tree (XP × CQ):=gLet (c.1.1.size + 1) c
theorem core31:CoreOk Tryz.prog 31 0 1 SQ SQ g31:=fun fn c b h1 h2 h3 c0 x hx => let_core _ fn c b h1 h2 h3 c0 x hx
def cutOk (s:ByteArray) (a b:Int):Bool:=le 0 a && le a b && le b (toInt64 s.size)
def tokS (s:ByteArray) (st:Int):PR Int Unit :=
 match letS s st with
 | none => .stuck
 | some n => bif (bif n == st then lt n (toInt64 s.size) else false) then
   bif inRange n s.size && (le 0 (IntKind.wrap .i32 (strAt s n.toNat)) && lt (IntKind.wrap .i32 (strAt s n.toNat)) 256) then
    bif signB (IntKind.wrap .i32 (strAt s n.toNat)) then .ret () (IntKind.wrap .i64 (n + 1)) else .pan st
   else .stuck
   else .ret () n
def advS (s:ByteArray) (p:PS):PR PS Unit :=
 match skipS s p.nx with
 | none => .stuck
 | some (_,st) => match tokS s st with
  | .stuck => .stuck
  | .pan a => .pan a
  | .ret _ n => bif cutOk s st n then .ret () ⟨n,strSub s st.toNat n.toNat,st⟩ else .stuck
def sp31:List A1 → ByteArray → PS → PR PS Unit
 | [],s,p => advS s p
 | _,_,_ => .stuck
noncomputable abbrev HC:Hd:=⟨[pF 81,(82,oG G82),(83,oG G83),(113,oG G113)],[(84,nG G84)],[],[]⟩
theorem hC:HdOk Tryz.prog HC:=hB.ucCons p84
def XD:HdP:=⟨[(81,localG 82 (uOf () encU sp81))],[],[],[((31,0),loopC A31 g31)],[],0,[81]⟩
theorem xD:XOk Tryz.prog XD:=xC.lxCons (core31.lx a31)
def tAdv (s:ByteArray) (p:PS):Tree (Out × List CV) :=
 nxT () (skipP s p) (fun _ p1 =>
  let st:=p1.nx
  let n:=opN (letS s st)
  let fin:=fun m:Int => Tree.need (cutOk s st m) (.leaf (.ret (.tup []),[.str s,.int .i64 m,.str (strSub s st.toNat m.toNat),.int .i64 st]))
  .need (opD (letS s st)) (.br (bif n == st then lt n (toInt64 s.size) else false)
   (.need (inRange n s.size) (.need (strEq signs signs && (le 0 (IntKind.wrap .i32 (strAt s n.toNat)) && lt (IntKind.wrap .i32 (strAt s n.toNat)) 256))
    (.br (!signB (IntKind.wrap .i32 (strAt s n.toNat))) (.leaf (.pan (panV st),anys4)) (fin (IntKind.wrap .i64 (n + 1)))))) (fin n)))
  fun a => .leaf (.pan (panV a),anys4)
theorem tAdv_eq (s t:ByteArray) (n a:Int):oneZ Tryz.prog HC XD 10 31 82 [] [.str s,.int .i64 n,.str t,.int .i64 a] = tAdv s ⟨n,t,a⟩:=by kernel_rfl
theorem adv_tells (s:ByteArray) (p:PS):Tells (tAdv s p) encU s (advS s p):=by
 unfold tAdv advS skipP
 cases hsk:skipS s p.nx with
 | none => exact trivial
 | some r =>
   obtain ⟨b,st⟩:=r
   simp only
   unfold tokS
   cases hl:letS s st with
  | none => exact trivial
  | some n =>
    simp only
    cases h1:(bif n == st then lt n (toInt64 s.size) else false) with
   | false =>
     simp only [cond_false]
     cases h2:cutOk s st n with
    | false => exact trivial
    | true =>
      refine Tells.of_ret ?_
      rw [nxT_ret]
      simp only [hl,opD,opN,sel_need,sel_br,sel_leaf,h1,h2,cond_true,cond_false]
      rfl
   | true =>
     simp only [cond_true]
     cases h2:inRange n s.size with
    | false => simp only [Bool.false_and,cond_false]; exact trivial
    | true =>
      cases h3:(le 0 (IntKind.wrap .i32 (strAt s n.toNat)) && lt (IntKind.wrap .i32 (strAt s n.toNat)) 256) with
     | false => simp only [Bool.and_false,cond_false]; exact trivial
     | true =>
       simp only [Bool.and_true,cond_true]
       have h4:strEq signs signs = true:=rfl
       cases h5:signB (IntKind.wrap .i32 (strAt s n.toNat)) with
      | false =>
        simp only [cond_false]
        refine Tells.of_pan ?_
        rw [nxT_ret]
        simp only [hl,opD,opN,sel_need,sel_br,sel_leaf,h1,h2,h3,h4,h5,cond_true,Bool.not_false,Bool.and_true]
      | true =>
        simp only [cond_true]
        cases h6:cutOk s st (IntKind.wrap .i64 (n + 1)) with
       | false => exact trivial
       | true =>
         refine Tells.of_ret ?_
         rw [nxT_ret]
         simp only [hl,opD,opN,sel_need,sel_br,sel_leaf,h1,h2,h3,h4,h5,h6,cond_true,cond_false,Bool.not_true,Bool.and_true]
         rfl
theorem px31:PxOne Tryz.prog 31 (localG 82 (uOf () encU sp31)):=px_of hC xD 10 31 fun rest s n t a => by
 cases rest with
 | nil =>
   show Tells _ _ _ (advS s ⟨n,t,a⟩)
   rw [tAdv_eq]
   exact adv_tells s ⟨n,t,a⟩
 | cons _ _ => exact trivial
noncomputable abbrev HW:Hd:=⟨[(82,oG G82),(83,oG G83)],[],[],[]⟩
theorem hW:HdOk Tryz.prog HW:=(HdOk.nil.pcCons p83).pcCons p82
abbrev X0:HdP:=⟨[],[],[],[],[],0,[]⟩
theorem x0:XOk Tryz.prog X0:=XOk.nil
abbrev C87:=ByteArray × Bool × Int × Int
def S87 (c:C87):St:=mkS 25 [(0,.one (.c (.str c.1))),(2,.one (.c (.bool c.2.1))),(5,.one (.c (.int .i64 c.2.2.1))),(6,.one (.c (.int .i64 c.2.2.2)))] []
def get87:List (Nat × AV) → Mem → Option C87
 | [(0,.one (.c (.str s))),(2,.one (.c (.bool b))),(5,.one (.c (.int .i64 l))),(6,.one (.c (.int .i64 i)))],[] => some (s,b,l,i)
 | _,_ => none
theorem get87_ok:∀ l m c,get87 l m = some c → mkS 25 l m = S87 c:=by
 intro l m c h
 unfold get87 at h
 split at h
 ·cases h; rfl
 ·cases h
def A87:Sx.Frame C87 C87:=⟨0,25,[0,2,5,6],get87,S87,[0,2,5,6],get87,S87⟩
theorem a87:A87.Ok:=.of_eq get87_ok get87_ok
def r87 (g:C87 → Tree (XP × C87)) (s:ByteArray) (b:Bool) (l i:Int):Tree (XP × C87) :=
 let c:=strAt s i.toNat
 .br (lt i l) (.need (inRange i s.size) (.need (!(((!letterB c) == true) && true) || inRange i s.size) (.br (bif !letterB c then !digitB c else false) (.leaf (.ret,(s,false,l,i))) (g (s,b,l,IntKind.wrap .i64 (i + 1)))))) (.leaf (.exit 0,(s,b,l,i)))
theorem r87_eq (g:C87 → Tree (XP × C87)) (s:ByteArray) (b:Bool) (l i:Int):roundC A87 Tryz.prog HW X0 10 87 0 g (s,b,l,i) = r87 g s b l i:=by kernel_rfl
def wordF:Nat → ByteArray → Int → Int → Option Bool
 | 0,_,_,_ => none
 | k + 1,s,l,i => bif lt i l then (bif inRange i s.size then (bif wordB (strAt s i.toNat) then wordF k s l (IntKind.wrap .i64 (i + 1)) else some false) else none) else some true
def wordI:Nat → ByteArray → Int → Int → Int
 | 0,_,_,i => i
 | k + 1,s,l,i => bif lt i l then (bif wordB (strAt s i.toNat) then wordI k s l (IntKind.wrap .i64 (i + 1)) else i) else i
def obD:Option Bool → Bool | some _ => true | none => false
def obV:Option Bool → Bool | some b => b | none => false
def g87 (k:Nat) (c:C87):Tree (XP × C87) :=
 .need (obD (wordF k c.1 c.2.2.1 c.2.2.2)) (.br (obV (wordF k c.1 c.2.2.1 c.2.2.2)) (.leaf (.exit 0,(c.1,c.2.1,c.2.2.1,wordI k c.1 c.2.2.1 c.2.2.2))) (.leaf (.ret,(c.1,false,c.2.2.1,wordI k c.1 c.2.2.1 c.2.2.2))))
theorem g87_sel (k : Nat) (c : C87) : (g87 k c).sel = match wordF k c.1 c.2.2.1 c.2.2.2 with
  | some true => some (.exit 0,(c.1,c.2.1,c.2.2.1,wordI k c.1 c.2.2.1 c.2.2.2))
  | some false => some (.ret,(c.1,false,c.2.2.1,wordI k c.1 c.2.2.1 c.2.2.2))
  | none => none:=by
 unfold g87
 cases wordF k c.1 c.2.2.1 c.2.2.2 with
 | none => rfl
 | some b => cases b <;> rfl
theorem step87 (k:Nat) (c:C87) (x:XP × C87) (h:(g87 (k + 1) c).sel = some x):(roundC A87 Tryz.prog HW X0 10 87 0 (g87 k) c).sel = some x:=by
 obtain ⟨s,b,l,i⟩:=c
 rw [r87_eq]
 rw [g87_sel] at h
 simp only [wordF,wordI] at h
 simp only [r87,sel_br,sel_need,sel_leaf,g87_sel]
 revert h
 unfold wordB
 generalize lt i l = c1
 generalize inRange i s.size = c2
 generalize letterB (strAt s i.toNat) = c3
 generalize digitB (strAt s i.toNat) = c4
 cases c1 <;> cases c2 <;> cases c3 <;> cases c4 <;> exact fun h => h
theorem core87 (k:Nat):CoreOk Tryz.prog 87 0 0 S87 S87 (g87 k):=CoreOk.fuel a87 hW x0 10 (fun _ => rfl) step87 k
abbrev C162:=ByteArray × Int × Bool × Int × Int × Int
def S162 (c:C162):St:=mkS 45 [(0,.one (.c (.str c.1))),(2,.one (.c (.int .i64 c.2.1))),(3,.one (.c (.bool c.2.2.1))),(4,.one (.c (.int .i64 c.2.2.2.1))),(24,.one (.c (.int .i64 c.2.2.2.2.1))),(25,.one (.c (.int .i64 c.2.2.2.2.2)))] []
def get162:List (Nat × AV) → Mem → Option C162
 | [(0,.one (.c (.str s))),(2,.one (.c (.int .i64 v))),(3,.one (.c (.bool b))),(4,.one (.c (.int .i64 n))),(24,.one (.c (.int .i64 l))),(25,.one (.c (.int .i64 i)))],[] => some (s,v,b,n,l,i)
 | _,_ => none
theorem get162_ok:∀ l m c,get162 l m = some c → mkS 45 l m = S162 c:=by
 intro l m c h
 unfold get162 at h
 split at h
 ·cases h; rfl
 ·cases h
def A162:Sx.Frame C162 C162:=⟨0,45,[0,2,3,4,24,25],get162,S162,[0,2,3,4,24,25],get162,S162⟩
theorem a162:A162.Ok:=.of_eq get162_ok get162_ok
def r162 (g:C162 → Tree (XP × C162)) (s:ByteArray) (v:Int) (b:Bool) (n l i:Int):Tree (XP × C162) :=
 let c:=strAt s i.toNat
 .br (lt i l) (.need (inRange i s.size) (.br (!digitB c) (.leaf (.ret,(s,0,false,n,l,i))) (.need (inRange i s.size) (g (s,v,b,IntKind.wrap .i64 (IntKind.wrap .i64 (10 * n) + IntKind.wrap .i64 (IntKind.wrap .u8 (c - 48))),l,IntKind.wrap .i64 (i + 1)))))) (.leaf (.exit 0,(s,v,b,n,l,i)))
theorem r162_eq (g:C162 → Tree (XP × C162)) (s:ByteArray) (v:Int) (b:Bool) (n l i:Int):roundC A162 Tryz.prog HW X0 10 162 0 g (s,v,b,n,l,i) = r162 g s v b n l i:=by kernel_rfl
def numF:Nat → ByteArray → Int → Int → Int → Option (Bool × Int × Int)
 | 0,_,_,_,_ => none
 | k + 1,s,l,n,i => bif lt i l then (bif inRange i s.size then (bif digitB (strAt s i.toNat) then numF k s l (IntKind.wrap .i64 (IntKind.wrap .i64 (10 * n) + IntKind.wrap .i64 (IntKind.wrap .u8 (strAt s i.toNat - 48)))) (IntKind.wrap .i64 (i + 1)) else some (true,n,i)) else none) else some (false,n,i)
def nfD:Option (Bool × Int × Int) → Bool | some _ => true | none => false
def nfB:Option (Bool × Int × Int) → Bool | some (b,_) => b | none => false
def nfN:Option (Bool × Int × Int) → Int | some (_,n,_) => n | none => 0
def nfI:Option (Bool × Int × Int) → Int | some (_,_,i) => i | none => 0
def g162 (k:Nat) (c:C162):Tree (XP × C162) :=
 let r:=numF k c.1 c.2.2.2.2.1 c.2.2.2.1 c.2.2.2.2.2
 .need (nfD r) (.br (nfB r) (.leaf (.ret,(c.1,0,false,nfN r,c.2.2.2.2.1,nfI r))) (.leaf (.exit 0,(c.1,c.2.1,c.2.2.1,nfN r,c.2.2.2.2.1,nfI r))))
theorem g162_sel (k : Nat) (c : C162) : (g162 k c).sel = match numF k c.1 c.2.2.2.2.1 c.2.2.2.1 c.2.2.2.2.2 with
  | some (true,n,i) => some (.ret,(c.1,0,false,n,c.2.2.2.2.1,i))
  | some (false,n,i) => some (.exit 0,(c.1,c.2.1,c.2.2.1,n,c.2.2.2.2.1,i))
  | none => none:=by
 unfold g162
 cases numF k c.1 c.2.2.2.2.1 c.2.2.2.1 c.2.2.2.2.2 with
 | none => rfl
 | some r => obtain ⟨b,n,i⟩:=r; cases b <;> rfl
theorem step162 (k:Nat) (c:C162) (x:XP × C162) (h:(g162 (k + 1) c).sel = some x):(roundC A162 Tryz.prog HW X0 10 162 0 (g162 k) c).sel = some x:=by
 obtain ⟨s,v,b,n,l,i⟩:=c
 rw [r162_eq]
 rw [g162_sel] at h
 simp only [numF] at h
 simp only [r162,sel_br,sel_need,sel_leaf,g162_sel]
 revert h
 generalize lt i l = c1
 generalize inRange i s.size = c2
 generalize digitB (strAt s i.toNat) = c4
 cases c1 <;> cases c2 <;> cases c4 <;> exact fun h => h
theorem core162 (k:Nat):CoreOk Tryz.prog 162 0 0 S162 S162 (g162 k):=CoreOk.fuel a162 hW x0 10 (fun _ => rfl) step162 k
def gg87 (c:C87):Tree (XP × C87):=g87 (c.1.size + 1) c
def gg162 (c:C162):Tree (XP × C162):=g162 (c.1.size + 1) c
def X1:HdP:=⟨[],[],[],[((87,0),loopC A87 gg87),((162,0),loopC A162 gg162)],[],0,[]⟩
theorem x1:XOk Tryz.prog X1:=(XOk.nil.lxCons (CoreOk.lx (g:=gg162) a162 fun fn c b h1 h2 h3 c0 x hx => core162 _ fn c b h1 h2 h3 c0 x hx)).lxCons (CoreOk.lx (g:=gg87) a87 fun fn c b h1 h2 h3 c0 x hx => core87 _ fn c b h1 h2 h3 c0 x hx)
def isWordS (s:ByteArray):Option Bool:=match wordF (s.size + 1) s (toInt64 s.size) 0 with
 | some b => some (bif b then lt 0 (toInt64 s.size) else false)
 | none => none
def G87:List A1 → Option (Bool × AV)
 | [.c (.str s)] => some (obD (isWordS s),.one (.c (.bool (obV (isWordS s)))))
 | _ => none
def t87 (s:ByteArray):Tree AV :=
 let r:=wordF (s.size + 1) s (toInt64 s.size) 0
 .need (obD r) (.br (obV r) (.leaf (.one (.c (.bool (lt 0 (toInt64 s.size)))))) (.leaf (.one (.c (.bool false)))))
theorem t87_eq (s:ByteArray):hcTreeP Tryz.prog HW X1 10 87 [.c (.str s)] = t87 s:=by kernel_rfl
theorem p87:UcOne Tryz.prog 87 (nG G87):=by
 refine ucOneP_of_all (H:=HW) (X:=X1) hW x1 10 87 ?_
 intro args r h
 unfold G87 at h
 split at h
 ·rename_i s
  rw [t87_eq]
  simp only [Option.some.injEq,Prod.mk.injEq] at h
  obtain ⟨h1,rfl⟩:=h
  unfold isWordS at h1 ⊢
  unfold t87
  revert h1
  cases wordF (s.size + 1) s (toInt64 s.size) 0 with
  | none => exact fun h => by cases h
  | some b => cases b <;> exact fun _ => sel_all rfl leA.refl
 ·cases h
theorem idx0_ok (s:ByteArray) (h:lt 1 (toInt64 s.size) = true):inRange 0 s.size = true:=by
 unfold lt toInt64 at h
 have:=of_decide_eq_true h
 unfold inRange le lt toInt64
 simp only [Bool.and_eq_true,decide_eq_true_eq]
 simp at this ⊢
 omega
def numberS (s:ByteArray):Option (Int × Bool) :=
 bif bif bif strEq s (bs []) then true else bif lt 1 (toInt64 s.size) then strAt s 0 == 48 else false then true else lt 10 (toInt64 s.size) then some (0,false)
 else match numF (s.size + 1) s (toInt64 s.size) 0 0 with
  | some (true,_,_) => some (0,false)
  | some (false,n,_) => some (n,le n 1073741824)
  | none => none
def nmD:Option (Int × Bool) → Bool | some _ => true | none => false
def nmV:Option (Int × Bool) → Int | some (n,_) => n | none => 0
def nmO:Option (Int × Bool) → Bool | some (_,b) => b | none => false
def G162:List A1 → Option (Bool × AV)
 | [.c (.str s)] => some (nmD (numberS s),.tup [.c (.int .i64 (nmV (numberS s))),.c (.bool (nmO (numberS s)))])
 | _ => none
def t162 (s:ByteArray):Tree AV :=
 let c1:=strEq s (bs [])
 let c2:=lt 1 (toInt64 s.size)
 let r:=numF (s.size + 1) s (toInt64 s.size) 0 0
 .need (!((c2 == true) && ((c1 == false) && true)) || inRange 0 s.size)
  (.br (bif bif c1 then true else bif c2 then strAt s 0 == 48 else false then true else lt 10 (toInt64 s.size)) (.leaf (.tup [.c (.int .i64 0),.c (.bool false)]))
   (.need (nfD r) (.br (nfB r) (.leaf (.tup [.c (.int .i64 0),.c (.bool false)])) (.leaf (.tup [.c (.int .i64 (nfN r)),.c (.bool (le (nfN r) 1073741824))])))))
theorem t162_eq (s:ByteArray):hcTreeP Tryz.prog HW X1 10 162 [.c (.str s)] = t162 s:=by kernel_rfl
theorem p162:UcOne Tryz.prog 162 (nG G162):=by
 refine ucOneP_of_all (H:=HW) (X:=X1) hW x1 10 162 ?_
 intro args r h
 unfold G162 at h
 split at h
 ·rename_i s
  rw [t162_eq]
  simp only [Option.some.injEq,Prod.mk.injEq] at h
  obtain ⟨h1,rfl⟩:=h
  have hn:(!((lt 1 (toInt64 s.size) == true) && ((strEq s (bs []) == false) && true)) || inRange 0 s.size) = true:=by
   cases h2:lt 1 (toInt64 s.size) with
   | false => rfl
   | true => rw [idx0_ok s h2]; simp
  unfold t162
  unfold numberS at h1 ⊢
  refine ⟨hn,?_⟩
  revert h1
  cases (bif bif strEq s (bs []) then true else bif lt 1 (toInt64 s.size) then strAt s 0 == 48 else false then true else lt 10 (toInt64 s.size)) with
  | true => exact fun _ => sel_all rfl leA.refl
  | false =>
    cases numF (s.size + 1) s (toInt64 s.size) 0 0 with
   | none => exact fun h => by cases h
   | some r => obtain ⟨b,n,i⟩:=r; cases b <;> exact fun _ => sel_all rfl leA.refl
 ·cases h
theorem idx1_ok (s:ByteArray) (h:(toInt64 s.size != 2) = false):inRange 0 s.size = true ∧ inRange 1 s.size = true:=by
 unfold toInt64 at h
 simp at h
 unfold inRange le lt toInt64
 simp only [Bool.and_eq_true,decide_eq_true_eq]
 simp
 omega
def siteC (s:ByteArray):Bool:=bif bif (toInt64 s.size != 2) then true else strAt s 0 != 115 then true else !digitB (strAt s 1)
def siteV (s:ByteArray):Int:=bif siteC s then 0 else IntKind.wrap .i64 (IntKind.wrap .u8 (strAt s 1 - 48))
def siteO (s:ByteArray):Bool:=!siteC s
def G86:List A1 → Option AV
 | [.c (.str s)] => some (.tup [.c (.int .i64 (siteV s)),.c (.bool (siteO s))])
 | _ => none
def t86 (s:ByteArray):Tree AV :=
 let c1:=(toInt64 s.size != 2)
 let c2:=bif c1 then true else strAt s 0 != 115
 .need (!((c1 == false) && true) || inRange 0 s.size) (.need (!((c2 == false) && true) || inRange 1 s.size)
  (.br (bif c2 then true else !digitB (strAt s 1)) (.leaf (.tup [.c (.int .i64 0),.c (.bool false)]))
   (.need (inRange 1 s.size) (.leaf (.tup [.c (.int .i64 (IntKind.wrap .i64 (IntKind.wrap .u8 (strAt s 1 - 48)))),.c (.bool true)])))))
theorem t86_eq (s:ByteArray):(evFn Tryz.prog HW 10 86 [.c (.str s)] []).vals = t86 s:=by kernel_rfl
theorem t86_all (s:ByteArray):(t86 s).All (fun z => z = .tup [.c (.int .i64 (siteV s)),.c (.bool (siteO s))]):=by
 unfold t86 siteV siteO siteC
 cases h1:(toInt64 s.size != 2) with
 | true => exact sel_all rfl rfl
 | false =>
   obtain ⟨h2,h3⟩:=idx1_ok s h1
   rw [h2,h3]
   cases (strAt s 0 != 115) with
  | true => exact sel_all rfl rfl
  | false => cases digitB (strAt s 1) <;> exact sel_all rfl rfl
theorem p86:PcOne Tryz.prog 86 G86:=pcOne_of_tree hW 10 86 fun args r h => by
 unfold G86 at h
 split at h
 ·rename_i s
  obtain rfl:=Option.some.inj h
  exact ⟨rfl,_,t86_eq s,t86_all s⟩
 ·cases h
noncomputable abbrev HN0:Hd:=⟨[(86,oG G86)],[(87,nG G87)],[],[]⟩
theorem hN0:HdOk Tryz.prog HN0:=(HdOk.nil.pcCons p86).ucCons p87
def isNameS (s:ByteArray):Bool :=
 bif bif bif bif obV (isWordS s) then le (toInt64 s.size) 32 else false then le 97 (strAt s 0) else false then le (strAt s 0) 122 else false then !siteO s else false
def nameN (s:ByteArray):Bool :=
 let b1:=bif obV (isWordS s) then le (toInt64 s.size) 32 else false
 let b2:=bif b1 then le 97 (strAt s 0) else false
 obD (isWordS s) && ((!((b1 == true) && true) || inRange 0 s.size) && (!((b2 == true) && true) || inRange 0 s.size))
def G34:List A1 → Option (Bool × AV)
 | [.c (.str s)] => some (nameN s,.one (.c (.bool (isNameS s))))
 | _ => none
def t34 (s:ByteArray):Tree AV :=
 let b1:=bif obV (isWordS s) then le (toInt64 s.size) 32 else false
 let b2:=bif b1 then le 97 (strAt s 0) else false
 let b3:=bif b2 then le (strAt s 0) 122 else false
 .need (obD (isWordS s)) (.need (!((b1 == true) && true) || inRange 0 s.size) (.need (!((b2 == true) && true) || inRange 0 s.size)
  (.leaf (.one (.c (.bool (bif b3 then !siteO s else false)))))))
theorem t34_eq (s:ByteArray):hcTree Tryz.prog HN0 10 34 [.c (.str s)] = t34 s:=by kernel_rfl
theorem p34:UcOne Tryz.prog 34 (nG G34):=by
 refine ucOne_of_tree (H:=HN0) hN0 10 34 ?_
 intro args r h
 unfold G34 at h
 split at h
 ·rename_i s
  refine ⟨_,t34_eq s,?_⟩
  simp only [Option.some.injEq,Prod.mk.injEq] at h
  obtain ⟨h1,rfl⟩:=h
  unfold nameN at h1
  simp only [Bool.and_eq_true] at h1
  unfold t34 isNameS
  exact ⟨h1.1,by simpa using h1.2.1,by simpa using h1.2.2,leA.refl⟩
 ·cases h
end Go.Proofs.YtiefjlcakpdfeaaGreat
