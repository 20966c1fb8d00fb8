/-
 Part TaU of the proof: EngPl EngPm EngPn RbA Shelf RbT RbSa.
-/
import Derived.Test.YtiefjlcakpdfeaaGreatDoorTaT
import Derived.Shelf.Strings.Builder1
import Derived.Shelf.Strings.Builder2
import Derived.Shelf.Strings.OnBuilder
import Derived.Shelf.Small.Utf8
import Derived.Shelf.Small.Strs
import Derived.Shelf.Strconv.Itoa0
import Derived.Shelf.Strconv.Itoa1
import Derived.Shelf.LaysM
import Derived.Shelf.Strconv.Itoa2
import Derived.Shelf.Strconv.Itoa3
import Derived.Shelf.Strings.Search1
import Derived.Shelf.Strings.Runes
import Derived.Shelf.Bits.Mul64
import Derived.Test.YtiefjlcakpdfeaaGreatDoorProg
import Derived.Test.YtiefjlcakpdfeaaGreatDoorRows
namespace Go.Sx
open Go Go.RowKit
variable {P:Program}
def LxOne (P:Program) (f i:Nat) (h:Nat->St->Tree (XP × St)):Prop :=
 ∀ fn c b,P.funcs[f]? = some fn->fn.body=some c->jf c i=some b->Nq P b h
def SxOne (P:Program) (f:Nat) (h:Nat->St->Tree (XP × St)):Prop :=
 ∀ fn c b,P.funcs[f]? = some fn->fn.body=some c->b ∈ ax c->L2 P b h
theorem XOk.lxCons {px rx nc lx sx r lo} {f i:Nat} {g:Nat->St->Tree (XP × St)} (h:XOk P ⟨px,rx,nc,lx,sx,r,lo⟩) (h1:LxOne P f i g):XOk P ⟨px,rx,nc,((f,i),g)::lx,sx,r,lo⟩:=by
 refine ⟨h.px,h.rx,h.nc,fun f' fn c i' b g' hf hb hi hl => ?_,h.sx,h.loc⟩;simp only [Wk] at hl;split at hl
 ·rename_i e;simp only [aTq,beq_iff_eq] at e;simp at hl;subst hl;obtain ⟨rfl,rfl⟩:=e;exact h1 fn c b hf hb hi
 ·exact h.lx f' fn c i' b g' hf hb hi hl
theorem XOk.sxCons {px rx nc lx sx r lo} {f:Nat} {g:Nat->St->Tree (XP × St)} (h:XOk P ⟨px,rx,nc,lx,sx,r,lo⟩) (h1:SxOne P f g):XOk P ⟨px,rx,nc,lx,(f,g)::sx,r,lo⟩:=by
 refine ⟨h.px,h.rx,h.nc,h.lx,fun f' fn c b g' hf hb hi hl => ?_,h.loc⟩;simp only [XW] at hl;split at hl
 ·rename_i e;have e:=eq_of_beq e;subst e;simp at hl;subst hl;exact h1 fn c b hf hb hi
 ·exact h.sx f' fn c b g' hf hb hi hl
def jes (P:Program) (H:Hd) (X:HdP) (d f i:Nat) (g:Nat->St->Tree (XP × St)) (K:Nat) (s:St):Tree (XP × St) :=
 (jZ P H X (jU P H d) (zD P H X d) f K (i+1) (qd P f i) ⟨s,[]⟩).bind fun y=>if y.2.dl.isEmpty then (match y.1 with
  | .normal=>g K y.2.s
  | e=>.leaf (e,y.2.s)) else .fail
theorem LxOne.round {H:Hd} (hH:HdOk P H) {X:HdP} (hX:XOk P X) (d:Nat) {f i:Nat} {g:Nat->St->Tree (XP × St)} (h:LxOne P f i g):LxOne P f i (jes P H X d f i g):=by
 intro fn c b hf hc hb K s x hx
 have hlb:qd P f i=b:=by
  unfold qd;rw [jd];simp only [Array.getElem?_toList,hf,hc,hb]
 unfold jes at hx;rw [hlb] at hx;obtain ⟨⟨y,s'⟩,h1,h2⟩:=jg hx;simp only at h2;split at h2
 rotate_left
 ·simp [Tree.sel] at h2
 rename_i hdl;obtain ⟨s',dl⟩:=s';have hd:=List.isEmpty_iff.1 hdl;simp only at hd;subst hd
 have go : ∀ N, (∀ (F : Nat -> Prop) (w : World) (bs : List BI) (a : Act), K <= bs.length -> PRel P F w bs ⟨s', []⟩ a -> ∀ Q : Exit -> Act -> World -> Prop,
   (∀ F' w' bs' a' e,Ext K F w bs F' w' bs'->PRel P F' w' bs' ⟨x.2,[]⟩ a'->XRel F' w' bs' x.1 e->Q e a' w')->∀ e,XRel F w bs y e->Exit.then (Code.rounds P b Q N) Q e a w) ->
   ∃ N,∀ (F:Nat->Prop) (w:World) (bs:List BI) (a:Act),K<=bs.length->PRel P F w bs ⟨s,[]⟩ a->∀ Q:Exit->Act->World->Prop,
    (∀ F' w' bs' a' e,Ext K F w bs F' w' bs'->PRel P F' w' bs' ⟨x.2,[]⟩ a'->XRel F' w' bs' x.1 e->Q e a' w')->Code.rounds P b Q N a w:=by
  intro N hN;refine ⟨N+1,fun F w bs a hK hs Q hQ => ?_⟩;rw [rounds_succ];refine yU hH.pc hX.rx hX.nc (qY hH d) (yn hH hX d) f K b (i+1) ⟨s,[]⟩ h1 (fun j b' h' hj hk=>hH.lh f fn c (i+1+j) b' h' hf hc (qt hb hj) hk) (fun j b' h' hj hk=>hX.lx f fn c (i+1+j) b' h' hf hc (qt hb hj) hk) (fun b' h' hj hk=>hX.sx f fn c b' h' hf hc (scopes_loop hb hj) hk) hK hs fun F' w' bs' a' e he hs' hx' => ?_;exact hN F' w' bs' a' (he.le hK) hs' Q (fun F'' w'' bs'' a'' e' he' hs'' hx''=>hQ F'' w'' bs'' a'' e' (he.trans he' (lRq _)) hs'' hx'') e hx'
 cases y with
 | normal =>
   obtain ⟨N,hN⟩:=h fn c b hf hc hb K s' x h2;exact go N fun F w bs a hK hs Q hQ e he=>by cases he;exact hN F w bs a hK hs Q hQ
 | exit k =>
   simp only [Tree.sel,sIq] at h2;subst h2;exact go 0 fun F w bs a hK hs Q hQ e he=>by cases he;exact hQ F w bs a _ Ext.refl hs rfl
 | ret =>
   simp only [Tree.sel,sIq] at h2;subst h2;exact go 0 fun F w bs a hK hs Q hQ e he=>by cases he;exact hQ F w bs a _ Ext.refl hs rfl
 | pan z =>
   simp only [Tree.sel,sIq] at h2;subst h2;exact go 0 fun F w bs a hK hs Q hQ e he=>by obtain ⟨v,rfl,hv⟩:=he;exact hQ F w bs a _ Ext.refl hs ⟨v,rfl,hv⟩
 | goto l =>
   simp only [Tree.sel,sIq] at h2;subst h2;exact go 0 fun F w bs a hK hs Q hQ e he=>by cases he;exact hQ F w bs a _ Ext.refl hs rfl
 where
 scopes_loop:∀ {c:Code} {i:Nat} {b b':Code},jf c i=some b->b' ∈ ax b->b' ∈ ax c
  | .seq x y, i, b, b', h, hb => by
    simp only [jf] at h;simp only [ax,List.mem_append];split at h
    ·exact .inl (scopes_loop h hb)
    ·exact .inr (scopes_loop h hb)
  | .cond _ x y, i, b, b', h, hb => by
    simp only [jf] at h;simp only [ax,List.mem_append];split at h
    ·exact .inl (scopes_loop h hb)
    ·exact .inr (scopes_loop h hb)
  | .block _ x,i,b,b',h,hb=>by simp only [jf] at h;simp only [ax];exact scopes_loop h hb
  | .loop x,0,b,b',h,hb=>by simp only [jf,sIq] at h;subst h;simpa only [ax] using hb
  | .loop x,i+1,b,b',h,hb=>by simp only [jf] at h;simp only [ax];exact scopes_loop h hb
  | .scope x,i,b,b',h,hb=>by simp only [jf] at h;simp only [ax,List.mem_cons];exact .inr (scopes_loop h hb)
  | .rangeFunc _ _ x y, i, b, b', h, hb => by
    simp only [jf] at h;simp only [ax,List.mem_append];split at h
    ·exact .inl (scopes_loop h hb)
    ·exact .inr (scopes_loop h hb)
  | .skip,_,_,_,h,_=>by simp [jf] at h
  | .region _ _ _,_,_,_,h,_=>by simp [jf] at h
  | .exit _,_,_,_,h,_=>by simp [jf] at h
  | .label _,_,_,_,h,_=>by simp [jf] at h
  | .goto _,_,_,_,h,_=>by simp [jf] at h
  | .ret,_,_,_,h,_=>by simp [jf] at h
  | .refuse _,_,_,_,h,_=>by simp [jf] at h
def jT:Code->Nat->Option (Code × Nat)
 | .seq a b,n=>match jT a n with
  | some r=>some r
  | none=>jT b (n+ji a)
 | .cond _ a b,n=>match jT a n with
  | some r=>some r
  | none=>jT b (n+ji a)
 | .block _ b,n=>jT b n
 | .scope b,n=>some (b,n)
 | _,_=>none
def ke (l:Nat):Code->Nat
 | .seq a b=>match findLabel a l with
  | some _=>ke l a
  | none=>ji a+ke l b
 | _=>0
theorem Yi {l:Nat}:∀ {c r:Code},findLabel c l=some r->ke l c+ji r=ji c
 | .seq a b, r, h => by
   simp only [findLabel] at h;simp only [ke];split at h
   ·rename_i ra ha;simp only [sIq] at h;subst h;rw [ha];simp only [ji]
    have:=Yi ha
    omega
   ·rename_i ha;rw [ha];simp only [ji]
    have:=Yi h
    omega
 | .label l', r, h => by
   simp only [findLabel] at h;split at h
   ·simp at h;subst h;rfl
   ·simp at h
 | .skip,_,h=>by simp [findLabel] at h
 | .region _ _ _,_,h=>by simp [findLabel] at h
 | .cond _ _ _,_,h=>by simp [findLabel] at h
 | .block _ _,_,h=>by simp [findLabel] at h
 | .loop _,_,h=>by simp [findLabel] at h
 | .scope _,_,h=>by simp [findLabel] at h
 | .rangeFunc _ _ _ _,_,h=>by simp [findLabel] at h
 | .exit _,_,h=>by simp [findLabel] at h
 | .goto _,_,h=>by simp [findLabel] at h
 | .ret,_,h=>by simp [findLabel] at h
 | .refuse _,_,h=>by simp [findLabel] at h
theorem Y2 {l:Nat}:∀ {c r:Code} {i:Nat} {b:Code},findLabel c l=some r->jf r i=some b->jf c (ke l c+i)=some b
 | .seq x y, r, i, b, h, hb => by
   simp only [findLabel] at h;simp only [ke];split at h
   ·rename_i ra ha;simp only [sIq] at h;subst h;rw [ha];have hn:=Yi ha;simp only [jf] at hb ⊢;split at hb
    ·rw [if_pos (by omega)]
     exact Y2 ha hb
    ·rw [if_neg (by omega)]
     rw [← hb];congr 1;omega
   ·rename_i ha;rw [ha];simp only [jf];rw [if_neg (by omega),show ji x+ke l y+i - ji x=ke l y+i by omega]
    exact Y2 h hb
 | .label l', r, i, b, h, hb => by
   simp only [findLabel] at h;split at h
   ·simp at h;subst h;simp [jf] at hb
   ·simp at h
 | .skip,_,_,_,h,_=>by simp [findLabel] at h
 | .region _ _ _,_,_,_,h,_=>by simp [findLabel] at h
 | .cond _ _ _,_,_,_,h,_=>by simp [findLabel] at h
 | .block _ _,_,_,_,h,_=>by simp [findLabel] at h
 | .loop _,_,_,_,h,_=>by simp [findLabel] at h
 | .scope _,_,_,_,h,_=>by simp [findLabel] at h
 | .rangeFunc _ _ _ _,_,_,_,h,_=>by simp [findLabel] at h
 | .exit _,_,_,_,h,_=>by simp [findLabel] at h
 | .goto _,_,_,_,h,_=>by simp [findLabel] at h
 | .ret,_,_,_,h,_=>by simp [findLabel] at h
 | .refuse _,_,_,_,h,_=>by simp [findLabel] at h
theorem Xk {l:Nat}:∀ {c r b:Code},findLabel c l=some r->b ∈ ax r->b ∈ ax c
 | .seq x y, r, b, h, hb => by
   simp only [findLabel] at h;simp only [ax,List.mem_append];split at h
   ·rename_i ra ha;simp only [sIq] at h;subst h;simp only [ax,List.mem_append] at hb;rcases hb with hb | hb
    ·exact .inl (Xk ha hb)
    ·exact .inr hb
   ·exact .inr (Xk h hb)
 | .label l', r, b, h, hb => by
   simp only [findLabel] at h;split at h
   ·simp at h;subst h;simp [ax] at hb
   ·simp at h
 | .skip,_,_,h,_=>by simp [findLabel] at h
 | .region _ _ _,_,_,h,_=>by simp [findLabel] at h
 | .cond _ _ _,_,_,h,_=>by simp [findLabel] at h
 | .block _ _,_,_,h,_=>by simp [findLabel] at h
 | .loop _,_,_,h,_=>by simp [findLabel] at h
 | .scope _,_,_,h,_=>by simp [findLabel] at h
 | .rangeFunc _ _ _ _,_,_,h,_=>by simp [findLabel] at h
 | .exit _,_,_,h,_=>by simp [findLabel] at h
 | .goto _,_,_,h,_=>by simp [findLabel] at h
 | .ret,_,_,h,_=>by simp [findLabel] at h
 | .refuse _,_,_,h,_=>by simp [findLabel] at h
theorem zM:∀ {c0:Code} {n0:Nat} {c:Code} {n:Nat},jT c0 n0=some (c,n)->n0<=n∧(∀ i b,jf c i=some b->jf c0 (n - n0+i)=some b)∧c ∈ ax c0∧(∀ b,b ∈ ax c->b ∈ ax c0)
 | .seq x y, n0, c, n, h => by
   simp only [jT] at h;split at h
   ·rename_i r hr;simp only [sIq] at h;subst h;obtain ⟨h1,h2,h3,h4⟩:=zM hr;refine ⟨h1,fun i b hb => ?_,by simp only [ax,List.mem_append];exact .inl h3,fun b hb=>by simp only [ax,List.mem_append];exact .inl (h4 b hb)⟩
    have:=h2 i b hb
    simp only [jf];rw [if_pos (lt_nloops this)];exact this
   ·obtain ⟨h1,h2,h3,h4⟩:=zM h;refine ⟨by omega,fun i b hb => ?_,by simp only [ax,List.mem_append];exact .inr h3,fun b hb=>by simp only [ax,List.mem_append];exact .inr (h4 b hb)⟩
    simp only [jf];rw [if_neg (by omega),show n - n0+i - ji x=n - (n0+ji x)+i by omega]
    exact h2 i b hb
 | .cond _ x y, n0, c, n, h => by
   simp only [jT] at h;split at h
   ·rename_i r hr;simp only [sIq] at h;subst h;obtain ⟨h1,h2,h3,h4⟩:=zM hr;refine ⟨h1,fun i b hb => ?_,by simp only [ax,List.mem_append];exact .inl h3,fun b hb=>by simp only [ax,List.mem_append];exact .inl (h4 b hb)⟩
    have:=h2 i b hb
    simp only [jf];rw [if_pos (lt_nloops this)];exact this
   ·obtain ⟨h1,h2,h3,h4⟩:=zM h;refine ⟨by omega,fun i b hb => ?_,by simp only [ax,List.mem_append];exact .inr h3,fun b hb=>by simp only [ax,List.mem_append];exact .inr (h4 b hb)⟩
    simp only [jf];rw [if_neg (by omega),show n - n0+i - ji x=n - (n0+ji x)+i by omega]
    exact h2 i b hb
 | .block _ x, n0, c, n, h => by
   simp only [jT] at h;obtain ⟨h1,h2,h3,h4⟩:=zM h;exact ⟨h1,fun i b hb=>by simp only [jf];exact h2 i b hb,by simpa only [ax] using h3,fun b hb=>by simpa only [ax] using h4 b hb⟩
 | .scope x, n0, c, n, h => by
   simp only [jT,sIq,pIq] at h;obtain ⟨rfl,rfl⟩:=h;exact ⟨lRq _,fun i b hb=>by simp only [jf,Nat.sub_self,Nat.zero_add];exact hb,by simp [ax],fun b hb=>by simp only [ax,List.mem_cons];exact .inr hb⟩
 | .skip,_,_,_,h=>by simp [jT] at h
 | .region _ _ _,_,_,_,h=>by simp [jT] at h
 | .loop _,_,_,_,h=>by simp [jT] at h
 | .rangeFunc _ _ _ _,_,_,_,h=>by simp [jT] at h
 | .exit _,_,_,_,h=>by simp [jT] at h
 | .label _,_,_,_,h=>by simp [jT] at h
 | .goto _,_,_,_,h=>by simp [jT] at h
 | .ret,_,_,_,h=>by simp [jT] at h
 | .refuse _,_,_,_,h=>by simp [jT] at h
 where
 lt_nloops {c:Code} {i:Nat} {b:Code} (h:jf c i=some b):i<ji c:=by
  rcases lOq i (ji c) with h' | h'
  ·exact h'
  ·exact absurd h (by rw [evCode_ok.nthLoop_none c i h'];simp)
def zB (P:Program) (f:Nat):Code × Nat :=
 match nth P.funcs.toList f with
 | some fn=>match fn.body with
  | some c=>match jT c 0 with
   | some r=>r
   | none=>(.skip,0)
  | none=>(.skip,0)
 | none=>(.skip,0)
def KG (P:Program) (f l:Nat):Code × Nat :=
 match findLabel (zB P f).1 l with
 | some r=>(r,(zB P f).2+ke l (zB P f).1)
 | none=>(.skip,0)
def localG (T:TypeId) (u:List A1->List CV->Tree (Out × List CV)):List A1->Mem->Tree (Out × Mem)
 | .c (.ptr b 0)::rest,mem=>match nth mem b with
  | some (some (T',cs))=>if T'==T&&!je cs&&cs.all closedC&&rest.all jx then (u rest cs).bind fun r=>.leaf (r.1,jk mem b (some (T,r.2))) else .fail
  | _=>.fail
 | _,_=>.fail
theorem G1 {F w bs bs'} {l:List CV} {vs:List Value} (h:All2 (CV.Rel F w bs) l vs) (hc:l.all closedC=true):All2 (CV.Rel F w bs') l vs:=by
 induction h with
 | nil=>exact .nil
 | cons h _ ih =>
   simp only [List.all_cons,aTq] at hc;exact .cons (h.closed hc.1) (ih hc.2)
theorem Jc {F w bs bs'} {l:List A1} {vs:List Value} (h:All2 (A1.Rel F w bs) l vs) (hc:l.all jx=true):All2 (A1.Rel F w bs') l vs:=by
 induction h with
 | nil=>exact .nil
 | cons h _ ih =>
   simp only [List.all_cons,aTq] at hc;exact .cons (h.closed hc.1) (ih hc.2)
theorem MemRel.lone {F w bs mem} (hm:MemRel P F w bs mem) {b:Nat} {T:TypeId} {cs:List CV} (hb:nth mem b=some (some (T,cs))) (hr:je cs=false) (hc:cs.all closedC=true) {x:BI} (hx:nth bs b=some x):MemRel P F w [x] [some (T,cs)]:=by
 have key:∀ k T' cs',nth [some (T,cs)] k=some (some (T',cs'))->k=0∧T'=T∧cs'=cs:=by
  intro k T' cs' hk
  match k,hk with
  | 0,hk=>simp [nth] at hk;exact ⟨rfl,hk.1.symm,hk.2.symm⟩
  | k+1,hk=>simp [nth] at hk
 refine ⟨rfl,fun k y T' cs' hk hc' hv => ?_,fun k k' y y' T1 cs1 T2 cs2 _ _ h3 h4 _ _ _ => ?_,fun k T' cs' y hc' hrr hk => ?_,fun k T' fz' es' n' ρ' y hc' hk => ?_,fun k T' f i st cs' y hc' _ => ?_⟩
 ·obtain ⟨rfl,rfl,rfl⟩:=key k T' cs' hc';simp only [nth,sIq] at hk;subst hk;exact hm.loc b x _ _ hx hb (j7 hr)
 ·rw [(key k T1 cs1 h3).1,(key k' T2 cs2 h4).1]
 ·obtain ⟨rfl,rfl,rfl⟩:=key k T' cs' hc';simp only [nth,sIq] at hk;subst hk;obtain ⟨vs,h1,h2⟩:=hm.cont b _ _ x hb hr hx;exact ⟨vs,h1,G1 h2 hc⟩
 ·obtain ⟨_,_,e⟩:=key k T' _ hc';rw [← e] at hr;simp [je] at hr
 ·obtain ⟨_,_,e⟩:=key k T' _ hc';rw [← e] at hr;simp [je] at hr
theorem MemRel.unlone {F w bs mem} (hm : MemRel P F w bs mem) {b : Nat} {T : TypeId} {cs : List CV} (hb : nth mem b = some (some (T, cs))) (hr : je cs = false) {x : BI} (hx : nth bs b = some x) {F' w' bs' m'} (he : Ext 1 F w [x] F' w' bs') (hm' : MemRel P F' w' bs' m') {cs' : List CV} (hb' : nth m' 0 = some (some (T, cs'))) (hr' : je cs' = false) (hc' : cs'.all closedC = true) :
  Ext bs.length F w bs F' w' bs∧MemRel P F' w' bs (jk mem b (some (T,cs'))):=by
 have hx0:nth bs' 0=some x:=he.pre 0 x (by omega) rfl
 have hlive:=j7 (x:=x) hr;have hin:x ∈ bs:=jH hx;have g:Grow F F' bs bs w w':=⟨he.size,he.F1,fun p hp hF=>he.same p hp (.inl hF),fun _ _ h=>h⟩;have g0:Grow F F' [] [] w w':=⟨he.size,he.F1,fun p hp hF=>he.same p hp (.inl hF),fun _ _ h=>h⟩
 have hne:∀ k y T1 cs1,k ≠ b->nth bs k=some y->nth mem k=some (some (T1,cs1))->jC y cs1->∀ z ∈ [x],z.p ≠ y.p:=by
  intro k y T1 cs1 hk hy hmk hl z hz e;simp only [List.mem_cons,List.not_mem_nil,or_false] at hz;subst hz;exact hk (hm.inj k b y z T1 cs1 T cs hy hx hmk hb hl hlive e.symm)
 have hloc:∀ k y T1 cs1,k ≠ b->nth bs k=some y->nth mem k=some (some (T1,cs1))->jC y cs1->F' y.p∧y.p<w'.heap.size∧w'.heap[y.p]? = w.heap[y.p]?:=by
  intro k y T1 cs1 hk hy hmk hl;obtain ⟨h1,h2⟩:=hm.loc k y T1 cs1 hy hmk hl;have h3:=hne k y T1 cs1 hk hy hmk hl;exact ⟨he.F2 y.p h1 h2 h3,Nat.lt_of_lt_of_le h2 he.size,he.same y.p h2 (.inr h3)⟩
 have up:∀ {p},(∀ y ∈ bs,y.p ≠ p)->∀ z ∈ [x],z.p ≠ p:=fun h z hz=>by
  simp only [List.mem_cons,List.not_mem_nil,or_false] at hz;subst hz;exact h _ hin
 refine ⟨⟨he.size,he.F1,fun p h1 h2 h3=>he.F2 p h1 h2 (up h3),fun p h1 h2=>he.same p h1 (h2.imp id up),he.os,he.tape,he.output,fun _ _ _ h=>h,fun y hy=>.inl ⟨y,hy,rfl⟩⟩,?_⟩;refine ⟨by rw [jS];exact hm.len,fun k y T1 cs1 hy hmk hl => ?_,fun k k2 y y2 T1 cs1 T2 cs2 hy hy2 h1 h2 l1 l2 e => ?_,fun k T1 cs1 y hmk hrr hy => ?_,fun k T1 fz es n ρ y hmk hy => ?_,fun k T1 f i st cs1 y hmk hy => ?_⟩
 ·rcases jA hmk with ⟨rfl,e⟩ | ⟨hk,hmk⟩
  ·rw [hx] at hy;cases hy;exact hm'.loc 0 x T cs' hx0 hb' (j7 hr')
  ·obtain ⟨h1,h2,_⟩:=hloc k y T1 cs1 hk hy hmk hl;exact ⟨h1,h2⟩
 ·rcases jA h1 with ⟨rfl,e1⟩ | ⟨hk1,hm1⟩<;>rcases jA h2 with ⟨rfl,e2⟩ | ⟨hk2,hm2⟩
  ·rfl
  ·exact hm.inj _ _ y y2 T cs T2 cs2 hy hy2 hb hm2 (j7 hr) l2 e
  ·exact hm.inj _ _ y y2 T1 cs1 T cs hy hy2 hm1 hb l1 (j7 hr) e
  ·exact hm.inj _ _ y y2 T1 cs1 T2 cs2 hy hy2 hm1 hm2 l1 l2 e
 ·rcases jA hmk with ⟨rfl,e⟩ | ⟨hk,hmk⟩
  ·rw [hx] at hy;cases hy;simp only [sIq,pIq] at e;obtain ⟨rfl,rfl⟩:=e;obtain ⟨vs,h1,h2⟩:=hm'.cont 0 _ _ x hb' hr' hx0;exact ⟨vs,h1,G1 h2 hc'⟩
  ·obtain ⟨vs,h1,h2⟩:=hm.cont k T1 cs1 y hmk hrr hy;obtain ⟨_,_,h3⟩:=hloc k y T1 cs1 hk hy hmk (j7 hrr);exact ⟨vs,by rw [h3];exact h1,h2.imp fun _ _ h=>h.grow g⟩
 ·rcases jA hmk with ⟨rfl,e⟩ | ⟨hk,hmk⟩
  ·simp only [sIq,pIq] at e;rw [← e.2] at hr';simp [je] at hr'
  ·have ho:=hm.row k T1 fz es n ρ y hmk hy;refine ho.grow g0 fun hcap => ?_;cases fz with
   | false=>exact (hloc k y T1 _ hk hy hmk ⟨rfl,hcap⟩).2.2
   | true =>
     obtain ⟨h1,h2⟩:=ho.frz hcap rfl;exact he.same y.p h2 (.inl h1)
 ·rcases jA hmk with ⟨rfl,e⟩ | ⟨hk,hmk⟩
  ·simp only [sIq,pIq] at e;rw [← e.2] at hr';simp [je] at hr'
  ·exact (hm.lp k T1 f i st cs1 y hmk hy).grow g fun ht=>(hloc k y T1 _ hk hy hmk (yM ht)).2.2
inductive LeOut:Out × List CV->Out × List CV->Prop
 | ret {a b cs ds} (h:leA a b) (hl:LeL cs ds) (hr:je ds=false):LeOut (.ret a,cs) (.ret b,ds)
 | pan {x cs ds} (hl:LeL cs ds) (hr:je ds=false):LeOut (.pan x,cs) (.pan x,ds)
theorem LeL.closed {F w bs}:∀ {l r:List CV} {vs:List Value},LeL l r->l.all closedC=true->All2 (CV.Rel F w bs) l vs->All2 (CV.Rel F w bs) r vs
 | _,_,_,.nil,_,h=>h
 | _, _, _, .cons h1 h2, hc, .cons k1 k2 => by
   simp only [List.all_cons,aTq] at hc;exact .cons (CV.Rel.grow ⟨lRq _,fun _ _ h=>h,fun _ _ _=>rfl,fun k p h=>by simp [nth] at h⟩ (h1 _ _ _ (k1.closed hc.1))) (h2.closed hc.2 k2)
theorem qZ {x:CV}:leC x .any:=fun _ _ _ h=>.any h.one
theorem MemRel.cellsTo {F w bs mem} (h : MemRel P F w bs mem) {b : Nat} {T : TypeId} {cs ds : List CV} (hb : nth mem b = some (some (T, cs))) (hr : je cs = false) (hr' : je ds = false)
  (hd:∀ (x:BI) (vs:List Value),nth bs b=some x->w.heap[x.p]? = some (.cells vs.toArray T (0,0))->All2 (CV.Rel F w bs) cs vs->All2 (CV.Rel F w bs) ds vs):MemRel P F w bs (jk mem b (some (T,ds))):=by
 have key:∀ k T' es,nth (jk mem b (some (T,ds))) k=some (some (T',es))->(k=b∧T'=T∧es=ds)∨(k ≠ b∧nth mem k=some (some (T',es))):=by
  intro k T' es hk;rcases jA hk with ⟨rfl,e⟩ | ⟨hne,hk⟩
  ·simp only [sIq,pIq] at e;exact .inl ⟨rfl,e.1,e.2⟩
  ·exact .inr ⟨hne,hk⟩
 have live:∀ k T' es,nth (jk mem b (some (T,ds))) k=some (some (T',es))->∀ x:BI,jC x es->∃ T1 cs1,nth mem k=some (some (T1,cs1))∧jC x cs1∧T'=T1:=by
  intro k T' es hk x hv;rcases key k T' es hk with ⟨rfl,rfl,rfl⟩ | ⟨hne,hk⟩
  ·exact ⟨_,_,hb,j7 hr,rfl⟩
  ·exact ⟨_,_,hk,hv,rfl⟩
 refine ⟨by rw [jS];exact h.len,fun k x T' es hk hc' hv => ?_,fun k k' x x' T1 cs1 T2 cs2 h1 h2 h3 h4 h5 h6 h7 => ?_,fun k T' es x hc' hrr hk => ?_,fun k T' fz' es' n' ρ' x hc' hk => ?_,fun k T' f i st es x hc' hk => ?_⟩
 ·obtain ⟨T1,cs1,g1,g2,rfl⟩:=live k T' es hc' x hv;exact h.loc k x _ cs1 hk g1 g2
 ·obtain ⟨T3,cs3,g1,g2,_⟩:=live k T1 cs1 h3 x h5;obtain ⟨T4,cs4,g3,g4,_⟩:=live k' T2 cs2 h4 x' h6;exact h.inj k k' x x' T3 cs3 T4 cs4 h1 h2 g1 g3 g2 g4 h7
 ·rcases key k T' es hc' with ⟨rfl,rfl,rfl⟩ | ⟨hne,hc'⟩
  ·obtain ⟨vs,g1,g2⟩:=h.cont k _ cs x hb hr hk;exact ⟨vs,g1,hd x vs hk g1 g2⟩
  ·exact h.cont k T' es x hc' hrr hk
 ·rcases key k T' _ hc' with ⟨rfl,rfl,e⟩ | ⟨hne,hc'⟩
  ·rw [← e] at hr';simp [je] at hr'
  ·exact h.row k T' fz' es' n' ρ' x hc' hk
 ·rcases key k T' _ hc' with ⟨rfl,rfl,e⟩ | ⟨hne,hc'⟩
  ·rw [← e] at hr';simp [je] at hr'
  ·exact h.lp k T' f i st es x hc' hk
theorem MemRel.cellsLe {F w bs mem} (h:MemRel P F w bs mem) {b:Nat} {T:TypeId} {cs ds:List CV} (hb:nth mem b=some (some (T,cs))) (hr:je cs=false) (hc:cs.all closedC=true) (hl:LeL cs ds) (hr':je ds=false):MemRel P F w bs (jk mem b (some (T,ds))) :=
 h.cellsTo hb hr hr' fun _ _ _ _ g=>hl.closed hc g
theorem jhl {mem:Mem} {k:Nat} {T:TypeId} {cs:List CV} (h:nth mem k=some (some (T,cs))) (hr:je cs=false) {x:CV}:nth (Zx mem x).1 k=some (some (T,cs)):=by
 unfold Zx;split
 ·rename_i b sz;split
  ·rename_i T' fz es n ρ hrow;split
   ·have hrow:=j6 hrow
    have hne:k ≠ b:=by
     intro e;subst e;rw [h] at hrow;simp only [sIq,pIq] at hrow;rw [hrow.2] at hr;simp [je] at hr
    rw [jd,jy,List.getElem?_set_ne (by omega),← jd]
    exact h
   ·exact h
  ·exact h
 ·exact h
theorem KM:∀ {l:List CV} {mem:Mem} {k:Nat} {T:TypeId} {cs:List CV},nth mem k=some (some (T,cs))->je cs=false->nth (qA mem l).1 k=some (some (T,cs))
 | [],_,_,_,_,h,_=>h
 | x :: l, mem, k, _, _, h, hr => by
   show nth (qA (Zx mem x).1 l).1 k=_;exact KM (jhl h hr) hr
theorem Z6 {α:Type}:∀ (l:List α) (i:Nat) (a b:α),jk (jk l i a) i b=jk l i b
 | [],_,_,_=>rfl
 | _::_,0,_,_=>rfl
 | _::l,i+1,a,b=>by simp [jk,Z6 l i a b]
def DR (T:TypeId) (y:Out × Mem):Tree (Out × List CV) :=
 match y.1 with
 | .ret a=>match nth (ze y.2 a).1 0 with
  | some (some (T',cs))=>if T'==T&&!je cs&&!je (qA (ze y.2 a).1 cs).2&&(qA (ze y.2 a).1 cs).2.all closedC&&aw (ze y.2 a).2 then .leaf (.ret (ze y.2 a).2,(qA (ze y.2 a).1 cs).2) else .fail
  | _=>.fail
 | .pan x=>match nth y.2 0 with
  | some (some (T',cs))=>if T'==T&&!je cs&&closedC x then .leaf (.pan x,cs.map fun _=>.any) else .fail
  | _=>.fail
def kx (P:Program) (H:Hd) (X:HdP) (k f:Nat) (T:TypeId) (rest:List A1) (cs:List CV):Tree (Out × List CV) :=
 (zD P H X k f (.c (.ptr 0 0)::rest) [some (T,cs)]).bind (DR T)
theorem Ki (cs:List CV):je (cs.map fun _=>CV.any)=false:=by
 cases cs with
 | nil=>rfl
 | cons c l=>cases l<;>rfl
theorem ZS (cs:List CV):(cs.map fun _=>CV.any).all closedC=true:=by
 induction cs with
 | nil=>rfl
 | cons c l ih=>simp only [List.map_cons,List.all_cons,ih,Bool.and_true];rfl
theorem All2.anys {F w bs} {cs:List CV} {vs:List Value} (h:All2 (CV.Rel F w bs) cs vs):All2 (CV.Rel F w bs) (cs.map fun _=>CV.any) vs:=by
 induction h with
 | nil=>exact .nil
 | cons h _ ih=>exact .cons (.any h.one) ih
theorem MemRel.anyBlock {F w bs mem} (hm:MemRel P F w bs mem) {b:Nat} {T:TypeId} {cs:List CV} (hb:nth mem b=some (some (T,cs))) (hr:je cs=false):MemRel P F w bs (jk mem b (some (T,cs.map fun _=>CV.any))) :=
 hm.cellsTo hb hr (Ki cs) fun _ _ _ _ g=>g.anys
theorem MemRel.frzBlock {F w bs mem} (hm : MemRel P F w bs mem) {b : Nat} {T : TypeId} {cs : List CV} (hb : nth mem b = some (some (T, cs))) (hr : je cs = false) (hr' : je (qA mem cs).2 = false) {x : BI} (hx : nth bs b = some x) :
  ∃ F',Ext bs.length F w bs F' w bs∧MemRel P F' w bs (jk (qA mem cs).1 b (some (T,(qA mem cs).2))):=by
 obtain ⟨vs,h1,h2⟩:=hm.cont b T cs x hb hr hx;obtain ⟨F',e,m,r⟩:=Zh hm h2;refine ⟨F',e,m.cellsTo (KM hb hr) hr hr' fun y us hy hu _ => ?_⟩;rw [hx] at hy;simp only [sIq] at hy;subst hy;rw [h1] at hu;simp only [sIq,Obj.cells.injEq,and_true] at hu
 have:vs=us:=by
  have:=congrArg Array.toList hu
  simpa using this
 subst this;exact r
theorem jcK {H : Hd} (hH : HdOk P H) {X : HdP} (hX : XOk P X) (k f : Nat) (T : TypeId) {u : List A1 -> List CV -> Tree (Out × List CV)}
  (hu:∀ rest cs r,(u rest cs).sel=some r->∃ z,(kx P H X k f T rest cs).sel=some z∧LeOut z r):ju P f (localG T u):=by
 intro args mem r mem' h F w bs vs hm hargs;unfold localG at h;split at h
 rotate_left
 ·simp [Tree.sel] at h
 rename_i b rest;split at h
 rotate_left
 ·simp [Tree.sel] at h
 rename_i T' cs hb;split at h
 rotate_left
 ·simp [Tree.sel] at h
 rename_i hcond;simp only [aTq,beq_iff_eq,Bool.not_eq_true'] at hcond;obtain ⟨⟨⟨rfl,hr⟩,hcs⟩,hrest⟩:=hcond;obtain ⟨⟨o,ds⟩,h1,h2⟩:=jg h;simp only [Tree.sel,sIq,pIq] at h2;obtain ⟨rfl,rfl⟩:=h2;obtain ⟨⟨o',cs'⟩,h3,hle⟩:=hu rest cs _ h1;unfold kx at h3;obtain ⟨⟨o1,m1⟩,h4,h5⟩:=jg h3;cases hargs with
 | cons hp hvs =>
   rename_i v0 vs;cases hp with
  | ptr hx =>
    rename_i x;have hm1:=hm.lone hb hr hcs hx;have hargs1:All2 (A1.Rel F w [x]) (.c (.ptr 0 0)::rest) (.pointer (some ⟨x.p,0,none⟩)::vs):=.cons (CV.Rel.ptr (bs:=[x]) (b:=0) (x:=x) rfl) (Jc hvs hrest)
    have hbs:nth (jk mem b (some (T',cs'))) b=some (some (T',cs')):=by
     have hlt:=jo hb;rw [jd,jy];simp [hlt]
    refine ((yn hH hX k).ok f _ _ o1 m1 h4 F w [x] _ hm1 hargs1).mono fun e w' ⟨F',bs',hext,hm',hend⟩ => ?_;unfold DR at h5;split at h5
    ·rename_i a hoa;simp only at hoa;subst hoa;split at h5
     ·rename_i T2 cs2 hz;split at h5
      ·rename_i hc;simp only [aTq,beq_iff_eq,Bool.not_eq_true'] at hc;obtain ⟨⟨⟨⟨rfl,c1⟩,c2⟩,c3⟩,c4⟩:=hc;simp only [Tree.sel,sIq,pIq] at h5;obtain ⟨rfl,rfl⟩:=h5;obtain ⟨v,rfl,hv⟩:=hend;obtain ⟨F2,e2,hm2,r2⟩:=ZB hm' hv;have e3:=hext.trans e2 (hext.le);have hx0:nth bs' 0=some x:=hext.pre 0 x (by simp) rfl
       obtain ⟨F3,e4,hm3⟩:=hm2.frzBlock hz c1 c2 hx0
       have hz3:nth (jk (qA (ze m1 a).1 cs2).1 0 (some (T2,(qA (ze m1 a).1 cs2).2))) 0=some (some (T2,(qA (ze m1 a).1 cs2).2)):=by
        have hlt:=jo (KM (l:=cs2) hz c1);rw [jd,jy];simp [hlt]
       have e5:=e3.trans e4 (hext.le);obtain ⟨he,hmm⟩:=hm.unlone hb hr hx e5 hm3 hz3 c2 c3;cases hle with
       | ret hla hl hr' =>
         have hmm2:=hmm.cellsLe hbs c2 c3 hl hr';rw [Z6] at hmm2;exact ⟨F3,bs,he,hmm2,v,rfl,AV.Rel.grow ⟨lRq _,fun _ _ h=>h,fun _ _ _=>rfl,fun k p h=>by simp [nth] at h⟩ (hla _ _ _ ((AV.Rel.grow e4.grow r2).closed c4))⟩
      ·simp [Tree.sel] at h5
     ·simp [Tree.sel] at h5
    ·rename_i y hoy;simp only at hoy;subst hoy;split at h5
     ·rename_i T2 cs2 hz;split at h5
      ·rename_i hc;simp only [aTq,beq_iff_eq,Bool.not_eq_true'] at hc;obtain ⟨⟨rfl,c1⟩,c4⟩:=hc;simp only [Tree.sel,sIq,pIq] at h5;obtain ⟨rfl,rfl⟩:=h5;obtain ⟨v,rfl,hv⟩:=hend;have hm3:=hm'.anyBlock hz c1
       have hz3:nth (jk m1 0 (some (T2,cs2.map fun _=>CV.any))) 0=some (some (T2,cs2.map fun _=>CV.any)):=by
        have hlt:=jo hz;rw [jd,jy];simp [hlt]
       obtain ⟨he,hmm⟩:=hm.unlone hb hr hx hext hm3 hz3 (Ki cs2) (ZS cs2);cases hle with
       | pan hl hr' =>
         have hmm2:=hmm.cellsLe hbs (Ki cs2) (ZS cs2) hl hr';rw [Z6] at hmm2;exact ⟨F',bs,he,hmm2,v,rfl,hv.closed c4⟩
      ·simp [Tree.sel] at h5
     ·simp [Tree.sel] at h5
end Go.Sx
namespace Rb
open Go Go.Sx
def za (l:List ByteArray):Val:=Val.ofFlat 1 (l.map .str)
inductive PR (σ:Type) (α:Type) where
 | stuck
 | ret (v:α) (s:σ)
 | pan (a:Int)
variable {σ α β γ:Type}
def PR.bind:PR σ α->(α->σ->PR σ β)->PR σ β
 | .stuck,_=>.stuck
 | .pan a,_=>.pan a
 | .ret v s,f=>f v s
structure Mach (σ:Type) where
 tx:σ->ByteArray
 pos:σ->Int
 adv:σ->PR σ Unit
def Ja (c:Int):Bool:=(le 97 c&&le c 122)||(le 65 c&&le c 90)
def yO (c:Int):Bool:=le 48 c&&le c 57
def Kq (c:Int):Bool:=Ja c||yO c
def bs (l:List UInt8):ByteArray:=⟨⟨l⟩⟩
end Rb
namespace Go.Proofs
open Go.Shelf
open Go.RowKit in
def Tryz.lays156_ren:Go.Shelf.Ren:=⟨fun | 156=>25 | 165=>45 | 166=>46 | 169=>47 | 240=>78 | 241=>79 | 276=>103 | 277=>104 | n=>n,fun | 31=>43 | 9=>9 | 3=>3 | 4=>4 | 0=>0 | 20=>20 | 72=>103 | 76=>107 | 70=>101 | 37=>33 | 75=>106 | 127=>130 | 164=>154 | 5=>5 | 80=>109 | n=>n,fun | n=>n⟩
theorem Tryz.lays156:Go.Proofs.Lays.n156 Tryz.prog Tryz.lays156_ren:={
 mixed:=by kernel_rfl
 f156:=Tryz.func25.trans (congrArg some (by kernel_rfl))
 f165:=Tryz.func45.trans (congrArg some (by kernel_rfl))
 f166:=Tryz.func46.trans (congrArg some (by kernel_rfl))
 f169:=Tryz.func47.trans (congrArg some (by kernel_rfl))
 f240:=Tryz.func78.trans (congrArg some (by kernel_rfl))
 f241:=Tryz.func79.trans (congrArg some (by kernel_rfl))
 f276:=Tryz.func103.trans (congrArg some (by kernel_rfl))
 f277:=Tryz.func104.trans (congrArg some (by kernel_rfl))
 t0:=Tryz.underlying0
 a0:=Tryz.isAgg0
 z0:=Tryz.sizeOf0
 v0:=Tryz.zeroValue0
 t3:=Tryz.underlying3
 a3:=Tryz.isAgg3
 z3:=Tryz.sizeOf3
 v3:=Tryz.zeroValue3
 t4:=Tryz.underlying4
 a4:=Tryz.isAgg4
 z4:=Tryz.sizeOf4
 v4:=Tryz.zeroValue4
 t9:=Tryz.underlying9
 a9:=Tryz.isAgg9
 z9:=Tryz.sizeOf9
 v9:=Tryz.zeroValue9
 t20:=Tryz.underlying20
 a20:=Tryz.isAgg20
 z20:=Tryz.sizeOf20
 v20:=Tryz.zeroValue20
 t31:=Tryz.underlying43
 a31:=Tryz.isAgg43
 z31:=Tryz.sizeOf43
 v31:=Tryz.zeroValue43
 t37:=Tryz.underlying33
 a37:=Tryz.isAgg33
 z37:=Tryz.sizeOf33
 v37:=Tryz.zeroValue33
 t70:=Tryz.underlying101
 a70:=Tryz.isAgg101
 z70:=Tryz.sizeOf101
 v70:=Tryz.zeroValue101
 t72:=Tryz.underlying103
 a72:=Tryz.isAgg103
 z72:=Tryz.sizeOf103
 v72:=Tryz.zeroValue103
 t75:=Tryz.underlying106
 a75:=Tryz.isAgg106
 z75:=Tryz.sizeOf106
 v75:=Tryz.zeroValue106
 t76:=Tryz.underlying107
 a76:=Tryz.isAgg107
 z76:=Tryz.sizeOf107
 v76:=Tryz.zeroValue107
 t127:=Tryz.underlying130
 a127:=Tryz.isAgg130
 z127:=Tryz.sizeOf130
 v127:=Tryz.zeroValue130
 t164:=Tryz.underlying154
 a164:=Tryz.isAgg154
 z164:=Tryz.sizeOf154
 v164:=Tryz.zeroValue154 }
theorem Tryz.Builder_Extra_156:Builder.Extra Tryz.prog Tryz.lays156_ren:={
 sizeBuilder:=by kernel_rfl
 liesBuilder:=by kernel_rfl
 t5:=Tryz.underlying5
 a5:=Tryz.isAgg5
 z5:=Tryz.sizeOf5
 v5:=Tryz.zeroValue5
 infoByte:=by kernel_rfl
 cellsByte:=by kernel_rfl
 sizeByte:=by kernel_rfl
 neB5:=by decide }
open Go.RowKit in
theorem Tryz.strings_Join_none (a : Option Addr) (c : Nat) (sep : ByteArray) (w : World) :
  Calls Tryz.prog 25 #[.slice a 0 c,.string sep] w fun e w'=>e=.returned (.string ⟨#[]⟩)∧w'=w:=Any.strings_Join_none Tryz.lays156 Tryz.Builder_Extra_156 a c sep w
open Go.RowKit in
theorem Tryz.strings_Join (bk o c : Nat) (xs : List ByteArray) (sep : ByteArray) (w : World) (hcells : ∀ (j : Nat) x, xs[j]? = some x -> w.cell? ⟨bk, o + j, none⟩ = some (.string x)) (hbk : bk < w.heap.size) (hN : xs.length <= 140737488355328) (hcap : xs.length <= c) (hlen : (Lib.join (xs.map (·.data.toList)) sep.data.toList).length <= 140737488355328) :
  Calls Tryz.prog 25 #[.slice (some ⟨bk,o,none⟩) xs.length c,.string sep] w fun e w'=>e=.returned (.string ⟨(Lib.join (xs.map (·.data.toList)) sep.data.toList).toArray⟩)∧Below w.heap.size w w':=Any.strings_Join Tryz.lays156 Tryz.Builder_Extra_156 bk o c xs sep w hcells hbk hN hcap hlen
def Tryz.lays137_ren:Go.Shelf.Ren:=⟨fun | 137=>80 | 217=>105 | 266=>122 | n=>n,fun | 9=>9 | 5=>5 | 3=>3 | n=>n,fun | n=>n⟩
theorem Tryz.lays137:Go.Proofs.Lays.n137 Tryz.prog Tryz.lays137_ren:={
 mixed:=by kernel_rfl
 f137:=Tryz.func80.trans (congrArg some (by kernel_rfl))
 f217:=Tryz.func105.trans (congrArg some (by kernel_rfl))
 f266:=Tryz.func122.trans (congrArg some (by kernel_rfl))
 t3:=Tryz.underlying3
 a3:=Tryz.isAgg3
 z3:=Tryz.sizeOf3
 v3:=Tryz.zeroValue3
 t5:=Tryz.underlying5
 a5:=Tryz.isAgg5
 z5:=Tryz.sizeOf5
 v5:=Tryz.zeroValue5
 t9:=Tryz.underlying9
 a9:=Tryz.isAgg9
 z9:=Tryz.sizeOf9
 v9:=Tryz.zeroValue9 }
open Go.RowKit in
theorem Tryz.strings_IndexByte (s : ByteArray) (c : Int) (w : World) :
  Calls Tryz.prog 80 #[.string s,.int .u8 c] w fun e w'=>e=.returned (.int .i64 (Lib.indexByte s.data.toList c.toNat.toUInt8))∧w'=w:=Any.strings_IndexByte Tryz.lays137 s c w
open Go.Lib in
open Go.RowKit Go.Sort Go.Lib in
def Tryz.laysM171_ren:Go.Shelf.Ren:=⟨fun | 171=>101 | 243=>121 | 246=>137 | 283=>151 | 284=>152 | 285=>153 | 286=>154 | 129=>181 | 317=>180 | 318=>182 | 319=>183 | 320=>184 | 337=>194 | 338=>195 | n=>n,fun | 3=>3 | 9=>9 | 2=>2 | 4=>4 | 171=>207 | 0=>0 | 53=>179 | 37=>33 | 5=>5 | 173=>210 | 212=>237 | 51=>176 | 20=>20 | 213=>238 | 46=>76 | 232=>248 | 233=>249 | n=>n,fun | 17=>1 | 18=>2 | 19=>3 | n=>n⟩
theorem Tryz.laysM171:Go.Proofs.LaysM.n171 Tryz.prog Tryz.laysM171_ren:={
 mixed:=by kernel_rfl
 f129:=Tryz.func181.trans (congrArg some (by kernel_rfl))
 f171:=Tryz.func101.trans (congrArg some (by kernel_rfl))
 f243:=Tryz.func121.trans (congrArg some (by kernel_rfl))
 f246:=Tryz.func137.trans (congrArg some (by kernel_rfl))
 f283:=Tryz.func151.trans (congrArg some (by kernel_rfl))
 f284:=Tryz.func152.trans (congrArg some (by kernel_rfl))
 f285:=Tryz.func153.trans (congrArg some (by kernel_rfl))
 f286:=Tryz.func154.trans (congrArg some (by kernel_rfl))
 f317:=Tryz.func180.trans (congrArg some (by kernel_rfl))
 f318:=Tryz.func182.trans (congrArg some (by kernel_rfl))
 f319:=Tryz.func183.trans (congrArg some (by kernel_rfl))
 f320:=Tryz.func184.trans (congrArg some (by kernel_rfl))
 f337:=Tryz.func194.trans (congrArg some (by kernel_rfl))
 f338:=Tryz.func195.trans (congrArg some (by kernel_rfl))
 t0:=Tryz.underlying0
 a0:=Tryz.isAgg0
 z0:=Tryz.sizeOf0
 v0:=Tryz.zeroValue0
 t2:=Tryz.underlying2
 a2:=Tryz.isAgg2
 z2:=Tryz.sizeOf2
 v2:=Tryz.zeroValue2
 t3:=Tryz.underlying3
 a3:=Tryz.isAgg3
 z3:=Tryz.sizeOf3
 v3:=Tryz.zeroValue3
 t4:=Tryz.underlying4
 a4:=Tryz.isAgg4
 z4:=Tryz.sizeOf4
 v4:=Tryz.zeroValue4
 t5:=Tryz.underlying5
 a5:=Tryz.isAgg5
 z5:=Tryz.sizeOf5
 v5:=Tryz.zeroValue5
 t9:=Tryz.underlying9
 a9:=Tryz.isAgg9
 z9:=Tryz.sizeOf9
 v9:=Tryz.zeroValue9
 t20:=Tryz.underlying20
 a20:=Tryz.isAgg20
 z20:=Tryz.sizeOf20
 v20:=Tryz.zeroValue20
 t37:=Tryz.underlying33
 a37:=Tryz.isAgg33
 z37:=Tryz.sizeOf33
 v37:=Tryz.zeroValue33
 t46:=Tryz.underlying76
 a46:=Tryz.isAgg76
 z46:=Tryz.sizeOf76
 v46:=Tryz.zeroValue76
 t51:=Tryz.underlying176
 a51:=Tryz.isAgg176
 z51:=Tryz.sizeOf176
 v51:=Tryz.zeroValue176
 t53:=Tryz.underlying179
 a53:=Tryz.isAgg179
 z53:=Tryz.sizeOf179
 v53:=Tryz.zeroValue179
 t171:=Tryz.underlying207
 a171:=Tryz.isAgg207
 z171:=Tryz.sizeOf207
 v171:=Tryz.zeroValue207
 t173:=Tryz.underlying210
 a173:=Tryz.isAgg210
 z173:=Tryz.sizeOf210
 v173:=Tryz.zeroValue210
 t212:=Tryz.underlying237
 a212:=Tryz.isAgg237
 z212:=Tryz.sizeOf237
 v212:=Tryz.zeroValue237
 t213:=Tryz.underlying238
 a213:=Tryz.isAgg238
 z213:=Tryz.sizeOf238
 t232:=Tryz.underlying248
 a232:=Tryz.isAgg248
 z232:=Tryz.sizeOf248
 v232:=Tryz.zeroValue248
 t233:=Tryz.underlying249
 a233:=Tryz.isAgg249
 z233:=Tryz.sizeOf249
 v233:=Tryz.zeroValue249
 g17:=by kernel_rfl
 g18:=by kernel_rfl
 g19:=by kernel_rfl
 i0:=by kernel_rfl
 i2:=by kernel_rfl
 i3:=by kernel_rfl
 i4:=by kernel_rfl
 i5:=by kernel_rfl
 i9:=by kernel_rfl
 i20:=by kernel_rfl
 i37:=by kernel_rfl
 i46:=by kernel_rfl
 i51:=by kernel_rfl
 i53:=by kernel_rfl
 i171:=by kernel_rfl
 i173:=by kernel_rfl
 i212:=by kernel_rfl
 i232:=by kernel_rfl
 i233:=by kernel_rfl
 m17:=by kernel_rfl
 m18:=by kernel_rfl
 m19:=by kernel_rfl }
open Go.RowKit Go.Sort Go.Lib in
theorem Tryz.strconv_Itoa (n : Int) (h0 : -9223372036854775808 <= n) (h1 : n <= 9223372036854775807) (w : World) (htab : Lib.TabIs Tryz.prog w "internal/strconv.uint64pow10" .u64 Lib.pow10Tab) :
  Calls Tryz.prog 101 #[.int .i64 n] w fun e w'=>e=.returned (.string ⟨(Lib.itoa n).toArray⟩)∧∃ k os,w'=grow (w.drewN k) os:=Any.strconv_Itoa Tryz.laysM171 n h0 h1 w htab
def Tryz.lays171_ren:Go.Shelf.Ren:=⟨fun | 171=>101 | 243=>121 | 246=>137 | 283=>151 | 284=>152 | 285=>153 | 286=>154 | 129=>181 | 317=>180 | 318=>182 | 319=>183 | 320=>184 | 337=>194 | 338=>195 | n=>n,fun | 3=>3 | 9=>9 | 2=>2 | 4=>4 | 171=>207 | 0=>0 | 53=>179 | 37=>33 | 5=>5 | 173=>210 | 212=>237 | 51=>176 | 20=>20 | 213=>238 | 46=>76 | 232=>248 | 233=>249 | n=>n,fun | 17=>1 | 18=>2 | 19=>3 | n=>n⟩
theorem Tryz.lays171:Go.Proofs.Lays.n171 Tryz.prog Tryz.lays171_ren:={
 mixed:=by kernel_rfl
 f129:=Tryz.func181.trans (congrArg some (by kernel_rfl))
 f171:=Tryz.func101.trans (congrArg some (by kernel_rfl))
 f243:=Tryz.func121.trans (congrArg some (by kernel_rfl))
 f246:=Tryz.func137.trans (congrArg some (by kernel_rfl))
 f283:=Tryz.func151.trans (congrArg some (by kernel_rfl))
 f284:=Tryz.func152.trans (congrArg some (by kernel_rfl))
 f285:=Tryz.func153.trans (congrArg some (by kernel_rfl))
 f286:=Tryz.func154.trans (congrArg some (by kernel_rfl))
 f317:=Tryz.func180.trans (congrArg some (by kernel_rfl))
 f318:=Tryz.func182.trans (congrArg some (by kernel_rfl))
 f319:=Tryz.func183.trans (congrArg some (by kernel_rfl))
 f320:=Tryz.func184.trans (congrArg some (by kernel_rfl))
 f337:=Tryz.func194.trans (congrArg some (by kernel_rfl))
 f338:=Tryz.func195.trans (congrArg some (by kernel_rfl))
 t0:=Tryz.underlying0
 a0:=Tryz.isAgg0
 z0:=Tryz.sizeOf0
 v0:=Tryz.zeroValue0
 t2:=Tryz.underlying2
 a2:=Tryz.isAgg2
 z2:=Tryz.sizeOf2
 v2:=Tryz.zeroValue2
 t3:=Tryz.underlying3
 a3:=Tryz.isAgg3
 z3:=Tryz.sizeOf3
 v3:=Tryz.zeroValue3
 t4:=Tryz.underlying4
 a4:=Tryz.isAgg4
 z4:=Tryz.sizeOf4
 v4:=Tryz.zeroValue4
 t5:=Tryz.underlying5
 a5:=Tryz.isAgg5
 z5:=Tryz.sizeOf5
 v5:=Tryz.zeroValue5
 t9:=Tryz.underlying9
 a9:=Tryz.isAgg9
 z9:=Tryz.sizeOf9
 v9:=Tryz.zeroValue9
 t20:=Tryz.underlying20
 a20:=Tryz.isAgg20
 z20:=Tryz.sizeOf20
 v20:=Tryz.zeroValue20
 t37:=Tryz.underlying33
 a37:=Tryz.isAgg33
 z37:=Tryz.sizeOf33
 v37:=Tryz.zeroValue33
 t46:=Tryz.underlying76
 a46:=Tryz.isAgg76
 z46:=Tryz.sizeOf76
 v46:=Tryz.zeroValue76
 t51:=Tryz.underlying176
 a51:=Tryz.isAgg176
 z51:=Tryz.sizeOf176
 v51:=Tryz.zeroValue176
 t53:=Tryz.underlying179
 a53:=Tryz.isAgg179
 z53:=Tryz.sizeOf179
 v53:=Tryz.zeroValue179
 t171:=Tryz.underlying207
 a171:=Tryz.isAgg207
 z171:=Tryz.sizeOf207
 v171:=Tryz.zeroValue207
 t173:=Tryz.underlying210
 a173:=Tryz.isAgg210
 z173:=Tryz.sizeOf210
 v173:=Tryz.zeroValue210
 t212:=Tryz.underlying237
 a212:=Tryz.isAgg237
 z212:=Tryz.sizeOf237
 v212:=Tryz.zeroValue237
 t213:=Tryz.underlying238
 a213:=Tryz.isAgg238
 z213:=Tryz.sizeOf238
 t232:=Tryz.underlying248
 a232:=Tryz.isAgg248
 z232:=Tryz.sizeOf248
 v232:=Tryz.zeroValue248
 t233:=Tryz.underlying249
 a233:=Tryz.isAgg249
 z233:=Tryz.sizeOf249
 v233:=Tryz.zeroValue249
 g17:=by kernel_rfl
 g18:=by kernel_rfl
 g19:=by kernel_rfl }
open Go.RowKit Go.Sort Go.Lib in
theorem Tryz.strconv_Itoa_small (i : Nat) (hi : i < 100) (w : World) :
  Calls Tryz.prog 101 #[.int .i64 i] w fun e w'=>e=.returned (.string ⟨(Lib.decDigits i).toArray⟩)∧w'=w:=Any.strconv_Itoa_small Tryz.lays171 i hi w
open Go.RowKit Go.Lib in
def Tryz.lays151_ren:Go.Shelf.Ren:=⟨fun | 151=>51 | 152=>81 | 137=>80 | 119=>106 | 224=>107 | 225=>108 | 217=>105 | 266=>122 | n=>n,fun | 9=>9 | 21=>21 | 4=>4 | 3=>3 | 5=>5 | 0=>0 | 46=>76 | n=>n,fun | n=>n⟩
theorem Tryz.lays151:Go.Proofs.Lays.n151 Tryz.prog Tryz.lays151_ren:={
 mixed:=by kernel_rfl
 f119:=Tryz.func106.trans (congrArg some (by kernel_rfl))
 f137:=Tryz.func80.trans (congrArg some (by kernel_rfl))
 f151:=Tryz.func51.trans (congrArg some (by kernel_rfl))
 f152:=Tryz.func81.trans (congrArg some (by kernel_rfl))
 f217:=Tryz.func105.trans (congrArg some (by kernel_rfl))
 f224:=Tryz.func107.trans (congrArg some (by kernel_rfl))
 f225:=Tryz.func108.trans (congrArg some (by kernel_rfl))
 f266:=Tryz.func122.trans (congrArg some (by kernel_rfl))
 t0:=Tryz.underlying0
 a0:=Tryz.isAgg0
 z0:=Tryz.sizeOf0
 v0:=Tryz.zeroValue0
 t3:=Tryz.underlying3
 a3:=Tryz.isAgg3
 z3:=Tryz.sizeOf3
 v3:=Tryz.zeroValue3
 t4:=Tryz.underlying4
 a4:=Tryz.isAgg4
 z4:=Tryz.sizeOf4
 v4:=Tryz.zeroValue4
 t5:=Tryz.underlying5
 a5:=Tryz.isAgg5
 z5:=Tryz.sizeOf5
 v5:=Tryz.zeroValue5
 t9:=Tryz.underlying9
 a9:=Tryz.isAgg9
 z9:=Tryz.sizeOf9
 v9:=Tryz.zeroValue9
 t21:=Tryz.underlying21
 a21:=Tryz.isAgg21
 z21:=Tryz.sizeOf21
 v21:=Tryz.zeroValue21
 t46:=Tryz.underlying76
 a46:=Tryz.isAgg76
 z46:=Tryz.sizeOf76
 v46:=Tryz.zeroValue76 }
open Go.RowKit Go.Lib in
theorem Tryz.strings_ContainsRune_ascii (s : ByteArray) (r : Int) (w : World) (h0 : 0 <= r) (h1 : r < 128) :
  Calls Tryz.prog 51 #[.string s,.int .i32 r] w fun e w'=>e=.returned (.bool (decide (0<=Lib.indexByte s.data.toList r.toNat.toUInt8)))∧w'=w:=Any.strings_ContainsRune_ascii Tryz.lays151 s r w h0 h1
end Go.Proofs
namespace Go.Proofs.YtiefjlcakpdfeaaGreatDoor
open Go Go.Sx Go.RowKit Rb
set_option maxRecDepth 100000
structure PS where
 nx:Int
 tx:ByteArray
 pos:Int
def PR.done {α:Type}:PR PS α->Bool | .stuck=>false | _=>true
def PR.isRet {α:Type}:PR PS α->Bool | .ret _ _=>true | _=>false
def PR.st {α:Type}:PR PS α->PS | .ret _ s=>s | _=>⟨0,bs [],0⟩
def PR.pl {α:Type}:PR PS α->Int | .pan a=>a | _=>0
def PR.val {α:Type} (d:α):PR PS α->α | .ret v _=>v | _=>d
def J4 (a:Int):CV:=.ifa 64 [.int .i64 a,.int .i64 4]
def Ji:List CV:=[.any,.any,.any,.any]
def qB (s:ByteArray) (p:PS):List CV:=[.str s,.int .i64 p.nx,.str p.tx,.int .i64 p.pos]
def asT {α:Type} (d:α) (enc:α->AV) (s:ByteArray) (x:PR PS α):Tree (Out × List CV) :=
 .need (PR.done x) (.br (PR.isRet x) (.leaf (.ret (enc (PR.val d x)),qB s (PR.st x))) (.leaf (.pan (J4 (PR.pl x)),Ji)))
def nxT {α β:Type} (d:α) (x:PR PS α) (K:α->PS->Tree β) (e:Int->Tree β):Tree β :=
 .need (PR.done x) (.br (PR.isRet x) (K (PR.val d x) (PR.st x)) (e (PR.pl x)))
theorem I0 {α : Type} {d : α} {enc : α -> AV} {s : ByteArray} {x : PR PS α} {r : Out × List CV} (h : (asT d enc s x).sel = some r) :
  (∃ v p,x=.ret v p∧r=(.ret (enc v),qB s p))∨(∃ a,x=.pan a∧r=(.pan (J4 a),Ji)):=by
 cases x with
 | stuck=>simp [asT,PR.done,Tree.sel] at h
 | ret v p=>simp only [asT,PR.done,PR.isRet,Tree.sel,cond_true,sIq] at h;exact .inl ⟨v,p,rfl,h.symm⟩
 | pan a=>simp only [asT,PR.done,PR.isRet,Tree.sel,cond_true,cond_false,sIq] at h;exact .inr ⟨a,rfl,h.symm⟩
theorem Zg {α β:Type} {d:α} {v:α} {p:PS} {K:α->PS->Tree β} {e:Int->Tree β}:(nxT d (.ret v p) K e).sel=(K v p).sel:=rfl
def Tells {α:Type} (T:Tree (Out × List CV)) (enc:α->AV) (s:ByteArray):PR PS α->Prop
 | .stuck=>True
 | .ret v p=>∃ z,T.sel=some z∧LeOut z (.ret (enc v),qB s p)
 | .pan a=>∃ z,T.sel=some z∧LeOut z (.pan (J4 a),Ji)
theorem LeOut.same_ret {a:AV} {s:ByteArray} {p:PS}:LeOut (.ret a,qB s p) (.ret a,qB s p):=.ret leA.refl LeL.refl rfl
theorem LeOut.same_pan {x:CV}:LeOut (.pan x,Ji) (.pan x,Ji):=.pan LeL.refl rfl
theorem Tells.of_ret {α:Type} {T:Tree (Out × List CV)} {enc:α->AV} {s:ByteArray} {v:α} {p:PS} (h:T.sel=some (.ret (enc v),qB s p)):Tells T enc s (.ret v p):=⟨_,h,LeOut.same_ret⟩
theorem Tells.of_pan {α:Type} {T:Tree (Out × List CV)} {enc:α->AV} {s:ByteArray} {a:Int} (h:T.sel=some (.pan (J4 a),Ji)):Tells T enc s (.pan a):=⟨_,h,LeOut.same_pan⟩
def uOf {α:Type} (d:α) (enc:α->AV) (sp:List A1->ByteArray->PS->PR PS α) (rest:List A1):List CV->Tree (Out × List CV)
 | [.str s,.int .i64 n,.str t,.int .i64 a]=>asT d enc s (sp rest s ⟨n,t,a⟩)
 | _=>.fail
theorem Ba {P : Program} {α : Type} {H : Hd} (hH : HdOk P H) {X : HdP} (hX : XOk P X) (k f : Nat) {d : α} {enc : α -> AV} {sp : List A1 -> ByteArray -> PS -> PR PS α}
  (h:∀ rest s n t a,Tells (kx P H X k f 70 rest [.str s,.int .i64 n,.str t,.int .i64 a]) enc s (sp rest s ⟨n,t,a⟩)):ju P f (localG 70 (uOf d enc sp)) :=
 jcK hH hX k f 70 fun rest cs r hr=>by
  unfold uOf at hr;split at hr
  ·rename_i s n t a;have ht:=h rest s n t a;rcases I0 hr with ⟨v,p,hx,rfl⟩ | ⟨a',hx,rfl⟩
   ·rw [hx] at ht;exact ht
   ·rw [hx] at ht;exact ht
  ·simp [Tree.sel] at hr
def G82:List A1->Option AV
 | [.c (.int .u8 c)]=>some (.one (.c (.bool (Ja c))))
 | _=>none
def G83:List A1->Option AV
 | [.c (.int .u8 c)]=>some (.one (.c (.bool (yO c))))
 | _=>none
def NU:List A1->Option AV
 | [.c (.str s),.c (.int .u8 c)]=>some (.one (.c (.int .i64 (Lib.indexByte s.data.toList c.toNat.toUInt8))))
 | _=>none
theorem jpa:PcOne Tryz.prog 80 NU:=by
 intro args r h hcl F w vs hargs;unfold NU at h;split at h
 ·rename_i s c;obtain rfl:=Option.some.inj h;refine ⟨.int .i64 (Lib.indexByte s.data.toList c.toNat.toUInt8),CV.Rel.int _ _,fun w1 hw1 => ?_⟩;cases hargs with
  | cons h1 h2=>cases h2 with
   | cons h2 h3 =>
     cases h3;cases h1;cases h2;refine (Tryz.strings_IndexByte s c w1).mono fun e w2 ⟨he,hw⟩ => ?_;subst hw;exact ⟨he,Below.refl _ _⟩
 ·cases h
noncomputable abbrev h00:Hd:=⟨[],[],[],[]⟩
theorem letter_eq (c:Int):(bif bif le 97 c then le c 122 else false then true else bif le 65 c then le c 90 else false)=Ja c:=by
 unfold Ja;cases le 97 c<;>cases le c 122<;>cases le 65 c<;>cases le c 90<;>rfl
theorem digit_eq (c:Int):(bif le 48 c then le c 57 else false)=yO c:=by
 unfold yO;cases le 48 c<;>cases le c 57<;>rfl
theorem p82:PcOne Tryz.prog 49 G82:=kY (H:=h00) HdOk.nil 10 49 fun args r h=>by
 unfold G82 at h;split at h
 ·rename_i c;obtain rfl:=Option.some.inj h;exact ⟨rfl,.leaf (.one (.c (.bool (bif bif le 97 c then le c 122 else false then true else bif le 65 c then le c 90 else false)))),by kernel_rfl,congrArg (fun b=>AV.one (.c (.bool b))) (letter_eq c)⟩
 ·cases h
theorem p83:PcOne Tryz.prog 50 G83:=kY (H:=h00) HdOk.nil 10 50 fun args r h=>by
 unfold G83 at h;split at h
 ·rename_i c;obtain rfl:=Option.some.inj h;exact ⟨rfl,.leaf (.one (.c (.bool (bif le 48 c then le c 57 else false)))),by kernel_rfl,congrArg (fun b=>AV.one (.c (.bool b))) (digit_eq c)⟩
 ·cases h
def signs:ByteArray:=bs [123,125,40,41,59,61,60,62,43,45]
def kz (c:Int):Bool:=(signs.data.toList.any fun x=>(x.toNat:Int)==c)
def G84:List A1->Option (Bool × AV)
 | [.c (.str s),.c (.int .i32 r)]=>some (jb s signs&&(le 0 r&&lt r 256),.one (.c (.bool (kz r))))
 | _=>none
noncomputable abbrev HC0:Hd:=⟨[pF 81,pF 106,(80,oG NU)],[],[],[]⟩
theorem hC0:HdOk Tryz.prog HC0:=((HdOk.nil.pcCons jpa).pF 106).pF 81
abbrev XR:HdP:=⟨[],[],[],[],[],4,[]⟩
noncomputable def t84 (n:Int):Tree AV:=qf Tryz.prog HC0 XR 20 51 [.c (.str signs),.c (.int .i32 n)]
noncomputable def yu (a k:Nat):Bool:=match (t84 (a+(k:Int))).sel with
 | some (.one (.c (.bool false)))=>!kz (a+(k:Int))
 | _=>false
theorem ji1:(List.range 8).all (yu 128)=true:=by kernel_rfl
theorem jkI:(List.range 8).all (yu 136)=true:=by kernel_rfl
theorem jjt:(List.range 8).all (yu 144)=true:=by kernel_rfl
theorem jjr:(List.range 8).all (yu 152)=true:=by kernel_rfl
theorem jks:(List.range 8).all (yu 160)=true:=by kernel_rfl
theorem jiV:(List.range 8).all (yu 168)=true:=by kernel_rfl
theorem jjm:(List.range 8).all (yu 176)=true:=by kernel_rfl
theorem jjz:(List.range 8).all (yu 184)=true:=by kernel_rfl
theorem jkj:(List.range 8).all (yu 192)=true:=by kernel_rfl
theorem jjC:(List.range 8).all (yu 200)=true:=by kernel_rfl
theorem jgo:(List.range 8).all (yu 208)=true:=by kernel_rfl
theorem jhy:(List.range 8).all (yu 216)=true:=by kernel_rfl
theorem jg3:(List.range 8).all (yu 224)=true:=by kernel_rfl
theorem jfc:(List.range 8).all (yu 232)=true:=by kernel_rfl
theorem jfW:(List.range 8).all (yu 240)=true:=by kernel_rfl
theorem jfq:(List.range 8).all (yu 248)=true:=by kernel_rfl
theorem jpc {a k:Nat} (h:(List.range 8).all (yu a)=true) (hk:k<8):(t84 (a+(k:Int))).sel=some (.one (.c (.bool (kz (a+(k:Int)))))):=by
 have:=List.all_eq_true.1 h k (by simpa using hk)
 unfold yu at this;split at this
 ·rename_i hs;have hb:kz (a+(k:Int))=false:=by simpa using this
  rw [hb];exact hs
 ·cases this
theorem jjf (n:Int) (h0:128<=n) (h1:n<256):(t84 n).sel=some (.one (.c (.bool (kz n)))):=by
 have key:∀ q:Nat,q<16->(List.range 8).all (yu (128+8*q))=true:=by
  intro q hq
  match q,hq with
  | 0,_=>exact ji1
  | 1,_=>exact jkI
  | 2,_=>exact jjt
  | 3,_=>exact jjr
  | 4,_=>exact jks
  | 5,_=>exact jiV
  | 6,_=>exact jjm
  | 7,_=>exact jjz
  | 8,_=>exact jkj
  | 9,_=>exact jjC
  | 10,_=>exact jgo
  | 11,_=>exact jhy
  | 12,_=>exact jg3
  | 13,_=>exact jfc
  | 14,_=>exact jfW
  | 15,_=>exact jfq
  | q+16,h=>omega
 have e:n=((128+8*((n - 128).toNat / 8):Nat):Int)+(((n - 128).toNat % 8:Nat):Int):=by omega
 have:=jpc (k:=(n - 128).toNat % 8) (key ((n - 128).toNat / 8) (by omega)) (by omega)
 rw [← e] at this;exact this
end Go.Proofs.YtiefjlcakpdfeaaGreatDoor