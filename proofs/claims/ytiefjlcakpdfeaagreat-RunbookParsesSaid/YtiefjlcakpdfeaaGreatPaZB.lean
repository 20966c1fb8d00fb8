/-
 Part PaZB of the proof: EngCl RcF.
-/
import Derived.Test.YtiefjlcakpdfeaaGreatPaU
import Derived.Test.YtiefjlcakpdfeaaGreatPaN
import Derived.Test.YtiefjlcakpdfeaaGreatPaZA
namespace Go.Sx
open Go Go.RowKit
variable {P:Program}
def jcE (P:Program) (H:Hd) (X:HdP) (n f K:Nat) (args:List A1) (mem:Mem):Tree (Out × Mem) :=
 match nth P.funcs.toList f with
 | some fn=>match fn.body with
  | some c => if Nat.ble args.length fn.ntmps then
    (j5 P H X (jU P H n) (zM P H X n) f K 0 c ⟨⟨args.map (fun a=>⟨[],.one a⟩)++List.replicate (fn.ntmps - args.length) ⟨[],.any⟩,mem⟩,[]⟩).bind fun x=>match x.1 with
     | .exit _=>.fail
     | .goto _=>.fail
     | .pan y=>ku P H X (jU P H n) (zM P H X n) fn x.2.s x.2.dl (some y) x.2.s.mem
     | _=>ku P H X (jU P H n) (zM P H X n) fn x.2.s x.2.dl none x.2.s.mem
    else .fail
  | none=>.fail
 | none=>.fail
theorem jfX {H : Hd} (hH : HdOk P H) {X : HdP} (hX : XOk P X) (n f K : Nat) {args : List A1} {mem : Mem} {r : Out} {mem' : Mem} (h : (jcE P H X n f K args mem).sel = some (r, mem')) (hK : K <= mem.length)
  {F:Nat->Prop} {w:World} {bs:List BI} {vs:List Value} (hm:MemRel P F w bs mem) (hargs:All2 (A1.Rel F w bs) args vs) :
  Calls P f vs.toArray w (fun e w'=>∃ F' bs',Ext K F w bs F' w' bs'∧MemRel P F' w' bs' mem'∧r.Ends F' w' bs' e):=by
 unfold jcE at h;split at h
 rotate_left
 ·simp [Tree.sel] at h
 rename_i fn hfn;split at h
 rotate_left
 ·simp [Tree.sel] at h
 rename_i c hb;split at h
 rotate_left
 ·simp [Tree.sel] at h
 rename_i hle;obtain ⟨⟨x,s1⟩,h1,h2⟩:=jh h;rw [jd,Array.getElem?_toList] at hfn;have hst:=Wp (nt:=fn.ntmps) hm hargs (by simpa using hle)
 have hKb:K<=bs.length:=by rw [hm.len];exact hK
 refine calls_of_wp_defers hfn hb (ki hH.pc hX.rx hX.nc (zu hH n) (yu hH hX n) f K c 0 _ h1 (fun i b hh hi hk=>hH.lh f fn c i b hh hfn hb hi (by simpa using hk)) (fun i b hh hi hk=>hX.lx f fn c i b hh hfn hb hi (by simpa using hk)) (fun b hh hi hk=>hX.sx f fn c b hh hfn hb hi hk) hKb (hst.toP .nil) fun F' w' bs' a' e he hs' hx => ?_)
 have key:∀ (pan:Option CV) (u:FrameMode),(ku P H X (jU P H n) (zM P H X n) fn s1.s s1.dl pan s1.s.mem).sel=some (r,mem')->UMode F' w' bs' pan u->Leaves P fn a'.tmps (fun e w'=>∃ F' bs',Ext K F w bs F' w' bs'∧MemRel P F' w' bs' mem'∧r.Ends F' w' bs' e) a'.defers u w':=by
  intro pan u hl hu
  have:=leaveP_ok hH hX.xs (zu hH n) (yu hH hX n) s1.dl pan s1.s.mem hl hs'.st hs'.ds hu
  exact leaveP_ok.leaves_mono (fun e w2 ⟨F2,bs2,he2,hm2,hr2⟩=>⟨F2,bs2,he.trans he2 (he.le hKb),hm2,hr2⟩) _ _ _ this
 cases x with
 | normal=>cases hx;exact key none .returning h2 rfl
 | ret=>cases hx;exact key none .returning h2 rfl
 | pan y=>obtain ⟨v,rfl,hv⟩:=hx;exact key (some y) _ h2 ⟨v,rfl,hv⟩
 | exit k=>simp [Tree.sel] at h2
 | goto k=>simp [Tree.sel] at h2
def MU (b o:Nat) (T:TypeId) (es:List Sh) (mem:Mem):Mem:=((⟨[],mem⟩ : St).ownM b o T es).mem
theorem jbQ {F w bs mem} (hm : MemRel P F w bs mem) (b o : Nat) (T : TypeId) (es : List Sh) :
  ∃ bs',Ext bs.length F w bs F w bs'∧MemRel P F w bs' (MU b o T es mem):=by
 have hs:StRel P [] F w bs ⟨[],mem⟩ { tmps:=#[],defers:=[] }:=⟨rfl,rfl,fun i sl x h=>by simp [nth] at h,hm⟩
 obtain ⟨bs',he,_,hs'⟩:=hs.place (.ownM b o T es) (lRq _);exact ⟨bs',he,hs'.mem⟩
def Qz:Option (TypeId × List CV)->Bool
 | some (_,[.row false _ _ _])=>true
 | _=>false
def WX:Mem->Bool
 | some (_,cs)::r=>cs.all (fun x=>closedC x||yi x)&&!jf cs&&r.all Qz
 | _=>false
def LV (p:Nat) (x:BI) (e:Option (TypeId × List CV)):BI:=bif Qz e&&Nat.beq x.cap 0 then ⟨p,x.n,x.cap⟩ else x
def y3 (p:Nat):List BI->Mem->List BI
 | x::l,e::m=>LV p x e::y3 p l m
 | l,_=>l
theorem Q8 (p:Nat):∀ (l:List BI) (m:Mem),(y3 p l m).length=l.length
 | [],[]=>rfl
 | [],_::_=>rfl
 | _::_,[]=>rfl
 | x::l,e::m=>by simp [y3,Q8 p l m]
theorem Q0 (p : Nat) : ∀ (l : List BI) (m : Mem) (k : Nat) (y : BI), nth (y3 p l m) k = some y -> ∃ x, nth l k = some x ∧ y.n = x.n ∧ y.cap = x.cap ∧ (0 < x.cap -> y = x) ∧
  (∀ T cs,nth m k=some (some (T,cs))->jf cs=false->y=x)∧(Qz ((nth m k).getD none)=true->x.cap=0->y.p=p)
 | [],m,k,y,h=>by cases m<;>simp [y3,nth] at h
 | x::l,[],k,y,h=>⟨y,h,rfl,rfl,fun _=>rfl,fun _ _ _ _=>rfl,fun hr=>by simp [nth,Qz] at hr⟩
 | x :: l, e :: m, 0, y, h => by
   simp only [y3,nth,sIq] at h;subst h;refine ⟨x,rfl,?_,?_,fun h0 => ?_,fun T cs hc hr => ?_,fun hr h0 => ?_⟩
   ·unfold LV;cases (Qz e&&Nat.beq x.cap 0)<;>rfl
   ·unfold LV;cases (Qz e&&Nat.beq x.cap 0)<;>rfl
   ·have : Nat.beq x.cap 0 = false := by
     cases hb:Nat.beq x.cap 0
     ·rfl
     ·have:=Nat.eq_of_beq_eq_true hb;omega
    unfold LV;rw [this,Bool.and_false];rfl
   ·simp only [nth,sIq] at hc;subst hc
    have:Qz (some (T,cs))=false:=by
     unfold Qz;split
     ·rename_i he;simp only [sIq,pIq] at he;rw [he.2] at hr;simp [jf] at hr
     ·rfl
    unfold LV;rw [this,Bool.false_and];rfl
   ·simp only [nth,Option.getD_some] at hr;unfold LV;rw [hr,h0];rfl
 | x::l,e::m,k+1,y,h=>Q0 p l m k y h
theorem Q1 {m : Mem} (h : WX m = true) {k : Nat} {T : TypeId} {cs : List CV} (hk : nth m k = some (some (T, cs))) :
  (k=0∧jf cs=false∧∀ x ∈ cs,closedC x=true∨yi x=true)∨(0<k∧∃ es n ρ,cs=[.row false es n ρ]):=by
 unfold WX at h;split at h
 ·rename_i T' cs' r;simp only [aTq,Bool.not_eq_true',List.all_eq_true,Bool.or_eq_true] at h;obtain ⟨⟨h1,h2⟩,h3⟩:=h;cases k with
  | zero =>
    simp only [nth,sIq,pIq] at hk;obtain ⟨rfl,rfl⟩:=hk;exact .inl ⟨rfl,h2,h1⟩
  | succ k =>
    have:=h3 _ (jO (l:=r) (k:=k) hk)
    unfold Qz at this;split at this
    ·rename_i es n ρ he;simp only [sIq,pIq] at he;obtain ⟨rfl,rfl⟩:=he;exact .inr ⟨by omega,_,_,_,rfl⟩
    ·cases this
 ·cases h
theorem MemRel.fix {F w bs m} (hm : MemRel P F w bs m) (ho : WX m = true) (hall : ∀ k, k < m.length -> ∃ T cs, nth m k = some (some (T, cs))) : MemRel P F w (y3 w.heap.size bs m) m ∧ (∀ x, nth bs 0 = some x -> nth (y3 w.heap.size bs m) 0 = some x) ∧
  ∀ y ∈ y3 w.heap.size bs m,(∃ k T cs,nth m k=some (some (T,cs))∧jM y cs∧nth bs k=some y)∨y.p=w.heap.size:=by
 have hl:(y3 w.heap.size bs m).length=m.length:=by rw [Q8];exact hm.len
 have live:∀ k y T cs,nth (y3 w.heap.size bs m) k=some y->nth m k=some (some (T,cs))->jM y cs->nth bs k=some y:=by
  intro k y T cs hk hc hv;obtain ⟨x,hx,h1,h2,h3,h4,h5⟩:=Q0 _ _ _ _ _ hk;rcases Q1 ho hc with ⟨_,hr,_⟩ | ⟨_,es,n,ρ,rfl⟩
  ·rw [h4 T cs hc hr];exact hx
  ·rw [h3 (by rw [← h2];exact hv.2)];exact hx
 refine ⟨⟨hl,fun k x T cs hk hc hv=>hm.loc k x T cs (live k x T cs hk hc hv) hc hv,fun k k' x x' T cs T' cs' a1 a2 a3 a4 a5 a6 a7=>hm.inj k k' x x' T cs T' cs' (live _ _ _ _ a1 a3 a5) (live _ _ _ _ a2 a4 a6) a3 a4 a5 a6 a7,
  fun k T cs x hc hr hk => ?_,fun k T fz es n ρ x hc hk => ?_,fun k T f i st cs x hc hk => ?_⟩,fun x hx => ?_,fun y hy => ?_⟩
 ·have hb:=live k x T cs hk hc (qg hr);obtain ⟨vs,g1,g2⟩:=hm.cont k T cs x hc hr hb;refine ⟨vs,g1,?_⟩;rcases Q1 ho hc with ⟨_,_,hcl⟩ | ⟨_,es,n,ρ,rfl⟩
  ·have one : ∀ c v, (closedC c = true ∨ yi c = true) -> CV.Rel F w bs c v -> CV.Rel F w (y3 w.heap.size bs m) c v := by
    intro c v hc hd;rcases hc with h1 | h1
    ·exact hd.closed h1
    ·cases c with
     | os b sz =>
       cases hd with
      | os hb0 hbase =>
        rename_i x0 base;have hlt:=js hb0;rw [← Q8 w.heap.size bs m] at hlt;have hy:nth (y3 w.heap.size bs m) b=some (y3 w.heap.size bs m)[b]:=by rw [jd];exact List.getElem?_eq_getElem hlt
        obtain ⟨x2,hx2,e1,e2,e3,_,_⟩:=Q0 _ _ _ _ _ hy;rw [hb0] at hx2;simp only [sIq] at hx2;subst hx2;rw [← e1,← e2];exact .os hy fun h0=>by rw [e2] at h0;rw [e3 h0];exact hbase h0
     | _=>simp [yi] at h1
   have all:∀ {l:List CV} {vs:List Value},All2 (CV.Rel F w bs) l vs->(∀ x ∈ l,closedC x=true∨yi x=true)->All2 (CV.Rel F w (y3 w.heap.size bs m)) l vs:=by
    intro l vs h
    induction h with
    | nil=>intro _;exact .nil
    | cons hd _ ih=>intro hl;exact .cons (one _ _ (hl _ (by simp)) hd) (ih fun x hx=>hl x (List.mem_cons_of_mem _ hx))
   exact all g2 hcl
  ·simp [jf] at hr
 ·obtain ⟨y,hy,e1,e2,e3,_,_⟩:=Q0 _ _ _ _ _ hk;have h:=hm.row k T fz es n ρ y hc hy;refine ⟨by rw [e1];exact h.len,by rw [e2];exact h.le,by rw [e2];exact h.mx,fun h0 => ?_,fun h0 => ?_⟩
  ·rw [e2] at h0;rw [e3 h0];exact h.blk h0
  ·rw [e2] at h0;rw [e3 h0];exact h.frz h0
 ·rcases Q1 ho hc with ⟨_,hr,_⟩ | ⟨_,es,n,ρ,e⟩
  ·simp [jf] at hr
  ·simp at e
 ·have hlt:=js hx;rw [← Q8 w.heap.size bs m] at hlt;have hy:nth (y3 w.heap.size bs m) 0=some (y3 w.heap.size bs m)[0]:=by rw [jd];exact List.getElem?_eq_getElem hlt
  obtain ⟨x2,hx2,_,_,_,e4,_⟩:=Q0 _ _ _ _ _ hy;rw [hx] at hx2;simp only [sIq] at hx2;subst hx2;rw [Q8,hm.len] at hlt;obtain ⟨T,cs,hc⟩:=hall 0 hlt;rcases Q1 ho hc with ⟨_,hr,_⟩ | ⟨h0,_⟩
  ·rw [hy,e4 T cs hc hr]
  ·omega
 ·obtain ⟨k,hk⟩:=Ws hy;have hlt:=js hk;rw [Q8,hm.len] at hlt;obtain ⟨T,cs,hc⟩:=hall k hlt;obtain ⟨x2,hx2,_,e2,e3,e4,e5⟩:=Q0 _ _ _ _ _ hk;rcases Q1 ho hc with ⟨_,hr,_⟩ | ⟨h0,es,n,ρ,rfl⟩
  ·exact .inl ⟨k,T,cs,hc,qg hr,live k y T cs hk hc (qg hr)⟩
  ·rcases Nat.eq_zero_or_pos x2.cap with h0 | h0
   ·exact .inr (e5 (by rw [hc];rfl) h0)
   ·have hv:jM y [.row false es n ρ]:=⟨rfl,by rw [e2];exact h0⟩
    exact .inl ⟨k,T,_,hc,hv,live k y T _ hk hc hv⟩
structure Clus (X:Type) where
 lay:X->Mem
 get:Mem->Option X
 prep:Nat->Mem->Mem
structure Clus.Ok {X:Type} (C:Clus X):Prop where
 get:∀ m x,C.get m=some x->∀ (P:Program) F w bs,MemRel P F w bs m->MemRel P F w bs (C.lay x)
 liv:∀ m x,C.get m=some x->∀ k y T cs,nth (C.lay x) k=some (some (T,cs))->jM y cs->∃ T' cs',nth m k=some (some (T',cs'))∧jM y cs'
 ok:∀ x,WX (C.lay x)=true
 prep:∀ (P:Program) F w bs b mem,MemRel P F w bs mem->∃ bs',Ext bs.length F w bs F w bs'∧MemRel P F w bs' (C.prep b mem)
theorem OS {m:Mem} (h:WX m=true):∀ k,k<m.length->∃ T cs,nth m k=some (some (T,cs)):=by
 unfold WX at h;split at h
 ·rename_i T' cs' r;simp only [aTq,List.all_eq_true] at h;intro k hk;cases k with
  | zero=>exact ⟨T',cs',rfl⟩
  | succ k =>
    have hlt:k<r.length:=by simpa using hk
    have hn:nth r k=some r[k]:=by rw [jd];exact List.getElem?_eq_getElem hlt
    have:=h.2 _ (jO hn)
    unfold Qz at this;split at this
    ·rename_i T es n ρ he;exact ⟨T,_,by show nth r k=_;rw [hn,he]⟩
    ·cases this
 ·cases h
def Hs (b:Nat):List (Nat × TypeId × List Sh)->Mem->Mem
 | [],m=>m
 | (o,T,es)::r,m=>Hs b r (MU b o T es m)
theorem V5 {F w} (b:Nat):∀ (l:List (Nat × TypeId × List Sh)) {bs mem},MemRel P F w bs mem->∃ bs',Ext bs.length F w bs F w bs'∧MemRel P F w bs' (Hs b l mem)
 | [],bs,_,hm=>⟨bs,Ext.refl,hm⟩
 | (o, T, es) :: r, bs, _, hm => by
   obtain ⟨bs1,e1,h1⟩:=jbQ hm b o T es;obtain ⟨bs2,e2,h2⟩:=V5 b r h1;exact ⟨bs2,e1.trans e2 e1.le,h2⟩
def Lx (b o:Nat) (mem:Mem):Mem :=
 match nth mem b with
 | some (some (T,cs))=>if jf cs||jf (jl cs o .any) then mem else jl mem b (some (T,jl cs o .any))
 | _=>mem
theorem All2.setAny {F w bs} {l:List CV} {vs:List Value} (h:All2 (CV.Rel F w bs) l vs):∀ (o:Nat),All2 (CV.Rel F w bs) (jl l o .any) vs:=by
 induction h with
 | nil=>intro o;exact .nil
 | cons hd h' ih =>
   intro o;cases o with
  | zero=>exact .cons (.any hd.one) h'
  | succ o=>exact .cons hd (ih o)
theorem jbu {F w bs mem} (hm:MemRel P F w bs mem) (b o:Nat):MemRel P F w bs (Lx b o mem):=by
 unfold Lx;split
 ·rename_i T cs hb;split
  ·exact hm
  ·rename_i hr;simp only [Bool.or_eq_true,not_or,Bool.not_eq_true] at hr;exact hm.cellsTo hb hr.1 hr.2 fun x vs _ _ h=>h.setAny o
 ·exact hm
def qN (b:Nat) (mem:Mem):List Nat:=b::jhi mem b
def Bg {X:Type} (C:Clus X) (b:Nat) (mem:Mem):Option X :=
 if YC (qN b mem)&&(qN b mem).all (fun k=>Nat.blt k mem.length) then C.get ((qN b mem).map (Uz (qN b mem) mem)) else none
theorem Lg {X : Type} {C : Clus X} (hC : C.Ok) {b : Nat} {mem : Mem} {x : X} (h : Bg C b mem = some x) {F w bs} (hm : MemRel P F w bs mem) :
  YC (qN b mem)=true∧(∀ k ∈ qN b mem,k<mem.length)∧C.get ((qN b mem).map (Uz (qN b mem) mem))=some x∧MemRel P F w (Jh (qN b mem) bs) (C.lay x):=by
 unfold Bg at h;split at h
 ·rename_i hc;rw [aTq,List.all_eq_true] at hc;have hlt:∀ k ∈ qN b mem,k<mem.length:=fun k hk=>Nat.blt_eq.mp (hc.2 k hk);exact ⟨hc.1,hlt,h,hC.get _ _ h _ _ _ _ (hm.ren hc.1 hlt)⟩
 ·cases h
def J3:List Nat->Mem->Mem
 | [],m=>m
 | k::r,m=>J3 r (jl m k none)
theorem XU:∀ (l:List Nat) (m:Mem),(J3 l m).length=m.length
 | [],_=>rfl
 | k::r,m=>by unfold J3;rw [XU r,j0]
theorem Ll {F w bs}:∀ (l:List Nat) {mem:Mem},MemRel P F w bs mem->MemRel P F w bs (J3 l mem)
 | [],_,h=>h
 | k::r,_,h=>Ll r (h.kill k)
theorem Yh:∀ (l:List Nat) {m:Mem} {k:Nat} {T:TypeId} {cs:List CV},nth (J3 l m) k=some (some (T,cs))->k ∉ l∧nth m k=some (some (T,cs))
 | [],_,_,_,_,h=>⟨by simp,h⟩
 | j :: r, m, k, T, cs, h => by
   obtain ⟨h1,h2⟩:=Yh r (m:=jl m j none) h;rcases jL h2 with ⟨_,e⟩ | ⟨hne,h2⟩
   ·cases e
   ·exact ⟨by simp only [List.mem_cons,not_or];exact ⟨hne,h1⟩,h2⟩
def Nn (b:Nat) (mem m':Mem):Mem :=
 let J:=J3 (qN b mem) mem++m'.map (shE mem.length)
 match nth J mem.length with
 | some e=>jl (jl J mem.length none) b e
 | none=>J
def clG {X:Type} (C:Clus X) (u:List A1->X->Tree (AV × X)):List A1->Mem->Tree (AV × Mem)
 | .c (.ptr b 0) :: rest, mem => if (zQ mem rest).2.all jH then
   let m:=C.prep b (zQ mem rest).1
   match Bg C b m with
   | some x=>(u (zQ mem rest).2 x).bind fun z=>if JM z.1 then .leaf (z.1,Nn b m (C.lay z.2)) else .fail
   | none=>.fail
   else .fail
 | _,_=>.fail
def Mz {X:Type} (C:Clus X) (y:Out × Mem):Tree (AV × X) :=
 match y.1 with
 | .ret a=>if JM (yx y.2 a).2 then (match Bg C 0 (yx y.2 a).1 with
  | some x=>.leaf ((yx y.2 a).2,x)
  | none=>.fail) else .fail
 | .pan _=>.fail
def Qt {X:Type} (C:Clus X) (P:Program) (H:Hd) (Xp:HdP) (n f:Nat) (rest:List A1) (x:X):Tree (AV × X) :=
 (jcE P H Xp n f 1 (.c (.ptr 0 0)::rest) (C.lay x)).bind (Mz C)
theorem jgo {pm:List Nat} {bs:List BI} (hl:∀ k ∈ pm,k<bs.length) {y:BI} (hy:y ∈ Jh pm bs):y ∈ bs:=by
 simp only [Jh,List.mem_map] at hy;obtain ⟨k,hk,rfl⟩:=hy;obtain ⟨x,hb⟩ : ∃ x,nth bs k=some x:=⟨bs[k]'(hl k hk),by rw [jd];exact List.getElem?_eq_getElem (hl k hk)⟩
 rw [hb];exact jO hb
theorem Me {pm:List Nat} {bs:List BI} (hl:∀ k ∈ pm,k<bs.length) {i:Nat} {y:BI} (hy:nth (Jh pm bs) i=some y):∃ j,nth pm i=some j∧nth bs j=some y:=by
 have hi:=js hy;simp only [Jh,List.length_map] at hi;obtain ⟨j,hp⟩ : ∃ j,nth pm i=some j:=⟨pm[i],by rw [jd];exact List.getElem?_eq_getElem hi⟩
 obtain ⟨x,hb⟩ : ∃ x,nth bs j=some x:=⟨bs[j]'(hl j (jO hp)),by rw [jd];exact List.getElem?_eq_getElem (hl j (jO hp))⟩
 refine ⟨_,hp,?_⟩;rw [kF hp hb] at hy;rw [hb];exact hy
theorem jdY {X : Type} {C : Clus X} (hC : C.Ok) {H : Hd} (hH : HdOk P H) {Xp : HdP} (hX : XOk P Xp) (n f : Nat) {u : List A1 -> X -> Tree (AV × X)}
  (hu:∀ rest x z,(u rest x).sel=some z->∃ y,(Qt C P H Xp n f rest x).sel=some y∧leA y.1 z.1∧∀ F w bs,MemRel P F w bs (C.lay y.2)->MemRel P F w bs (C.lay z.2)):qH P f (clG C u):=by
 intro args mem r mem' h F w bs vs hm hargs;unfold clG at h;split at h
 rotate_left
 ·simp [Tree.sel] at h
 rename_i b rest;split at h
 rotate_left
 ·simp [Tree.sel] at h
 rename_i hrest;cases hargs with
 | cons hp hvs =>
 rename_i v0 vs;obtain ⟨F1,ef,hmf,hvs⟩:=ZE hm hvs;generalize (zQ mem rest).2=rest at h hrest hvs;generalize (zQ mem _).1=memf at h hmf;have hp:=A1.Rel.grow ef.grow hp
 suffices key:Calls P f (v0::vs).toArray w (fun e w'=>∃ v F' bs',e=.returned v∧Ext bs.length F1 w bs F' w' bs'∧MemRel P F' w' bs' mem'∧AV.Rel F' w' bs' r v) from
  key.mono fun e w' ⟨v,F',bs',h1,h2,h3,h4⟩=>⟨v,F',bs',h1,ef.trans h2 (lRq _),h3,h4⟩
 clear hm ef;have hm:=hmf;obtain ⟨bs1,e1,hm1⟩:=hC.prep P F1 w bs b memf hm;simp only at h;generalize C.prep b memf=m at h hm1;split at h
 rotate_left
 ·simp [Tree.sel] at h
 rename_i x hx;obtain ⟨z,hz,h2⟩:=jh h;split at h2
 rotate_left
 ·simp [Tree.sel] at h2
 rename_i hcz;simp only [Tree.sel,sIq,pIq] at h2;obtain ⟨rfl,rfl⟩:=h2;obtain ⟨hnd,hlt,hget,hsub⟩:=Lg hC hx hm1;obtain ⟨hfix,hfix0,hfixm⟩:=hsub.fix (hC.ok x) (OS (hC.ok x));have hltb:∀ k ∈ qN b m,k<bs1.length:=fun k hk=>by rw [hm1.len];exact hlt k hk
 have hpos:∀ x:X,1<=(C.lay x).length:=fun x=>by
  have:=hC.ok x
  cases hl:C.lay x with
  | nil=>rw [hl] at this;simp [WX] at this
  | cons _ _=>simp
 generalize hbsS:y3 w.heap.size (Jh (qN b m) bs1) (C.lay x)=bsS at hfix hfix0 hfixm
 have away:∀ k y T cs,nth bs1 k=some y->nth m k=some (some (T,cs))->jM y cs->k ∉ qN b m->∀ z ∈ bsS,z.p ≠ y.p:=by
  intro k y T cs hk hc hl hn z hz e;rcases hfixm z hz with ⟨i,T1,cs1,g1,g2,g3⟩ | g
  ·obtain ⟨T2,cs2,k1,k2⟩:=hC.liv _ _ hget i z T1 cs1 g1 g2;obtain ⟨j,j1,j2⟩:=Me hltb g3;rw [jd,List.getElem?_map] at k1;simp only [Option.map_eq_some_iff] at k1;obtain ⟨j',hj',k1⟩:=k1;rw [← jd,j1] at hj';simp only [sIq] at hj';subst hj';unfold Uz at k1;split at k1
   ·rename_i T3 cs3 hm3;simp only [sIq,pIq] at k1;obtain ⟨rfl,rfl⟩:=k1
    have:=hm1.inj j k z y _ cs3 T cs j2 hk hm3 hc (W6 k2) hl e
    subst this;exact hn (jO j1)
   ·cases k1
  ·have:=(hm1.loc k y T cs hk hc hl).2
   omega
 have inbs:∀ z ∈ bsS,z ∈ bs1∨z.p=w.heap.size:=by
  intro z hz;rcases hfixm z hz with ⟨i,T1,cs1,g1,g2,g3⟩ | g
  ·obtain ⟨j,_,j2⟩:=Me hltb g3;exact .inl (jO j2)
  ·exact .inr g
 cases hp with
 | ptr hx0 =>
 rename_i x0;have hb1:nth bs1 b=some x0:=e1.pre b x0 (js hx0) hx0;have hS0:nth bsS 0=some x0:=hfix0 x0 (kF (pm:=qN b m) (b':=0) rfl hb1);have hargs1:All2 (A1.Rel F1 w bsS) (.c (.ptr 0 0)::rest) (.pointer (some ⟨x0.p,0,none⟩)::vs):=.cons (CV.Rel.ptr (x:=x0) hS0) (XO hvs hrest);obtain ⟨y,hy1,hy2,hy3⟩:=hu rest x z hz;unfold Qt at hy1;obtain ⟨⟨o,m1⟩,h4,h5⟩:=jh hy1;refine (jfX hH hX n f 1 h4 (hpos x) hfix hargs1).mono fun e w' ⟨F1',bs',hext,hm',hend⟩ => ?_;unfold Mz at h5;split at h5
 rotate_left
 ·simp [Tree.sel] at h5
 rename_i a hoa;simp only at hoa;subst hoa;split at h5
 rotate_left
 ·simp [Tree.sel] at h5
 rename_i hca;split at h5
 rotate_left
 ·simp [Tree.sel] at h5
 rename_i x' hx';simp only [Tree.sel,sIq] at h5;subst h5;obtain ⟨v,rfl,hv⟩:=hend;obtain ⟨F2,e2,hm2,r2⟩:=Wz hm' hv;have hS1:1<=bsS.length:=js hS0;have e3:=hext.trans e2 (hext.le hS1);obtain ⟨hnd2,hlt2,_,hsub2⟩:=Lg hC hx' hm2;have hlt2b:∀ k ∈ qN 0 (yx m1 a).1,k<bs'.length:=fun k hk=>by rw [hm2.len];exact hlt2 k hk
 have hsub3:=hy3 _ _ _ hsub2;have hb0:nth bs' 0=some x0:=e3.pre 0 x0 (by omega) hS0
 have hB0:nth (Jh (qN 0 (yx m1 a).1) bs') 0=some x0:=kF (pm:=qN 0 (yx m1 a).1) (b':=0) rfl hb0;have hBm:∀ z ∈ Jh (qN 0 (yx m1 a).1) bs',z ∈ bs':=fun z hz=>jgo hlt2b hz;generalize Jh (qN 0 (yx m1 a).1) bs'=bs2 at hsub3 hB0 hBm
 have he1:Ext bs1.length F1 w bs1 F2 w' bs1:=by
  refine ⟨e3.size,e3.F1,fun p hF hps hb=>e3.F2 p hF hps fun z hz => ?_,fun p hp hb=>e3.same p hp (hb.imp id fun hb z hz => ?_),e3.os,e3.tape,e3.output,fun _ _ _ h=>h,fun z hz=>.inl ⟨z,hz,rfl⟩⟩
  ·rcases inbs z hz with h | h
   ·exact hb z h
   ·omega
  ·rcases inbs z hz with h | h
   ·exact hb z h
   ·omega
 have hkm:MemRel P F2 w' bs1 (J3 (qN b m) m):=(Ll (qN b m) hm1).move he1 fun k y T cs hk hc hl=>by
  obtain ⟨hn,hc⟩:=Yh _ hc;obtain ⟨g1,g2⟩:=hm1.loc k y T cs hk hc hl;have ha:=away k y T cs hk hc hl hn;exact ⟨e3.F2 y.p g1 g2 ha,e3.same y.p g2 (.inr ha)⟩
 have hj:=hkm.join hsub3 fun k y T cs hk hc hl z hz e=>by
  obtain ⟨hn,hc⟩:=Yh _ hc;obtain ⟨g1,g2⟩:=hm1.loc k y T cs hk hc hl;rcases e3.mem z (hBm z hz) with ⟨z',hz',e'⟩ | hs
  ·exact away k y T cs hk hc hl hn z' hz' (e'.trans e.symm)
  ·omega
 have hL:bs1.length=m.length:=hm1.len;rw [hL] at hj;obtain ⟨T0,cs0,h00⟩:=OS (hC.ok z.2) 0 (hpos z.2)
 have hr0:jf cs0=false:=by
  rcases Q1 (hC.ok z.2) h00 with ⟨_,h,_⟩ | ⟨h,_⟩
  ·exact h
  ·omega
 have hJL:nth (J3 (qN b m) m++(C.lay z.2).map (shE m.length)) m.length=some (some (T0,cs0.map (shC m.length))):=by
  have:=kv (J3 (qN b m) m) ((C.lay z.2).map (shE m.length)) 0
  rw [XU,Nat.add_zero] at this;rw [this,jd,List.getElem?_map,← jd,h00];rfl
 have hbL:b<m.length:=by rw [← hL];exact js hb1
 have hBL:nth (bs1++bs2) m.length=some x0:=by
  have:=kv bs1 bs2 0
  rw [Nat.add_zero,hL] at this;rw [this];exact hB0
 have hBb:nth (bs1++bs2) b=some x0:=qi hb1
 have hrs:jf (cs0.map (shC m.length))=false:=by
  cases hh:jf (cs0.map (shC m.length)) with
  | false=>rfl
  | true =>
    exfalso
    unfold jf at hh;split at hh
    ·rename_i he;rw [jdq he] at hr0;simp [jf] at hr0
    ·rename_i he;obtain ⟨ds,e,_⟩:=jiA he;rw [e] at hr0;simp [jf] at hr0
    ·cases hh
 have hfin:MemRel P F2 w' (bs1++bs2) (Nn b m (C.lay z.2)):=by
  unfold Nn;simp only [hJL];have hk:=hj.kill m.length;obtain ⟨g1,g2⟩:=hj.loc m.length x0 T0 _ hBL hJL (qg hrs);refine hk.put hBb (fun T cs h => ?_) (fun _=>⟨g1,g2⟩) (fun _ k y T' cs' hk' hc hl e => ?_) (fun _=>hj.cont m.length T0 _ x0 hJL hrs hBL) (fun fz es n ρ h => ?_) (fun f i st cs' h => ?_)
  ·rcases jL h with ⟨_,h⟩ | ⟨_,h⟩
   ·cases h
   ·rcases Nb h with ⟨_,h⟩ | ⟨h1,_⟩
    ·exact (Yh _ h).1 (by simp [qN])
    ·rw [XU] at h1;omega
  ·rcases jL hc with ⟨_,h⟩ | ⟨hne,hc⟩
   ·cases h
   ·exact hne (hj.inj k m.length y x0 T' cs' T0 _ hk' hBL hc hJL hl (qg hrs) e)
  ·rw [h] at hrs;simp [jf] at hrs
  ·rw [h] at hrs;simp [jf] at hrs
 have eF:Ext bs1.length F1 w bs1 F2 w' (bs1++bs2):=by
  refine ⟨he1.size,he1.F1,he1.F2,he1.same,he1.os,he1.tape,he1.output,fun k y hk hy=>qi hy,fun y hy => ?_⟩;rcases List.mem_append.1 hy with h | h
  ·exact .inl ⟨y,h,rfl⟩
  ·rcases e3.mem y (hBm y h) with ⟨z',hz',e'⟩ | hs
   ·rcases inbs z' hz' with h | h
    ·exact .inl ⟨z',h,e'⟩
    ·exact .inr (by omega)
   ·exact .inr hs
 refine ⟨v,F2,_,rfl,e1.trans eF e1.le,hfin,?_⟩;have hv0:AV.Rel F2 w' [] z.1 v:=hy2 _ _ _ (r2.closed hca);exact hv0.closed hcz
end Go.Sx
namespace Go.Proofs.YtiefjlcakpdfeaaGreat
open Go Go.Sx Go.RowKit Rb
set_option maxRecDepth 100000
def os1 {β:Type}:Option β->Bool | some _=>true | none=>false
def ov1 {β:Type} (d:β):Option β->β | some x=>x | none=>d
def Sy {β:Type} (enc:β->AV) (T:Tree AV):Option β->Prop
 | none=>True
 | some x=>T.All (fun z=>leA z (enc x))
section
variable {β γ:Type} {enc:β->AV}
theorem Sy.cond {c:Bool} {T E:Tree AV} {a b:Option β} (h1:c=true->Sy enc T a) (h2:c=false->Sy enc E b):Sy enc (.br c T E) (bif c then a else b):=by
 cases c with
 | true =>
   have:=h1 rfl
   show Sy enc _ a;cases a with
  | none=>exact trivial
  | some y=>exact ⟨fun _=>this,(fun h=>by cases h)⟩
 | false =>
   have:=h2 rfl
   show Sy enc _ b;cases b with
  | none=>exact trivial
  | some y=>exact ⟨(fun h=>by cases h),fun _=>this⟩
theorem Sy.nd {c d:Bool} {T:Tree AV} {a:Option β} (h:c=true->d=true) (h1:c=true->Sy enc T a):Sy enc (.need d T) (Go.Proofs.YtiefjlcakpdfeaaGreat.nd c a):=by
 cases c with
 | false=>exact trivial
 | true =>
   have:=h1 rfl
   show Sy enc _ a;cases a with
  | none=>exact trivial
  | some y=>exact ⟨h rfl,this⟩
theorem Sy.need {d:Bool} {T:Tree AV} {a:Option β} (h:d=true) (h1:Sy enc T a):Sy enc (.need d T) a:=by
 cases a with
 | none=>exact trivial
 | some y=>exact ⟨h,h1⟩
theorem Sy.ret {v:β}:Sy enc (.leaf (enc v)) (some v):=leA.refl
theorem Sy.ret' {v:β} {r:AV} (h:leA r (enc v)):Sy enc (.leaf r) (some v):=h
theorem Sy.bind {d:γ} {o:Option γ} {K:γ->Tree AV} {f:γ->Option β} (h:∀ v,Sy enc (K v) (f v)):Sy enc (.need (os1 o) (K (ov1 d o))) (o.bind f):=by
 cases o with
 | none=>exact trivial
 | some v =>
   have:=h v
   show Sy enc _ (f v);cases hf:f v with
  | none=>exact trivial
  | some y=>rw [hf] at this;exact ⟨rfl,this⟩
theorem Sy.br1 {c:Bool} {T E:Tree AV} {a:Option β} (hc:c=true) (h:Sy enc T a):Sy enc (.br c T E) a:=by
 subst hc;cases a with
 | none=>exact trivial
 | some y=>exact ⟨fun _=>h,fun h=>by cases h⟩
theorem Sy.br0 {c:Bool} {T E:Tree AV} {a:Option β} (hc:c=false) (h:Sy enc E a):Sy enc (.br c T E) a:=by
 subst hc;cases a with
 | none=>exact trivial
 | some y=>exact ⟨(fun h=>by cases h),fun _=>h⟩
end
def enc2 (x:Int × Int):AV:=.tup [.c (.int .i64 x.1),.c (.int .i64 x.2)]
def encI (x:Int):AV:=.one (.c (.int .i64 x))
def jF (x:Bool):AV:=.one (.c (.bool x))
def lf2 (a b:Int):Tree AV:=.leaf (enc2 (a,b))
abbrev RN:=RX->Option Val
def V7 (R:RN):List A1->Option (Bool × AV)
 | [.agg [.str o,.int .i64 v,.sl es n ρ]]=>if shEq.shsEq es (aw 0) then some (os1 (R ⟨o,v,n,ρ⟩),.one (.c (.ifx (ov1 .zero (R ⟨o,v,n,ρ⟩))))) else none
 | _=>none
def jhf (d:Val):AV:=.one (.c (.ifx d))
theorem N7 {R:RN} {args:List A1} {r:AV} (h:V7 R args=some (true,r)):∃ o v n ρ x,args=[.agg [.str o,.int .i64 v,.sl (aw 0) n ρ]]∧R ⟨o,v,n,ρ⟩=some x∧r=jhf x:=by
 unfold V7 at h;split at h
 ·split at h
  ·rename_i o v es n ρ hs;simp only [sIq,pIq] at h;cases hR:R ⟨o,v,n,ρ⟩ with
   | none=>rw [hR] at h;cases h.1
   | some x=>rw [hR] at h;exact ⟨o,v,n,ρ,x,by rw [jm hs],hR,h.2.symm⟩
  ·cases h
 ·cases h
noncomputable abbrev je3 (R:RN):Hd:=⟨[],[(196,nG (V7 R))],[],[]⟩
theorem jrO {R:RN} (hR:jj Tryz.prog 196 (nG (V7 R))):HdOk Tryz.prog (je3 R):=HdOk.nil.ucCons hR
abbrev X3:HdP:=⟨[],[],[],[],[],3,[]⟩
theorem x3:XOk Tryz.prog X3:=XOk.nil
def k1V (d:Val):Val:=Val.ofFlat 1 [.ifx d]
def k2V (a b:Val):Val:=Val.cat 1 (k1V a) (k1V b)
def jb5 (o:ByteArray) (n:Nat) (ρ:Val):CV:=.ifa 246 [.str o,.sl [.ifc] n ρ]
def lfC (x:CV):Tree AV:=.leaf (.one (.c x))
def jhQ (R:RN) (e:RX):Tree AV :=
 let a:=R (yd e.ρ 0)
 let b:=R (yd e.ρ 1)
 let c:=R (yd e.ρ 2)
 let av:=ov1 .zero a
 let bv:=ov1 .zero b
 .br (jb e.op qW) (lfC (.iface 241 (.int .i64 e.v))) (.br (ja e.n==0) (lfC (.ifa 243 [.str e.op,.int .i64 e.v]))
  (.br (lt 0 (ja e.n)) (.need (jc 0 e.n) (.need (os1 a) (.need (Nat.ble (1*16) 140737488355328)
   (.br (lt 1 (ja e.n)) (.need (jc 1 e.n) (.need (os1 b) (.need (Nat.ble (2*16) 140737488355328)
    (.br (lt 2 (ja e.n)) (.need (jc 2 e.n) (.need (os1 c) (.need (Nat.ble (3*16) 140737488355328) .fail)))
     (lfC (jb5 e.op 2 (k2V av bv)))))))
    (lfC (jb5 e.op 1 (k1V av))))))) (lfC (.ifa 246 [.str e.op,.nils]))))
theorem ji8 (R:RN) (o:ByteArray) (v:Int) (n:Nat) (ρ:Val):jI Tryz.prog (je3 R) X3 10 196 [.agg [.str o,.int .i64 v,.sl (aw 0) n ρ]]=jhQ R ⟨o,v,n,ρ⟩:=by kernel_rfl
theorem jjK {x:CV} (h:fits .ifc x=true):leC x (.ifx (Val.ofC x)):=fun _ _ _ hv=>QU (s:=.ifc) hv h
theorem UT {x:CV} (h:fits .ifc x=true):leA (.one (.c x)) (jhf (Val.ofC x)):=Jq (.c (jjK h))
def RD (R:RN) (e:RX):Option Val :=
 bif jb e.op qW then some (Val.ofC (.iface 241 (.int .i64 e.v)))
 else bif ja e.n==0 then some (Val.ofC (.ifa 243 [.str e.op,.int .i64 e.v]))
 else bif ja e.n==1 then (R (yd e.ρ 0)).bind fun a=>some (Val.ofC (jb5 e.op 1 (k1V a)))
 else bif ja e.n==2 then (R (yd e.ρ 0)).bind fun a=>(R (yd e.ρ 1)).bind fun b=>some (Val.ofC (jb5 e.op 2 (k2V a b)))
 else none
theorem jga (R:RN) (e:RX):Sy jhf (jhQ R e) (RD R e):=by
 unfold jhQ RD;refine Sy.cond (fun _=>Sy.ret' (UT rfl)) fun _=>Sy.cond (fun _=>Sy.ret' (UT rfl)) fun h0 => ?_;have h0:e.n ≠ 0:=fun h=>by rw [h] at h0;cases h0
 have g0:lt 0 (ja e.n)=true:=by unfold lt ja;simp;omega
 have i0:jc 0 e.n=true:=by unfold jc le lt ja;simp;omega
 refine Sy.br1 g0 (Sy.need i0 ?_);cases h1:(ja e.n==1) with
 | true =>
   have h1:e.n=1:=by simp [ja] at h1;omega
   refine Sy.bind fun a=>Sy.need rfl (Sy.br0 ?_ (Sy.ret' (UT rfl)));rw [h1];rfl
 | false =>
   have h1:e.n ≠ 1:=fun h=>by rw [h] at h1;cases h1
   have g1:lt 1 (ja e.n)=true:=by unfold lt ja;simp;omega
   have i1:jc 1 e.n=true:=by unfold jc le lt ja;simp;omega
   cases h2:(ja e.n==2) with
  | true =>
    have h2:e.n=2:=by simp [ja] at h2;omega
    refine Sy.bind fun a=>Sy.need rfl (Sy.br1 g1 (Sy.need i1 (Sy.bind fun b=>Sy.need rfl (Sy.br0 ?_ (Sy.ret' (UT rfl))))));rw [h2];rfl
  | false=>exact trivial
theorem jpV {R:RN} (hR:jj Tryz.prog 196 (nG (V7 R))):jj Tryz.prog 196 (nG (V7 (RD R))):=by
 refine jz (H:=je3 R) (X:=X3) (jrO hR) x3 10 196 ?_;intro args r h;obtain ⟨o,v,n,ρ,x,e1,h1,e2⟩:=N7 h;rw [e1,e2,ji8]
 have:=jga R ⟨o,v,n,ρ⟩
 rw [h1] at this;exact this
def G0:Nat->RN
 | 0=>fun _=>none
 | f+1=>RD (G0 f)
theorem jng:∀ f,jj Tryz.prog 196 (nG (V7 (G0 f)))
 | 0 => by
   intro args r h;obtain ⟨o,v,n,ρ,x,_,h1,_⟩:=N7 (zn h);cases h1
 | f+1=>jpV (jng f)
def QL (b:Bool):Int:=bif b then 1 else 0
def F5:List A1->Option (Bool × AV)
 | [.c (.bool b)]=>some (true,encI (QL b))
 | _=>none
def jrg (b:Bool):Tree AV:=.br b (.leaf (encI 1)) (.leaf (encI 0))
theorem jjT (b:Bool):jT Tryz.prog h00 10 234 [.c (.bool b)]=jrg b:=by kernel_rfl
theorem jgl:jj Tryz.prog 234 (nG F5):=by
 refine jJ (H:=h00) HdOk.nil 10 234 ?_;intro args r h;unfold F5 at h;split at h
 ·rename_i b;simp only [sIq,pIq,true_and] at h;subst h;refine ⟨_,jjT b,?_⟩;cases b<;>exact jk rfl leA.refl
 ·cases h
def jbE:List A1->Option (Bool × AV)
 | [.c (.int .i64 v),.c (.sl _ _ _)]=>some (true,enc2 (v,0))
 | _=>none
theorem jom:jj Tryz.prog 231 (nG jbE):=by
 refine jJ (H:=h00) HdOk.nil 10 231 ?_;intro args r h;unfold jbE at h;split at h
 ·rename_i v es n ρ;simp only [sIq,pIq,true_and] at h;subst h;exact ⟨lf2 v 0,by kernel_rfl,leA.refl⟩
 ·cases h
noncomputable abbrev jgc:Hd:=⟨[fK 233],[(234,nG F5)],[],[]⟩
theorem jrZ:HdOk Tryz.prog jgc:=HdOk.fK (HdOk.nil.ucCons jgl) 233
def Gk (w:ByteArray) (i:Int) (n:Nat) (ρ:Val):Option (Int × Int) :=
 let s:=ρ.at i.toNat
 bif jb w qT then none else bif jb w yA then some (ja n,0) else bif le (ja n) i then some (0,7) else nd (jc i n)
  (bif jb w zA then some ((s.at 2).N [],0) else bif jb w qq then some ((s.at 3).N [],0) else bif jb w yh then some ((s.at 1).N [],0)
   else bif jb w zD then some (QL ((s.at 6).B []),0) else some (QL ((s.at 7).B []),0))
def jcM:List A1->Option (Bool × AV)
 | [.agg [.str w,.int .i64 i],.c (.sl es n ρ)]=>if shEq.shsEq es Ro.siSh then some (os1 (Gk w i n ρ),enc2 (ov1 (0,0) (Gk w i n ρ))) else none
 | _=>none
def jeQ (w:ByteArray) (i:Int) (n:Nat) (ρ:Val):Tree AV :=
 let s:=ρ.at i.toNat
 .br (jb w qT) .fail (.br (jb w yA) (lf2 (ja n) 0) (.br (le (ja n) i) (lf2 0 7) (.need (jc i n)
  (.br (jb w zA) (lf2 ((s.at 2).N []) 0) (.br (jb w qq) (lf2 ((s.at 3).N []) 0) (.br (jb w yh) (lf2 ((s.at 1).N []) 0)
   (.br (jb w zD) (.need true (lf2 (QL ((s.at 6).B [])) 0)) (.need true (lf2 (QL ((s.at 7).B [])) 0)))))))))
theorem jiW (w:ByteArray) (i:Int) (n:Nat) (ρ:Val):jT Tryz.prog jgc 10 232 [.agg [.str w,.int .i64 i],.c (.sl Ro.siSh n ρ)]=jeQ w i n ρ:=by kernel_rfl
theorem jhw (w:ByteArray) (i:Int) (n:Nat) (ρ:Val):Sy enc2 (jeQ w i n ρ) (Gk w i n ρ):=by
 unfold jeQ Gk;refine Sy.cond (fun _=>trivial) fun _=>Sy.cond (fun _=>Sy.ret) fun _=>Sy.cond (fun _=>Sy.ret) fun _=>Sy.nd id fun _=>Sy.cond (fun _=>Sy.ret) fun _=>Sy.cond (fun _=>Sy.ret) fun _=>Sy.cond (fun _=>Sy.ret) fun _=>Sy.cond (fun _=>Sy.need rfl Sy.ret) fun _=>Sy.need rfl Sy.ret
theorem jmz:jj Tryz.prog 232 (nG jcM):=by
 refine jJ (H:=jgc) jrZ 10 232 ?_;intro args r h;unfold jcM at h;split at h
 ·split at h
  ·rename_i w i es n ρ hs;rw [jm hs];simp only [sIq,pIq] at h;refine ⟨_,jiW w i n ρ,?_⟩
   have:=jhw w i n ρ
   cases hp:Gk w i n ρ with
   | none=>rw [hp] at h;cases h.1
   | some x=>rw [hp] at h this;rw [← h.2];exact this
  ·cases h
 ·cases h
def Xk:Int:=1099511627776
def FF (w:ByteArray) (a b:Int):Int × Int :=
 bif (bif jb w wOr then true else jb w yw) then (QL (b != 0),0) else bif jb w wEq then (QL (a==b),0) else bif jb w wLt then (QL (lt a b),0) else bif jb w wGt then (QL (lt b a),0)
  else bif (bif lt (bif jb w zc then IntKind.wrap .i64 (a - b) else IntKind.wrap .i64 (a+b)) (-Xk) then true else lt Xk (bif jb w zc then IntKind.wrap .i64 (a - b) else IntKind.wrap .i64 (a+b))) then (0,2)
  else (bif jb w zc then IntKind.wrap .i64 (a - b) else IntKind.wrap .i64 (a+b),0)
def jeZ:List A1->Option (Bool × AV)
 | [.agg [.str w,.sl _ _ _],.c (.int .i64 a),.c (.int .i64 b)]=>some (true,enc2 (FF w a b))
 | _=>none
noncomputable abbrev jgX:Hd:=⟨[],[(234,nG F5)],[],[]⟩
theorem jrE:HdOk Tryz.prog jgX:=HdOk.nil.ucCons jgl
def jhC (w:ByteArray) (a b:Int):Tree AV :=
 let F:=fun c:Bool=>Tree.need true (lf2 (QL c) 0)
 let Z:=fun n:Int=>Tree.br (bif lt n (-Xk) then true else lt Xk n) (lf2 0 2) (lf2 n 0)
 let R:=.br (jb w wEq) (F (a==b)) (.br (jb w wLt) (F (lt a b)) (.br (jb w wGt) (F (lt b a)) (.br (jb w zc) (Z (IntKind.wrap .i64 (a - b))) (Z (IntKind.wrap .i64 (a+b))))))
 .br (jb w wOr) (.br (jb w wOr) (F (b != 0)) R) (.br (jb w yw) (F (b != 0)) R)
theorem jli (w:ByteArray) (es:List Sh) (n:Nat) (ρ:Val) (a b:Int):jT Tryz.prog jgX 10 235 [.agg [.str w,.sl es n ρ],.c (.int .i64 a),.c (.int .i64 b)]=jhC w a b:=by kernel_rfl
theorem jfx (w:ByteArray) (a b:Int):(jhC w a b).All (fun z=>leA z (enc2 (FF w a b))):=by
 unfold jhC FF;cases jb w wOr with
 | true=>exact jk rfl leA.refl
 | false =>
 cases jb w yw with
 | true=>exact jk rfl leA.refl
 | false =>
 cases jb w wEq with
 | true=>exact jk rfl leA.refl
 | false =>
 cases jb w wLt with
 | true=>exact jk rfl leA.refl
 | false =>
 cases jb w wGt with
 | true=>exact jk rfl leA.refl
 | false =>
 cases jb w zc with
 | true =>
   simp only [cond_false,cond_true];cases (bif lt (IntKind.wrap .i64 (a - b)) (-Xk) then true else lt Xk (IntKind.wrap .i64 (a - b)))<;>exact jk rfl leA.refl
 | false =>
   simp only [cond_false];cases (bif lt (IntKind.wrap .i64 (a+b)) (-Xk) then true else lt Xk (IntKind.wrap .i64 (a+b)))<;>exact jk rfl leA.refl
theorem jq0:jj Tryz.prog 235 (nG jeZ):=by
 refine jJ (H:=jgX) jrE 10 235 ?_;intro args r h;unfold jeZ at h;split at h
 ·rename_i w es n ρ a b;simp only [sIq,pIq,true_and] at h;subst h;exact ⟨_,jli w es n ρ a b,jfx w a b⟩
 ·cases h
abbrev BV:=ByteArray->Nat->Val->Nat->Val->Option (Int × Int)
def T9 (V:BV) (d:Val) (n:Nat) (ρ:Val):Option (Int × Int) :=
 bif Nat.beq (d.L []) 3 then V ((d.at 0).S []) ((d.at 1).L []) (d.at 1) n ρ
 else bif Nat.beq (d.L []) 2 then Gk ((d.at 0).S []) ((d.at 1).N []) n ρ
 else bif Nat.beq (d.L []) 1 then some ((d.at 0).N [],0) else none
def inv (V:BV) (d:Val) (n:Nat) (ρ:Val) (K:Int × Int->Tree AV):Tree AV :=
 let o:=V ((d.at 0).S []) ((d.at 1).L []) (d.at 1) n ρ
 let p:=Gk ((d.at 0).S []) ((d.at 1).N []) n ρ
 .br (Nat.beq (d.L []) 3) (.need (os1 o) (K (ov1 (0,0) o))) (.br (Nat.beq (d.L []) 2) (.need (os1 p) (K (ov1 (0,0) p))) (.br (Nat.beq (d.L []) 1) (.need true (K ((d.at 0).N [],0))) .fail))
theorem L4 {β:Type} {enc:β->AV} {V:BV} {d:Val} {n:Nat} {ρ:Val} {K:Int × Int->Tree AV} {f:Int × Int->Option β} (h:∀ v,Sy enc (K v) (f v)):Sy enc (inv V d n ρ K) ((T9 V d n ρ).bind f):=by
 unfold inv T9;cases Nat.beq (d.L []) 3 with
 | true=>exact Sy.br1 rfl (Sy.bind h)
 | false =>
 refine Sy.br0 rfl ?_;cases Nat.beq (d.L []) 2 with
 | true=>exact Sy.br1 rfl (Sy.bind h)
 | false =>
 refine Sy.br0 rfl ?_;cases Nat.beq (d.L []) 1 with
 | true=>exact Sy.br1 rfl (Sy.need rfl (h _))
 | false=>exact trivial
def Ub (V:BV):List A1->Option (Bool × AV)
 | [.agg [.str w,.sl es' m κ],.c (.sl es n ρ)]=>if shEq.shsEq es' [.ifc]&&shEq.shsEq es Ro.siSh then some (os1 (V w m κ n ρ),enc2 (ov1 (0,0) (V w m κ n ρ))) else none
 | _=>none
theorem N5 {V:BV} {args:List A1} {r:AV} (h:Ub V args=some (true,r)):∃ w m κ n ρ x,args=[.agg [.str w,.sl [.ifc] m κ],.c (.sl Ro.siSh n ρ)]∧V w m κ n ρ=some x∧r=enc2 x:=by
 unfold Ub at h;split at h
 ·split at h
  ·rename_i w es' m κ es n ρ hs;rw [aTq] at hs;simp only [sIq,pIq] at h;cases hR:V w m κ n ρ with
   | none=>rw [hR] at h;cases h.1
   | some x=>rw [hR] at h;exact ⟨w,m,κ,n,ρ,x,by rw [jm hs.1,jm hs.2],hR,h.2.symm⟩
  ·cases h
 ·cases h
noncomputable abbrev jfN (V:BV):Hd:=⟨[],[(231,nG jbE),(232,nG jcM),(234,nG F5),(235,nG jeZ),(236,nG (Ub V))],[],[]⟩
theorem jqG {V:BV} (hV:jj Tryz.prog 236 (nG (Ub V))):HdOk Tryz.prog (jfN V):=((((HdOk.nil.ucCons hV).ucCons jq0).ucCons jgl).ucCons jmz).ucCons jom
def jbi (κ:Val) (i:Nat):Val:=(κ.at i).at 0
def jhv (V:BV) (w:ByteArray) (m:Nat) (κ:Val) (n:Nat) (ρ:Val):Tree AV :=
 .need (jc 0 m) (inv V (jbi κ 0) n ρ fun x=>.br (x.2 != 0) (lf2 0 x.2) (.br (jb w yy) (.need true (lf2 (QL (x.1==0)) 0))
  (.br (bif jb w wOr then x.1 != 0 else false) (lf2 1 0) (.br (bif jb w yw then x.1==0 else false) (lf2 0 0)
   (.need (jc 1 m) (inv V (jbi κ 1) n ρ fun y=>.br (y.2 != 0) (lf2 0 y.2) (.need true (.leaf (enc2 (FF w x.1 y.1))))))))))
theorem jlp (V:BV) (w:ByteArray) (m:Nat) (κ:Val) (n:Nat) (ρ:Val):jT Tryz.prog (jfN V) 10 236 [.agg [.str w,.sl [.ifc] m κ],.c (.sl Ro.siSh n ρ)]=jhv V w m κ n ρ:=by kernel_rfl
def jb2 (V:BV):BV:=fun w m κ n ρ =>
 nd (jc 0 m) ((T9 V (jbi κ 0) n ρ).bind fun x=>bif x.2 != 0 then some (0,x.2) else bif jb w yy then some (QL (x.1==0),0)
  else bif (bif jb w wOr then x.1 != 0 else false) then some (1,0) else bif (bif jb w yw then x.1==0 else false) then some (0,0)
  else nd (jc 1 m) ((T9 V (jbi κ 1) n ρ).bind fun y=>bif y.2 != 0 then some (0,y.2) else some (FF w x.1 y.1)))
theorem jeJ (V:BV) (w:ByteArray) (m:Nat) (κ:Val) (n:Nat) (ρ:Val):Sy enc2 (jhv V w m κ n ρ) (jb2 V w m κ n ρ):=by
 unfold jhv jb2
 refine Sy.nd id fun _=>L4 fun x=>Sy.cond (fun _=>Sy.ret) fun _=>Sy.cond (fun _=>Sy.need rfl Sy.ret) fun _=>Sy.cond (fun _=>Sy.ret) fun _=>Sy.cond (fun _=>Sy.ret) fun _ =>
  Sy.nd id fun _=>L4 fun y=>Sy.cond (fun _=>Sy.ret) fun _=>Sy.need rfl Sy.ret
theorem jp3 {V:BV} (hV:jj Tryz.prog 236 (nG (Ub V))):jj Tryz.prog 236 (nG (Ub (jb2 V))):=by
 refine jJ (H:=jfN V) (jqG hV) 10 236 ?_;intro args r h;obtain ⟨w,m,κ,n,ρ,x,e1,h1,e2⟩:=N5 h;refine ⟨_,by rw [e1,jlp],?_⟩
 have:=jeJ V w m κ n ρ
 rw [h1] at this;rw [e2];exact this
def Na:Nat->BV
 | 0=>fun _ _ _ _ _=>none
 | f+1=>jb2 (Na f)
theorem jmq:∀ f,jj Tryz.prog 236 (nG (Ub (Na f)))
 | 0 => by
   intro args r h;obtain ⟨w,m,κ,n,ρ,x,_,h1,_⟩:=N5 (zn h);cases h1
 | f+1=>jp3 (jmq f)
noncomputable abbrev jhL (f:Nat):Hd:=⟨[],[(135,nG (kA (yb f))),(196,nG (V7 (G0 f))),(231,nG jbE),(232,nG jcM),(236,nG (Ub (Na f)))],[],[]⟩
theorem jrk (f:Nat):HdOk Tryz.prog (jhL f):=((((HdOk.nil.ucCons (jmq f)).ucCons jmz).ucCons jom).ucCons (jng f)).ucCons (jhS f)
abbrev EvS:=RX->Nat->Val->Option (Int × Int)
def Rc (f:Nat):EvS:=fun e n ρ=>(yb f e 1).bind fun x=>bif x != 0 then some (0,x) else (G0 f e).bind fun d=>(T9 (Na f) d n ρ).bind fun v=>some v
def ae (E:EvS):List A1->Option (Bool × AV)
 | [.agg [.str o,.int .i64 v,.sl es' m κ],.c (.sl es n ρ)]=>if shEq.shsEq es' (aw 0)&&shEq.shsEq es Ro.siSh then some (os1 (E ⟨o,v,m,κ⟩ n ρ),enc2 (ov1 (0,0) (E ⟨o,v,m,κ⟩ n ρ))) else none
 | _=>none
theorem jds {E:EvS} {args:List A1} {r:AV} (h:ae E args=some (true,r)):∃ o v m κ n ρ x,args=[.agg [.str o,.int .i64 v,.sl (aw 0) m κ],.c (.sl Ro.siSh n ρ)]∧E ⟨o,v,m,κ⟩ n ρ=some x∧r=enc2 x:=by
 unfold ae at h;split at h
 ·split at h
  ·rename_i o v es' m κ es n ρ hs;rw [aTq] at hs;simp only [sIq,pIq] at h;cases hR:E ⟨o,v,m,κ⟩ n ρ with
   | none=>rw [hR] at h;cases h.1
   | some x=>rw [hR] at h;exact ⟨o,v,m,κ,n,ρ,x,by rw [jm hs.1,jm hs.2],hR,h.2.symm⟩
  ·cases h
 ·cases h
def jgQ (f:Nat) (e:RX) (n:Nat) (ρ:Val):Tree AV :=
 let x:=yb f e 1
 let d:=G0 f e
 .need (opD x) (.br (opN x != 0) (lf2 0 (opN x)) (.need (os1 d) (inv (Na f) (ov1 .zero d) n ρ fun v=>.leaf (enc2 v))))
theorem jkj (f:Nat) (o:ByteArray) (v:Int) (m:Nat) (κ:Val) (n:Nat) (ρ:Val):jT Tryz.prog (jhL f) 10 176 [.agg [.str o,.int .i64 v,.sl (aw 0) m κ],.c (.sl Ro.siSh n ρ)]=jgQ f ⟨o,v,m,κ⟩ n ρ:=by kernel_rfl
theorem jcV {o:Option Int}:opN o=ov1 0 o:=by cases o<;>rfl
theorem jdh {o:Option Int}:opD o=os1 o:=by cases o<;>rfl
theorem jf6 (f:Nat) (e:RX) (n:Nat) (ρ:Val):Sy enc2 (jgQ f e n ρ) (Rc f e n ρ):=by
 unfold jgQ Rc;simp only [jcV,jdh];refine Sy.bind (d:=(0:Int)) (K:=fun x=>.br (x != 0) (lf2 0 x) _) fun x=>Sy.cond (fun _=>Sy.ret) fun _=>Sy.bind (K:=fun d=>inv (Na f) d n ρ fun v=>.leaf (enc2 v)) fun d=>L4 fun v=>Sy.ret
theorem jr1 (f:Nat):jj Tryz.prog 176 (nG (ae (Rc f))):=by
 refine jJ (H:=jhL f) (jrk f) 10 176 ?_;intro args r h;obtain ⟨o,v,m,κ,n,ρ,x,e1,h1,e2⟩:=jds h;refine ⟨_,by rw [e1,jkj],?_⟩
 have:=jf6 f ⟨o,v,m,κ⟩ n ρ
 rw [h1] at this;rw [e2];exact this
end Go.Proofs.YtiefjlcakpdfeaaGreat