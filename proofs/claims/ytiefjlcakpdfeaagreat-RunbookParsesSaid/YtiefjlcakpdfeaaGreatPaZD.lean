/-
 Part PaZD of the proof: RcK EngLq RcL RcM RcN RdB EngFo RdE RdF RdI.
-/
import Derived.Test.YtiefjlcakpdfeaaGreatPaZC
import Derived.Test.YtiefjlcakpdfeaaGreatPaZB
import Derived.Test.YtiefjlcakpdfeaaGreatPaZA
namespace Go.Proofs.YtiefjlcakpdfeaaGreat
open Go Go.Sx Go.RowKit Rb
set_option maxRecDepth 100000
theorem NcOne.uc {P : Program} {f : Nat} {G : List A1 -> Tree (AV × Mem)} {G' : List A1 -> Option (Bool × AV)} (h : NcOne P f G)
  (hg:∀ args r,G' args=some (true,r)->∃ v m,(G args).sel=some (v,m)∧(yx m v).2=r∧JM r=true):jj P f (nG G'):=by
 intro args r hs hcl F w vs hargs;obtain ⟨v,m,h1,h2,h3⟩:=hg args r (zn hs);refine (h args v m h1 hcl F w vs hargs).mono fun e w2 ⟨u,F',bs',he,hext,hm,hu⟩ => ?_;obtain ⟨F2,e2,_,r2⟩:=Wz hm hu;have e3:=hext.trans e2 (Nat.zero_le _);rw [h2] at r2;refine ⟨u,he,e3.below,?_⟩;exact AV.Rel.grow (bs:=[]) (bs':=[]) ⟨lRq _,fun p _ hp=>e3.F2 p hp.1 hp.2 (by simp),fun _ _ _=>rfl,fun _ _ h=>h⟩ (r2.closed h3)
def jb3:List A1->Option (Bool × AV)
 | [.c (.sl es n ρ)]=>if shEq.shsEq es Ro.siSh then some (yW n ρ,.one (.c (.sl Ro.siSh n ρ))) else none
 | _=>none
theorem p51:jj Tryz.prog 51 (nG jb3):=NcOne.uc n51 fun args r h=>by
 unfold jb3 at h;split at h
 ·split at h
  ·rename_i es n ρ hs;simp only [sIq,pIq] at h;obtain ⟨h1,rfl⟩:=h;rw [jm hs];refine ⟨.one (.c (.os 0 8)),[some (56,[.row false Ro.siSh n ρ])],?_,rfl,rfl⟩;show (Tree.need (yW n ρ) _).sel=_;rw [h1];rfl
  ·cases h
 ·cases h
noncomputable abbrev H15 (C:ChF) (B:BF):Hd:=⟨[],[(29,nG (G29 C)),(51,nG jb3)],[],[(52,zB (u52 B))]⟩
theorem h15 {C:ChF} (hC:jj Tryz.prog 29 (nG (G29 C))) {B:BF} (hB:qH Tryz.prog 52 (zB (u52 B))):HdOk Tryz.prog (H15 C B):=((HdOk.nil.mcCons hB).ucCons p51).ucCons hC
end Go.Proofs.YtiefjlcakpdfeaaGreat
namespace Go.Sx
open Go Go.RowKit
variable {P:Program}
def LCore (P:Program) (f i k0:Nat) {C D:Type} (S:C->St) (E:D->St) (g:C->Tree (XE × D)):Prop :=
 ∀ fn c b,P.funcs[f]? = some fn->fn.body=some c->je c i=some b->∀ c0 x,(g c0).sel=some x->∃ N,∀ (lr:Option Nat) (nn:Nat) (Ds:List Deferred) (F:Nat->Prop) (w:World) (bs:List BI) (a:Act),k0<=bs.length->StRel P Ds F w bs (S c0) a->∀ Q:Exit->Act->World->Prop,
  (∀ F' w' bs' a',Ext k0 F w bs F' w' bs'->StRel P Ds F' w' bs' (E x.2) a'->Q (xe x.1) a' w')->Code.roundsIn (FW lr) nn P b Q N a w
def Zl {C D:Type} (A:Frame C D) (P:Program) (H:Hd) (d f i:Nat) (g:C->Tree (XE × D)) (c:C):Tree (XE × D) :=
 (jQ P H (jU P H d) f A.k0 (i+1) (qn P f i) (A.S c)).bind fun y=>match y.1 with
  | .normal=>(match J6 A.keep A.k0 A.n A.get y.2 with
   | some c'=>g c'
   | none=>.fail)
  | e=>(match J6 A.keepE A.k0 A.n A.getE y.2 with
   | some r=>.leaf (e,r)
   | none=>.fail)
theorem LCore.fail {f i k0:Nat} {C D:Type} {S:C->St} {E:D->St}:LCore P f i k0 S E fun _=>.fail:=fun _ _ _ _ _ _ _ _ h=>by simp [Tree.sel] at h
theorem LCore.le {f i k0:Nat} {C D:Type} {S:C->St} {E:D->St} {g g':C->Tree (XE × D)} (h:LCore P f i k0 S E g) (hl:∀ c x,(g' c).sel=some x->(g c).sel=some x):LCore P f i k0 S E g' :=
 fun fn c b h1 h2 h3 c0 x hx=>h fn c b h1 h2 h3 c0 x (hl c0 x hx)
theorem LCore.round {C D:Type} {A:Frame C D} (hA:A.Ok) {H:Hd} (hH:HdOk P H) (d:Nat) {f i:Nat} {g:C->Tree (XE × D)} (h:LCore P f i A.k0 A.S A.E g):LCore P f i A.k0 A.S A.E (Zl A P H d f i g):=by
 intro fn c b hf hc hb c0 x hx
 have hlb:qn P f i=b:=by
  unfold qn;rw [jd];simp only [Array.getElem?_toList,hf,hc,hb]
 unfold Zl at hx;rw [hlb] at hx;obtain ⟨⟨y,s'⟩,h1,h2⟩:=jh hx
 have go : ∀ N, (∀ (lr : Option Nat) (nn : Nat) (Ds : List Deferred) (F : Nat -> Prop) (w : World) (bs : List BI) (a : Act), A.k0 <= bs.length -> StRel P Ds F w bs s' a -> ∀ Q : Exit -> Act -> World -> Prop,
   (∀ F' w' bs' a',Ext A.k0 F w bs F' w' bs'->StRel P Ds F' w' bs' (A.E x.2) a'->Q (xe x.1) a' w')->Exit.then (Code.roundsIn (FW lr) nn P b Q N) Q (xe y) a w) ->
   ∃ N,∀ (lr:Option Nat) (nn:Nat) (Ds:List Deferred) (F:Nat->Prop) (w:World) (bs:List BI) (a:Act),A.k0<=bs.length->StRel P Ds F w bs (A.S c0) a->∀ Q:Exit->Act->World->Prop,
    (∀ F' w' bs' a',Ext A.k0 F w bs F' w' bs'->StRel P Ds F' w' bs' (A.E x.2) a'->Q (xe x.1) a' w')->Code.roundsIn (FW lr) nn P b Q N a w:=by
  intro N hN;refine ⟨N+1,fun lr nn Ds F w bs a hK hs Q hQ => ?_⟩;unfold Code.roundsIn;refine evCode_ok hH.pc (zu hH d) f A.k0 b (i+1) (A.S c0) h1 (fun j b' h hj hk=>hH.lh f fn c (i+1+j) b' h hf hc (qL hb hj) hk) hK hs fun F' w' bs' a' he hs' => ?_;exact hN lr nn Ds F' w' bs' a' (he.le hK) hs' Q fun F'' w'' bs'' a'' he' hs''=>hQ F'' w'' bs'' a'' (he.trans he' (lRq _)) hs''
 have stop : ∀ {r : D}, J6 A.keepE A.k0 A.n A.getE s' = some r -> x = (y, r) -> y ≠ .normal -> ∃ N, ∀ (lr : Option Nat) (nn : Nat) (Ds : List Deferred) (F : Nat -> Prop) (w : World) (bs : List BI) (a : Act), A.k0 <= bs.length -> StRel P Ds F w bs (A.S c0) a -> ∀ Q : Exit -> Act -> World -> Prop,
    (∀ F' w' bs' a',Ext A.k0 F w bs F' w' bs'->StRel P Ds F' w' bs' (A.E x.2) a'->Q (xe x.1) a' w')->Code.roundsIn (FW lr) nn P b Q N a w:=by
  intro r hr hxe hy;subst hxe;refine go 0 fun lr nn Ds F w bs a hK hs Q hQ => ?_;obtain ⟨bs1,he1,hl1,hs2⟩:=Jd hA.getE hr hs
  have:=hQ F w bs1 a he1 hs2
  cases y with
  | normal=>exact (hy rfl).elim
  | exit k=>exact this
  | ret=>exact this
 cases y with
 | normal =>
   simp only at h2;split at h2
   ·rename_i c' hc';obtain ⟨N,hN⟩:=h fn c b hf hc hb c' x h2;refine go N fun lr nn Ds F w bs a hK hs Q hQ => ?_;obtain ⟨bs1,he1,hl1,hs2⟩:=Jd hA.get hc' hs;exact hN lr nn Ds F w bs1 a hl1 hs2 Q fun F' w' bs' a' he' hs'=>hQ F' w' bs' a' (he1.trans he' (lRq _)) hs'
   ·simp [Tree.sel] at h2
 | exit k =>
   simp only at h2;split at h2
   ·rename_i r hr;simp only [Tree.sel,sIq] at h2;exact stop hr h2.symm (by simp)
   ·simp [Tree.sel] at h2
 | ret =>
   simp only at h2;split at h2
   ·rename_i r hr;simp only [Tree.sel,sIq] at h2;exact stop hr h2.symm (by simp)
   ·simp [Tree.sel] at h2
theorem LCore.fuel {C D : Type} {A : Frame C D} (hA : A.Ok) {H : Hd} (hH : HdOk P H) (d : Nat) {f i : Nat} {g : Nat -> C -> Tree (XE × D)} (h0 : ∀ c, (g 0 c).sel = none)
  (hs:∀ k c x,(g (k+1) c).sel=some x->(Zl A P H d f i (g k) c).sel=some x):∀ k,LCore P f i A.k0 A.S A.E (g k)
 | 0=>LCore.fail.le fun c x h=>by rw [h0] at h;cases h
 | k+1=>(LCore.round hA hH d (LCore.fuel hA hH d h0 hs k)).le (hs k)
def Hb {C D:Type} (A:Frame C D) (g:C->Tree (XE × D)) (K:Nat) (s:St):Tree (XE × St) :=
 if Nat.ble K A.k0 then (match J6 A.keep A.k0 A.n A.get s with
  | some c=>(g c).bind fun x=>.leaf (x.1,A.E x.2)
  | none=>.fail) else .fail
theorem LCore.ok {C D:Type} {A:Frame C D} (hA:A.Ok) {f i:Nat} {g:C->Tree (XE × D)} (h:LCore P f i A.k0 A.S A.E g) (fn:Func) (c b:Code) (hf:P.funcs[f]? = some fn) (hc:fn.body=some c) (hb:je c i=some b):LoopOk P b (Hb A g):=by
 intro K s x hx lr nn Ds F w bs a hKb hs Q hQ;unfold Hb at hx;split at hx
 rotate_left
 ·simp [Tree.sel] at hx
 rename_i hK;have hK:=Nat.ble_eq.mp hK;split at hx
 rotate_left
 ·simp [Tree.sel] at hx
 rename_i c0 hc0;obtain ⟨y,h1,h2⟩:=jh hx;simp only [Tree.sel,sIq] at h2;subst h2;obtain ⟨N,hN⟩:=h fn c b hf hc hb c0 y h1;obtain ⟨bs1,he1,hl1,hs2⟩:=Jd hA.get hc0 hs;exact wpIn_loop_rounds N (hN lr nn Ds F w bs1 a hl1 hs2 Q fun F' w' bs' a' he' hs'=>hQ F' w' bs' a' ((he1.trans he' (lRq _)).weak hK) hs')
def jeY:Option (Option (TypeId × List CV))->Option (TypeId × List Sh × Nat × Val)
 | some (some (T,[.row false es n ρ]))=>some (T,es,n,ρ)
 | _=>none
def L8 (b o:Nat) (mem:Mem):Mem :=
 match nth mem b with
 | some (some (T,cs))=>if jf cs then mem else match nth cs o with
  | some (.os k sz)=>(match jeY (nth mem k) with
   | some (T',es,n,ρ)=>if jf (jl cs o (.os mem.length sz))||k==b then mem else jl (jl mem k none) b (some (T,jl cs o (.os mem.length sz)))++[some (T',[.row false es n ρ])]
   | none=>mem)
  | _=>mem
 | _=>mem
theorem jdt {e:Option (Option (TypeId × List CV))} {T:TypeId} {es:List Sh} {n:Nat} {ρ:Val} (h:jeY e=some (T,es,n,ρ)):e=some (some (T,[.row false es n ρ])):=by
 unfold jeY at h;split at h
 ·cases h;rfl
 ·cases h
theorem jba {F w bs mem} (hm:MemRel P F w bs mem) (b o:Nat):∃ bs',Ext bs.length F w bs F w bs'∧MemRel P F w bs' (L8 b o mem):=by
 have triv:∃ bs',Ext bs.length F w bs F w bs'∧MemRel P F w bs' mem:=⟨bs,Ext.refl,hm⟩;unfold L8;split
 rotate_left
 ·exact triv
 rename_i T cs hb;split
 ·exact triv
 rename_i hrow;simp only [Bool.not_eq_true] at hrow;split
 rotate_left
 ·exact triv
 rename_i k sz ho;split
 rotate_left
 ·exact triv
 rename_i T' es n ρ hk;have hk:=jdt hk;split
 ·exact triv
 rename_i hcond;simp only [Bool.or_eq_true,not_or,Bool.not_eq_true,beq_eq_false_iff_ne,ne_eq] at hcond;obtain ⟨hrow',hkb⟩:=hcond;have hklt:=js hk;rw [← hm.len] at hklt;obtain ⟨x,hx⟩ : ∃ x,nth bs k=some x:=⟨bs[k],by rw [jd];exact List.getElem?_eq_getElem hklt⟩
 have hblt:=js hb;have hblt':=hblt;rw [← hm.len] at hblt';obtain ⟨y,hy⟩ : ∃ y,nth bs b=some y:=⟨bs[b],by rw [jd];exact List.getElem?_eq_getElem hblt'⟩
 have hko:=hm.row k T' false es n ρ x hk hx;have hkill:=hm.kill k
 have hpush:MemRel P F w (bs++[x]) (jl mem k none++[some (T',[.row false es n ρ])]):=by
  refine hkill.push x (fun hl=>hm.loc k x T' _ hx hk hl) (fun hl j z T1 cs1 hj hc hlz e => ?_) (fun h=>by simp [jf] at h) (fun fz es' n' ρ' h => ?_)
  ·rcases jL hc with ⟨_,h⟩ | ⟨hne,hc⟩
   ·cases h
   ·exact hne (hm.inj j k z x T1 cs1 T' _ hj hx hc hk hlz hl e)
  ·simp only [List.cons.injEq,CV.row.injEq,and_true] at h;obtain ⟨rfl,rfl,rfl,rfl⟩:=h;exact hko
 have he:Ext bs.length F w bs F w (bs++[x]):=(Ext.refl (K:=bs.length)).push (.inl ⟨x,jO hx,rfl⟩);refine ⟨bs++[x],he,?_⟩
 have hb2:nth (jl mem k none++[some (T',[.row false es n ρ])]) b=some (some (T,cs)):=by
  refine qi ?_;rw [jd,jD,List.getElem?_set_ne hkb,← jd];exact hb
 have e:jl (jl mem k none) b (some (T,jl cs o (.os mem.length sz)))++[some (T',[.row false es n ρ])]=jl (jl mem k none++[some (T',[.row false es n ρ])]) b (some (T,jl cs o (.os mem.length sz))):=by
  rw [jD (jl mem k none),jD (jl mem k none++_),List.set_append_left _ _ (by rw [j0];exact hblt)]
 rw [e];have hnew:nth (bs++[x]) mem.length=some x:=by rw [← hm.len];exact jy _ _
 refine hpush.cellsTo hb2 hrow hrow' fun z vs _ _ hr => ?_;refine All2.of_nth (by rw [j0];exact hr.length) fun i c v hc hv => ?_
 rcases jL hc with ⟨rfl,rfl⟩ | ⟨_,hc⟩
 ·obtain ⟨v',hv',hrel⟩:=hr.nth ho;rw [jd,hv'] at hv;simp at hv;subst hv;cases hrel with
  | os h0 hbase =>
    have h0':nth (bs++[x]) k=some x:=qi hx;rw [h0'] at h0;simp only [sIq] at h0;subst h0;exact .os hnew hbase
 ·obtain ⟨v',hv',hrel⟩:=hr.nth hc;rw [jd,hv'] at hv;simp at hv;subst hv;exact hrel
def St.move (b o:Nat) (s:St):St:=⟨s.tmps,L8 b o s.mem⟩
theorem StRel.move {Ds F w bs s} {a:Act} (hs:StRel P Ds F w bs s a) (b o:Nat) {K:Nat} (hK:K<=bs.length):∃ bs',Ext K F w bs F w bs'∧K<=bs'.length∧StRel P Ds F w bs' (s.move b o) a:=by
 obtain ⟨bs',he,hm⟩:=jba hs.mem b o;refine ⟨bs',he.weak hK,Nat.le_trans hK he.le,hs.defers,hs.len,fun i sl x h1 h2 => ?_,hm⟩
 have:=hs.slots i sl x h1 h2
 exact ⟨fun hk=>AV.Rel.grow he.grow (this.1 hk),this.2⟩
def jiv (b o:Nat) (h:Nat->St->Tree (XE × St)) (K:Nat) (s:St):Tree (XE × St):=h K (s.move b o)
theorem jfB {c:Code} {h:Nat->St->Tree (XE × St)} (b o:Nat) (hh:LoopOk P c h):LoopOk P c (jiv b o h):=by
 intro K s x hx lr nn Ds F w bs a hK hs Q hQ;obtain ⟨bs',he,hK',hs'⟩:=hs.move b o hK;exact hh K (s.move b o) x hx lr nn Ds F w bs' a hK' hs' Q fun F' w' bs2 a' he' hs2=>hQ F' w' bs2 a' (he.trans he' (lRq _)) hs2
theorem MemRel.lpWk {F w bs mem} (hm : MemRel P F w bs mem) {b : Nat} {T : TypeId} {f i : Nat} {st : LpS} {cs ds : List CV} (hb : nth mem b = some (some (T, .lp f i st :: cs))) (hl : ds.length = cs.length)
  (hw:∀ j d,nth ds j=some d->kH d=true∨nth cs j=some d):MemRel P F w bs (jl mem b (some (T,.lp f i st::ds))):=by
 have key:∀ k T' es,nth (jl mem b (some (T,.lp f i st::ds))) k=some (some (T',es))->(k=b∧T'=T∧es=.lp f i st::ds)∨(k ≠ b∧nth mem k=some (some (T',es))):=by
  intro k T' es hk;rcases jL hk with ⟨rfl,e⟩ | ⟨hne,hk⟩
  ·simp only [sIq,pIq] at e;exact .inl ⟨rfl,e.1,e.2⟩
  ·exact .inr ⟨hne,hk⟩
 have live:∀ k T' es,nth (jl mem b (some (T,.lp f i st::ds))) k=some (some (T',es))->∀ x:BI,jM x es->∃ T1 cs1,nth mem k=some (some (T1,cs1))∧jM x cs1:=by
  intro k T' es hk x hv;rcases key k T' es hk with ⟨rfl,rfl,rfl⟩ | ⟨hne,hk⟩
  ·exact ⟨_,_,hb,yT⟩
  ·exact ⟨_,_,hk,hv⟩
 refine ⟨by rw [j0];exact hm.len,fun k x T' es hk hc' hv => ?_,fun k k' x x' T1 cs1 T2 cs2 h1 h2 h3 h4 h5 h6 h7 => ?_,fun k T' es x hc' hrr hk => ?_,fun k T' fz' es' n' ρ' x hc' hk => ?_,fun k T' f' i' st' es x hc' hk => ?_⟩
 ·obtain ⟨T1,cs1,g1,g2⟩:=live k T' es hc' x hv;exact hm.loc k x _ cs1 hk g1 g2
 ·obtain ⟨T3,cs3,g1,g2⟩:=live k T1 cs1 h3 x h5;obtain ⟨T4,cs4,g3,g4⟩:=live k' T2 cs2 h4 x' h6;exact hm.inj k k' x x' T3 cs3 T4 cs4 h1 h2 g1 g3 g2 g4 h7
 ·rcases key k T' es hc' with ⟨rfl,rfl,rfl⟩ | ⟨hne,hc'⟩
  ·simp [jf] at hrr
  ·exact hm.cont k T' es x hc' hrr hk
 ·rcases key k T' _ hc' with ⟨rfl,rfl,e⟩ | ⟨hne,hc'⟩
  ·simp at e
  ·exact hm.row k T' fz' es' n' ρ' x hc' hk
 ·rcases key k T' _ hc' with ⟨rfl,rfl,e⟩ | ⟨hne,hc'⟩
  ·simp only [List.cons.injEq,CV.lp.injEq] at e;obtain ⟨⟨rfl,rfl,rfl⟩,rfl⟩:=e;obtain ⟨R,h1,h2,h4,h5,h6⟩:=hm.lp k _ f' i' st' cs x hb hk;refine ⟨R,h1,h2,h4,by rw [h5,hl],fun j c v hj hv ha => ?_⟩
   rcases hw j c hj with h | h
   ·rw [h] at ha;cases ha
   ·exact h6 j c v h hv ha
  ·exact hm.lp k T' f' i' st' es x hc' hk
end Go.Sx
namespace Go.Proofs.YtiefjlcakpdfeaaGreat
open Go Go.Sx Go.RowKit Rb
set_option maxRecDepth 100000
structure DBk where
 e:Int
 a:Int
 kn:Nat
 kρ:Val
 x:RU
abbrev CBk:=DBk × Int
def U8:Nat->List CV
 | 0=>[]
 | n+1=>.any::U8 n
def lpC (e a:Int):List CV:=[.any,.any,.any,.any,.any,.any,.any,.any,.any,.any,.any,.any,.ptr 2 0,.int .i64 e,.int .i64 a]++U8 61
def jgg (d:DBk):Mem:=[some (25,[.any,.any]),some (102,[.sl Ro.siSh d.x.sn d.x.sρ,.sl [.int .i64] d.x.cn d.x.cρ,.os 10 1,.any,.bool true,.int .i64 d.x.bg,.int .i64 d.x.at_]),some (98,[.ptr 1 0]),none,none,none,none,
 some (23,[.row false [.rt 1] d.kn d.kρ]),some (100,[.os 7 1]),some (0,.lp 15 0 .ready::lpC d.e d.a),some (9,[.row false [.str] d.x.pn d.x.pρ])]
def SB9 (c:CBk):St:=mkS 19 [(0,.one (.c (.yld 9))),(1,.one (.c (.ptr 8 0))),(3,.one (.c (.int .i64 c.2)))] (jgg c.1)
def EB9 (d:DBk):St:=mkS 19 [] (jgg d)
def lpE:List CV->Option (Int × Int)
 | _::_::_::_::_::_::_::_::_::_::_::_::.ptr 2 0::.int .i64 e::.int .i64 a::r=>if Nat.beq r.length 61 then some (e,a) else none
 | _=>none
def Rw (cs:List CV):Bool:=cs.all closedC&&Nat.beq cs.length 2&&!jf cs
def G3:Mem->Option DBk
 | [some (25, c25), some (102, [c0, c1, .os 10 1, _, .bool true, .int .i64 bg, .int .i64 at_]), some (98, [.ptr 1 0]), none, none, none, none, some (23, [.row false [.rt 1] kn kρ]), some (100, [.os 7 1]), some (0, .lp 15 0 .ready :: cells), some (9, [.row false [.str] pn pρ])] =>
   if Rw c25 then (match plC Ro.siSh c0,plC [.int .i64] c1,lpE cells with
    | some (sn,sρ),some (cn,cρ),some (e,a)=>some ⟨e,a,kn,kρ,⟨sn,sρ,cn,cρ,pn,pρ,0,.zero,bg,at_⟩⟩
    | _,_,_=>none) else none
 | _=>none
theorem jay {m : Mem} {d : DBk} (h : G3 m = some d) : ∃ c25 c0 c1 c3 cells, Rw c25 = true ∧ plC Ro.siSh c0 = some (d.x.sn, d.x.sρ) ∧ plC [.int .i64] c1 = some (d.x.cn, d.x.cρ) ∧ lpE cells = some (d.e, d.a) ∧
  m=[some (25,c25),some (102,[c0,c1,.os 10 1,c3,.bool true,.int .i64 d.x.bg,.int .i64 d.x.at_]),some (98,[.ptr 1 0]),none,none,none,none,some (23,[.row false [.rt 1] d.kn d.kρ]),some (100,[.os 7 1]),some (0,.lp 15 0 .ready::cells),some (9,[.row false [.str] d.x.pn d.x.pρ])]:=by
 unfold G3 at h;split at h
 ·split at h
  ·rename_i hf;split at h
   ·rename_i h0 h1 h2;cases h;exact ⟨_,_,_,_,_,hf,h0,h1,h2,rfl⟩
   ·cases h
  ·cases h
 ·cases h
theorem Om:∀ {n j:Nat} {d:CV},nth (U8 n) j=some d->kH d=true
 | 0,_,_,h=>by simp [U8,nth] at h
 | n+1,0,d,h=>by simp only [U8,nth,sIq] at h;subst h;rfl
 | n+1,j+1,d,h=>Om (n:=n) (j:=j) h
theorem jow {cells:List CV} {e a:Int} (h:lpE cells=some (e,a)):(lpC e a).length=cells.length∧∀ j d,nth (lpC e a) j=some d->kH d=true∨nth cells j=some d:=by
 unfold lpE at h;split at h
 ·split at h
  ·rename_i r hr;have hr:=Nat.eq_of_beq_eq_true hr;cases h;refine ⟨by simp [lpC,U8,hr],fun j d hj => ?_⟩
   match j,hj with
   | 0,hj=>cases hj;exact .inl rfl
   | 1,hj=>cases hj;exact .inl rfl
   | 2,hj=>cases hj;exact .inl rfl
   | 3,hj=>cases hj;exact .inl rfl
   | 4,hj=>cases hj;exact .inl rfl
   | 5,hj=>cases hj;exact .inl rfl
   | 6,hj=>cases hj;exact .inl rfl
   | 7,hj=>cases hj;exact .inl rfl
   | 8,hj=>cases hj;exact .inl rfl
   | 9,hj=>cases hj;exact .inl rfl
   | 10,hj=>cases hj;exact .inl rfl
   | 11,hj=>cases hj;exact .inl rfl
   | 12,hj=>cases hj;exact .inr rfl
   | 13,hj=>cases hj;exact .inr rfl
   | 14,hj=>cases hj;exact .inr rfl
   | j+15,hj=>exact .inl (Om (n:=61) (j:=j) hj)
  ·cases h
 ·cases h
theorem jhM {cs:List CV} (h:Rw cs=true):cs.all closedC=true∧jf cs=false∧LeL cs [.any,.any]:=by
 simp only [Rw,aTq,Bool.not_eq_true'] at h;obtain ⟨⟨h1,h2⟩,h3⟩:=h;have h2:=Nat.eq_of_beq_eq_true h2;refine ⟨h1,h3,?_⟩
 match cs,h2 with
 | [a,b],_=>exact .cons zy (.cons zy .nil)
theorem DU {m:Mem} {d:DBk} (h:G3 m=some d) (P:Program) (F:Nat->Prop) (w:World) (bs:List BI) (hm:MemRel P F w bs m):MemRel P F w bs (jgg d):=by
 obtain ⟨c25,c0,c1,c3,cells,hf,h0,h1,h2,rfl⟩:=jay h;obtain ⟨a1,a2,a3⟩:=jhM hf;have k1:=hm.cellsTo (b:=1) (T:=102) rfl (Wm h0 _) (ds:=[.sl Ro.siSh d.x.sn d.x.sρ,.sl [.int .i64] d.x.cn d.x.cρ,.os 10 1,.any,.bool true,.int .i64 d.x.bg,.int .i64 d.x.at_]) rfl fun _ _ _ _ h=>(Fl (fun _ hv=>Wc h0 hv) (fun _ hv=>Wc h1 hv) h).setAny 3;have k2:=yC (b:=0) rfl a2 a1 a3 rfl rfl P F w bs k1;obtain ⟨b1,b2⟩:=jow h2;exact k2.lpWk (b:=9) rfl b1 b2
def jbb (l:List (Nat × AV)) (m:Mem):Option CBk:=match l with
 | [(0,.one (.c (.yld 9))),(1,.one (.c (.ptr 8 0))),(3,.one (.c (.int .i64 i)))]=>(match G3 m with
  | some d=>some (d,i)
  | none=>none)
 | _=>none
def jcx (l:List (Nat × AV)) (m:Mem):Option DBk:=match l with
 | []=>G3 m
 | _=>none
theorem jfG:∀ l m c,jbb l m=some c->StWk (mkS 19 l m) (SB9 c):=by
 intro l m c h;unfold jbb at h;split at h
 ·split at h
  ·rename_i hd;cases h;exact yk LeSl.refl (DU hd)
  ·cases h
 ·cases h
theorem jgM:∀ l m c,jcx l m=some c->StWk (mkS 19 l m) (EB9 c):=by
 intro l m c h;unfold jcx at h;split at h
 ·exact yk LeSl.refl (DU h)
 ·cases h
def AB9:Sx.Frame CBk DBk:=⟨10,19,[0,1,3],jbb,SB9,[],jcx,EB9⟩
theorem aB9:AB9.Ok:=⟨jfG,jgM⟩
def jmO (B:BF) (g:CBk->Tree (XE × DBk)) (c:CBk):Tree (XE × DBk) :=
 let o:=B true (LI c.1.kρ c.2) (LH c.1.kρ c.2) (nk true c.1.x)
 let y:=ov1 (0,rU0) o
 let d:DBk:={ c.1 with x:=nk true y.2 }
 .br (le 0 c.2) (.need (jc c.2 c.1.kn) (.need (os1 o) (.br (!true) (.leaf (.ret,d)) (g (d,IntKind.wrap .i64 (c.2 - 1)))))) (.leaf (.exit 0,{ c.1 with x:=nk true c.1.x }))
theorem jjz (C:ChF) (B:BF) (g:CBk->Tree (XE × DBk)) (c:CBk):Zl AB9 Tryz.prog (H15 C B) 10 109 0 g c=jmO B g c:=by kernel_rfl
def Xc (B:BF) (kn:Nat) (kρ:Val):Nat->Int->RU->Option RU
 | 0,_,_=>none
 | k+1,i,x=>bif le 0 i then nd (jc i kn) ((B true (LI kρ i) (LH kρ i) (nk true x)).bind fun y=>Xc B kn kρ k (IntKind.wrap .i64 (i - 1)) (nk true y.2)) else some (nk true x)
def gB9 (B:BF) (k:Nat) (c:CBk):Tree (XE × DBk) :=
 let o:=Xc B c.1.kn c.1.kρ k c.2 c.1.x
 .need (os1 o) (.leaf (.exit 0,{ c.1 with x:=ov1 rU0 o }))
theorem MO (B:BF) (k:Nat) (c:CBk):(gB9 B k c).sel=(Xc B c.1.kn c.1.kρ k c.2 c.1.x).bind fun x=>some (.exit 0,{ c.1 with x:=x }):=by
 unfold gB9;cases Xc B c.1.kn c.1.kρ k c.2 c.1.x<;>rfl
theorem jml (C:ChF) (B:BF) (k:Nat) (c:CBk) (x:XE × DBk) (h:(gB9 B (k+1) c).sel=some x):(Zl AB9 Tryz.prog (H15 C B) 10 109 0 (gB9 B k) c).sel=some x:=by
 rw [jjz];rw [MO] at h;unfold Xc at h;unfold jmO;simp only [jK,jt,jE,MO];revert h;cases le 0 c.2 with
 | false=>exact fun h=>h
 | true =>
 cases jc c.2 c.1.kn with
 | false=>exact fun h=>h
 | true =>
 simp only [nd,cond_true];cases B true (LI c.1.kρ c.2) (LH c.1.kρ c.2) (nk true c.1.x) with
 | none=>exact fun h=>h
 | some y=>exact fun h=>h
theorem jo3 {C:ChF} (hC:jj Tryz.prog 29 (nG (G29 C))) {B:BF} (hB:qH Tryz.prog 52 (zB (u52 B))):∀ k,LCore Tryz.prog 109 0 10 SB9 EB9 (gB9 B k) :=
 LCore.fuel (A:=AB9) aB9 (h15 hC hB) 10 (fun _=>rfl) (jml C B)
def joT (B:BF) (c:CBk):Tree (XE × DBk):=gB9 B (c.1.kn+1) c
theorem jld {C:ChF} (hC:jj Tryz.prog 29 (nG (G29 C))) {B:BF} (hB:qH Tryz.prog 52 (zB (u52 B))):LCore Tryz.prog 109 0 10 SB9 EB9 (joT B):=fun fn c b h1 h2 h3 c0 x hx=>jo3 hC hB _ fn c b h1 h2 h3 c0 x hx
def LB9 (B:BF):Nat->St->Tree (XE × St):=jiv 1 2 (Hb AB9 (joT B))
noncomputable abbrev HR (C:ChF) (B:BF):Hd:=⟨[],[(29,nG (G29 C)),(51,nG jb3)],[((109,0),LB9 B)],[(52,zB (u52 B))]⟩
theorem hR {C:ChF} (hC:jj Tryz.prog 29 (nG (G29 C))) {B:BF} (hB:qH Tryz.prog 52 (zB (u52 B))):HdOk Tryz.prog (HR C B) :=
 HdOk.lhCons (h15 hC hB) fun fn c b h1 h2 h3=>jfB 1 2 (LCore.ok (A:=AB9) aB9 (jld hC hB) fn c b h1 h2 h3)
structure RunR where
 sn:Nat
 sρ:Val
 pn:Nat
 pρ:Val
 a:Int
 e:Int
def rr0:RunR:=⟨0,.zero,0,.zero,0,0⟩
def WA (x:RunR):AV:=.tup [.c (.sl Ro.siSh x.sn x.sρ),.c (.sl [.str] x.pn x.pρ),.c (.int .i64 x.a),.c (.int .i64 x.e)]
abbrev jeF:=ByteArray->Nat->Val->Nat->Val->Nat->Val->Option RunR
def jfd (n:Nat) (ρ:Val) (q:Nat) (τ:Val):RU:=⟨n,ρ,q,τ,0,.zero,0,.zero,0,0⟩
def Ns (x:RU):RU:=⟨x.sn,x.sρ,x.cn,x.cρ,x.pn,x.pρ,0,.zero,0,x.at_⟩
def NQ (C:ChF) (B:BF):jeF:=fun name m κ n ρ q τ =>
 (C name m κ n ρ).bind fun c=>bif c.2 != 0 then some ⟨0,.zero,0,.zero,c.1,c.2⟩ else nd (yW n ρ) ((B false m κ (jfd n ρ q τ)).bind fun y =>
  bif y.1==0 then some ⟨y.2.sn,y.2.sρ,y.2.pn,y.2.pρ,0,0⟩ else (Xc B y.2.kn y.2.kρ (y.2.kn+1) (IntKind.wrap .i64 (ja y.2.kn - 1)) (Ns y.2)).bind fun z=>some ⟨z.sn,z.sρ,z.pn,z.pρ,y.2.at_,y.1⟩)
def t15 (C:ChF) (B:BF) (name:ByteArray) (m:Nat) (κ:Val) (n:Nat) (ρ:Val) (q:Nat) (τ:Val):Tree AV :=
 let c:=C name m κ n ρ
 let cv:=ov1 (0,0) c
 let b:=B false m κ (jfd n ρ q τ)
 let y:=ov1 (0,rU0) b
 let z:=Xc B y.2.kn y.2.kρ (y.2.kn+1) (IntKind.wrap .i64 (ja y.2.kn - 1)) (Ns y.2)
 let zv:=ov1 rU0 z
 .need (os1 c) (.br (cv.2 != 0) (.leaf (.tup [.c .nils,.c .nils,.c (.int .i64 cv.1),.c (.int .i64 cv.2)])) (.need (yW n ρ) (.need (os1 b)
  (.br (y.1==0) (.leaf (WA ⟨y.2.sn,y.2.sρ,y.2.pn,y.2.pρ,0,0⟩)) (.need (os1 z) (.leaf (WA ⟨zv.sn,zv.sρ,zv.pn,zv.pρ,y.2.at_,y.1⟩)))))))
theorem joD (C : ChF) (B : BF) (name : ByteArray) (m : Nat) (κ : Val) (n : Nat) (ρ : Val) (q : Nat) (τ : Val) :
  jT Tryz.prog (HR C B) 10 15 [.agg [.str name,.sl (aw 1) m κ],.c (.sl Ro.siSh n ρ),.c (.sl [.int .i64] q τ)]=t15 C B name m κ n ρ q τ:=by kernel_rfl
theorem jjM (C : ChF) (B : BF) (name : ByteArray) (m : Nat) (κ : Val) (n : Nat) (ρ : Val) :
  jT Tryz.prog (HR C B) 10 15 [.agg [.str name,.sl (aw 1) m κ],.c (.sl Ro.siSh n ρ),.c .nils]=t15 C B name m κ n ρ 0 .zero:=by kernel_rfl
theorem jkJ {a e:Int}:leA (.tup [.c .nils,.c .nils,.c (.int .i64 a),.c (.int .i64 e)]) (WA ⟨0,.zero,0,.zero,a,e⟩) :=
 ZV (.cons (.c fun _ _ _ h=>by cases h;exact .slnil) (.cons (.c fun _ _ _ h=>by cases h;exact .slnil) (.cons (.c leC.refl) (.cons (.c leC.refl) .nil))))
theorem MB (C:ChF) (B:BF) (name:ByteArray) (m:Nat) (κ:Val) (n:Nat) (ρ:Val) (q:Nat) (τ:Val):Sy WA (t15 C B name m κ n ρ q τ) (NQ C B name m κ n ρ q τ):=by
 unfold t15 NQ;cases C name m κ n ρ with
 | none=>exact trivial
 | some c =>
 simp only [os1,ov1,Option.bind];refine Sy.need rfl (Sy.cond (fun _=>Sy.ret' jkJ) fun _=>Sy.nd id fun _ => ?_);cases B false m κ (jfd n ρ q τ) with
 | none=>exact trivial
 | some y =>
 simp only;refine Sy.need rfl (Sy.cond (fun _=>Sy.ret) fun _ => ?_);cases Xc B y.2.kn y.2.kρ (y.2.kn+1) (IntKind.wrap .i64 (ja y.2.kn - 1)) (Ns y.2) with
 | none=>exact trivial
 | some z=>exact Sy.need rfl Sy.ret
def G15 (R:jeF):List A1->Option (Bool × AV)
 | [.agg [.str name,.sl es' m κ],.c (.sl es n ρ),c]=>if shEq.shsEq es' (aw 1)&&shEq.shsEq es Ro.siSh then (match c with
  | .c (.sl [.int .i64] q τ)=>some (os1 (R name m κ n ρ q τ),WA (ov1 rr0 (R name m κ n ρ q τ)))
  | .c .nils=>some (os1 (R name m κ n ρ 0 .zero),WA (ov1 rr0 (R name m κ n ρ 0 .zero)))
  | _=>none) else none
 | _=>none
theorem p15 {C:ChF} (hC:jj Tryz.prog 29 (nG (G29 C))) {B:BF} (hB:qH Tryz.prog 52 (zB (u52 B))):jj Tryz.prog 15 (nG (G15 (NQ C B))):=by
 refine jJ (H:=HR C B) (hR hC hB) 10 15 ?_;intro args r h;unfold G15 at h;split at h
 ·rename_i name es' m κ es n ρ c;split at h
  ·rename_i hs;rw [aTq] at hs;rw [jm hs.1,jm hs.2];split at h
   ·rename_i q τ;simp only [sIq,pIq] at h;refine ⟨_,joD C B name m κ n ρ q τ,?_⟩
    have:=MB C B name m κ n ρ q τ
    cases hr:NQ C B name m κ n ρ q τ with
    | none=>rw [hr] at h;cases h.1
    | some x=>rw [hr] at h this;rw [← h.2];exact this
   ·simp only [sIq,pIq] at h;refine ⟨_,jjM C B name m κ n ρ,?_⟩
    have:=MB C B name m κ n ρ 0 .zero
    cases hr:NQ C B name m κ n ρ 0 .zero with
    | none=>rw [hr] at h;cases h.1
    | some x=>rw [hr] at h this;rw [← h.2];exact this
   ·cases h
  ·cases h
 ·cases h
def Qn (n:Nat) (ρ:Val) (m:Nat) (σ:Val) (l:Int):Nat->Int->Option Bool
 | 0,_=>none
 | k+1,i=>bif lt i l then nd (jc i n) (nd (jc i m) (bif !jb (wd ρ i.toNat) (wd σ i.toNat) then some false else Qn n ρ m σ l k (IntKind.wrap .i64 (i+1)))) else some true
def ZT (n:Nat) (ρ:Val) (m:Nat) (σ:Val):Option Bool:=bif ja n != ja m then some false else Qn n ρ m σ (ja n) (n+1) 0
def G16:List A1->Option (Bool × AV)
 | [.c (.sl [.str] n ρ),.c (.sl [.str] m σ)]=>some (os1 (ZT n ρ m σ),jF (ov1 false (ZT n ρ m σ)))
 | _=>none
structure C16 where
 n:Nat
 ρ:Val
 m:Nat
 σ:Val
 l:Int
 i:Int
def eB (b:Bool):St:=mkS 26 [(4,.one (.c (.bool b)))] []
def DN:List (Nat × AV)->Mem->Option Bool
 | [(4,.one (.c (.bool b)))],[]=>some b
 | _,_=>none
theorem jc9:∀ l m c,DN l m=some c->mkS 26 l m=eB c:=by
 intro l m c h;unfold DN at h;split at h
 ·cases h;rfl
 ·cases h
def jeq (c:C16 × Bool):St:=mkS 26 [(0,.one (.c (.sl [.str] c.1.n c.1.ρ))),(1,.one (.c (.sl [.str] c.1.m c.1.σ))),(4,.one (.c (.bool c.2))),(12,.one (.c (.int .i64 c.1.l))),(13,.one (.c (.int .i64 c.1.i)))] []
def Tm:List (Nat × AV)->Mem->Option (C16 × Bool)
 | [(0,.one (.c (.sl [.str] n ρ))),(1,.one (.c (.sl [.str] m σ))),(4,.one (.c (.bool b))),(12,.one (.c (.int .i64 l))),(13,.one (.c (.int .i64 i)))],[]=>some (⟨n,ρ,m,σ,l,i⟩,b)
 | _,_=>none
theorem jdD:∀ l m c,Tm l m=some c->mkS 26 l m=jeq c:=by
 intro l m c h;unfold Tm at h;split at h
 ·cases h;rfl
 ·cases h
def A16:Sx.Frame (C16 × Bool) Bool:=⟨0,26,[0,1,4,12,13],Tm,jeq,[4],DN,eB⟩
theorem a16:A16.Ok:=.of_eq jdD jc9
def r16 (g:C16 × Bool->Tree (XP × Bool)) (c:C16 × Bool):Tree (XP × Bool) :=
 .br (lt c.1.i c.1.l) (.need (jc c.1.i c.1.n) (.need (jc c.1.i c.1.m) (.br (!jb (wd c.1.ρ c.1.i.toNat) (wd c.1.σ c.1.i.toNat)) (.leaf (.ret,false)) (g ({ c.1 with i:=IntKind.wrap .i64 (c.1.i+1) },c.2))))) (.leaf (.exit 0,c.2))
theorem joL (g:C16 × Bool->Tree (XP × Bool)) (c:C16 × Bool):ju A16 Tryz.prog h00 Go.Proofs.YtiefjlcakpdfeaaGreat.X0 10 16 0 g c=r16 g c:=by kernel_rfl
def g16 (k:Nat) (c:C16 × Bool):Tree (XP × Bool) :=
 let o:=Qn c.1.n c.1.ρ c.1.m c.1.σ c.1.l k c.1.i
 .need (os1 o) (.br (ov1 false o) (.leaf (.exit 0,c.2)) (.leaf (.ret,false)))
theorem MK (k:Nat) (c:C16 × Bool):(g16 k c).sel=(Qn c.1.n c.1.ρ c.1.m c.1.σ c.1.l k c.1.i).bind fun b=>some (bif b then (.exit 0,c.2) else (.ret,false)):=by
 unfold g16;cases Qn c.1.n c.1.ρ c.1.m c.1.σ c.1.l k c.1.i with
 | none=>rfl
 | some b=>cases b<;>rfl
theorem jmd (k:Nat) (c:C16 × Bool) (x:XP × Bool) (h:(g16 (k+1) c).sel=some x):(ju A16 Tryz.prog h00 Go.Proofs.YtiefjlcakpdfeaaGreat.X0 10 16 0 (g16 k) c).sel=some x:=by
 rw [joL];rw [MK] at h;unfold Qn at h;unfold r16;simp only [jK,jt,jE,MK];revert h;cases lt c.1.i c.1.l with
 | false=>exact fun h=>h
 | true =>
 cases jc c.1.i c.1.n with
 | false=>exact fun h=>h
 | true =>
 cases jc c.1.i c.1.m with
 | false=>exact fun h=>h
 | true=>cases jb (wd c.1.ρ c.1.i.toNat) (wd c.1.σ c.1.i.toNat)<;>exact fun h=>h
theorem jpk:∀ k,CoreOk Tryz.prog 16 0 0 jeq eB (g16 k):=CoreOk.fuel (A:=A16) a16 HdOk.nil Go.Proofs.YtiefjlcakpdfeaaGreat.x0 10 (fun _=>rfl) jmd
def jmg (c:C16 × Bool):Tree (XP × Bool):=g16 (c.1.n+1) c
def X16:HdP:=⟨[],[],[],[((16,0),j4 A16 jmg)],[],0,[]⟩
theorem x16:XOk Tryz.prog X16:=XOk.lxCons XOk.nil (CoreOk.lx (g:=jmg) a16 fun fn c b h1 h2 h3 c0 x hx=>jpk _ fn c b h1 h2 h3 c0 x hx)
def t16 (n:Nat) (ρ:Val) (m:Nat) (σ:Val):Tree AV :=
 let o:=Qn n ρ m σ (ja n) (n+1) 0
 .br (ja n != ja m) (.leaf (jF false)) (.need (os1 o) (.br (ov1 false o) (.leaf (jF true)) (.leaf (jF false))))
theorem jpe (n:Nat) (ρ:Val) (m:Nat) (σ:Val):jI Tryz.prog h00 X16 10 16 [.c (.sl [.str] n ρ),.c (.sl [.str] m σ)]=t16 n ρ m σ:=by kernel_rfl
theorem jjI (n:Nat) (ρ:Val) (m:Nat) (σ:Val):Sy jF (t16 n ρ m σ) (ZT n ρ m σ):=by
 unfold t16 ZT;refine Sy.cond (fun _=>Sy.ret) fun _ => ?_;cases Qn n ρ m σ (ja n) (n+1) 0 with
 | none=>exact trivial
 | some b =>
   cases b with
  | true=>exact Sy.need rfl (Sy.br1 rfl Sy.ret)
  | false=>exact Sy.need rfl (Sy.br0 rfl Sy.ret)
theorem p16:jj Tryz.prog 16 (nG G16):=by
 refine jz (H:=h00) (X:=X16) HdOk.nil x16 10 16 ?_;intro args r h;unfold G16 at h;split at h
 ·rename_i n ρ m σ;simp only [sIq,pIq] at h;rw [jpe]
  have:=jjI n ρ m σ
  cases hp:ZT n ρ m σ with
  | none=>rw [hp] at h;cases h.1
  | some x=>rw [hp] at h this;rw [← h.2];exact this
 ·cases h
def jhx (a b:Val):Bool :=
 ((((((((a.at 0).N [] == (b.at 0).N [] && (a.at 1).N [] == (b.at 1).N []) && (a.at 2).N [] == (b.at 2).N []) && (a.at 3).N [] == (b.at 3).N []) &&
   Ro.eqL ⟨⟨(a.at 4).L [],a.at 4⟩,⟨(b.at 4).L [],b.at 4⟩⟩)&&(a.at 5).N []==(b.at 5).N [])&&(a.at 6).B []==(b.at 6).B [])&&(a.at 7).B []==(b.at 7).B [])
def N1 (n:Nat):Bool:=Nat.ble n 100000
def jnW:A1->A1->Option (Bool × Bool)
 | .agg [.int .i64 a, .int .i64 r, .int .i64 e, .int .i64 p, .sl s1 n ρ, .int .i64 s, .bool l, .bool c], .agg [.int .i64 a', .int .i64 r', .int .i64 e', .int .i64 p', .sl s2 k σ, .int .i64 s', .bool l', .bool c'] =>
   if shEq.shsEq s1 Ro.spSh&&shEq.shsEq s2 Ro.spSh then some (N1 n,((((((((a==a'&&r==r')&&e==e')&&p==p')&&Ro.eqL ⟨⟨n,ρ⟩,⟨k,σ⟩⟩)&&s==s')&&l==l')&&c==c'))) else none
 | _,_=>none
def G20:List A1->Option (Bool × AV)
 | [x,y]=>(match jnW x y with
  | some (c,b)=>some (c,jF b)
  | none=>none)
 | _=>none
theorem jkk {n:Nat} (h:N1 n=true):dec (Ro.fewN n)=true:=jx.2 (by
 have:=Nat.le_of_ble_eq_true h
 show n<=4611686018427387904;omega)
theorem p20:TcOne Tryz.prog 20 (nG G20):=TcOne.le Ro.p17 fun args r h=>by
 unfold G20 at h;split at h
 ·rename_i x y;split at h
  ·rename_i c b hc;simp only [sIq,pIq] at h;unfold jnW at hc;split at hc
   ·split at hc
    ·rename_i hs;rw [aTq] at hs;have e1:=jm hs.1;have e2:=jm hs.2;subst e1;subst e2;simp only [sIq,pIq] at hc;have hf:N1 _=true:=hc.1.trans h.1;have hd:=jkk hf;show some (dec _,_)=some (true,r);rw [hd,← h.2,← hc.2];rfl
    ·cases hc
   ·cases hc
  ·cases h
 ·cases h
def VZ (n:Nat) (ρ:Val) (m:Nat) (σ:Val) (l:Int):Nat->Int->Option Bool
 | 0,_=>none
 | k+1,i=>bif lt i l then nd (jc i n) (nd (jc i m) (nd (N1 (((ρ.at i.toNat).at 4).L [])) (bif !jhx (ρ.at i.toNat) (σ.at i.toNat) then some false else VZ n ρ m σ l k (IntKind.wrap .i64 (i+1))))) else some true
def LB (n:Nat) (ρ:Val) (m:Nat) (σ:Val):Option Bool:=bif ja n != ja m then some false else VZ n ρ m σ (ja n) (n+1) 0
def G19:List A1->Option (Bool × AV)
 | [.c (.sl es n ρ),.c (.sl es' m σ),.c (.fn (.func 20) [] [])]=>if shEq.shsEq es Ro.siSh&&shEq.shsEq es' Ro.siSh then some (os1 (LB n ρ m σ),jF (ov1 false (LB n ρ m σ))) else none
 | _=>none
def S19 (c:C16 × Bool):St:=mkS 32 [(1,.one (.c (.sl Ro.siSh c.1.m c.1.σ))),(2,.one (.c (.fn (.func 20) [] []))),(6,.one (.c (.bool c.2))),(15,.one (.c (.sl Ro.siSh c.1.n c.1.ρ))),(16,.one (.c (.int .i64 c.1.l))),(17,.one (.c (.int .i64 c.1.i)))] []
def jaA:List (Nat × AV)->Mem->Option (C16 × Bool)
 | [(1,.one (.c (.sl es m σ))),(2,.one (.c (.fn (.func 20) [] []))),(6,.one (.c (.bool b))),(15,.one (.c (.sl es' n ρ))),(16,.one (.c (.int .i64 l))),(17,.one (.c (.int .i64 i)))],[]=>if shEq.shsEq es Ro.siSh&&shEq.shsEq es' Ro.siSh then some (⟨n,ρ,m,σ,l,i⟩,b) else none
 | _,_=>none
theorem jeN:∀ l m c,jaA l m=some c->mkS 32 l m=S19 c:=by
 intro l m c h;unfold jaA at h;split at h
 ·split at h
  ·rename_i hs;rw [aTq] at hs;rw [jm hs.1,jm hs.2];cases h;rfl
  ·cases h
 ·cases h
def jev (b:Bool):St:=mkS 32 [(6,.one (.c (.bool b)))] []
def TT:List (Nat × AV)->Mem->Option Bool
 | [(6,.one (.c (.bool b)))],[]=>some b
 | _,_=>none
theorem jd1:∀ l m c,TT l m=some c->mkS 32 l m=jev c:=by
 intro l m c h;unfold TT at h;split at h
 ·cases h;rfl
 ·cases h
def A19:Sx.Frame (C16 × Bool) Bool:=⟨0,32,[1,2,6,15,16,17],jaA,S19,[6],TT,jev⟩
theorem a19:A19.Ok:=.of_eq jeN jd1
noncomputable abbrev H19:Hd:=⟨[(20,nG G20)],[],[],[]⟩
theorem h19:HdOk Tryz.prog H19:=HdOk.nil.tcCons p20
def r19 (g:C16 × Bool->Tree (XP × Bool)) (c:C16 × Bool):Tree (XP × Bool) :=
 .br (lt c.1.i c.1.l) (.need (jc c.1.i c.1.n) (.need (jc c.1.i c.1.m) (.need (N1 (((c.1.ρ.at c.1.i.toNat).at 4).L [])) (.br (!jhx (c.1.ρ.at c.1.i.toNat) (c.1.σ.at c.1.i.toNat)) (.leaf (.ret,false)) (g ({ c.1 with i:=IntKind.wrap .i64 (c.1.i+1) },c.2)))))) (.leaf (.exit 0,c.2))
theorem jnl (g:C16 × Bool->Tree (XP × Bool)) (c:C16 × Bool):ju A19 Tryz.prog H19 Go.Proofs.YtiefjlcakpdfeaaGreat.X0 10 19 0 g c=r19 g c:=by kernel_rfl
def g19 (k:Nat) (c:C16 × Bool):Tree (XP × Bool) :=
 let o:=VZ c.1.n c.1.ρ c.1.m c.1.σ c.1.l k c.1.i
 .need (os1 o) (.br (ov1 false o) (.leaf (.exit 0,c.2)) (.leaf (.ret,false)))
theorem Mg (k:Nat) (c:C16 × Bool):(g19 k c).sel=(VZ c.1.n c.1.ρ c.1.m c.1.σ c.1.l k c.1.i).bind fun b=>some (bif b then (.exit 0,c.2) else (.ret,false)):=by
 unfold g19;cases VZ c.1.n c.1.ρ c.1.m c.1.σ c.1.l k c.1.i with
 | none=>rfl
 | some b=>cases b<;>rfl
theorem jlR (k:Nat) (c:C16 × Bool) (x:XP × Bool) (h:(g19 (k+1) c).sel=some x):(ju A19 Tryz.prog H19 Go.Proofs.YtiefjlcakpdfeaaGreat.X0 10 19 0 (g19 k) c).sel=some x:=by
 rw [jnl];rw [Mg] at h;unfold VZ at h;unfold r19;simp only [jK,jt,jE,Mg];revert h;cases lt c.1.i c.1.l with
 | false=>exact fun h=>h
 | true =>
 cases jc c.1.i c.1.n with
 | false=>exact fun h=>h
 | true =>
 cases jc c.1.i c.1.m with
 | false=>exact fun h=>h
 | true =>
 cases N1 (((c.1.ρ.at c.1.i.toNat).at 4).L []) with
 | false=>exact fun h=>h
 | true=>cases jhx (c.1.ρ.at c.1.i.toNat) (c.1.σ.at c.1.i.toNat)<;>exact fun h=>h
theorem jmK:∀ k,CoreOk Tryz.prog 19 0 0 S19 jev (g19 k):=CoreOk.fuel (A:=A19) a19 h19 Go.Proofs.YtiefjlcakpdfeaaGreat.x0 10 (fun _=>rfl) jlR
def jni (c:C16 × Bool):Tree (XP × Bool):=g19 (c.1.n+1) c
def X19:HdP:=⟨[],[],[],[((19,0),j4 A19 jni)],[],0,[]⟩
theorem x19:XOk Tryz.prog X19:=XOk.lxCons XOk.nil (CoreOk.lx (g:=jni) a19 fun fn c b h1 h2 h3 c0 x hx=>jmK _ fn c b h1 h2 h3 c0 x hx)
def t19 (n:Nat) (ρ:Val) (m:Nat) (σ:Val):Tree AV :=
 let o:=VZ n ρ m σ (ja n) (n+1) 0
 .br (ja n != ja m) (.leaf (jF false)) (.need (os1 o) (.br (ov1 false o) (.leaf (jF true)) (.leaf (jF false))))
theorem jot (n:Nat) (ρ:Val) (m:Nat) (σ:Val):jI Tryz.prog H19 X19 10 19 [.c (.sl Ro.siSh n ρ),.c (.sl Ro.siSh m σ),.c (.fn (.func 20) [] [])]=t19 n ρ m σ:=by kernel_rfl
theorem jkx (n:Nat) (ρ:Val) (m:Nat) (σ:Val):Sy jF (t19 n ρ m σ) (LB n ρ m σ):=by
 unfold t19 LB;refine Sy.cond (fun _=>Sy.ret) fun _ => ?_;cases VZ n ρ m σ (ja n) (n+1) 0 with
 | none=>exact trivial
 | some b =>
   cases b with
  | true=>exact Sy.need rfl (Sy.br1 rfl Sy.ret)
  | false=>exact Sy.need rfl (Sy.br0 rfl Sy.ret)
theorem jf2 {args:List A1} {r:AV} (h:G19 args=some (true,r)):∃ n ρ m σ x,args=[.c (.sl Ro.siSh n ρ),.c (.sl Ro.siSh m σ),.c (.fn (.func 20) [] [])]∧LB n ρ m σ=some x∧r=jF x:=by
 unfold G19 at h;split at h
 ·rename_i es n ρ es' m σ;cases hs:(shEq.shsEq es Ro.siSh&&shEq.shsEq es' Ro.siSh) with
  | false=>rw [hs] at h;cases h
  | true =>
    rw [hs,if_pos rfl] at h;rw [aTq] at hs;rw [jm hs.1,jm hs.2];cases hp:LB n ρ m σ with
   | none=>rw [hp] at h;cases h
   | some x=>rw [hp] at h;cases h;exact ⟨n,ρ,m,σ,x,rfl,hp,rfl⟩
 ·cases h
theorem u19 {args:List A1} {r:AV} (h:G19 args=some (true,r)):(jI Tryz.prog H19 X19 10 19 args).All (fun x=>leA x r):=by
 obtain ⟨n,ρ,m,σ,x,e1,h1,e2⟩:=jf2 h;rw [e1,e2,jot]
 have:=jkx n ρ m σ
 rw [h1] at this;exact this
theorem p19:jj Tryz.prog 19 (nG G19):=by
 refine jz (H:=H19) (X:=X19) h19 x19 10 19 ?_;intro args r h;exact u19 h
noncomputable abbrev jcm:Hd:=⟨[lK],[],[],[]⟩
theorem jiP:HdOk Tryz.prog jcm:=HdOk.lK HdOk.nil
def jly:Val:=Val.ofFlat 3 [.int .i64 1,.int .i64 1,.int .i64 3]
def jpR:Val:=Val.ofFlat 8 [.int .i64 0,.int .i64 1,.int .i64 1,.int .i64 3,.sl Ro.spSh 1 jly,.int .i64 (-1),.bool true,.bool true,
 .int .i64 1,.int .i64 2,.int .i64 1,.int .i64 3,.sl Ro.spSh 1 jly,.int .i64 0,.bool true,.bool true]
def GO:AV:=.one (.c (.sl Ro.siSh 2 jpR))
def G28:List A1->Option (Bool × AV)
 | []=>some (true,GO)
 | _=>none
theorem jnv:jT Tryz.prog jcm 10 28 []=.leaf GO:=by kernel_rfl
theorem jfC {args:List A1} {r:AV} (h:G28 args=some (true,r)):args=[]∧r=GO:=by
 unfold G28 at h;split at h
 ·exact ⟨rfl,(congrArg Prod.snd (Option.some.inj h)).symm⟩
 ·cases h
theorem u28 {args:List A1} {r:AV} (h:G28 args=some (true,r)):∃ u,jT Tryz.prog jcm 10 28 args=u∧u.All (fun z=>leA z r):=by
 obtain ⟨e1,e2⟩:=jfC h;rw [e1,e2];exact ⟨.leaf GO,jnv,(leA.refl (x:=GO))⟩
theorem p28:jj Tryz.prog 28 (nG G28):=by
 refine jJ (H:=jcm) jiP 10 28 ?_;intro args r h;exact u28 h
theorem jqb:jj Tryz.prog 144 (nG (jau fun _ _ _=>none)):=by
 intro args r h;have h:=zn h;unfold jau at h;split at h
 ·cases h
 ·cases h
def P0:Par:=⟨Kp ja1,Rc 20,fun _ _ _=>none⟩
theorem jrG:ParOk P0:=⟨jq7,jr1 20,jqb⟩
def Df:ChF:=Lv 20 20
def jlv:BF:=Ti P0 20
def jlX:jeF:=NQ Df jlv
theorem jiC:jj Tryz.prog 29 (nG (G29 Df)):=p29 20 20
theorem jpX:jj Tryz.prog 15 (nG (G15 jlX)):=p15 jiC (m52 jrG 20)
noncomputable abbrev H7:Hd:=⟨[],[(8,nG G8F),(15,nG (G15 jlX)),(16,nG G16),(19,nG G19),(28,nG G28),(29,nG (G29 Df))],[],[]⟩
theorem h7:HdOk Tryz.prog H7:=(((((HdOk.nil.ucCons jiC).ucCons p28).ucCons p19).ucCons p16).ucCons jpX).ucCons (p8F 100 20 20 20 (by decide +kernel))
theorem jmH:(jT Tryz.prog H7 10 7 []).sel=some (jF true):=by kernel_rfl
def G7:List A1->Option (Bool × AV)
 | []=>some (true,jF true)
 | _=>none
theorem jjZ {args:List A1} {r:AV} (h:G7 args=some (true,r)):args=[]∧r=jF true:=by
 unfold G7 at h;split at h
 ·exact ⟨rfl,(congrArg Prod.snd (Option.some.inj h)).symm⟩
 ·cases h
theorem u7 {args:List A1} {r:AV} (h:G7 args=some (true,r)):(jT Tryz.prog H7 10 7 args).All (fun z=>leA z r):=by
 obtain ⟨e1,e2⟩:=jjZ h;rw [e1,e2];exact jk jmH leA.refl
theorem p7:jj Tryz.prog 7 (nG G7):=by
 refine qO (H:=H7) h7 10 7 ?_;intro args r h;exact u7 h
structure DT where
 z:ByteArray
 nm:ByteArray
 l:Nat
 lρ:Val
 b:Nat
 bρ:Val
end Go.Proofs.YtiefjlcakpdfeaaGreat
namespace Go.Sx
open Go Go.RowKit
def Tree.follow {α:Type}:List Bool->Tree α->Option (List (Bool × Bool) × α)
 | [],.leaf a=>some ([],a)
 | p,.need c t=>match t.follow p with
  | some y=>some ((c,true)::y.1,y.2)
  | none=>none
 | d::p,.br c t e=>match (bif d then t.follow p else e.follow p) with
  | some y=>some ((c,d)::y.1,y.2)
  | none=>none
 | _,_=>none
theorem Y2 {α:Type}:∀ {t:Tree α} {p:List Bool} {cs:List (Bool × Bool)} {a:α},t.follow p=some (cs,a)->(∀ x ∈ cs,x.1=x.2)->t.sel=some a
 | .leaf b, p, cs, a, h, _ => by
   cases p with
  | nil =>
    simp only [Tree.follow,sIq,pIq] at h;simp only [Tree.sel,h.2]
  | cons d p=>simp [Tree.follow] at h
 | .need c t, p, cs, a, h, hc => by
   have h':(match t.follow p with | some y=>some ((c,true)::y.1,y.2) | none=>none)=some (cs,a):=by
    cases p<;>exact h
   split at h'
   ·rename_i y hy;simp only [sIq,pIq] at h';obtain ⟨rfl,rfl⟩:=h';have h1:c=true:=hc (c,true) (by simp)
    subst h1;simp only [Tree.sel,cond_true];exact Y2 (cs:=y.1) hy (fun x hx=>hc x (by simp [hx]))
   ·cases h'
 | .br c t e, p, cs, a, h, hc => by
   cases p with
  | nil=>simp [Tree.follow] at h
  | cons d p =>
    simp only [Tree.follow] at h;split at h
    ·rename_i y hy;simp only [sIq,pIq] at h;obtain ⟨rfl,rfl⟩:=h;have h1:c=d:=hc (c,d) (by simp)
     subst h1;simp only [Tree.sel];cases c
     ·exact Y2 (cs:=y.1) hy (fun x hx=>hc x (by simp [hx]))
     ·exact Y2 (cs:=y.1) hy (fun x hx=>hc x (by simp [hx]))
    ·cases h
 | .fail,p,cs,a,h,_=>by cases p<;>simp [Tree.follow] at h
def okB (cs:List (Bool × Bool)):Bool:=cs.all fun x=>x.1==x.2
theorem joI {cs:List (Bool × Bool)} (h:okB cs=true):∀ x ∈ cs,x.1=x.2:=fun x hx=>by
 have:=List.all_eq_true.1 h x hx
 simpa using this
theorem jbH {α:Type} {t:Tree α} {p:List Bool} {cs:List (Bool × Bool)} {a:α} (h:t.follow p=some (cs,a)) (hc:okB cs=true) {Q:α->Prop} (hq:Q a):t.All Q:=by
 have hs:=Y2 h (joI hc)
 have key:∀ {t:Tree α},t.sel=some a->t.All Q:=by
  intro t
  induction t with
  | leaf b =>
    intro h;simp only [Tree.sel,sIq] at h;subst h;exact hq
  | br c t e iht ihe =>
    intro h;exact ⟨fun hc=>iht (by simpa [Tree.sel,hc] using h),fun hc=>ihe (by simpa [Tree.sel,hc] using h)⟩
  | need c t ih =>
    intro h;cases c
    ·simp [Tree.sel] at h
    ·exact ⟨rfl,ih (by simpa [Tree.sel] using h)⟩
  | fail=>intro h;simp [Tree.sel] at h
 exact key hs
theorem VC {P : Program} {H : Hd} (hH : HdOk P H) (n f : Nat) {args : List A1} {p : List Bool} {cs : List (Bool × Bool)} {b : Bool} (hu : (jU P H n f args []).vals.follow p = some (cs, .one (.c (.bool b)))) (hc : okB cs = true) (hb : b = true) {F : Nat -> Prop} {W : World} {vs : List Value}
  (hargs:All2 (A1.Rel F W []) args vs):Calls P f vs.toArray W (fun e W'=>e=.returned (.bool true)∧Below W.heap.size W W') :=
 IK hH n f (u:=(jU P H n f args []).vals) rfl (jbH hu hc (by rw [hb])) hargs
end Go.Sx
namespace Go.Proofs.YtiefjlcakpdfeaaGreat
open Go Go.Sx Go.RowKit Rb
set_option maxRecDepth 100000
def TM (a b:Bool):Bool:=bif a then b else false
theorem jle {κ κ':Val} {i j:Nat} (h:κ.at i=κ'.at j):jg κ i=jg κ' j:=by
 unfold jg;rw [h]
end Go.Proofs.YtiefjlcakpdfeaaGreat
namespace Go.Proofs.YtiefjlcakpdfeaaGreat
open Go Go.Sx Go.RowKit Rb
set_option maxRecDepth 100000
variable {m n q:Nat} {κ ρ0:Val} {F0:Nat->Nat->Bool}
theorem YW {a b:Nat} (h:a<b):Nat.blt a b=true:=by unfold Nat.blt;rw [Nat.ble_eq];exact h
theorem KO {a b:Nat} (h:b<=a):Nat.blt a b=false:=by
 cases hb:Nat.blt a b with
 | false=>rfl
 | true=>unfold Nat.blt at hb;rw [Nat.ble_eq] at hb;omega
end Go.Proofs.YtiefjlcakpdfeaaGreat