/-
 Part TaZD of the proof: EngCt RuA RpA RuZ RpB.
-/
import Derived.Test.YtiefjlcakpdfeaaGreatDoorTaZ
import Derived.Test.YtiefjlcakpdfeaaGreatDoorTaZC
import Derived.Lib.IndexLaws
namespace Go.Sx
open Go Go.RowKit
variable {P:Program}
def KX:Option (TypeId × List CV):=some (0,[.lp 0 0 .tab])
def jdx:Option (TypeId × List CV)->Bool
 | some (_,[.lp _ _ .tab])=>true
 | _=>false
def Un (mem:Mem):Bool:=mem.any jdx
theorem FJ {F w bs mem} (hm:MemRel P F w bs mem) (h:Un mem=true):Tab F w:=by
 unfold Un at h;rw [List.any_eq_true] at h;obtain ⟨e,he,h⟩:=h;obtain ⟨k,hk⟩:=YN he;have hlt:=jo hk;rw [← hm.len] at hlt;have hb:nth bs k=some bs[k]:=by rw [jd];exact gEq hlt
 unfold jdx at h;split at h
 ·exact hm.lp k _ _ _ _ _ _ hk hb
 ·cases h
def j8 {X:Type} (C:Clus X) (u:List A1->X->Tree (AV × X)) (args:List A1) (mem:Mem):Tree (AV × Mem) :=
 if Un mem then clG C u args mem else .fail
def Jd {X:Type} (C:Clus X) (P:Program) (H:Hd) (Xp:HdP) (n f:Nat) (rest:List A1) (x:X):Tree (AV × X) :=
 (GP P H Xp n f 1 (.c (.ptr 0 0)::rest) (C.lay x++[KX])).bind (UM C)
theorem MemRel.tab {F w} (h:Tab F w) (x:BI):MemRel P F w [x] [KX]:=by
 have:=(MemRel.nil (P:=P) (F:=F) (w:=w)).push x (T:=0) (cs:=[.lp 0 0 .tab]) (fun h=>h.elim) (fun h=>h.elim) (fun h=>by simp [je] at h) (fun _ _ _ _ h=>by simp at h) (fun f i st cs' h'=>by
  simp only [List.cons.injEq,CV.lp.injEq] at h';obtain ⟨⟨_,_,rfl⟩,_⟩:=h';exact h)
 exact this
theorem jkD {X : Type} {C : Clus X} (hC : C.Ok) {H : Hd} (hH : HdOk P H) {Xp : HdP} (hX : XOk P Xp) (n f : Nat) {u : List A1 -> X -> Tree (AV × X)}
  (hu:∀ rest x z,(u rest x).sel=some z->∃ y,(Jd C P H Xp n f rest x).sel=some y∧leA y.1 z.1∧∀ F w bs,MemRel P F w bs (C.lay y.2)->MemRel P F w bs (C.lay z.2)):jr P f (j8 C u):=by
 intro args mem r mem' h F w bs vs hm hargs;unfold j8 at h;split at h
 rotate_left
 ·simp [Tree.sel] at h
 rename_i htb;have htab:=FJ hm htb;clear htb;unfold clG at h;split at h
 rotate_left
 ·simp [Tree.sel] at h
 rename_i b rest;split at h
 rotate_left
 ·simp [Tree.sel] at h
 rename_i hrest;cases hargs with
 | cons hp hvs =>
 rename_i v0 vs;obtain ⟨F1,ef,hmf,hvs⟩:=Jr hm hvs;generalize (zg mem rest).2=rest at h hrest hvs;generalize (zg mem _).1=memf at h hmf;have hp:=A1.Rel.grow ef.grow hp;have htab:=Tab.grow htab ef.grow
 suffices key:Calls P f (v0::vs).toArray w (fun e w'=>∃ v F' bs',e=.returned v∧Ext bs.length F1 w bs F' w' bs'∧MemRel P F' w' bs' mem'∧AV.Rel F' w' bs' r v) from
  key.mono fun e w' ⟨v,F',bs',h1,h2,h3,h4⟩=>⟨v,F',bs',h1,ef.trans h2 (lRq _),h3,h4⟩
 clear hm ef;have hm:=hmf;obtain ⟨bs1,e1,hm1⟩:=hC.prep P F1 w bs b memf hm;simp only at h;generalize C.prep b memf=m at h hm1;split at h
 rotate_left
 ·simp [Tree.sel] at h
 rename_i x hx;obtain ⟨z,hz,h2⟩:=jg h;split at h2
 rotate_left
 ·simp [Tree.sel] at h2
 rename_i hcz;simp only [Tree.sel,sIq,pIq] at h2;obtain ⟨rfl,rfl⟩:=h2;obtain ⟨hnd,hlt,hget,hsub⟩:=Yl hC hx hm1;obtain ⟨hfix,hfix0,hfixm⟩:=hsub.fix (hC.ok x) (Kp (hC.ok x));have hltb:∀ k ∈ jM b m,k<bs1.length:=fun k hk=>by rw [hm1.len];exact hlt k hk
 have hpos:∀ x:X,1<=(C.lay x).length:=fun x=>by
  have:=hC.ok x
  cases hl:C.lay x with
  | nil=>rw [hl] at this;simp [KP] at this
  | cons _ _=>simp
 generalize hbsS:yw w.heap.size (yq (jM b m) bs1) (C.lay x)=bsS0 at hfix hfix0 hfixm
 obtain ⟨bsS, hfix, hfix0, hfixm⟩ : ∃ bsS, MemRel P F1 w bsS (C.lay x ++ [KX]) ∧ (∀ y, nth (yq (jM b m) bs1) 0 = some y -> nth bsS 0 = some y) ∧
   ∀ y ∈ bsS,(∃ k T cs,nth (C.lay x) k=some (some (T,cs))∧jC y cs∧nth (yq (jM b m) bs1) k=some y)∨y.p=w.heap.size:=by
  refine ⟨bsS0++[⟨w.heap.size,0,0⟩],hfix.push _ (fun h=>h.elim) (fun h=>h.elim) (fun h=>by simp [je] at h) (fun _ _ _ _ h=>by simp at h) (fun f i st cs' h => ?_),fun y hy=>jY (hfix0 y hy),fun y hy => ?_⟩
  ·simp only [List.cons.injEq,CV.lp.injEq] at h;obtain ⟨⟨_,_,rfl⟩,_⟩:=h;exact htab
  ·rcases List.mem_append.1 hy with h | h
   ·exact hfixm y h
   ·simp only [List.mem_singleton] at h;subst h;exact .inr rfl
 have away:∀ k y T cs,nth bs1 k=some y->nth m k=some (some (T,cs))->jC y cs->k ∉ jM b m->∀ z ∈ bsS,z.p ≠ y.p:=by
  intro k y T cs hk hc hl hn z hz e;rcases hfixm z hz with ⟨i,T1,cs1,g1,g2,g3⟩ | g
  ·obtain ⟨T2,cs2,k1,k2⟩:=hC.liv _ _ hget i z T1 cs1 g1 g2;obtain ⟨j,j1,j2⟩:=Bq hltb g3;rw [jd,List.getElem?_map] at k1;simp only [Option.map_eq_some_iff] at k1;obtain ⟨j',hj',k1⟩:=k1;rw [← jd,j1] at hj';simp only [sIq] at hj';subst hj';unfold W4 at k1;split at k1
   ·rename_i T3 cs3 hm3;simp only [sIq,pIq] at k1;obtain ⟨rfl,rfl⟩:=k1
    have:=hm1.inj j k z y _ cs3 T cs j2 hk hm3 hc (YV k2) hl e
    subst this;exact hn (jH j1)
   ·cases k1
  ·have:=(hm1.loc k y T cs hk hc hl).2
   omega
 have inbs:∀ z ∈ bsS,z ∈ bs1∨z.p=w.heap.size:=by
  intro z hz;rcases hfixm z hz with ⟨i,T1,cs1,g1,g2,g3⟩ | g
  ·obtain ⟨j,_,j2⟩:=Bq hltb g3;exact .inl (jH j2)
  ·exact .inr g
 cases hp with
 | ptr hx0 =>
 rename_i x0;have hb1:nth bs1 b=some x0:=e1.pre b x0 (jo hx0) hx0;have hS0:nth bsS 0=some x0:=hfix0 x0 (yo (pm:=jM b m) (b':=0) rfl hb1);have hargs1:All2 (A1.Rel F1 w bsS) (.c (.ptr 0 0)::rest) (.pointer (some ⟨x0.p,0,none⟩)::vs):=.cons (CV.Rel.ptr (x:=x0) hS0) (Jc hvs hrest);obtain ⟨y,hy1,hy2,hy3⟩:=hu rest x z hz;unfold Jd at hy1;obtain ⟨⟨o,m1⟩,h4,h5⟩:=jg hy1;refine (Ge hH hX n f 1 h4 (by have:=hpos x;simp only [lAq];omega) hfix hargs1).mono fun e w' ⟨F1',bs',hext,hm',hend⟩ => ?_
 unfold UM at h5;split at h5
 rotate_left
 ·simp [Tree.sel] at h5
 rename_i a hoa;simp only at hoa;subst hoa;split at h5
 rotate_left
 ·simp [Tree.sel] at h5
 rename_i hca;split at h5
 rotate_left
 ·simp [Tree.sel] at h5
 rename_i x' hx';simp only [Tree.sel,sIq] at h5;subst h5;obtain ⟨v,rfl,hv⟩:=hend;obtain ⟨F2,e2,hm2,r2⟩:=ZB hm' hv;have hS1:1<=bsS.length:=jo hS0;have e3:=hext.trans e2 (hext.le hS1);obtain ⟨hnd2,hlt2,_,hsub2⟩:=Yl hC hx' hm2;have hlt2b:∀ k ∈ jM 0 (ze m1 a).1,k<bs'.length:=fun k hk=>by rw [hm2.len];exact hlt2 k hk
 have hsub3:=hy3 _ _ _ hsub2;have hb0:nth bs' 0=some x0:=e3.pre 0 x0 (by omega) hS0
 have hB0:nth (yq (jM 0 (ze m1 a).1) bs') 0=some x0:=yo (pm:=jM 0 (ze m1 a).1) (b':=0) rfl hb0;have hBm:∀ z ∈ yq (jM 0 (ze m1 a).1) bs',z ∈ bs':=fun z hz=>Ig hlt2b hz;generalize yq (jM 0 (ze m1 a).1) bs'=bs2 at hsub3 hB0 hBm
 have he1:Ext bs1.length F1 w bs1 F2 w' bs1:=by
  refine ⟨e3.size,e3.F1,fun p hF hps hb=>e3.F2 p hF hps fun z hz => ?_,fun p hp hb=>e3.same p hp (hb.imp id fun hb z hz => ?_),e3.os,e3.tape,e3.output,fun _ _ _ h=>h,fun z hz=>.inl ⟨z,hz,rfl⟩⟩
  ·rcases inbs z hz with h | h
   ·exact hb z h
   ·omega
  ·rcases inbs z hz with h | h
   ·exact hb z h
   ·omega
 have hkm:MemRel P F2 w' bs1 (yS (jM b m) m):=(Wn (jM b m) hm1).move he1 fun k y T cs hk hc hl=>by
  obtain ⟨hn,hc⟩:=ku _ hc;obtain ⟨g1,g2⟩:=hm1.loc k y T cs hk hc hl;have ha:=away k y T cs hk hc hl hn;exact ⟨e3.F2 y.p g1 g2 ha,e3.same y.p g2 (.inr ha)⟩
 have hj:=hkm.join hsub3 fun k y T cs hk hc hl z hz e=>by
  obtain ⟨hn,hc⟩:=ku _ hc;obtain ⟨g1,g2⟩:=hm1.loc k y T cs hk hc hl;rcases e3.mem z (hBm z hz) with ⟨z',hz',e'⟩ | hs
  ·exact away k y T cs hk hc hl hn z' hz' (e'.trans e.symm)
  ·omega
 have hL:bs1.length=m.length:=hm1.len;rw [hL] at hj;obtain ⟨T0,cs0,h00⟩:=Kp (hC.ok z.2) 0 (hpos z.2)
 have hr0:je cs0=false:=by
  rcases JK (hC.ok z.2) h00 with ⟨_,h,_⟩ | ⟨h,_⟩
  ·exact h
  ·omega
 have hJL:nth (yS (jM b m) m++(C.lay z.2).map (shE m.length)) m.length=some (some (T0,cs0.map (shC m.length))):=by
  have:=yb (yS (jM b m) m) ((C.lay z.2).map (shE m.length)) 0
  rw [Qc,Nat.add_zero] at this;rw [this,jd,List.getElem?_map,← jd,h00];rfl
 have hbL:b<m.length:=by rw [← hL];exact jo hb1
 have hBL:nth (bs1++bs2) m.length=some x0:=by
  have:=yb bs1 bs2 0
  rw [Nat.add_zero,hL] at this;rw [this];exact hB0
 have hBb:nth (bs1++bs2) b=some x0:=jY hb1
 have hrs:je (cs0.map (shC m.length))=false:=by
  cases hh:je (cs0.map (shC m.length)) with
  | false=>rfl
  | true =>
    exfalso
    unfold je at hh;split at hh
    ·rename_i he;rw [Fl he] at hr0;simp [je] at hr0
    ·rename_i he;obtain ⟨ds,e,_⟩:=jbv he;rw [e] at hr0;simp [je] at hr0
    ·cases hh
 have hfin:MemRel P F2 w' (bs1++bs2) (XS b m (C.lay z.2)):=by
  unfold XS;simp only [hJL];have hk:=hj.kill m.length;obtain ⟨g1,g2⟩:=hj.loc m.length x0 T0 _ hBL hJL (j7 hrs);refine hk.put hBb (fun T cs h => ?_) (fun _=>⟨g1,g2⟩) (fun _ k y T' cs' hk' hc hl e => ?_) (fun _=>hj.cont m.length T0 _ x0 hJL hrs hBL) (fun fz es n ρ h => ?_) (fun f i st cs' h => ?_)
  ·rcases jA h with ⟨_,h⟩ | ⟨_,h⟩
   ·cases h
   ·rcases UU h with ⟨_,h⟩ | ⟨h1,_⟩
    ·exact (ku _ h).1 (by simp [jM])
    ·rw [Qc] at h1;omega
  ·rcases jA hc with ⟨_,h⟩ | ⟨hne,hc⟩
   ·cases h
   ·exact hne (hj.inj k m.length y x0 T' cs' T0 _ hk' hBL hc hJL hl (j7 hrs) e)
  ·rw [h] at hrs;simp [je] at hrs
  ·rw [h] at hrs;simp [je] at hrs
 have eF:Ext bs1.length F1 w bs1 F2 w' (bs1++bs2):=by
  refine ⟨he1.size,he1.F1,he1.F2,he1.same,he1.os,he1.tape,he1.output,fun k y hk hy=>jY hy,fun y hy => ?_⟩;rcases List.mem_append.1 hy with h | h
  ·exact .inl ⟨y,h,rfl⟩
  ·rcases e3.mem y (hBm y h) with ⟨z',hz',e'⟩ | hs
   ·rcases inbs z' hz' with h | h
    ·exact .inl ⟨z',h,e'⟩
    ·exact .inr (by omega)
   ·exact .inr hs
 refine ⟨v,F2,_,rfl,e1.trans eF e1.le,hfin,?_⟩;have hv0:AV.Rel F2 w' [] z.1 v:=hy2 _ _ _ (r2.closed hca);exact hv0.closed hcz
def jec (y:Out × Mem):Tree AV :=
 match y.1 with
 | .ret a=>if aw (ze y.2 a).2 then .leaf (ze y.2 a).2 else .fail
 | .pan _=>.fail
def HT (P:Program) (H:Hd) (X:HdP) (n f:Nat) (args:List A1):Tree AV:=(GP P H X n f 0 args [KX]).bind jec
def jaD (u:List A1->Tree AV) (args:List A1) (mem:Mem):Tree (AV × Mem) :=
 if Un mem then (let y:=zg mem args;if y.2.all jx then (u y.2).bind fun r=>if aw r then .leaf (r,y.1) else .fail else .fail) else .fail
theorem D2 {H : Hd} (hH : HdOk P H) {X : HdP} (hX : XOk P X) (n f : Nat) {args : List A1} {r : AV} (h : (HT P H X n f args).sel = some r) {F : Nat -> Prop} {w : World} {vs : List Value} (ht : Tab F w) (hargs : All2 (A1.Rel F w []) args vs) (hc : args.all jx = true) :
  Calls P f vs.toArray w (fun e w'=>∃ v,e=.returned v∧Below w.heap.size w w'∧AV.Rel (fun p=>F p∧p<w.heap.size) w' [] r v):=by
 unfold HT at h;obtain ⟨⟨o,m⟩,h1,h2⟩:=jg h;have hm:MemRel P F w [⟨w.heap.size,0,0⟩] [KX]:=MemRel.tab ht _;refine (Ge hH hX n f 0 h1 (Nat.zero_le _) hm (Jc hargs hc)).mono fun e w' ⟨F',bs',he,hm',hr⟩ => ?_;unfold jec at h2;split at h2
 rotate_left
 ·simp [Tree.sel] at h2
 rename_i a ha;simp only at ha;subst ha;split at h2
 rotate_left
 ·simp [Tree.sel] at h2
 rename_i hcl;simp only [Tree.sel,sIq] at h2;subst h2;obtain ⟨v,rfl,hv⟩:=hr;obtain ⟨F2,e2,hm2,r2⟩:=ZB hm' hv;have e3:=he.trans e2 (Nat.zero_le _);refine ⟨v,rfl,⟨e3.os,e3.tape,e3.output,e3.size,fun p hp=>e3.same p hp (.inr fun x hx => ?_)⟩,?_⟩
 ·simp only [List.mem_singleton] at hx;subst hx;exact fun e=>by simp only at e;omega
 ·have hv0:AV.Rel F2 w' [] (ze m a).2 v:=r2.closed hcl;refine AV.Rel.grow (bs:=[]) (bs':=[]) ⟨lRq _,fun p _ hp=>e3.F2 p hp.1 hp.2 fun x hx => ?_,fun _ _ _=>rfl,fun _ _ h=>h⟩ hv0;simp only [List.mem_singleton] at hx;subst hx;exact fun e=>by simp only at e;omega
theorem jj4 {H:Hd} (hH:HdOk P H) {X:HdP} (hX:XOk P X) (n f:Nat) {u:List A1->Tree AV} (hu:∀ args r,(u args).sel=some r->∃ y,(HT P H X n f args).sel=some y∧leA y r):jr P f (jaD u):=by
 intro args mem r mem' hs F w bs vs hm hargs;unfold jaD at hs;split at hs
 rotate_left
 ·simp [Tree.sel] at hs
 rename_i htb;have htab:=FJ hm htb;simp only at hs;split at hs
 rotate_left
 ·simp [Tree.sel] at hs
 rename_i hcl;obtain ⟨r0,g1,g2⟩:=jg hs;split at g2
 rotate_left
 ·simp [Tree.sel] at g2
 rename_i hcr;simp only [Tree.sel,sIq,pIq] at g2;obtain ⟨rfl,rfl⟩:=g2;obtain ⟨F1,ef,hmf,hvs⟩:=Jr hm hargs;obtain ⟨y,hy1,hy2⟩:=hu _ _ g1;refine (D2 hH hX n f hy1 (Tab.grow htab ef.grow) (Jc hvs hcl) hcl).mono fun e w' ⟨v,he,hb,hv⟩ => ?_;have e2:Ext bs.length F1 w bs (fun p=>F1 p∧p<w.heap.size) w' bs:=⟨hb.size,fun _ _ h=>h.1,fun p h hp _=>⟨h,hp⟩,fun p hp _=>hb.block p hp,hb.os,hb.tape,hb.output,fun _ _ _ h=>h,fun x h=>.inl ⟨x,h,rfl⟩⟩;have hm2:=hmf.move e2 fun k x T cs hk hc hv=>⟨hmf.loc k x T cs hk hc hv,hb.block _ (hmf.loc k x T cs hk hc hv).2⟩;exact ⟨v,_,bs,he,ef.trans e2 (lRq _),hm2,(hy2 _ _ _ hv).closed hcr⟩
end Go.Sx
namespace Go.Proofs.YtiefjlcakpdfeaaGreatDoor
open Go Go.Sx Go.RowKit Rb
set_option maxRecDepth 100000
def jq (n:Int):ByteArray:=⟨(Lib.itoa n).toArray⟩
def jg9:List A1->Option (Bool × AV)
 | [.c (.int .i64 n)]=>some (le 0 n&&lt n 100,.one (.c (.str (jq n))))
 | _=>none
theorem Wr {a b:Int}:le a b=true↔a<=b:=by unfold le;simp
theorem TR {a b:Int}:lt a b=true↔a<b:=by unfold lt;simp
theorem jrU:TcOne Tryz.prog 101 (nG jg9):=by
 intro args r hG hcl F w vs hargs;have h:=zA hG;unfold jg9 at h;split at h
 ·rename_i n;simp only [sIq,pIq,aTq,Wr,TR] at h;obtain ⟨⟨h1,h2⟩,rfl⟩:=h;cases hargs with
  | cons a1 a2 =>
    cases a2;cases a1;obtain ⟨i,rfl⟩ : ∃ i:Nat,n=(i:Int):=⟨n.toNat,by omega⟩
    refine ⟨_,CV.Rel.str _,fun w1 _=>(Tryz.strconv_Itoa_small i (by omega) w1).mono fun e w2 ⟨he,hw⟩ => ?_⟩
    subst hw;refine ⟨?_,Below.refl _ _⟩;rw [he];unfold jq;rw [Lib.itoa_nonneg]
 ·cases h
def jaM (args:List A1) (mem:Mem):Tree (AV × Mem):=if Un mem then (match args with
 | [.c (.int .i64 n)]=>.need (le 0 n&&le n 1073741824) (.leaf (.one (.c (.str (jq n))),mem))
 | _=>.fail) else .fail
theorem jmY {F:Nat->Prop} {w:World} (h:Tab F w):Lib.TabIs Tryz.prog w "internal/strconv.uint64pow10" .u64 Lib.pow10Tab:=by
 obtain ⟨_,_,T,m,h3⟩:=h;have hg:Tryz.prog.globalNamed "internal/strconv.uint64pow10" = some 1:=by kernel_rfl
 unfold Lib.TabIs World.var?;rw [hg];show (match w.heap[1]? with | some (.cells cs _ _)=>some cs | _=>none)=_
 rw [h3];rfl
theorem jfD (w:World) (k:Nat) (os:Array Obj):Below w.heap.size w (Sort.grow (w.drewN k) os) :=
 ⟨rfl,rfl,rfl,by show w.heap.size<=(w.heap++os).size;rw [Array.size_append];omega,fun j hj=>Sort.heap_grow_old (w.drewN k) os (by show j<w.heap.size;omega)⟩
theorem jrg:jr Tryz.prog 101 jaM:=by
 intro args mem r mem' hG F w bs vs hm hargs;unfold jaM at hG;split at hG
 rotate_left
 ·simp [Tree.sel] at hG
 rename_i ht;split at hG
 rotate_left
 ·simp [Tree.sel] at hG
 rename_i n;simp only [jG,j3] at hG;cases hc:(le 0 n&&le n 1073741824) with
 | false=>rw [hc] at hG;simp at hG
 | true =>
   rw [hc] at hG;simp only [cond_true,sIq,pIq] at hG;obtain ⟨rfl,rfl⟩:=hG;simp only [aTq,Wr] at hc;cases hargs with
  | cons a1 a2 =>
    cases a2;cases a1;refine (Tryz.strconv_Itoa n (by omega) (by omega) w (jmY (FJ hm ht))).mono fun e w2 ⟨he,k,os,hw⟩ => ?_
    subst hw;have hb:=jfD w k os;exact ⟨_,F,bs,he,Ext.of_below hb,hm.below hb,CV.Rel.str _⟩
end Go.Proofs.YtiefjlcakpdfeaaGreatDoor
namespace Go.Proofs.YtiefjlcakpdfeaaGreatDoor
open Go Go.Sx Go.RowKit Rb
set_option maxRecDepth 100000
inductive PRel {σ σ' α α':Type} (RP:Int->Int->Prop) (R:σ->σ'->Prop) (V:α->α'->Prop):PR σ α->PR σ' α'->Prop where
 | stuck:PRel RP R V .stuck .stuck
 | pan {a a':Int} (h:RP a a'):PRel RP R V (.pan a) (.pan a')
 | ret {v:α} {v':α'} {s:σ} {s':σ'} (hv:V v v') (hs:R s s'):PRel RP R V (.ret v s) (.ret v' s')
section
variable {σ σ' α α' β β' ε ε' τ τ':Type} {RP:Int->Int->Prop} {R:σ->σ'->Prop}
theorem PRel.bind {V : α -> α' -> Prop} {U : β -> β' -> Prop} {x : PR σ α} {x' : PR σ' α'} {f : α -> σ -> PR σ β} {f' : α' -> σ' -> PR σ' β'} (h : PRel RP R V x x')
  (hf:∀ v v' s s',V v v'->R s s'->PRel RP R U (f v s) (f' v' s')):PRel RP R U (x.bind f) (x'.bind f'):=by
 cases h with
 | stuck=>exact .stuck
 | pan h=>exact .pan h
 | ret hv hs=>exact hf _ _ _ _ hv hs
theorem PRel.cond {V:α->α'->Prop} {c:Bool} {x y:PR σ α} {x' y':PR σ' α'} (h1:PRel RP R V x x') (h2:PRel RP R V y y'):PRel RP R V (bif c then x else y) (bif c then x' else y'):=by
 cases c with
 | true=>exact h1
 | false=>exact h2
structure MRel (RP:Int->Int->Prop) (M:Mach σ) (M':Mach σ') (R:σ->σ'->Prop):Prop where
 tx:∀ {s s'},R s s'->M.tx s=M'.tx s'
 pos:∀ {s s'},R s s'->RP (M.pos s) (M'.pos s')
 adv:∀ {s s'},R s s'->PRel RP R (fun _ _=>True) (M.adv s) (M'.adv s')
structure ARel (RP:Int->Int->Prop) (A:Alg ε τ) (A':Alg ε' τ') (E:ε->ε'->Prop) (T:τ->τ'->Prop):Prop where
 ex:∀ {op v l l'},All2 E l l'->E (A.ex op v l) (A'.ex op v l')
 st:∀ {k w e e' b b' x x' p p'},E e e'->All2 T b b'->All2 T x x'->RP p p'->T (A.st k w e b x p) (A'.st k w e' b' x' p')
variable {M:Mach σ} {M':Mach σ'} (hM:MRel RP M M' R)
include hM
theorem Km {V:α->α'->Prop} {s:σ} {s':σ'} (h:R s s'):PRel RP R V (Kx M s) (Kx M' s'):=.pan (hM.pos h)
theorem JJ {t:ByteArray} {s:σ} {s':σ'} (h:R s s'):PRel RP R Eq (qH M t s) (qH M' t s'):=by
 unfold qH;rw [hM.tx h];exact .cond ((hM.adv h).bind fun _ _ _ _ _ h=>.ret rfl h) (.ret rfl h)
theorem Jb {t:ByteArray} {s:σ} {s':σ'} (h:R s s'):PRel RP R (fun _ _=>True) (qJ M t s) (qJ M' t s'):=by
 unfold qJ;refine (JJ hM h).bind fun c c' s s' hc h => ?_;subst hc;exact .cond (.ret trivial h) (Km hM h)
theorem QF {ok:Bool} {s:σ} {s':σ'} (h:R s s'):PRel RP R Eq (qC M ok s) (qC M' ok s'):=by
 unfold qC;refine .cond ((hM.adv h).bind fun _ _ _ _ _ h2=>.ret (hM.tx h) h2) (Km hM h)
theorem B1 {most:Int} {s:σ} {s':σ'} (h:R s s'):PRel RP R Eq (kC M most s) (kC M' most s'):=by
 unfold kC;rw [hM.tx h];cases jE (M'.tx s') with
 | none=>exact .stuck
 | some y=>exact (QF hM h).bind fun _ _ _ _ _ h=>.ret rfl h
theorem jef {s:σ} {s':σ'} (h:R s s'):PRel RP R Eq (Kz M s) (Kz M' s'):=by
 unfold Kz;rw [hM.tx h];exact (QF hM h).bind fun _ _ _ _ _ h=>.ret rfl h
theorem HD {s:σ} {s':σ'} (h:R s s'):PRel RP R Eq (JN M s) (JN M' s'):=by
 unfold JN;rw [hM.tx h];cases jV (M'.tx s') with
 | none=>exact .stuck
 | some y=>exact QF hM h
theorem IC {k:Int} {s:σ} {s':σ'} (h:R s s'):PRel RP R Eq (QU M k s) (QU M' k s'):=by
 unfold QU;rw [hM.tx h];exact .cond (QF hM h) .stuck
theorem V0:∀ (l:List Int) {s:σ} {s':σ'},R s s'->PRel RP R Eq (yp M l s) (yp M' l s')
 | [],_,_,h=>.ret rfl h
 | k :: r, s, s', h => by
   unfold yp;refine (IC hM h).bind fun w w' s1 s1' hw h => ?_;subst hw;refine (V0 r h).bind fun l l' s2 s2' hl h => ?_;subst hl;exact .ret rfl h
theorem NG {s:σ} {s':σ'} (h:R s s'):PRel RP R Eq (z6 M s) (z6 M' s'):=by
 unfold z6;rw [hM.tx h];refine (QF hM h).bind fun w w' s1 s1' hw h => ?_;subst hw;refine (V0 hM _ h).bind fun l l' s2 s2' hl h => ?_;subst hl;exact .ret rfl h
variable {A:Alg ε τ} {A':Alg ε' τ'} {E:ε->ε'->Prop} {T:τ->τ'->Prop} (hA:ARel RP A A' E T)
include hA
abbrev zI (RP:Int->Int->Prop) (R:σ->σ'->Prop) (V:α->α'->Prop) (f:σ->PR σ α) (f':σ'->PR σ' α'):Prop:=∀ s s',R s s'->PRel RP R V (f s) (f' s')
theorem B9 {o : σ -> PR σ ε} {o' : σ' -> PR σ' ε'} {g : ε -> σ -> PR σ ε} {g' : ε' -> σ' -> PR σ' ε'} (ho : zI RP R E o o') (hg : ∀ e e', E e e' -> zI RP R E (g e) (g' e')) :
  ∀ (l:List ByteArray) {e:ε} {e':ε'} {s:σ} {s':σ'},E e e'->R s s'->PRel RP R E (Ya M A o g e l s) (Ya M' A' o' g' e' l s')
 | [],_,_,_,_,he,h=>.ret he h
 | w :: r, e, e', s, s', he, h => by
   unfold Ya;refine (JJ hM h).bind fun c c' s1 s1' hc h => ?_;subst hc;refine .cond ((ho _ _ h).bind fun x x' s2 s2' hx h=>hg _ _ (hA.ex (.cons he (.cons hx .nil))) _ _ h) (B9 ho hg r he h)
theorem Yj {ops:List ByteArray} {o:σ->PR σ ε} {o':σ'->PR σ' ε'} (ho:zI RP R E o o'):∀ (k:Nat) (e:ε) (e':ε'),E e e'->zI RP R E (Jp M A ops o k e) (Jp M' A' ops o' k e')
 | 0,_,_,_,_,_,_=>.stuck
 | k+1,_,_,he,_,_,h=>B9 hM hA ho (Yj ho k) ops he h
theorem ON {x:σ->PR σ ε} {x':σ'->PR σ' ε'} (hx:zI RP R E x x'):zI RP R E (Yk M A x) (Yk M' A' x'):=by
 intro s s' h;unfold Yk;rw [hM.tx h];refine .cond ?_ (.cond ?_ (.cond ?_ ?_))
 ·exact (hM.adv h).bind fun _ _ _ _ _ h=>.ret (hA.ex .nil) h
 ·refine (hM.adv h).bind fun _ _ _ _ _ h=>(jef hM h).bind fun n n' _ _ hn h => ?_;subst hn;exact .ret (hA.ex .nil) h
 ·exact (hM.adv h).bind fun _ _ _ _ _ h=>(hx _ _ h).bind fun e e' _ _ he h=>(Jb hM h).bind fun _ _ _ _ _ h=>.ret he h
 ·refine (B1 hM h).bind fun n n' _ _ hn h => ?_;subst hn;exact .ret (hA.ex .nil) h
theorem Ff {x:σ->PR σ ε} {x':σ'->PR σ' ε'} (hx:zI RP R E x x') (k:Nat):zI RP R E (Ia M A x k) (Ia M' A' x' k):=fun s s' h =>
 (ON hM hA hx s s' h).bind fun e e' _ _ he h=>Yj hM hA (ON hM hA hx) k e e' he _ _ h
theorem Gb {o x:σ->PR σ ε} {o' x':σ'->PR σ' ε'} (ho:zI RP R E o o') (hx:zI RP R E x x') (k:Nat):zI RP R E (Ui M A o x k) (Ui M' A' o' x' k):=by
 intro s s' h;unfold Ui;refine (JJ hM h).bind fun c c' s1 s1' hc h => ?_;subst hc;refine .cond ((ho _ _ h).bind fun e e' _ _ he h=>.ret (hA.ex (.cons he .nil)) h) ?_;exact (Ff hM hA hx k _ _ h).bind fun e e' _ _ he h=>B9 hM hA (Ff hM hA hx k) (fun e e' he _ _ h=>.ret he h) _ he h
theorem OJ {o x:σ->PR σ ε} {o' x':σ'->PR σ' ε'} (ho:zI RP R E o o') (hx:zI RP R E x x') (k:Nat):zI RP R E (HL M A o x k) (HL M' A' o' x' k):=fun s s' h =>
 (Gb hM hA ho hx k s s' h).bind fun e e' _ _ he h=>Yj hM hA (Gb hM hA ho hx k) k e e' he _ _ h
theorem jdp {o x:σ->PR σ ε} {o' x':σ'->PR σ' ε'} (ho:zI RP R E o o') (hx:zI RP R E x x') (k:Nat):zI RP R E (Rl M A o x k) (Rl M' A' o' x' k):=fun s s' h =>
 (OJ hM hA ho hx k s s' h).bind fun e e' _ _ he h=>Yj hM hA (OJ hM hA ho hx k) k e e' he _ _ h
theorem YJ (K:Nat):∀ d,zI RP R E (exs M A K d).1 (exs M' A' K d).1∧zI RP R E (exs M A K d).2 (exs M' A' K d).2
 | 0=>⟨fun _ _ _=>.stuck,fun _ _ _=>.stuck⟩
 | d+1=>⟨Gb hM hA (YJ K d).1 (YJ K d).2 K,jdp hM hA (YJ K d).1 (YJ K d).2 K⟩
omit hA in
theorem Lg:∀ (k:Nat) {s:σ} {s':σ'},R s s'->PRel RP R Eq (kL M k s) (kL M' k s')
 | 0,_,_,_=>.stuck
 | k + 1, s, s', h => by
   unfold kL;refine (JJ hM h).bind fun c c' s1 s1' hc h => ?_;subst hc;refine .cond (.ret rfl h) ((HD hM h).bind fun w w' s2 s2' hw h => ?_);subst hw;refine (Lg k h).bind fun l l' s3 s3' hl h => ?_;subst hl;exact .ret rfl h
omit hA in
theorem Lm {st:σ->PR σ τ} {st':σ'->PR σ' τ'} (hs:zI RP R T st st'):∀ (k:Nat),zI RP R (All2 T) (zO M st k) (zO M' st' k)
 | 0,_,_,_=>.stuck
 | k + 1, s, s', h => by
   unfold zO;refine (JJ hM h).bind fun c c' s1 s1' hc h => ?_;subst hc;exact .cond (.ret .nil h) ((hs _ _ h).bind fun x x' s2 s2' hx h=>(Lm hs k _ _ h).bind fun l l' s3 s3' hl h=>.ret (.cons hx hl) h)
omit hA in
theorem jam {st:σ->PR σ τ} {st':σ'->PR σ' τ'} (hs:zI RP R T st st') (k:Nat):zI RP R (All2 T) (Z3 M st k) (Z3 M' st' k):=fun _ _ h =>
 (Jb hM h).bind fun _ _ _ _ _ h=>Lm hM hs k _ _ h
theorem XG {x:σ->PR σ ε} {x':σ'->PR σ' ε'} (hx:zI RP R E x x') {b:σ->PR σ (List τ)} {b':σ'->PR σ' (List τ')} (hb:zI RP R (All2 T) b b') (k:Nat):zI RP R T (yD M A x b k) (yD M' A' x' b' k):=by
 intro s s' h;have hp:=hM.pos h;have h0:E (Il A) (Il A'):=hA.ex .nil;unfold yD;rw [hM.tx h];refine .cond ?_ (.cond ?_ (.cond ?_ (.cond ?_ (.cond ?_ (Km hM h)))))
 ·refine (hM.adv h).bind fun _ _ _ _ _ h=>(NG hM h).bind fun w w' _ _ hw h=>(JJ hM h).bind fun c c' _ _ hc h => ?_;subst hw;subst hc;refine .cond ((hb _ _ h).bind fun l l' _ _ hl h=>(Jb hM h).bind fun _ _ _ _ _ h=>.ret (hA.st h0 hl .nil hp) h) ((Jb hM h).bind fun _ _ _ _ _ h=>.ret (hA.st h0 .nil .nil hp) h)
 ·refine (hM.adv h).bind fun _ _ _ _ _ h=>(hx _ _ h).bind fun e e' _ _ he h=>(hb _ _ h).bind fun l l' _ _ hl h=>(JJ hM h).bind fun c c' _ _ hc h => ?_;subst hc;exact .cond ((hb _ _ h).bind fun r r' _ _ hr h=>.ret (hA.st he hl hr hp) h) (.ret (hA.st he hl .nil hp) h)
 ·refine (hM.adv h).bind fun _ _ _ _ _ h=>(B1 hM h).bind fun n n' _ _ hn h=>(hb _ _ h).bind fun l l' _ _ hl h => ?_;subst hn;exact .ret (hA.st (hA.ex .nil) hl .nil hp) h
 ·exact (hM.adv h).bind fun _ _ _ _ _ h=>(hx _ _ h).bind fun e e' _ _ he h=>(Jb hM h).bind fun _ _ _ _ _ h=>.ret (hA.st he .nil .nil hp) h
 ·refine (hM.adv h).bind fun _ _ _ _ _ h=>(HD hM h).bind fun w w' _ _ hw h=>(Lg hM k h).bind fun l l' _ _ hl h => ?_;subst hw;subst hl;exact .ret (hA.st h0 .nil .nil hp) h
theorem BB (K:Nat):∀ d,zI RP R T (sts M A K d).1 (sts M' A' K d).1∧zI RP R (All2 T) (sts M A K d).2 (sts M' A' K d).2
 | 0=>⟨fun _ _ _=>.stuck,fun _ _ _=>.stuck⟩
 | d+1=>⟨XG hM hA (YJ hM hA K K).2 (BB K d).2 K,jam hM (XG hM hA (YJ hM hA K K).2 (BB K d).2 K) K⟩
omit hA in
theorem OA {b:σ->PR σ (List τ)} {b':σ'->PR σ' (List τ')} (hb:zI RP R (All2 T) b b'):zI RP R (fun x x'=>x.1=x'.1∧All2 T x.2 x'.2) (yv M b) (yv M' b'):=by
 intro s s' h;unfold yv;refine (hM.adv h).bind fun _ _ _ _ _ h=>(Jb hM h).bind fun _ _ _ _ _ h => ?_;rw [hM.tx h];refine .cond ((QF hM h).bind fun w w' _ _ hw h=>(hb _ _ h).bind fun l l' _ _ hl h => ?_) .stuck;subst hw;rw [hM.tx h];exact .cond (Km hM h) (.ret ⟨rfl,hl⟩ h)
end
end Go.Proofs.YtiefjlcakpdfeaaGreatDoor
namespace Go.Proofs.YtiefjlcakpdfeaaGreatDoor
open Go Go.Sx Go.RowKit Rb
theorem HM {a b:Nat} (h:a<b):Nat.blt a b=true:=by unfold Nat.blt;rw [Nat.ble_eq];exact h
theorem Hj {a b:Nat} (h:b<=a):Nat.blt a b=false:=by
 cases hb:Nat.blt a b with
 | false=>rfl
 | true=>unfold Nat.blt at hb;rw [Nat.ble_eq] at hb;omega
theorem inR {k n:Nat} (h:k<n):jc (k:Int) n=true:=by unfold jc le lt ja;simp;omega
theorem Xm {κ κ':Val} {i j:Nat} (h:κ.at i=κ'.at j):jh κ i=jh κ' j:=by
 unfold jh;rw [h]
theorem MB {n:Nat} {ρ σ:Val} (hn:n<=100000) (h:∀ j,j<n->wd ρ j=wd σ j):∀ f (i:Nat),n+1<=f+i->i<=n->K6 n ρ n σ (ja n) f (i:Int)=some true
 | 0,i,h1,h2=>by omega
 | f + 1, i, h1, h2 => by
   unfold K6;rcases lOq i n with hi | hi
   ·have e1:lt (i:Int) (ja n)=true:=by unfold lt ja;simp;exact hi
    have e4:IntKind.wrap .i64 ((i:Int)+1)=((i+1:Nat):Int):=by rw [Ro.w64_id (by omega) (by omega)];omega
    have e5:jb (wd ρ i) (wd σ i)=true:=(ye _ _).2 (h i hi);rw [e1,inR hi,e4];simp only [nd,cond_true,Int.toNat_natCast,e5,Bool.not_true,cond_false];exact MB hn h f (i+1) (by omega) (by omega)
   ·have e1:lt (i:Int) (ja n)=false:=by unfold lt ja;simp;omega
    rw [e1];rfl
theorem jjw {a b:Nat} {ρ σ:Val} (hab:a=b) (hn:a<=100000) (h:∀ j,j<a->wd ρ j=wd σ j):Q9 a ρ b σ=some true:=by
 subst hab;unfold Q9;have e:(ja a != ja a)=false:=by simp
 rw [e];exact MB hn h (a+1) 0 (by omega) (by omega)
end Go.Proofs.YtiefjlcakpdfeaaGreatDoor
namespace Go.Proofs.YtiefjlcakpdfeaaGreatDoor
open Go Go.Sx Go.RowKit Rb
set_option maxRecDepth 100000
def spC (c:UInt8):Bool:=isSp (c.toNat:Int)
def qM (c:UInt8):Bool:=Kq (c.toNat:Int)
def WB (c:UInt8):Bool:=kz (c.toNat:Int)
def isC (n:Int) (c:UInt8):Bool:=(c.toNat:Int)==n
def qI:Bool->List UInt8->List UInt8
 | _,[]=>[]
 | true,c::r=>bif isC 10 c then qI false r else qI true r
 | false,c::r=>bif spC c then qI false r else bif isC 35 c then qI true r else c::r
abbrev LS:=ByteArray × List UInt8 × Int
def Iv (N:Nat):List UInt8->PR LS Unit
 | []=>.ret () (bs [],[],(N:Int))
 | c::r=>bif qM c then .ret () (⟨⟨c::r.takeWhile qM⟩⟩,r.dropWhile qM,(N:Int) - (r.length+1:Nat)) else bif WB c then .ret () (⟨⟨[c]⟩⟩,r,(N:Int) - (r.length+1:Nat)) else .pan ((N:Int) - (r.length+1:Nat))
theorem ZY (N:Nat) (c:UInt8) (r:List UInt8):Iv N (c::r)=bif qM c then .ret () (⟨⟨c::r.takeWhile qM⟩⟩,r.dropWhile qM,(N:Int) - (r.length+1:Nat)) else bif WB c then .ret () (⟨⟨[c]⟩⟩,r,(N:Int) - (r.length+1:Nat)) else .pan ((N:Int) - (r.length+1:Nat)):=rfl
def LM (N:Nat):Mach LS:=⟨Prod.fst,fun q=>q.2.2,fun q=>Iv N (qI false q.2.1)⟩
variable {s:ByteArray}
abbrev lst (s:ByteArray):List UInt8:=s.data.toList
theorem QI:(lst s).length=s.size:=rfl
theorem VD {k:Nat} (h:k<s.size):∃ c,(lst s).drop k=c::(lst s).drop (k+1)∧jB s k=(c.toNat:Int):=by
 have h':k<(lst s).length:=h;refine ⟨(lst s)[k],List.drop_eq_getElem_cons h',?_⟩;unfold jB;rw [jd,gEq h']
theorem Jk {k:Nat} (h:k<=100000):IntKind.wrap .i64 ((k:Int)+1)=((k+1:Nat):Int):=by rw [Ro.w64_id (by omega) (by omega)];omega
theorem ltS {k:Nat}:lt (k:Int) (ja s.size)=Nat.blt k s.size:=by
 unfold lt ja;cases h:Nat.blt k s.size with
 | true=>unfold Nat.blt at h;rw [Nat.ble_eq] at h;simp;omega
 | false =>
   have:¬ (k+1<=s.size):=by
    intro h2
    have:Nat.blt k s.size=true:=by unfold Nat.blt;rw [Nat.ble_eq];exact h2
    rw [this] at h;cases h
   simp;omega
theorem MM:∀ (l:List UInt8),(∀ k:Nat,l[k]? ≠ some 10)->qI true l=[]
 | [],_=>rfl
 | c :: r, h => by
   have h0:isC 10 c=false:=by
    have:=h 0
    unfold isC;cases hc:((c.toNat:Int)==10) with
    | false=>rfl
    | true =>
      have h2:c.toNat=10:=by have:=eq_of_beq hc;omega
      have h3:c=10:=UInt8.toNat_inj.1 (by rw [h2];rfl)
      exact absurd (by rw [h3];rfl) this
   unfold qI;rw [h0];exact MM r fun k=>by have:=h (k+1);simpa using this
theorem Io:∀ (l:List UInt8) (i:Nat),l[i]? = some 10->(∀ k,k<i->l[k]? ≠ some 10)->qI true l=qI false (l.drop i)
 | [],i,h,_=>by simp at h
 | c :: r, 0, h, _ => by
   have:c=10:=by simpa using h
   subst this;rfl
 | c :: r, i + 1, h, h2 => by
   have h0:isC 10 c=false:=by
    have:=h2 0 (by omega)
    unfold isC;cases hc:((c.toNat:Int)==10) with
    | false=>rfl
    | true =>
      have h2:c.toNat=10:=by have:=eq_of_beq hc;omega
      have h3:c=10:=UInt8.toNat_inj.1 (by rw [h2];rfl)
      exact absurd (by rw [h3];rfl) this
   have e:qI true (c::r)=qI true r:=by
    show (bif isC 10 c then qI false r else qI true r)=_;rw [h0];rfl
   rw [e,List.drop_succ_cons];exact Io r i (by simpa using h) fun k hk=>by have:=h2 (k+1) (by omega);simpa using this
theorem Ve (hs:s.size<=10000):∀ f k,k<=s.size->s.size+1<=f+k->∃ (b:Bool) (k':Nat),Ql f s (k:Int)=some (b,(k':Int))∧k<=k'∧k'<=s.size∧(lst s).drop k'=qI false ((lst s).drop k)
 | 0,k,h1,h2=>by omega
 | f + 1, k, h1, h2 => by
   unfold Ql;rw [ltS];rcases lOq k s.size with hk | hk
   ·obtain ⟨c,e1,e2⟩:=VD hk;have hr:jc (k:Int) s.size=true:=by unfold jc le lt ja;simp;omega
    rw [HM hk,hr,Int.toNat_natCast,e2,e1];simp only [cond_true];cases hsp:isSp (c.toNat:Int) with
    | true =>
      obtain ⟨b,k',h3,h4,h5,h6⟩:=Ve hs f (k+1) (by omega) (by omega)
      refine ⟨b,k',?_,by omega,h5,?_⟩
      ·rw [Jk (by omega)];exact h3
      ·rw [h6];show _=(bif spC c then _ else _);unfold spC;rw [hsp];rfl
    | false =>
      simp only [cond_false];cases h35:((c.toNat:Int)==35) with
     | false =>
       refine ⟨true,k,rfl,lRq _,h1,?_⟩;rw [e1];show _=(bif spC c then _ else bif isC 35 c then _ else _);unfold spC isC;rw [hsp,h35];rfl
     | true =>
       have hc:(le 0 (k:Int)&&le (k:Int) (ja s.size)&&le (ja s.size) (ja s.size))=true:=by unfold le ja;simp;omega
       rw [hc];simp only [cond_true]
       have hsub:(y4 s (k:Int).toNat s.size).data.toList=(lst s).drop k:=by
        unfold y4;rw [Int.toNat_natCast];show ((lst s).take s.size).drop k=_;rw [List.take_of_length_le (by rw [QI];exact lRq _)]
       have h10:isC 10 c=false:=by
        have:(c.toNat:Int)=35:=by simpa using h35
        unfold isC;rw [this];rfl
       have hrest:qI false (c::(lst s).drop (k+1))=qI true ((lst s).drop k):=by
        rw [e1];show (bif spC c then _ else bif isC 35 c then _ else _)=(bif isC 10 c then _ else _);unfold spC isC at *;rw [hsp,h35,h10];rfl
       rw [hrest];have hge:=Lib.indexByte_ge ((lst s).drop k) 10;rcases Int.lt_or_le (Lib.indexByte ((lst s).drop k) 10) 0 with hi | hi
       ·have hi1:Lib.indexByte ((lst s).drop k) 10=-1:=by omega
        have hn:=Lib.indexByte_none hi1
        have hN:Ny s (k:Int)=((s.size:Nat):Int):=by
         unfold Ny Gi;rw [hsub,hi1];show (bif lt (-1) 0 then _ else _)=_
         have:lt (-1) 0=true:=rfl
         rw [this];simp only [cond_true];show IntKind.wrap .i64 ((k:Int)+IntKind.wrap .i64 ((s.size:Int) - k))=_;rw [Ro.w64_id (x:=(s.size:Int) - k) (by omega) (by omega),Ro.w64_id (by omega) (by omega)]
         omega
        obtain ⟨b,k',h3,h4,h5,h6⟩:=Ve hs f s.size (lRq _) (by omega)
        refine ⟨b,k',by rw [hN];exact h3,by omega,h5,?_⟩
        rw [h6,MM _ hn,List.drop_of_length_le (by rw [QI];exact lRq _)]
        rfl
       ·obtain ⟨o,ho⟩ : ∃ o:Nat,Lib.indexByte ((lst s).drop k) 10=(o:Int):=⟨(Lib.indexByte ((lst s).drop k) 10).toNat,by omega⟩
        obtain ⟨g1,g2⟩:=Lib.indexByte_some ho
        have hlt:k+o<s.size:=by
         have:o<((lst s).drop k).length:=by
          rcases lOq o ((lst s).drop k).length with h | h
          ·exact h
          ·rw [List.getElem?_eq_none h] at g1;cases g1
         rw [List.length_drop,QI] at this;omega
        have ho1:1<=o:=by
         rcases lOq 0 o with h | h
         ·exact h
         ·have:o=0:=by omega
          subst this;rw [e1] at g1
          have:c=10:=by simpa using g1
          subst this;cases h10
        have hN:Ny s (k:Int)=((k+o:Nat):Int):=by
         unfold Ny Gi;rw [hsub,ho]
         have:lt (o:Int) 0=false:=by unfold lt;simp
         rw [this];simp only [cond_false];rw [Ro.w64_id (by omega) (by omega)]
         omega
        obtain ⟨b,k',h3,h4,h5,h6⟩:=Ve hs f (k+o) (by omega) (by omega)
        refine ⟨b,k',by rw [hN];exact h3,by omega,h5,?_⟩
        rw [h6,Io _ o g1 g2,List.drop_drop]
   ·have:k=s.size:=by omega
    subst this;rw [Hj (lRq _)];refine ⟨false,s.size,rfl,lRq _,lRq _,?_⟩;rw [List.drop_of_length_le (by rw [QI];exact lRq _)]
    rfl
theorem M6 (hs:s.size<=10000):∀ f k,k<=s.size->s.size+1<=f+k->∃ k':Nat,Vi f s (k:Int)=some (k':Int)∧k<=k'∧k'<=s.size∧((lst s).drop k).dropWhile qM=(lst s).drop k'∧((lst s).drop k).takeWhile qM=((lst s).take k').drop k∧(((lst s).drop k).head?.any qM=true->k<k')
 | 0,k,h1,h2=>by omega
 | f + 1, k, h1, h2 => by
   unfold Vi;rw [ltS];rcases lOq k s.size with hk | hk
   ·obtain ⟨c,e1,e2⟩:=VD hk;have hr:jc (k:Int) s.size=true:=by unfold jc le lt ja;simp;omega
    rw [HM hk,hr,Int.toNat_natCast,e2,e1];simp only [cond_true];cases hw:Kq (c.toNat:Int) with
    | true =>
      obtain ⟨k',h3,h4,h5,h6,h7,_⟩:=M6 hs f (k+1) (by omega) (by omega)
      have hw':qM c=true:=hw;refine ⟨k',by rw [Jk (by omega)];exact h3,by omega,h5,?_,?_,fun _=>by omega⟩
      ·rw [List.dropWhile_cons,hw',if_pos rfl,h6]
      ·rw [List.takeWhile_cons,hw',if_pos rfl,h7];have e3:((lst s).take k').drop k=(((lst s).drop k).take (k' - k)):=by rw [List.drop_take]
       have e4:((lst s).take k').drop (k+1)=(((lst s).drop (k+1)).take (k' - (k+1))):=by rw [List.drop_take]
       rw [e3,e4,e1]
       have:k' - k=(k' - (k+1))+1:=by omega
       rw [this,List.take_succ_cons]
    | false =>
      have hw':qM c=false:=hw;refine ⟨k,rfl,lRq _,h1,?_,?_,?_⟩
      ·rw [List.dropWhile_cons,hw',if_neg (by simp)]
       exact e1.symm
      ·rw [List.takeWhile_cons,hw',if_neg (by simp),List.drop_take,Nat.sub_self,List.take_zero]
      ·intro h;simp [hw'] at h
   ·have:k=s.size:=by omega
    subst this;rw [Hj (lRq _)];have e:(lst s).drop s.size=[]:=List.drop_of_length_le (by rw [QI];exact lRq _)
    refine ⟨s.size,rfl,lRq _,lRq _,?_,?_,?_⟩
    ·rw [e];rfl
    ·rw [e,List.drop_take,Nat.sub_self,List.take_zero];rfl
    ·rw [e];intro h;cases h
def RML (s:ByteArray) (p:PS) (q:LS):Prop:=p.tx=q.1∧p.pos=q.2.2∧∃ k:Nat,p.nx=(k:Int)∧k<=s.size∧q.2.1=(lst s).drop k
theorem w32 (c:UInt8):IntKind.wrap .i32 (c.toNat:Int)=(c.toNat:Int):=by
 have:=c.toNat_lt
 have h:∀ n:Nat,n<256->IntKind.wrap .i32 (n:Int)=(n:Int):=by
  intro n hn;simp only [IntKind.wrap,IntKind.bits,IntKind.signed]
  simp;omega
 exact h _ this
theorem jm4 (hs:s.size<=10000) {p:PS} {q:LS} (h:RML s p q):PRel Eq (RML s) (fun _ _=>True) (kX s p) (Iv s.size (qI false q.2.1)):=by
 obtain ⟨_,_,k,hk1,hk2,hk3⟩:=h;obtain ⟨b,st,h1,h2,h3,h4⟩:=Ve hs (s.size+1) k hk2 (by omega)
 obtain ⟨n,g1,g2,g3,g4,g5,g6⟩:=M6 hs (s.size+1) st h3 (by omega)
 have e1:ZL s p.nx=some (b,(st:Int)):=by unfold ZL;rw [hk1];exact h1
 have e2:FM s (st:Int)=some (n:Int):=g1;unfold kX jfU;rw [e1];simp only [e2];rw [hk3,← h4];have hcut:Kv s (st:Int) (n:Int)=true:=by unfold Kv le ja;simp;omega
 rcases lOq st s.size with hst | hst
 ·obtain ⟨c,e3,e4⟩:=VD hst;have hpos:(st:Int)=(s.size:Int) - (((lst s).drop (st+1)).length+1:Nat):=by rw [List.length_drop,QI];omega
  rw [e3] at g4 g5 g6 ⊢;cases hw:qM c with
  | true =>
    have hlt:=g6 (by simp [hw])
    have hne:((n:Int)==(st:Int))=false:=by simp;omega
    rw [hne];simp only [cond_false,hcut,cond_true,Int.toNat_natCast];rw [ZY,hw];refine .ret trivial ⟨?_,hpos,n,rfl,g3,?_⟩
    ·show y4 s st n=_;unfold y4;rw [← g5,List.takeWhile_cons,hw];rfl
    ·show List.dropWhile qM _=_;rw [← g4,List.dropWhile_cons,hw];rfl
  | false =>
    have hn:n=st:=by
     rw [List.takeWhile_cons,hw,if_neg (by simp),List.drop_take] at g5
     have:=congrArg List.length g5
     rw [List.length_take,List.length_drop,QI] at this;simp at this;omega
    subst hn;have hlt:lt (n:Int) (ja s.size)=true:=by rw [ltS];exact HM hst
    have hr:jc (n:Int) s.size=true:=by unfold jc le lt ja;simp;omega
    have h256:lt (c.toNat:Int) 256=true:=by have:=c.toNat_lt;unfold lt;simp;omega
    have h0:le 0 (c.toNat:Int)=true:=by unfold le;simp
    rw [beq_self_eq_true,hlt,hr,Int.toNat_natCast,e4,w32,h256,h0];simp only [cond_true,Bool.and_self];rw [ZY,hw];simp only [cond_false];have hsg:WB c=kz (c.toNat:Int):=rfl;rw [← hsg];cases hsc:WB c with
   | false=>exact .pan hpos
   | true =>
     have hcut2:Kv s (n:Int) ((n+1:Nat):Int)=true:=by unfold Kv le ja;simp;omega
     simp only [cond_true,Jk (show n<=100000 by omega),hcut2,Int.toNat_natCast]
     refine .ret trivial ⟨?_,hpos,n+1,rfl,by omega,rfl⟩
     show y4 s n (n+1)=_;unfold y4;rw [List.drop_take];show (⟨⟨((lst s).drop n).take (n+1 - n)⟩⟩ : ByteArray)=_;rw [e3,show n+1 - n=1 by omega]
     rfl
 ·have:st=s.size:=by omega
  subst this;have hn:n=s.size:=by omega
  subst hn;have e:(lst s).drop s.size=[]:=List.drop_of_length_le (by rw [QI];exact lRq _)
  have hlt:lt (s.size:Int) (ja s.size)=false:=by rw [ltS];exact Hj (lRq _)
  rw [beq_self_eq_true,hlt,e];simp only [cond_true,cond_false,hcut,Int.toNat_natCast];refine .ret trivial ⟨?_,rfl,s.size,rfl,lRq _,e.symm⟩;show y4 s s.size s.size=bs [];unfold y4;rw [List.drop_take,Nat.sub_self,List.take_zero];rfl
theorem jpk (hs:s.size<=10000):MRel Eq (MP s) (LM s.size) (RML s) where
 tx:=fun h=>h.1
 pos:=fun h=>h.2.1
 adv:=jm4 hs
end Go.Proofs.YtiefjlcakpdfeaaGreatDoor