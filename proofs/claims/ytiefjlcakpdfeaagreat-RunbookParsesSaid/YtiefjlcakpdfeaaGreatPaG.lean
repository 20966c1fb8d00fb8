/-
 Part PaG of the proof: EngG.
-/
import Derived.Test.YtiefjlcakpdfeaaGreatPaF
namespace Go.Sx
open Go Go.RowKit
variable {D:List Deferred}
section
variable {P:Program}
def PcOk (P:Program) (pc:List (Nat × (List A1->Tree AV))):Prop :=
 ∀ f G,qP pc f=some G->∀ args r,(G args).sel=some r->args.all jH=true->∀ F w vs,All2 (A1.Rel F w []) args vs ->
  ∃ v,AV.Rel F w [] r v∧∀ w1,Below w.heap.size w w1->Calls P f vs.toArray w1 (fun e w2=>e=.returned v∧Below w1.heap.size w1 w2)
def HcOk (P:Program) (hc:List (Nat × (List A1->Tree AV))):Prop :=
 ∀ f G,qP hc f=some G->∀ args r,(G args).sel=some r->args.all jH=true->∀ F w vs,All2 (A1.Rel F w []) args vs ->
  Calls P f vs.toArray w (fun e w2=>∃ v,e=.returned v∧Below w.heap.size w w2∧AV.Rel (fun p=>F p∧p<w.heap.size) w2 [] r v)
def McOk (P:Program) (mc:List (Nat × (List A1->Mem->Tree (AV × Mem)))):Prop :=
 ∀ f G,UA mc f=some G->∀ args mem r mem',(G args mem).sel=some (r,mem')->∀ F w bs vs,MemRel P F w bs mem->All2 (A1.Rel F w bs) args vs ->
  Calls P f vs.toArray w (fun e w'=>∃ v F' bs',e=.returned v∧Ext bs.length F w bs F' w' bs'∧MemRel P F' w' bs' mem'∧AV.Rel F' w' bs' r v)
structure SumOk (P:Program) (H:Hd):Prop where
 pc:PcOk P H.pc
 hc:HcOk P H.hc
 mc:McOk P H.mc
def ZJ (R:Loop) (args:Array Value):Array Value:=(R.params.zip args).foldl (fun tmps (t,a)=>tmps.setIfInBounds t a) R.tmps
structure CallOk (P:Program) (call:jw):Prop where
 fn:∀ f args mem r mem',f<1000000000->(call f args mem).sel=some (r,mem')->∀ F w bs vs,MemRel P F w bs mem->All2 (A1.Rel F w bs) args vs ->
  Calls P f vs.toArray w (fun e w'=>∃ v F' bs',e=.returned v∧Ext bs.length F w bs F' w' bs'∧MemRel P F' w' bs' mem'∧AV.Rel F' w' bs' r v)
 yl:∀ b args mem r mem',(call (1000000000+b) args mem).sel=some (r,mem')->∀ F w bs vs x,MemRel P F w bs mem->All2 (A1.Rel F w bs) args vs->nth bs b=some x ->
  ∃ R:Loop,w.heap[x.p]? = some (.loop R)∧vs.length=R.params.size∧∀ n,RoundIn Fence.wide n P x.p R.fn (ZJ R vs.toArray) R.assign R.body w
   (fun e w'=>∃ v F' bs',e=.returned v∧Ext bs.length F w bs F' w' bs'∧MemRel P F' w' bs' mem'∧AV.Rel F' w' bs' r v)
theorem Qy {f:Nat} (h:qD P f=true):f<1000000000:=by
 unfold qD at h;split at h
 ·simp only [aTq] at h;simpa using h.2
 ·simp at h
theorem Yi {F : Nat -> Prop} {w : World} {bs : List BI} {ρ : Operand -> Option AV} {a : Act} (hρ : ∀ x av, ρ x = some av -> av.Rel F w bs (a.eval x)) {o : Oper} {c : Call} (ho : o.op = .call c) {f : Nat} {args : List A1}
  (h:yV ρ c=some (f,args)) (hc:qD P f=true):∃ vs:List Value,All2 (A1.Rel F w bs) args vs∧∀ w',(execOp a.eval o).run P w'=.ok (.enter f vs.toArray) w':=by
 unfold yV at h;split at h
 ·rename_i x hcal;split at h
  ·rename_i g first cap l hx hl
   simp at h;obtain ⟨rfl,rfl⟩:=h;have hxr:=hρ _ _ hx;have hargs:=zb hρ hl;generalize he:a.eval x=z at hxr;cases hxr with
   | fn l1 l2 r1 r2 =>
     rename_i vf vc
     have h1:All2 (A1.Rel F w bs) (first.map .c) vf:=by
      refine All2.of_nth (by simpa using l1) fun i u v hu hv => ?_
      rw [jd,List.getElem?_map] at hu;simp only [Option.map_eq_some_iff] at hu;obtain ⟨y,hy,rfl⟩:=hu;exact r1 i y v (by rw [jd];exact hy) hv
     have h2:All2 (A1.Rel F w bs) (cap.map .c) vc:=by
      refine All2.of_nth (by simpa using l2) fun i u v hu hv => ?_
      rw [jd,List.getElem?_map] at hu;simp only [Option.map_eq_some_iff] at hu;obtain ⟨y,hy,rfl⟩:=hu;exact r2 i y v (by rw [jd];exact hy) hv
     refine ⟨vf++(c.args.toList.map a.eval++vc),h1.append (hargs.append h2),fun w' => ?_⟩;unfold qD at hc;split at hc
     ·rename_i fn hfn;simp only [aTq,bne_iff_ne,ne_eq] at hc;obtain ⟨⟨hn,hb⟩,_⟩:=hc;rw [jd] at hfn;simp only [Array.getElem?_toList] at hfn;have hb':fn.body.isNone=false:=by cases hh:fn.body<;>simp [hh] at hb ⊢
      have hn':(fn.name == "runtime.NumGoroutine")=false:=by simpa using hn
      unfold execOp;rw [ho];simp only [resolve,hcal,he,Deferred.ofValue,Sem.run_bind,Sem.run_pure,Result.andThen_ok,invoke,callFunc,run_program,hfn,hn',Bool.false_eq_true,if_false,hb'];congr 2;rw [Qv];apply Array.ext'
      simp
     ·simp at hc
  ·simp at h
 ·simp at h
theorem FI {H : Hd} (hpc : SumOk P H) {call : jw} {mem : Mem} {F : Nat -> Prop} {w : World} {bs : List BI} (hm : MemRel P F w bs mem) {ρ : List (Nat × Bool) -> Operand -> Option AV} {a : Act}
  (hρ:∀ K x av,KH a K->ρ K x=some av->av.Rel F w bs (a.eval x)) {o:Oper} {r:AV} {mem':Mem} {ρ':Operand->Option AV} (hρ':ρ'=ρ [])
  (hq:j6 H ρ' o.op=true) (h:(qM P H call mem ρ o.op).sel=some (r,mem')) :
  mem'=mem∧∃ v,r.Rel F w bs v∧∀ w',Below w.heap.size w w'->o.quietAt P a (Below w.heap.size w) w' v:=by
 subst hρ';have h0:∀ x av,ρ [] x=some av->av.Rel F w bs (a.eval x):=fun x av=>hρ [] x av jA
 have pure_case:((JK P (Ge H) ρ o.op).bind fun v=>Tree.leaf (v,mem)).sel=some (r,mem')->mem'=mem∧∃ v,r.Rel F w bs v∧∀ w',Below w.heap.size w w'->o.quietAt P a (Below w.heap.size w) w' v:=by
  intro h;obtain ⟨av,hav,hb⟩:=jh h;simp only [Tree.sel,sIq,pIq] at hb;obtain ⟨rfl,rfl⟩:=hb;obtain ⟨v,hv,hrun⟩:=Oq hρ hav;refine ⟨rfl,v,hv,fun w' hw' => ?_⟩;unfold Oper.quietAt;rw [hrun w' hw'];exact ⟨rfl,rfl⟩
 unfold qM at h;split at h
 ·rename_i e ho;rw [ho] at hq;simp [j6] at hq
 ·rename_i e x ho;rw [ho] at hq;simp [j6] at hq
 ·rename_i t x ho;split at h
  ·rename_i b sz i off hu;rw [ho] at hq;simp [j6,hu] at hq
  ·rename_i u hu;split at h
   ·rename_i v hv;simp only [Tree.sel,sIq,pIq] at h;obtain ⟨rfl,rfl⟩:=h;obtain ⟨b,p,off,z,rfl,he,hz,hrun⟩:=Of hv hm (h0 _ _ hu);refine ⟨rfl,z,hz,fun w' hw' => ?_⟩;unfold Oper.quietAt execOp;simp only [ho,Sem.run_bind,Instr.loadAt,he,Instr.sureAddr,Sem.run_pure,Result.andThen_ok,hrun w' hw'];exact ⟨rfl,rfl⟩
   ·simp [Tree.sel] at h
  ·simp [Tree.sel] at h
 ·rename_i t x y ho;rw [ho] at hq;simp [j6] at hq
 ·rename_i t n parts ho;rw [ho] at hq;simp [j6] at hq
 ·rename_i t x y ho;rw [ho] at hq;simp [j6] at hq
 ·rename_i t x lo hi mx ho;rw [ho] at hq;simp [j6] at hq
 ·rename_i t x i ho;split at h
  ·rename_i b sz k i' hx hi;rw [ho] at hq;simp [j6,hx] at hq
  ·rw [← ho] at h;exact pure_case h
 ·rename_i c ho;split at h
  ·rename_i x hcal;rw [ho] at hq;simp only [j6,hcal] at hq;split at h
   ·rename_i f args ht;simp only [ht,aTq] at hq;obtain ⟨hq,hclosed⟩:=hq;split at h
    ·rename_i hcl;split at h
     ·rename_i G hG;have hv:args.map (zi mem)=args:=(List.map_congr_left fun x hx=>Ku (List.all_eq_true.1 hclosed x hx)).trans (List.map_id _);simp only [hv,hclosed,if_true,Bool.true_or] at h
      replace h:=jh h
      obtain ⟨rr,hr,h⟩:=h;simp only [Tree.sel,sIq,pIq] at h;obtain ⟨rfl,rfl⟩:=h;obtain ⟨vs,hvs,hrun⟩:=Yi h0 ho ht hcl
      have hvs':All2 (A1.Rel F w []) args vs:=by
       clear hrun ht hr hv
       induction hvs with
       | nil=>exact .nil
       | cons ha _ ih =>
         simp only [List.all_cons,aTq] at hclosed;exact .cons (ha.closed hclosed.1) (ih hclosed.2)
      obtain ⟨v,hv,hcalls⟩:=hpc.pc f G hG args rr hr hclosed F w vs hvs';refine ⟨rfl,v,?_,fun w' hw' => ?_⟩
      ·exact AV.Rel.grow (bs:=[]) (bs':=bs) (F:=F) (F':=F) (w:=w) (w':=w) ⟨lRq _,fun _ _ h=>h,fun _ _ _=>rfl,fun k p h=>by simp [nth] at h⟩ hv
      ·unfold Oper.quietAt;rw [hrun];exact ⟨rfl,(hcalls w' hw').mono fun e w2 ⟨he,hb⟩=>⟨he,hw'.trans (hb.mono hw'.size)⟩⟩
     ·rename_i hG;simp [hG] at hq
    ·simp [Tree.sel] at h
   ·simp [Tree.sel] at h
  ·rename_i hcal;rw [ho] at hq;simp [j6,hcal] at hq
  ·rename_i hcal;rw [ho] at hq;simp [j6,hcal] at hq
  ·rename_i hcal;rw [ho] at hq;simp [j6,hcal] at hq
  ·rename_i hcal;split at h
   ·rename_i hargs _;rw [ho] at hq;simp [j6,hcal,hargs] at hq
   ·rw [← ho] at h;exact pure_case h
  ·rw [← ho] at h;exact pure_case h
 ·exact pure_case h
theorem qh {o:Oper} {a:Act} {w w':World} {v:Value} {K:Act->World->Prop} {Q:Exit->Act->World->Prop} (hrun:(execOp a.eval o).run P w=.ok (.value v) w') (h:K (a.put o.dst v) w'):o.wp P a w K Q:=by
 unfold Oper.wp;rw [hrun];exact h
theorem Gb {o:Oper} {a:Act} {w w':World} {K:Act->World->Prop} {Q:Exit->Act->World->Prop} (hrun:(execOp a.eval o).run P w=.ok .skip w') (h:K (a.put o.dst undef) w'):o.wp P a w K Q:=by
 unfold Oper.wp;rw [hrun];exact h
theorem All2.noRow {F w bs} {cs:List CV} {vs:List Value} (h:All2 (CV.Rel F w bs) cs vs):jf cs=false:=by
 cases h with
 | nil=>rfl
 | cons h1 h2=>cases h2 with
  | nil=>cases h1<;>rfl
  | cons _ _ =>
    unfold jf;split
    ·simp_all
    ·rename_i he;simp only [List.cons.injEq] at he;obtain ⟨rfl,_⟩:=he;cases h1
    ·rfl
theorem yG {F w bs} {ρ:Operand->Option AV} {a:Act} (h0:∀ x av,ρ x=some av->av.Rel F w bs (a.eval x)) {x:Option Operand} {i:Option Int} (h:Qf ρ x=some i):IntOpt i (x.map a.eval):=by
 unfold Qf at h;split at h
 ·simp at h;subst h;exact .no
 ·rename_i x;split at h
  ·rename_i k n hx;simp at h;subst h
   have:=h0 _ _ hx
   rw [Option.map_some];generalize a.eval x=z at this ⊢;cases this;exact .yes k n
  ·simp at h
theorem Jt {H : Hd} (hpc : SumOk P H) {call : jw} (hcall : CallOk P call) {F : Nat -> Prop} {w : World} {bs : List BI} {a : Act} {mem : Mem} (hm : MemRel P F w bs mem) {ρ : List (Nat × Bool) -> Operand -> Option AV}
  (hρ:∀ K x av,KH a K->ρ K x=some av->av.Rel F w bs (a.eval x)) {o:Oper} {r:AV} {mem':Mem}
  (h:(qM P H call mem ρ o.op).sel=some (r,mem')) {K:Act->World->Prop} {Q:Exit->Act->World->Prop}
  (hK:∀ F' w' bs' v,Ext bs.length F w bs F' w' bs'->MemRel P F' w' bs' mem'->r.Rel F' w' bs' v->K (a.put o.dst v) w'):o.wp P a w K Q:=by
 have h0:∀ x av,ρ [] x=some av->av.Rel F w bs (a.eval x):=fun x av=>hρ [] x av jA;by_cases hq:j6 H (ρ []) o.op=true
 ·obtain ⟨rfl,v,hv,hat⟩:=FI hpc hm hρ rfl hq h;refine Oper.wp_of_quiet (C:=Below w.heap.size w) (K:=fun a'=>a'=a.put o.dst v) (Below.refl _ _) (fun a' w' hw' he => ?_) ⟨v,hat,rfl⟩;subst he;have hext:Ext bs.length F w bs F w' bs:=Ext.of_below hw';exact hK F w' bs v hext (hm.below hw') (AV.Rel.grow hext.grow hv)
 ·unfold qM at h;split at h
  ·rename_i e ho;split at h
   ·rename_i z hz;simp only [Tree.sel,sIq,pIq] at h;obtain ⟨rfl,rfl⟩:=h;obtain ⟨v,hzv,hr⟩:=k3 (F:=F) (w:=w) (bs:=bs) hz;obtain ⟨F',bs',hext,hm',hn⟩:=W3 hm e hr hr.noRow;refine qh (w':=w.alloc (.cells v.cells e)) (v:=.pointer (some ⟨w.heap.size,0,none⟩)) ?_ ?_
    ·unfold execOp;simp [ho,Instr.alloc,hzv,newVar,newRow]
    ·have e2:(.cells v.cells.toList.toArray e:Obj)=.cells v.cells e:=by rw [Array.toArray_toList]
     rw [e2] at hext hm';exact hK F' _ bs' _ hext hm' (CV.Rel.ptr hn)
   ·simp [Tree.sel] at h
  ·rename_i e x ho;split at h
   ·rename_i b hb;split at h
    ·simp [Tree.sel] at h
    ·simp only [Tree.sel,sIq,pIq] at h;obtain ⟨rfl,rfl⟩:=h;have hbr:=h0 _ _ hb;have hbc:=A1.Rel.cells hbr;obtain ⟨F',bs',hext,hm',hn⟩:=W3 hm e hbc hbc.noRow;refine qh (w':=w.alloc (.cells (a.eval x).cells e)) (v:=.pointer (some ⟨w.heap.size,0,none⟩)) ?_ ?_
     ·unfold execOp;simp [ho,Instr.box,newVar,newRow]
     ·rw [Array.toArray_toList] at hext hm';exact hK F' _ bs' _ hext hm' (CV.Rel.ptr hn)
   ·simp [Tree.sel] at h
  ·rename_i t x ho;split at h
   ·rename_i b sz i off hu;split at h
    ·rename_i v hv;simp only [Tree.sel,sIq,pIq] at h;obtain ⟨rfl,rfl⟩:=h;have hur:=h0 _ _ hu;obtain ⟨aa,p,oo,z,rfl,he,hz,hrun⟩:=jca (P:=P) hm hv hur;refine qh (w':=w) (v:=z) ?_ (hK F w bs z Ext.refl hm hz);unfold execOp;simp only [ho,Sem.run_bind,Instr.loadAt,he,Instr.sureAddr,Sem.run_pure,Result.andThen_ok,hrun]
    ·simp [Tree.sel] at h
   ·rename_i u hnr hu
    exfalso
    apply hq;rw [ho];simp only [j6];split
    ·rename_i heq;rw [hu] at heq;simp at heq;exact (hnr _ _ _ _ heq).elim
    ·rfl
   ·simp [Tree.sel] at h
  ·rename_i t x y ho;split at h
   ·rename_i b sz i off v hx hy;split at h
    ·rename_i mm hst;simp only [Tree.sel,sIq,pIq] at h;obtain ⟨rfl,rfl⟩:=h;obtain ⟨F',w',p,oo,j,hext,hm',he,hj,hsz,hrun⟩:=ah (P:=P) hm hst (h0 _ _ hx) (show v.Rel F w bs (a.eval y) from h0 _ _ hy);refine Gb (w':=w') ?_ (hK F' _ bs _ hext hm' trivial);unfold execOp;have hszn:¬ (a.eval y).cells.size ≠ j.size:=by omega
     simp only [ho,Instr.storeAt,he,Instr.sureAddr,Sem.run_bind,Sem.run_pure,Result.andThen_ok,storeVar,zg hj,Sem.run_ite,hszn,if_false,hrun]
    ·simp [Tree.sel] at h
   ·rename_i b off v hx hy;split at h
    ·rename_i T cs i hmem hi;split at h
     ·rename_i hcond;simp only [Tree.sel,sIq,pIq] at h;obtain ⟨rfl,rfl⟩:=h;simp only [aTq,beq_iff_eq,Nat.ble_eq,Bool.not_eq_true'] at hcond;have hxr:=h0 _ _ hx;have hyr:=A1.Rel.cells (show v.Rel F w bs (a.eval y) from h0 _ _ hy);generalize he:a.eval x=z at hxr;cases hxr with
      | ptr hb =>
        rename_i p;obtain ⟨us,hu,hr⟩:=hm.cont b T cs p hmem hcond.1.1.1 hb;have hl:=hyr.length;have hl2:=hr.length;have hput:=BN (o:=off) hr hyr (by omega)
        obtain ⟨hext,hm'⟩:=OD hm hb hmem hcond.1.1.1 hput hput.noRow;refine Gb (w':=w.setRow p.p (us.take off++(a.eval y).cells.toList++us.drop (off+(a.eval y).cells.toList.length)).toArray) ?_ (hK F _ bs _ hext hm' trivial)
        have hone:∀ u ∈ (a.eval y).cells.toList,u.oneCell'=true:=by
         intro u hu';obtain ⟨k,hk⟩:=Ws hu';rw [jd] at hk;obtain ⟨c,_,hc⟩:=hyr.nth' hk;exact hc.one
        have hst:=run_storeCells_at (P:=P) p.p off T (a.eval y).cells.toList 0 us.toArray w hu (by simp at hl ⊢;omega) hone
        simp only [Nat.add_zero] at hst
        have hsz:¬ (a.eval y).cells.size ≠ i.size:=by
         simp at hl;omega
        unfold execOp;simp only [ho,Instr.storeAt,he,Instr.sureAddr,Sem.run_bind,Sem.run_pure,Result.andThen_ok,storeVar,zg hi,Sem.run_ite,hsz,if_false,hst]
     ·simp [Tree.sel] at h
    ·simp [Tree.sel] at h
   ·simp [Tree.sel] at h
  ·rename_i t n parts ho;split at h
   ·rename_i l hl;have hp:=Y7 h0 hl;split at h
    ·split at h
     ·rename_i q hq2;simp only [Tree.sel,sIq,pIq] at h;obtain ⟨rfl,rfl⟩:=h;obtain ⟨F',w',v,hext,hm',hr,hrun⟩:=jnw (P:=P) hm (pv:=parts.map fun (i,x)=>(i,a.eval x)) hq2 (by simpa [Array.toList_map] using hp)
      refine qh (w':=w') (v:=v) ?_ (hK F' w' bs v hext hm' hr);unfold execOp;simp only [ho,Sem.run_bind,hrun,Result.andThen_ok,Sem.run_pure]
     ·simp [Tree.sel] at h
    split at h
    ·rename_i q hq2;simp only [Tree.sel,sIq] at h;subst h;obtain ⟨F',w',bs',v,hext,hm',hr,hrun⟩:=OY (P:=P) hm (pv:=parts.map fun (i,x)=>(i,a.eval x)) hq2 (by simpa [Array.toList_map] using hp)
     refine qh (w':=w') (v:=v) ?_ (hK F' w' bs' v hext hm' hr);unfold execOp;simp only [ho,Sem.run_bind,hrun,Result.andThen_ok,Sem.run_pure]
    ·simp [Tree.sel] at h
   ·simp [Tree.sel] at h
  ·rename_i t x y ho;split at h
   ·rename_i l c hl hc;obtain ⟨F',w',bs',v,hext,hm',hr,hrun⟩:=jiZ (P:=P) hm h (h0 _ _ hl) (h0 _ _ hc);refine qh (w':=w') (v:=v) ?_ (hK F' w' bs' v hext hm' hr);unfold execOp;simp only [ho,Sem.run_bind,hrun,Result.andThen_ok,Sem.run_pure]
   ·simp [Tree.sel] at h
  ·rename_i t x lo hi mx ho;split at h
   ·rename_i b l hh m hx h1 h2 h3
    have fin:∀ F' bs' z,Ext bs.length F w bs F' w bs'->MemRel P F' w bs' mem'->r.Rel F' w bs' z->((∃ e,P.underlying t=some (.slice e))∨P.underlying t=some .string)->(Instr.slice t (a.eval x) (lo.map a.eval) (hi.map a.eval) (mx.map a.eval)).run P w=.ok z w->o.wp P a w K Q:=by
     intro F' bs' z hext hm' hr ht hrun;refine qh (w':=w) (v:=z) ?_ (hK F' w bs' z hext hm' hr)
     have hat:(Instr.sliceAt t (a.eval x) (lo.map a.eval) (hi.map a.eval) (mx.map a.eval)).run P w=.ok z w:=by
      rw [← hrun];rcases ht with ⟨e,ht⟩ | ht<;>simp [Instr.sliceAt,run_underlying ht]
     unfold execOp;simp only [ho,Sem.run_bind,hat,Result.andThen_ok,Sem.run_pure]
    split at h
    ·rename_i T hT;split at hT
     ·obtain ⟨rfl,⟨z,hz,hrun⟩,hte⟩:=jiG (P:=P) hm (yG h0 h1) (yG h0 h2) (yG h0 h3) hT h (h0 _ _ hx);exact fin F bs z Ext.refl hm hz (.inl hte) hrun
     ·cases hT
    ·split at h
     ·rename_i T hT;split at hT
      ·obtain ⟨rfl,⟨z,hz,hrun⟩,hte⟩:=ji7 (P:=P) hm (yG h0 h1) (yG h0 h2) (yG h0 h3) hT h (h0 _ _ hx);exact fin F bs z Ext.refl hm hz (.inl hte) hrun
      ·cases hT
     ·split at h
      ·simp [Tree.sel] at h
      ·obtain ⟨F',bs',z,hext,hm',hr,hrun⟩:=jep (P:=P) hm (yG h0 h1) (yG h0 h2) (yG h0 h3) h (h0 _ _ hx);exact fin F' bs' z hext hm' hr (jcz h) hrun
   ·simp [Tree.sel] at h
  ·rename_i t x i ho;split at h
   ·rename_i b sz kk k hx hi;split at h
    ·rename_i e T fz es n ρ0 hu hrow;split at h
     ·rename_i j hj;split at h
      ·rename_i hcond;simp only [aTq,beq_iff_eq] at hcond;simp only [Tree.sel] at h;cases hr:jc k n<;>simp [hr] at h;obtain ⟨rfl,rfl⟩:=h;obtain ⟨hr1,hr2⟩:=yK.1 hr;have hxr:=h0 _ _ hx;have hir:=h0 _ _ hi;generalize he:a.eval x=z at hxr;generalize he2:a.eval i=z' at hir;cases hir;cases hxr with
       | os hb hbase =>
         rename_i y base;have hro:=hm.row b T fz es n ρ0 y (j7 hrow) hb;have hyn:=hro.len;have hbs:=hbase (hro.room (by omega))
         subst hbs;refine qh (w':=w) (v:=.pointer (some ⟨y.p,0+k.toNat*j.size,none⟩)) ?_ (hK F w bs _ Ext.refl hm ?_)
         ·unfold execOp
          have:=run_indexAt_slice (P:=P) (t:=t) hu hj (p:=y.p) (o:=0) (n:=y.n) (cap:=y.cap) (k:=kk) hr1 (by rw [hyn];exact hr2) w
          simp only [ho,he,he2,Sem.run_bind,this,Result.andThen_ok,Sem.run_pure]
         ·have e5:0+k.toNat*j.size=k.toNat*sz+0:=by rw [hcond.1];omega
          rw [e5];exact CV.Rel.rowp hb (by omega)
      ·simp [Tree.sel] at h
     ·simp [Tree.sel] at h
    ·simp [Tree.sel] at h
   ·rename_i hnos
    exfalso
    apply hq;rw [ho];simp only [j6];split
    ·rename_i b sz hx;obtain ⟨v,hv,_⟩:=jh h;simp only [JK,HD,ite_self,evPure0,hx] at hv;split at hv<;>simp_all [Tree.sel]
    ·rfl
  ·rename_i c ho;split at h
   ·rename_i x hcal;split at h
    ·rename_i f args ht;split at h
     ·rename_i hcl;obtain ⟨vs,hvs,hrun⟩:=Yi h0 ho ht hcl;split at h
      ·rename_i G hG;simp only at h;split at h
       ·rename_i hclosed
        ·replace h:=jh h
         obtain ⟨rr,hr,h⟩:=h;split at h
         ·rename_i hfl0;simp only [Tree.sel,sIq,pIq] at h;obtain ⟨rfl,rfl⟩:=h;have hnc:¬ args.all jH=true:=fun hc=>hq (by rw [ho];simp [j6,hcal,ht,hG,hc])
          have hfl:Vg rr=true:=by
           rw [Bool.or_eq_true] at hfl0;exact hfl0.resolve_left hnc
          have hvs':All2 (A1.Rel (Z1 F bs) w []) (args.map (zi mem)) vs:=by
           clear hrun ht hr hnc hfl hfl0
           induction hvs with
           | nil=>exact .nil
           | cons ha _ ih =>
             simp only [List.map_cons,List.all_cons,aTq] at hclosed;exact .cons (Vf hm ha hclosed.1) (ih hclosed.2)
          obtain ⟨v,hv,hcalls⟩:=hpc.pc f G hG _ rr hr hclosed _ w vs hvs';unfold Oper.wp;rw [hrun];refine (hcalls w (Below.refl _ _)).mono fun e w' ⟨he,hb⟩ => ?_;subst he;exact hK F w' bs v (Ext.of_below hb) (hm.below hb) (Oj hv hfl _ _ _)
         ·simp [Tree.sel] at h
       ·split at h
        ·simp [Tree.sel] at h
        ·have:=hcall.fn f args mem r mem' (Qy (by assumption)) h F w bs vs hm hvs
         unfold Oper.wp;rw [hrun];refine this.mono fun e w' ⟨v,F',bs',he,hext,hm',hr⟩ => ?_;subst he;exact hK F' w' bs' v hext hm' hr
      ·split at h
       ·rename_i G hG;simp only at h;split at h
        ·rename_i hclosed
         ·replace h:=jh h
          obtain ⟨rr,hr,h⟩:=h;simp only [Tree.sel,sIq,pIq] at h;obtain ⟨rfl,rfl⟩:=h;obtain ⟨F1,e1,m1,r1⟩:=ZE hm hvs
          have hvs':All2 (A1.Rel F1 w []) (zQ mem args).2 vs:=by
           clear hr hrun hvs;generalize (zQ mem args).2=l at r1 hclosed
           induction r1 with
           | nil=>exact .nil
           | cons ha _ ih =>
             simp only [List.all_cons,aTq] at hclosed;exact .cons (ha.closed hclosed.1) (ih hclosed.2)
          have hcalls:=hpc.hc f G hG _ rr hr hclosed F1 w vs hvs';unfold Oper.wp;rw [hrun];refine hcalls.mono fun e w' ⟨v,he,hb,hv⟩ => ?_;subst he;have e2:Ext bs.length F1 w bs (fun p=>F1 p∧p<w.heap.size) w' bs:=⟨hb.size,fun _ _ h=>h.1,fun p h hp _=>⟨h,hp⟩,fun p hp _=>hb.block p hp,hb.os,hb.tape,hb.output,fun _ _ _ h=>h,fun x h=>.inl ⟨x,h,rfl⟩⟩;have m2:=m1.move e2 fun k x T cs hk hc hl=>⟨m1.loc k x T cs hk hc hl,hb.block _ (m1.loc k x T cs hk hc hl).2⟩;exact hK _ w' bs v (e1.trans e2 (lRq _)) m2 (AV.Rel.grow ⟨lRq _,fun _ _ h=>h,fun _ _ _=>rfl,fun k p h=>by simp [nth] at h⟩ hv)
        ·simp [Tree.sel] at h
       ·have:=hcall.fn f args mem r mem' (Qy (by assumption)) h F w bs vs hm hvs
        unfold Oper.wp;rw [hrun];refine this.mono fun e w' ⟨v,F',bs',he,hext,hm',hr⟩ => ?_;subst he;exact hK F' w' bs' v hext hm' hr
     ·simp [Tree.sel] at h
    ·simp [Tree.sel] at h
   ·rename_i hcal;split at h
    ·rename_i b x t t' hargs htys;split at h
     ·rename_i htt;have htt:=eq_of_beq htt;subst htt;have hr:=zb h0 hargs
      obtain ⟨u1,u2,hu1,hu2,hmap⟩ : ∃ u1 u2,A1.Rel F w bs b u1∧A1.Rel F w bs x u2∧c.args.map a.eval = #[u1,u2]:=by
       generalize hl:c.args.toList.map a.eval=l at hr;cases hr with
       | cons h1 hr=>cases hr with
        | cons h2 hr =>
          cases hr;exact ⟨_,_,h1,h2,by rw [← Array.toArray_toList (xs:=c.args.map a.eval),Array.toList_map,hl]⟩
      have hty:c.argTypes = #[t,t]:=by rw [← Array.toArray_toList (xs:=c.argTypes),htys]
      obtain ⟨F',w',bs',z,hext,hm',hrr,hrun⟩:=jjs (P:=P) (ty:=o.type) hm h hu1 hu2;refine qh (w':=w') (v:=z) ?_ (hK F' w' bs' z hext hm' hrr);unfold execOp;simp only [ho,resolve,invoke,builtin,hcal,hmap,hty,Sem.run_bind,Sem.run_pure,Result.andThen_ok,hrun]
     ·simp [Tree.sel] at h
    ·simp [Tree.sel] at h
   ·rename_i hcal;split at h
    ·rename_i b t hargs htys;have hr:=zb h0 hargs
     obtain ⟨u1,hu1,hmap⟩ : ∃ u1,A1.Rel F w bs b u1∧c.args.map a.eval = #[u1]:=by
      generalize hl:c.args.toList.map a.eval=l at hr;cases hr with
      | cons h1 hr =>
        cases hr;exact ⟨_,h1,by rw [← Array.toArray_toList (xs:=c.args.map a.eval),Array.toList_map,hl]⟩
     have hty:c.argTypes = #[t]:=by rw [← Array.toArray_toList (xs:=c.argTypes),htys]
     obtain ⟨w',hext,hm',rfl,hrun⟩:=jho (P:=P) (ty:=o.type) hm h hu1;refine qh (w':=w') (v:=.tuple #[]) ?_ (hK F w' bs _ hext hm' trivial);unfold execOp;simp only [ho,resolve,invoke,builtin,hcal,hmap,hty,Sem.run_bind,Sem.run_pure,Result.andThen_ok,hrun]
    ·simp [Tree.sel] at h
   ·rename_i hcal;split at h
    ·rename_i b y t ts hargs htys;have hr:=zb h0 hargs
     obtain ⟨u1,u2,hu1,hu2,hmap⟩ : ∃ u1 u2,A1.Rel F w bs b u1∧A1.Rel F w bs y u2∧c.args.map a.eval = #[u1,u2]:=by
      generalize hl:c.args.toList.map a.eval=l at hr;cases hr with
      | cons h1 hr =>
        cases hr with
       | cons h2 hr =>
         cases hr;exact ⟨_,_,h1,h2,by rw [← Array.toArray_toList (xs:=c.args.map a.eval),Array.toList_map,hl]⟩
     have hty:c.argTypes=(t::ts).toArray:=by rw [← Array.toArray_toList (xs:=c.argTypes),htys]
     obtain ⟨w',z,hext,hm',hz,hrun⟩:=ji5 (P:=P) (ty:=o.type) (ts:=ts) hm h hu1 hu2;refine qh (w':=w') (v:=z) ?_ (hK F w' bs _ hext hm' hz);unfold execOp;simp only [ho,resolve,invoke,builtin,hcal,hmap,hty,Sem.run_bind,Sem.run_pure,Result.andThen_ok,hrun]
    ·simp [Tree.sel] at h
   ·rename_i hcal;split at h
    ·rename_i b sz t hargs htys;split at h
     ·rename_i e T fz es n ρ0 hu hrow;simp only [Tree.sel,sIq,pIq] at h;obtain ⟨rfl,rfl⟩:=h;have hr:=zb h0 hargs
      obtain ⟨u1,hu1,hmap⟩ : ∃ u1,A1.Rel F w bs (.c (.os b sz)) u1∧c.args.map a.eval = #[u1]:=by
       generalize hl:c.args.toList.map a.eval=l at hr;cases hr with
       | cons h1 hr =>
         cases hr;exact ⟨_,h1,by rw [← Array.toArray_toList (xs:=c.args.map a.eval),Array.toList_map,hl]⟩
      have hty:c.argTypes = #[t]:=by rw [← Array.toArray_toList (xs:=c.argTypes),htys]
      cases hu1 with
      | os hb hbase =>
        rename_i y base;have hro:=hm.row b T fz es n ρ0 y (j7 hrow) hb;refine qh (w':=w) (v:=.int .i64 (ja n)) ?_ (hK F w bs _ Ext.refl hm (CV.Rel.int _ _));unfold execOp;simp [ho,resolve,invoke,builtin,hcal,hmap,hty,Builtin.len_,run_underlying hu,goInt,hro.len,ja]
     ·simp [Tree.sel] at h
    ·rename_i hnos
     exfalso
     apply hq;rw [ho];simp only [j6,hcal];split
     ·rename_i b sz hargs;obtain ⟨v,hv,_⟩:=jh h;cases c;simp only at hcal;subst hcal;simp only [JK,evPure0] at hv;simp only at hargs;rw [hargs] at hv;split at hv
      ·rename_i heq _;simp at heq;subst heq;simp [Ra,Tree.sel] at hv
      ·simp [Tree.sel] at hv
     ·rfl
   ·exfalso
    apply hq;rw [ho];simp only [j6]
  ·rename_i hq2
   exfalso
   apply hq;unfold j6;split<;>simp_all;rename_i hx _;exact hx _ _ _ _ _ rfl rfl rfl rfl rfl
theorem BO {mem:Mem} {x:CV} (h:closedC x=true):ZH mem x=(mem,x):=by
 unfold ZH;split
 ·simp [closedC] at h
 ·rfl
theorem V1:∀ {l:List CV} {mem:Mem},l.all closedC=true->qI mem l=(mem,l)
 | [],_,_=>rfl
 | x :: r, mem, h => by
   simp only [List.all_cons,aTq] at h;have h2:=V1 (l:=r) (mem:=mem) h.2;simp only [qI,BO h.1,h2]
theorem Kr:∀ {l:List A1} {mem:Mem},l.all jH=true->zQ mem l=(mem,l)
 | [],_,_=>rfl
 | x :: r, mem, h => by
   simp only [List.all_cons,aTq] at h;have h2:=Kr (l:=r) (mem:=mem) h.2
   have h1:BX mem x=(mem,x):=by
    cases x with
    | c x=>simp only [BX,BO (show closedC x=true from h.1)]
    | agg l=>simp only [BX,V1 (show l.all closedC=true from h.1)]
   simp only [zQ,h1,h2]
theorem Yn {H : Hd} (hpc : SumOk P H) {call : jw} {mem : Mem} {F : Nat -> Prop} {w : World} {bs : List BI} (hm : MemRel P F w bs mem) {ρ : List (Nat × Bool) -> Operand -> Option AV} {a : Act}
  (hρ:∀ K x av,KH a K->ρ K x=some av->av.Rel F w bs (a.eval x)) {o:Oper} {r:AV} {mem':Mem} (hq:Qd H (ρ []) o.op=true) (h:(qM P H call mem ρ o.op).sel=some (r,mem')):mem'=mem:=by
 unfold Qd at hq;rw [Bool.or_eq_true] at hq;rcases hq with hq | hq
 ·exact (FI hpc hm hρ rfl hq h).1
 ·have pure_case : ∀ e : Tree AV, (e.bind fun v => Tree.leaf (v, mem)).sel = some (r, mem') -> mem' = mem := by
   intro e he;obtain ⟨v,_,h2⟩:=jh he;simp only [Tree.sel,sIq,pIq] at h2;exact h2.2.symm
  have need_case:∀ (c:Bool) (v:AV),(Tree.need c (.leaf (v,mem))).sel=some (r,mem')->mem'=mem:=by
   intro c v hs;cases c<;>simp [Tree.sel] at hs;exact hs.2.symm
  split at hq
  ·rename_i t n parts ho;rw [ho] at h;simp only [qM] at h;simp only [jiq,aTq] at hq;obtain ⟨hl,hq⟩:=hq;split at h
   ·rename_i l hp;rw [hp] at hq;simp only at hq;rw [if_pos (by rw [aTq];exact ⟨hl,hq⟩)] at h
    split at h
    ·simp only [Tree.sel,sIq,pIq] at h;exact h.2.symm
    ·simp [Tree.sel] at h
   ·simp [Tree.sel] at h
  ·rename_i t x ho;rw [ho] at h;simp only [qM] at h;split at h
   ·split at h
    ·simp only [Tree.sel,sIq,pIq] at h;exact h.2.symm
    ·simp [Tree.sel] at h
   ·split at h
    ·simp only [Tree.sel,sIq,pIq] at h;exact h.2.symm
    ·simp [Tree.sel] at h
   ·simp [Tree.sel] at h
  ·rename_i t x i ho;rw [ho] at h;simp only [qM] at h;split at h
   ·split at h
    ·split at h
     ·split at h
      ·exact need_case _ _ h
      ·simp [Tree.sel] at h
     ·simp [Tree.sel] at h
    ·simp [Tree.sel] at h
   ·exact pure_case _ h
  ·rename_i c ho;rw [ho] at h;split at hq
   ·rename_i hcal;simp only [qM,hcal] at h;split at h
    ·split at h
     ·simp only [Tree.sel,sIq,pIq] at h;exact h.2.symm
     ·simp [Tree.sel] at h
    ·exact pure_case _ h
   ·unfold XX at hq;split at hq
    ·rename_i x hcal;split at hq
     ·rename_i f args ht;rw [aTq,aTq] at hq;obtain ⟨⟨h1,h2⟩,h3⟩:=hq;simp only [qM,hcal,ht] at h;split at h
      ·rw [Option.isNone_iff_eq_none.1 h1] at h;obtain ⟨G,hG⟩:=Option.isSome_iff_exists.1 h2;rw [hG] at h;simp only [Kr h3,h3,if_true] at h;obtain ⟨v,_,h4⟩:=jh h;simp only [Tree.sel,sIq,pIq] at h4;exact h4.2.symm
      ·simp [Tree.sel] at h
     ·cases hq
    ·cases hq
  ·cases hq
end
end Go.Sx