/-
 Part PaJ of the proof: EngNs EngIf.
-/
import Derived.Test.YtiefjlcakpdfeaaGreatPaG
import Derived.MapKept
namespace Go.Sx
open Go Go.RowKit
variable {D:List Deferred}
section
variable {P:Program}
theorem Lk {F w bs} {e:TypeId} {j:TypeInfo} {z:List CV} (hj:P.info? e=some j) (hz:jV P e=some z):∃ zv,j.zero=some zv∧All2 (CV.Rel F w bs) z zv.cells.toList:=by
 unfold jV at hz;simp only [hj] at hz;split at hz
 ·rename_i zv hzv;exact ⟨zv,hzv,yU hz⟩
 ·cases hz
theorem Dj {F w bs} {z:List CV} {zv:Array Value} (h:All2 (CV.Rel F w bs) z zv.toList) (n:Nat):All2 (CV.Rel F w bs) (Qo z n) ((List.range (n*zv.size)).map fun i=>zv[i % zv.size]!):=by
 have hs:zv.size=z.length:=by have:=h.length;simp at this;omega
 refine All2.of_nth (by simp [Z6,hs]) fun i x v hx hv => ?_
 have hi:=js hv;simp only [List.length_map,List.length_range] at hi;rw [Vl z n i (by rw [← hs];exact hi)] at hx
 rw [jd] at hv;simp only [List.getElem?_map,List.getElem?_range hi,Option.map_some,sIq] at hv;subst hv;obtain ⟨u,hu,hr⟩:=h.nth hx;rw [hs];simp only [Array.getElem?_toList] at hu;rw [getElem!_def,hu];exact hr
theorem jdI {F w bs mem} (hm : MemRel P F w bs mem) {t : TypeId} {n : Nat} {parts : List (Nat × A1)} {pv : Array (Nat × Value)} {T : Tree (AV × Mem)} {r : AV} {mem' : Mem} (h : Gf P mem t n parts = some T) (hT : T.sel = some (r, mem'))
  (hp:All2 (fun x y=>x.1=y.1∧A1.Rel F w bs x.2 y.2) parts pv.toList) :
  ∃ F' w' bs' v,Ext bs.length F w bs F' w' bs'∧MemRel P F' w' bs' mem'∧r.Rel F' w' bs' v∧(Instr.buildSlice t n pv).run P w=.ok v w':=by
 unfold Gf at h;split at h
 ·rename_i e hu;split at h
  ·rename_i j z hj hz;split at h
   ·rename_i hcond;simp only [aTq,beq_iff_eq,Nat.ble_eq,Nat.blt_eq] at hcond;obtain ⟨⟨⟨h1,h2⟩,h3⟩,h4⟩:=hcond;split at h
    ·rename_i cs hfill;simp only [sIq] at h;subst h;simp only [Tree.sel,sIq,pIq] at hT;obtain ⟨rfl,rfl⟩:=hT;obtain ⟨zv,hzv,hzc⟩:=Lk (F:=F) (w:=w) (bs:=bs) hj hz;have hzs:zv.cells.size=1:=by have:=hzc.length;simp at this;omega
     have hbase:=Dj hzc n;obtain ⟨rv,hrv,hf⟩:=Kd (places':=fun i=>some (i*j.size,j.size)) (fun i p h=>h) hfill hbase hp
     have harr:((Array.range (n*j.size)).map (zv.cells[· % zv.cells.size]!))=((List.range (n*zv.cells.size)).map fun i=>zv.cells[i % zv.cells.size]!).toArray:=by
      apply Array.ext';simp [Array.toList_map,h1,hzs]
     obtain ⟨F',bs',he,hm',hb⟩:=W3 (P:=P) hm e hrv hrv.noRow;refine ⟨F',_,bs',.slice (some ⟨w.heap.size,0,none⟩) n n,he,hm',CV.Rel.oc (x:=⟨w.heap.size,0,0⟩) hb (lRq _),?_⟩;exact run_buildSlice w t e n pv rv.toArray j zv hu hj hzv (by rw [h1];omega) (by rw [h1];omega) (by rw [harr];exact hf)
    ·cases h
   ·cases h
  ·cases h
 ·cases h
theorem jgv {F w bs mem} (hm : MemRel P F w bs mem) {t : TypeId} {a b : AV} {va vb : Value} {T : Tree (AV × Mem)} {r : AV} {mem' : Mem} (h : NG P mem t a b = some T) (hT : T.sel = some (r, mem')) (ha : a.Rel F w bs va) (hb : b.Rel F w bs vb) :
  ∃ F' w' bs' v,Ext bs.length F w bs F' w' bs'∧MemRel P F' w' bs' mem'∧r.Rel F' w' bs' v∧(Instr.makeSlice t va vb).run P w=.ok v w':=by
 unfold NG at h;split at h
 ·rename_i kl l kc c;split at h
  ·rename_i e hu;split at h
   ·rename_i j z es hj hz _;split at h
    ·rename_i hcond;simp only [aTq,beq_iff_eq,Nat.blt_eq] at hcond;obtain ⟨⟨h1,hby⟩,h3⟩:=hcond;simp only [sIq] at h;subst h;simp only [Tree.sel] at hT;cases hc:(le 0 l&&le l c&&le (c*ja j.bytes) 140737488355328)<;>simp [hc] at hT;obtain ⟨rfl,rfl⟩:=hT;rw [aTq,aTq,qz,qz,qz] at hc;obtain ⟨⟨hl0,hlc⟩,hmax⟩:=hc;have hmax:c*(j.bytes:Int)<=140737488355328:=hmax;have hc0:0<=c:=Int.le_trans hl0 hlc
     have hcb:c<=140737488355328:=by
      have h1:c*1<=c*(j.bytes:Int):=Int.mul_le_mul_of_nonneg_left (by omega) hc0
      omega
     obtain ⟨zv,hzv,hzc⟩:=Lk (F:=F) (w:=w) (bs:=bs) hj hz;have hzs:zv.cells.size=1:=by have:=hzc.length;simp at this;omega
     cases ha;cases hb;have hrun:=run_make (P:=P) w t e j zv hu hj hzv kl kc l c hl0 hlc (by rw [Int.mul_comm];omega) (by omega)
     have hbase:=Dj hzc c.toNat
     have harr:madeCells zv.cells (c.toNat*j.size)=((List.range (c.toNat*zv.cells.size)).map fun i=>zv.cells[i % zv.cells.size]!).toArray:=by
      apply Array.ext';simp [madeCells,Array.toList_map,h1,hzs]
     rw [harr] at hrun;obtain ⟨F',bs',he,hm',hb⟩:=W3 (P:=P) hm e hbase hbase.noRow;exact ⟨F',_,bs',_,he,hm',CV.Rel.oc (x:=⟨w.heap.size,0,0⟩) hb (by omega),hrun⟩
    ·cases h
   ·cases h
  ·cases h
 ·cases h
theorem jj5 {F w bs mem} (hm : MemRel P F w bs mem) {t ty : TypeId} {l : List A1} {vs : List Value} {T : Tree (AV × Mem)} {r : AV} {mem' : Mem} (h : F6 P mem t l = some T) (hT : T.sel = some (r, mem')) (hl : All2 (A1.Rel F w bs) l vs) :
  ∃ F' w' bs' z,Ext bs.length F w bs F' w' bs'∧MemRel P F' w' bs' mem'∧r.Rel F' w' bs' z∧(Builtin.append_ #[t,t] ty vs.toArray).run P w=.ok z w':=by
 unfold F6 at h;split at h
 ·rename_i b m c b' c';split at h
  ·rename_i e hu;split at h
   ·rename_i j T1 cs T2 x hj hb1 hb2;split at h
    ·rename_i hcond;simp only [aTq,beq_iff_eq,Nat.blt_eq,Bool.not_eq_true'] at hcond;obtain ⟨⟨⟨⟨⟨⟨h1,h2⟩,h3⟩,h4⟩,h5⟩,h6⟩,h7⟩:=hcond;subst h4;simp only [sIq] at h;subst h;simp only [Tree.sel,sIq,pIq] at hT;obtain ⟨rfl,rfl⟩:=hT;cases hl with
     | cons ha hl =>
       cases hl with
      | cons hx hl =>
        cases hl;cases ha with
       | oc hb hmc =>
         rename_i y;cases hx with
        | oc hb' hmc' =>
          rename_i y';obtain ⟨us,hheap,hus⟩:=hm.cont b T1 cs y hb1 h5 hb;obtain ⟨us',hheap',hus'⟩:=hm.cont b' T2 [x] y' hb2 h6 hb';cases hus' with
         | cons hxu hn =>
           cases hn;rename_i u;have hlen:us.length=c:=by rw [← hus.length];exact h3
           have hrun:=run_append_room (P:=P) w t ty T1 j hu hj y.p m c us.toArray hheap ⟨y'.p,0,none⟩ 1 c' [u] (by rw [h1];rfl) (fun k z hk=>by
            cases k with
            | zero =>
              simp only [List.getElem?_cons_zero,sIq] at hk;subst hk;rw [addr_eq rfl,cell_of_row w y'.p _ _ _ _ hheap']
              simp
            | succ k=>simp at hk) (fun z hz=>by simp at hz;subst hz;exact hxu.one) (by omega) (by simp [h1];omega)
           have hset:us.toArray.toList.take (m*j.size)++[u]++us.toArray.toList.drop (m*j.size+[u].length)=us.set m u:=by
            rw [h1,Nat.mul_one];apply List.ext_getElem?;intro k;simp only [List.length_cons,List.length_nil];rw [List.getElem?_set];rcases Nat.lt_trichotomy k m with hk | hk | hk
            ·rw [List.getElem?_append_left (by simp;omega),List.getElem?_append_left (by simp;omega),List.getElem?_take,if_pos hk,if_neg (by omega)]
            ·subst hk;have e:(us.toArray.toList.take k).length=k:=by simp;omega
             rw [List.getElem?_append_left (by rw [List.length_append,e];simp),List.getElem?_append_right (by rw [e];exact lRq _),e,Nat.sub_self,if_pos rfl,if_pos (by omega)]
             rfl
            ·rw [List.getElem?_append_right (by simp;omega),List.getElem?_drop,if_neg (by omega)]
             congr 1
             simp;omega
           rw [hset] at hrun;have hnew:All2 (CV.Rel F w bs) (jl cs m x) (us.set m u):=hus.set m hxu;obtain ⟨he,hm'⟩:=OD (P:=P) hm hb hb1 h5 hnew hnew.noRow;exact ⟨F,_,bs,_,he,hm',CV.Rel.oc hb (by omega),hrun⟩
    ·cases h
   ·cases h
  ·cases h
 ·cases h
theorem jc5 {H : Hd} {F : Nat -> Prop} {w : World} {bs : List BI} {a : Act} {mem : Mem} (hm : MemRel P F w bs mem) {ρ : Operand -> Option AV}
  (h0:∀ x av,ρ x=some av->av.Rel F w bs (a.eval x)) {o:Oper} {T:Tree (AV × Mem)} {r:AV} {mem':Mem}
  (h:Tk P H mem ρ o.op=some T) (hT:T.sel=some (r,mem')) {K:Act->World->Prop} {Q:Exit->Act->World->Prop}
  (hK:∀ F' w' bs' v,Ext bs.length F w bs F' w' bs'->MemRel P F' w' bs' mem'->r.Rel F' w' bs' v->K (a.put o.dst v) w'):o.wp P a w K Q:=by
 unfold Tk at h;split at h
 ·rename_i t x y ho;split at h
  ·split at h
   ·rename_i l c hl hc;obtain ⟨F',w',bs',v,hext,hm',hr,hrun⟩:=jgv (P:=P) hm h hT (h0 _ _ hl) (h0 _ _ hc);refine qh (w':=w') (v:=v) ?_ (hK F' w' bs' v hext hm' hr);unfold execOp;simp only [ho,Sem.run_bind,hrun,Result.andThen_ok,Sem.run_pure]
   ·cases h
  ·cases h
 ·rename_i t n parts ho;split at h
  ·split at h
   ·rename_i l hl;have hp:=Y7 h0 hl;split at h
    ·obtain ⟨F',w',bs',v,hext,hm',hr,hrun⟩:=jdI (P:=P) hm (pv:=parts.map fun (i,x)=>(i,a.eval x)) h hT (by simpa [Array.toList_map] using hp)
     refine qh (w':=w') (v:=v) ?_ (hK F' w' bs' v hext hm' hr);unfold execOp;simp only [ho,Sem.run_bind,hrun,Result.andThen_ok,Sem.run_pure]
    ·cases h
   ·cases h
  ·cases h
 ·rename_i c ho;split at h
  ·rename_i hcal;split at h
   ·split at h
    ·rename_i l t t' hl hty;split at h
     ·rename_i htt;have htt:t=t':=by simpa using htt
      subst htt;have hargs:=zb h0 hl;obtain ⟨F',w',bs',z,hext,hm',hrr,hrun⟩:=jj5 (P:=P) (ty:=o.type) hm h hT hargs;refine qh (w':=w') (v:=z) ?_ (hK F' w' bs' z hext hm' hrr)
      have e1:c.argTypes = #[t,t]:=by
       apply Array.ext';rw [hty]
      have e2:c.args.map a.eval=(c.args.toList.map a.eval).toArray:=by
       apply Array.ext';simp
      unfold execOp;simp only [ho,resolve,hcal,Sem.run_bind,Sem.run_pure,Result.andThen_ok,invoke,builtin,e1,e2,hrun]
     ·cases h
    ·cases h
   ·cases h
  ·cases h
 ·cases h
end
end Go.Sx
namespace Go.Sx
open Go Go.RowKit
section
variable {P:Program}
theorem Dw {H : Hd} (hpc : SumOk P H) {call : jw} (hcall : CallOk P call) {F : Nat -> Prop} {w : World} {bs : List BI} {a : Act} {mem : Mem} (hm : MemRel P F w bs mem) {o : Oper} {f : Nat} {args : List A1} {vs : List Value}
  (hcl:qD P f=true) (hvs:All2 (A1.Rel F w bs) args vs) (hrun:∀ w',(execOp a.eval o).run P w'=.ok (.enter f vs.toArray) w') {r:AV} {mem':Mem}
  (h:(U4 H call mem f args).sel=some (r,mem')) {K:Act->World->Prop} {Q:Exit->Act->World->Prop}
  (hK:∀ F' w' bs' v,Ext bs.length F w bs F' w' bs'->MemRel P F' w' bs' mem'->r.Rel F' w' bs' v->K (a.put o.dst v) w'):o.wp P a w K Q:=by
 unfold U4 at h;split at h
 ·rename_i G hG;simp only at h;split at h
  ·rename_i hclosed
   ·replace h:=jh h
    obtain ⟨rr,hr,h⟩:=h;split at h
    ·rename_i hfl0;simp only [Tree.sel,sIq,pIq] at h;obtain ⟨rfl,rfl⟩:=h;by_cases hca:args.all jH=true
     ·have hv':args.map (zi mem)=args:=(List.map_congr_left fun x hx=>Ku (List.all_eq_true.1 hca x hx)).trans (List.map_id _);rw [hv'] at hr
      have hvs':All2 (A1.Rel F w []) args vs:=by
       clear hrun hr hv' hfl0 hclosed
       induction hvs with
       | nil=>exact .nil
       | cons ha _ ih =>
         simp only [List.all_cons,aTq] at hca;exact .cons (ha.closed hca.1) (ih hca.2)
      obtain ⟨v,hv,hcalls⟩:=hpc.pc f G hG args rr hr hca F w vs hvs';unfold Oper.wp;rw [hrun];refine (hcalls w (Below.refl _ _)).mono fun e w' ⟨he,hb⟩ => ?_;subst he;have hext:Ext bs.length F w bs F w' bs:=Ext.of_below hb;exact hK F w' bs v hext (hm.below hb) (AV.Rel.grow hext.grow (AV.Rel.grow (bs:=[]) (bs':=bs) (F:=F) (F':=F) (w:=w) (w':=w) ⟨lRq _,fun _ _ h=>h,fun _ _ _=>rfl,fun k p h=>by simp [nth] at h⟩ hv))
     ·have hfl : Vg rr = true := by
       rw [Bool.or_eq_true] at hfl0;exact hfl0.resolve_left hca
      have hvs':All2 (A1.Rel (Z1 F bs) w []) (args.map (zi mem)) vs:=by
       clear hrun hr hca hfl hfl0
       induction hvs with
       | nil=>exact .nil
       | cons ha _ ih =>
         simp only [List.map_cons,List.all_cons,aTq] at hclosed;exact .cons (Vf hm ha hclosed.1) (ih hclosed.2)
      obtain ⟨v,hv,hcalls⟩:=hpc.pc f G hG _ rr hr hclosed _ w vs hvs';unfold Oper.wp;rw [hrun];refine (hcalls w (Below.refl _ _)).mono fun e w' ⟨he,hb⟩ => ?_;subst he;exact hK F w' bs v (Ext.of_below hb) (hm.below hb) (Oj hv hfl _ _ _)
    ·simp [Tree.sel] at h
  ·split at h
   ·simp [Tree.sel] at h
   ·have:=hcall.fn f args mem r mem' (Qy (by assumption)) h F w bs vs hm hvs
    unfold Oper.wp;rw [hrun];refine this.mono fun e w' ⟨v,F',bs',he,hext,hm',hr⟩ => ?_;subst he;exact hK F' w' bs' v hext hm' hr
 ·split at h
  ·rename_i G hG;simp only at h;split at h
   ·rename_i hclosed
    ·replace h:=jh h
     obtain ⟨rr,hr,h⟩:=h;simp only [Tree.sel,sIq,pIq] at h;obtain ⟨rfl,rfl⟩:=h;obtain ⟨F1,e1,m1,r1⟩:=ZE hm hvs
     have hvs':All2 (A1.Rel F1 w []) (zQ mem args).2 vs:=by
      clear hr hrun hvs;generalize (zQ mem args).2=l at r1 hclosed
      induction r1 with
      | nil=>exact .nil
      | cons ha _ ih =>
        simp only [List.all_cons,aTq] at hclosed;exact .cons (ha.closed hclosed.1) (ih hclosed.2)
     have hcalls:=hpc.hc f G hG _ rr hr hclosed F1 w vs hvs';unfold Oper.wp;rw [hrun];refine hcalls.mono fun e w' ⟨v,he,hb,hv⟩ => ?_;subst he;have e2:Ext bs.length F1 w bs (fun p=>F1 p∧p<w.heap.size) w' bs:=⟨hb.size,fun _ _ h=>h.1,fun p h hp _=>⟨h,hp⟩,fun p hp _=>hb.block p hp,hb.os,hb.tape,hb.output,fun _ _ _ h=>h,fun x h=>.inl ⟨x,h,rfl⟩⟩;have m2:=m1.move e2 fun k x T cs hk hc hl=>⟨m1.loc k x T cs hk hc hl,hb.block _ (m1.loc k x T cs hk hc hl).2⟩;exact hK _ w' bs v (e1.trans e2 (lRq _)) m2 (AV.Rel.grow ⟨lRq _,fun _ _ h=>h,fun _ _ _=>rfl,fun k p h=>by simp [nth] at h⟩ hv)
   ·simp [Tree.sel] at h
  ·have:=hcall.fn f args mem r mem' (Qy (by assumption)) h F w bs vs hm hvs
   unfold Oper.wp;rw [hrun];refine this.mono fun e w' ⟨v,F',bs',he,hext,hm',hr⟩ => ?_;subst he;exact hK F' w' bs' v hext hm' hr
theorem WN {F:Nat->Prop} {w:World} {bs:List BI} {ρ:Val} {v:Value} (hr:CV.Rel F w bs (.ifx ρ) v):∀ {n:Nat} {z:TypeId × A1},(ar ρ n).sel=some z->∃ x,v=.iface z.1 x∧z.2.Rel F w bs x
 | 0,_,h=>by simp [ar,Tree.sel] at h
 | n + 1, z, h => by
   unfold ar at h;split at h
   ·rename_i t s hi;simp only [Tree.sel] at h;cases hb:Nat.beq (ρ.L []) (n+1) with
    | false=>rw [hb] at h;exact WN hr h
    | true =>
      rw [hb] at h;simp only [cond_true,sIq] at h;subst h;have hb:=Nat.eq_of_beq_eq_true hb;cases hr with
     | ifx0 h0=>omega
     | ifx1 h0 ht r =>
       have hk:_=n:=Nat.succ.inj (h0.symm.trans hb);subst hk;rw [hi] at ht;simp only [sIq,pIq,List.cons.injEq,and_true,true_and] at ht;obtain ⟨rfl,rfl⟩:=ht;exact ⟨_,rfl,CV.Rel.grow ⟨lRq _,fun _ _ h=>h,fun _ _ _=>rfl,fun k p h=>by simp [nth] at h⟩ r⟩
     | ifxa h0 ht hl r =>
       have hk:_=n:=Nat.succ.inj (h0.symm.trans hb);subst hk;rw [hi] at ht;simp at ht
   ·rename_i t es hi;simp only [Tree.sel] at h;cases hb:Nat.beq (ρ.L []) (n+1) with
    | false=>rw [hb] at h;exact WN hr h
    | true =>
      rw [hb] at h;simp only [cond_true,sIq] at h;subst h;have hb:=Nat.eq_of_beq_eq_true hb;cases hr with
     | ifx0 h0=>omega
     | ifx1 h0 ht r =>
       have hk:_=n:=Nat.succ.inj (h0.symm.trans hb);subst hk;rw [hi] at ht;simp at ht
     | ifxa h0 ht hl r =>
       have hk:_=n:=Nat.succ.inj (h0.symm.trans hb);subst hk;rw [hi] at ht;simp only [sIq,pIq,true_and] at ht;obtain ⟨rfl,rfl⟩:=ht;refine ⟨_,rfl,_,rfl,All2.of_nth ?_ fun i c u hc hu => ?_⟩
       ·rw [y9];exact hl
       ·rw [kX] at hc;split at hc
        ·rename_i s hs;simp only [sIq,Nat.zero_add] at hc;subst hc;exact CV.Rel.grow ⟨lRq _,fun _ _ h=>h,fun _ _ _=>rfl,fun k p h=>by simp [nth] at h⟩ (r i s u hs hu)
        ·simp at hc
   ·exact WN hr h
theorem TP {F:Nat->Prop} {w:World} {bs:List BI} {y:CV} {v:Value} (hr:CV.Rel F w bs y v) {z:TypeId × A1} (h:(Re y).sel=some z):∃ x,v=.iface z.1 x∧z.2.Rel F w bs x:=by
 unfold Re at h;split at h
 ·simp only [Tree.sel,sIq] at h;subst h;cases hr with
  | iface hv=>exact ⟨_,rfl,hv⟩
 ·simp only [Tree.sel,sIq] at h;subst h;cases hr with
  | ifa hl hv=>exact ⟨_,rfl,_,rfl,All2.of_nth hl hv⟩
 ·exact WN hr h
 ·simp [Tree.sel] at h
theorem He {t : TypeId} {name : String} {f : Nat} (h : UQ P t name = some f) (hc : qD P f = true) (v : Value) (args : Array Value) (w : World) :
  (callMethod (.iface t v) name args).run P w=.ok (.enter f (#[v]++args)) w:=by
 unfold UQ at h;split at h
 ·rename_i i hi;split at h
  ·rename_i m hm;split at h
   ·rename_i hp;split at h
    ·simp at h
    ·rename_i g d hne hf hu;simp only [sIq] at h;subst h
     have hpe:m.path.toList=[]:=by
      have:=Array.isEmpty_iff.1 hp
      rw [this]
     unfold qD at hc;split at hc
     ·rename_i fn hfn;simp only [aTq,bne_iff_ne,ne_eq] at hc;obtain ⟨⟨hn,hb⟩,_⟩:=hc;rw [jd] at hfn;simp only [Array.getElem?_toList] at hfn;have hb':fn.body.isNone=false:=by cases hh:fn.body<;>simp [hh] at hb ⊢
      have hn':(fn.name == "runtime.NumGoroutine")=false:=by simpa using hn
      have hrecv:∀ nm:Option String,(receiverAt t (.val v) false nm).run P w=.ok v w:=by
       intro nm;unfold receiverAt;simp only [Sem.run_bind,run_underlying hu,Result.andThen_ok];cases d<;>first | exact absurd rfl (hne _) | (simp [Place.get])
      have hmeth:∀ n,(method (n+1) t v name).run P w=.ok (g,v) w:=by
       intro n;rw [method];simp only [Sem.run_bind,typeInfo,run_program,Result.andThen_ok,hi,hm,hpe,follow,hf,Sem.run_pure,hrecv]
      unfold callMethod;have hd:P.types.size+Made.depth=(P.types.size+99)+1:=rfl;simp only [Sem.run_bind,run_program,Result.andThen_ok,hd,hmeth];simp only [callFunc,Sem.run_bind,run_program,Result.andThen_ok,hfn,hn',Bool.false_eq_true,if_false,hb',Sem.run_pure]
     ·simp at hc
    ·simp at h
   ·simp at h
  ·simp at h
 ·simp at h
theorem VP {s : ByteArray} : ∀ {ks : List ByteArray} {vs : List CV} {l : List MapEntry} {x : CV} (i : Nat), (Vh s ks vs).sel = some x -> l.map (·.key) = ks.map Value.string ->
  ∃ (j:Nat) (e:MapEntry),Instr.findNow .string (.string s) l i=some (some (i+j,e.val))∧nth (l.map (·.val)) j=some e.val∧nth vs j=some x
 | [],_,_,_,_,h,_=>by simp [Vh,Tree.sel] at h
 | _::_,[],_,_,_,h,_=>by simp [Vh,Tree.sel] at h
 | k::ks,v::vs,[],_,_,_,hk=>by simp at hk
 | k :: ks, v :: vs, e :: l, x, i, h, hk => by
   simp only [List.map_cons,List.cons.injEq] at hk;simp only [Vh,Tree.sel] at h;cases hb:jb s k with
  | true =>
    rw [hb] at h;simp only [cond_true,sIq] at h;subst h;have hs:s=k:=(zr _ _).1 hb;subst hs;refine ⟨0,e,?_,rfl,rfl⟩;have hss:(s==s)=true:=(MapKept.bytes_beq _ _).2 rfl;simp [Instr.findNow,hk.1,Instr.sameNow,hss]
  | false =>
    rw [hb] at h;simp only [cond_false] at h;obtain ⟨j,e',h1,h2,h3⟩:=VP (i+1) h hk.2;refine ⟨j+1,e',?_,h2,h3⟩;have hne:s ≠ k:=fun q=>by rw [(zr _ _).2 q] at hb;cases hb
    simp only [Instr.findNow,hk.1,Instr.sameNow]
    have:(s==k)=false:=by rw [← Bool.not_eq_true];exact fun q=>hne ((MapKept.bytes_beq _ _).1 q)
    rw [this];simp only;rw [h1];congr 3;omega
theorem MG {t:TypeId} (h:VX P t=true):∃ k e,P.underlying t=some (.map k e)∧P.underlying k=some .string:=by
 unfold VX at h;split at h
 ·rename_i k e hm;split at h
  ·rename_i hk;exact ⟨k,e,hm,hk⟩
  ·cases h
 ·cases h
theorem jdH {F : Nat -> Prop} {w : World} {bs : List BI} {t : TypeId} {ks : List ByteArray} {vs : List CV} {s : ByteArray} {m : Value} {x : CV} (ht : VX P t = true) (hm : CV.Rel F w bs (.mp ks vs) m) (h : (Vh s ks vs).sel = some x) :
  ∃ v,(Instr.lookup t m (.string s) false).run P w=.ok v w∧x.Rel F w bs v:=by
 obtain ⟨kt,e,h1,h2⟩:=MG ht;cases hm with
 | mp hp hF he hk hz hl r =>
   obtain ⟨j,e,hj1,hj2,hj3⟩:=VP 0 h hk;rw [hz] at hj2;refine ⟨e.val,?_,r j x _ hj3 hj2⟩;have hkey:MapKept.IsKey .string (.string s):=trivial;simp [Instr.lookup,run_underlying h1,MapKept.run_getObj_map he,MapKept.run_checkKey h2 hkey,MapKept.run_findKey h2 hj1,Result.andThen]
theorem jah {H : Hd} (hpc : SumOk P H) {call : jw} (hcall : CallOk P call) {F : Nat -> Prop} {w : World} {bs : List BI} {a : Act} {mem : Mem} (hm : MemRel P F w bs mem) {ρ : Operand -> Option AV}
  (h0:∀ x av,ρ x=some av->av.Rel F w bs (a.eval x)) {o:Oper} {T:Tree (AV × Mem)} {r:AV} {mem':Mem}
  (h:jcb P H call mem ρ o.op=some T) (hT:T.sel=some (r,mem')) {K:Act->World->Prop} {Q:Exit->Act->World->Prop}
  (hK:∀ F' w' bs' v,Ext bs.length F w bs F' w' bs'->MemRel P F' w' bs' mem'->r.Rel F' w' bs' v->K (a.put o.dst v) w'):o.wp P a w K Q:=by
 unfold jcb at h;split at h
 ·rename_i t x ho;split at h
  ·simp at h
  ·rename_i d hd hne
   have hrun:(execOp a.eval o).run P w=.ok (.value (.iface t (a.eval x))) w:=by
    unfold execOp;rw [ho];simp only [Instr.makeInterface,Sem.run_bind,run_underlying hne];cases d<;>first | rfl | (exact absurd rfl (hd _))
   split at h
   ·rename_i y hy;simp only at h;split at h
    ·simp only [sIq] at h;subst h;simp only [Tree.sel,sIq,pIq] at hT;obtain ⟨rfl,rfl⟩:=hT;have hr:CV.Rel F w bs y (a.eval x):=h0 _ _ hy;obtain ⟨F1,e1,m1,r1⟩:=Ly hm hr;exact qh hrun (hK F1 w bs _ e1 m1 (CV.Rel.iface r1))
    ·simp at h
   ·rename_i l hy;simp only at h;split at h
    ·simp only [sIq] at h;subst h;simp only [Tree.sel,sIq,pIq] at hT;obtain ⟨rfl,rfl⟩:=hT;obtain ⟨vs,hz,hr⟩:=h0 _ _ hy;obtain ⟨F1,e1,m1,r1⟩:=ZI hm hr;refine qh hrun (hK F1 w bs _ e1 m1 ?_);rw [hz];refine CV.Rel.ifa r1.length (fun i x v h1 h2 => ?_);obtain ⟨v',hv',hr'⟩:=r1.nth h1;rw [jd] at h2;rw [h2] at hv';cases hv';exact hr'
    ·simp at h
   ·simp at h
  ·simp at h
 ·rename_i c ho;split at h
  ·rename_i x m hcal;split at h
   ·rename_i y l hy hl;simp only [sIq] at h;subst h;obtain ⟨z,hz,hT⟩:=jh hT;split at hT
    ·rename_i f hf;split at hT
     ·rename_i hcl;have hr:CV.Rel F w bs y (a.eval x):=h0 _ _ hy;obtain ⟨u,hu,hru⟩:=TP hr hz;have hargs:=zb h0 hl;refine Dw hpc hcall hm hcl (.cons hru hargs) (fun w' => ?_) hT hK
      have e2:(u::c.args.toList.map a.eval).toArray = #[u]++c.args.map a.eval:=by
       apply Array.ext';simp
      have e3:∀ l:Array Value,(#[Value.iface z.1 u]++l).extract 1 (#[Value.iface z.1 u]++l).size=l:=by
       intro l;apply Array.ext';simp
      unfold execOp;rw [ho];simp only [resolve,hcal,hu,Sem.run_bind,Sem.run_pure,Result.andThen_ok,invoke];have e4:(#[Value.iface z.1 u]++c.args.map a.eval)[0]? = some (.iface z.1 u):=by rw [Array.getElem?_append_left (by simp)];rfl
      simp only [e4,e3];rw [e2];exact He hf hcl u _ w'
     ·simp [Tree.sel] at hT
    ·simp [Tree.sel] at hT
   ·simp at h
  ·simp at h
 ·rename_i t x k ho;split at h
  ·rename_i ks vs s hx hk';split at h
   ·rename_i hmt;simp only [sIq] at h;subst h;obtain ⟨v,hv,hT⟩:=jh hT;simp only [Tree.sel,sIq,pIq] at hT;obtain ⟨rfl,rfl⟩:=hT;have hr:CV.Rel F w bs (.mp ks vs) (a.eval x):=h0 _ _ hx;have hs:CV.Rel F w bs (.str s) (a.eval k):=h0 _ _ hk';obtain ⟨v',hrun,hrel⟩:=jdH hmt hr hv;have ek:a.eval k=.string s:=by generalize a.eval k=z at hs;cases hs;rfl
    refine qh (v:=v') ?_ (hK F w bs _ Ext.refl hm hrel);unfold execOp;rw [ho];simp only [ek,Sem.run_bind,hrun,Result.andThen_ok,Sem.run_pure]
   ·simp at h
  ·simp at h
 ·simp at h
end
end Go.Sx