/-
 Part TpZG of the proof: EngKr RuG RuH.
-/
import Derived.Test.YtiefjlcakpdfeaaGreatDoorTpM
import Derived.SizedLaws
import Derived.Test.YtiefjlcakpdfeaaGreatDoorTpZE
import Derived.Test.YtiefjlcakpdfeaaGreatDoorTpZF
namespace Go.Sx
open Go Go.RowKit Go.WideShapes
def zn (P:Program):Nat->TypeId->Option (List Sh)
 | 0,_=>none
 | n+1,t=>match P.underlying t with
  | some .bool=>some [.bool]
  | some (.int k)=>some [.int k]
  | some .string=>some [.str]
  | some (.slice e)=>match rtT e with
   | some k=>if (jl k).length==P.cellsOf e&&Nat.ble 1 (P.bytesOf e) then some [.rt k] else none
   | none=>match zn P n e with
    | some es=>if (es.length==P.cellsOf e&&!es.isEmpty)&&Nat.ble 1 (P.bytesOf e) then some [.sl es] else none
    | none=>none
  | some (.struct fs)=>match kN (zn P n) P 0 fs.toList with
   | some l=>if l.length==P.cellsOf t then some l else none
   | none=>none
  | some (.array m e)=>match zn P n e with
   | some es=>if es.length==P.cellsOf e&&(Xs es m).length==P.cellsOf t then some (Xs es m) else none
   | none=>none
  | _=>none
abbrev Z1:Nat:=140737488355328
def wfM:Nat->Nat->Nat->Val->Prop
 | 0,_,_,_=>True
 | m+1,k,n,ρ=>n<=Z1∧∀ i,i<n->∀ f s,nth (jl k) f=some s->match s with
  | .rt k'=>wfM m k' (((ρ.at i).at f).L []) ((ρ.at i).at f)
  | .sl _=>((ρ.at i).at f).L []<=Z1
  | _=>True
mutual
def Qm:Sh->Val->Prop
 | .bool,_=>True
 | .int k,ρ=>(Lit.int k (ρ.N [])).wf=true
 | .str,ρ=>(ρ.S []).size<=maxLen
 | .sl es,ρ=>ρ.L []<=Z1∧∀ i,i<ρ.L []->∀ f,Ba es f ((ρ.at i).at f)
 | .rt k,ρ=>∀ m,wfM m k (ρ.L []) ρ
 | .ifc,_=>True
def Ba:List Sh->Nat->Val->Prop
 | [],_,_=>True
 | s::_,0,ρ=>Qm s ρ
 | _::r,n+1,ρ=>Ba r n ρ
end
def Xk:List Sh->Nat->Val->Prop
 | [],_,_=>True
 | s::r,i,ρ=>Qm s (ρ.at i)∧Xk r (i+1) ρ
theorem Ut:∀ (es:List Sh) (f:Nat) (ρ:Val),Ba es f ρ=match nth es f with | some s=>Qm s ρ | none=>True
 | [],_,_=>rfl
 | _::_,0,_=>rfl
 | _::r,n+1,ρ=>by simp only [Ba,nth];exact Ut r n ρ
theorem BO:∀ (es:List Sh) (i:Nat) (ρ:Val),Xk es i ρ↔∀ k s,nth es k=some s->Qm s (ρ.at (i+k))
 | [],_,_=>by simp [Xk,nth]
 | s :: r, i, ρ => by
   simp only [Xk];rw [BO r (i+1) ρ];constructor
   ·rintro ⟨h1,h2⟩ k t ht
    cases k with
    | zero=>simp [nth] at ht;subst ht;exact h1
    | succ k=>have:=h2 k t (by simpa [nth] using ht);rwa [show i+1+k=i+(k+1) by omega] at this
   ·intro h;refine ⟨h 0 s rfl,fun k t ht => ?_⟩
    have:=h (k+1) t (by simpa [nth] using ht)
    rwa [show i+(k+1)=i+1+k by omega] at this
def ReadLQ (w:World) (es:List Sh) (cs:List Value):Prop:=es.length=cs.length∧∀ k s v,nth es k=some s->nth cs k=some v->∃ ρ:Val,CV.Rel (fun _=>False) w [] (cellOf s ρ) v∧Qm s ρ
theorem ReadLQ.glue {w:World} {es:List Sh} {cs:List Value} (h:ReadLQ w es cs):∃ ρ:Val,All2 (CV.Rel (fun _=>False) w []) (qY es 0 ρ) cs∧Xk es 0 ρ:=by
 have hc:∀ k,∃ ρ:Val,∀ s v,nth es k=some s->nth cs k=some v->CV.Rel (fun _=>False) w [] (cellOf s ρ) v∧Qm s ρ:=by
  intro k;cases h1:nth es k with
  | none=>exact ⟨⟨fun _=>false,fun _=>0,fun _=>.empty,fun _=>0⟩,fun s v hs=>by simp at hs⟩
  | some s =>
    have hk:k<cs.length:=by
     rw [← h.1];rw [jd] at h1;rcases Nat.lt_or_ge k es.length with h' | h'
     ·exact h'
     ·simp [List.getElem?_eq_none h'] at h1
    have h2:nth cs k=some cs[k]:=by rw [jd];exact List.getElem?_eq_getElem hk
    obtain ⟨ρ,hr,hw⟩:=h.2 k s _ h1 h2;refine ⟨ρ,fun s' v' hs' hv' => ?_⟩;rw [h2] at hv';simp at hs' hv';subst hs';subst hv';exact ⟨hr,hw⟩
 refine ⟨Sx.glue (fun k=>Classical.choose (hc k)),All2.of_nth (by rw [kf];exact h.1) fun k x v hx hv => ?_,(BO _ _ _).2 fun k s hs => ?_⟩
 ·rw [kM] at hx;split at hx
  ·rename_i s hs;simp at hx;subst hx
   have:=(Classical.choose_spec (hc k) s v hs hv).1
   simpa [IC] using this
  ·simp at hx
 ·have hk : k < cs.length := by
   rw [← h.1];rw [jd] at hs;rcases Nat.lt_or_ge k es.length with h' | h'
   ·exact h'
   ·simp [List.getElem?_eq_none h'] at hs
  have h2:nth cs k=some cs[k]:=by rw [jd];exact List.getElem?_eq_getElem hk
  have:=(Classical.choose_spec (hc k) s _ hs h2).2
  simpa [IC] using this
theorem ReadLQ.append {w:World} {a b:List Sh} {cs ds:List Value} (h:ReadLQ w a cs) (g:ReadLQ w b ds):ReadLQ w (a++b) (cs++ds):=by
 refine ⟨by simp [h.1,g.1],fun k s v hs hv => ?_⟩
 rcases Nat.lt_or_ge k a.length with hk | hk
 ·rw [Ha hk] at hs;rw [Ha (by rw [← h.1];exact hk)] at hv
  exact h.2 k s v hs hv
 ·rw [Vp hk] at hs;rw [Vp (by rw [← h.1];exact hk),← h.1] at hv
  exact g.2 _ s v hs hv
theorem jnj {k:Nat} {ρ:Val} (h:ρ.L []<=Z1∧∀ i,i<ρ.L []->∀ f,Ba (jl k) f ((ρ.at i).at f)):Qm (.rt k) ρ:=by
 simp only [Qm];intro m;cases m with
 | zero=>exact trivial
 | succ m =>
   refine ⟨h.1,fun i hi f s hs => ?_⟩
   have:=h.2 i hi f
   rw [Ut,hs] at this;cases s with
  | rt k'=>simp only [Qm] at this;exact this m
  | sl es=>simp only [Qm] at this;exact this.1
  | _=>exact trivial
def DOk {H:Type} (P:Program) (t:TypeId) (d:DataW H):Prop:=∀ n ∈ d.weights P t,n<=reachBytes
theorem Xt {H:Type} {P:Program} {e:TypeId}:∀ {ds:List (DataW H)} {j:Nat} {d:DataW H},ds[j]? = some d->∀ n ∈ d.weights P e,n ∈ DataW.weightsAll P e ds
 | d0 :: ds, 0, d, hd, n, hn => by
   simp only [List.getElem?_cons_zero,sIq] at hd;subst hd;simp only [DataW.weightsAll,List.mem_append];exact Or.inl hn
 | d0 :: ds, j + 1, d, hd, n, hn => by
   simp only [List.getElem?_cons_succ] at hd;simp only [DataW.weightsAll,List.mem_append];exact Or.inr (Xt hd n hn)
 | [],_,_,hd,_,_=>by simp at hd
section
variable {H:Type} {enc:TypeId × Value->H} {P:Program} {w:World} {spare:Nat->Bool} {held:Bool}
theorem Vw {n m : Nat} (ih : ∀ (t : TypeId) (cs : List Value) (x : DataW H × List MemPlace) (es : List Sh), DataW.trod enc P w 0 spare held n t cs = some x -> DOk P t x.1 -> zn P m t = some es -> ReadLQ w es cs) :
  ∀ (fs:List Field) (o:Nat) (es:List Sh) (cs:List Value),kN (zn P m) P o fs=some es->o<=cs.length->o+es.length=cs.length ->
   (∀ f ∈ fs,∃ x,DataW.trod enc P w 0 spare held n f.type ((cs.drop f.offset).take (P.cellsOf f.type))=some x∧DOk P f.type x.1)->ReadLQ w es (cs.drop o)
 | [], o, es, cs, h, ho, hl, _ => by
   simp [kN] at h;subst h;simp at hl
   have:cs.drop o=[]:=by simp;omega
   rw [this];exact ⟨rfl,fun k s v hs=>by simp [nth] at hs⟩
 | f :: r, o, es, cs, h, ho, hl, hx => by
   simp only [kN] at h;split at h
   ·rename_i hoff;have hoff:f.offset=o:=by simpa using hoff
    split at h
    ·rename_i a ha;split at h
     ·rename_i hlen;have hlen:a.length=P.cellsOf f.type:=by simpa using hlen
      split at h
      ·rename_i b hb;simp at h;subst h;obtain ⟨x,hx1,hx2⟩:=hx f (by simp)
       have h1:=ih f.type _ x a hx1 hx2 ha;rw [hoff] at h1;have h2:=Vw ih r (o+a.length) b cs hb (by simp at hl;omega) (by simp at hl ⊢;omega) (fun g hg=>hx g (by simp [hg]))
       have e:cs.drop o=(cs.drop o).take (P.cellsOf f.type)++cs.drop (o+a.length):=by
        rw [← hlen,← List.drop_drop,List.take_append_drop]
       rw [e];exact h1.append h2
      ·simp at h
     ·simp at h
    ·simp at h
   ·simp at h
theorem Oo {n m : Nat} {e : TypeId} {es : List Sh} (he : zn P m e = some es) (hl : es.length = P.cellsOf e) (ih : ∀ (t : TypeId) (cs : List Value) (x : DataW H × List MemPlace) (es : List Sh), DataW.trod enc P w 0 spare held n t cs = some x -> DOk P t x.1 -> zn P m t = some es -> ReadLQ w es cs) (cs : List Value) :
  ∀ (k i:Nat),(Xs es k).length+i*P.cellsOf e=cs.length->(∀ j,i<=j->j<i+k->∃ x,DataW.trod enc P w 0 spare held n e ((cs.drop (j*P.cellsOf e)).take (P.cellsOf e))=some x∧DOk P e x.1)->ReadLQ w (Xs es k) (cs.drop (i*P.cellsOf e))
 | 0, i, h, _ => by
   simp [Xs] at h
   have:cs.drop (i*P.cellsOf e)=[]:=by simp;omega
   rw [this];exact ⟨rfl,fun k s v hs=>by simp [Xs,nth] at hs⟩
 | k + 1, i, h, hx => by
   obtain ⟨x,hx1,hx2⟩:=hx i (lRq _) (by omega)
   have h1:=ih e _ x es hx1 hx2 he;have h2:=Oo he hl ih cs k (i+1) (by simp [Xs,hl] at h;rw [Nat.succ_mul];omega) (fun j hj hj2=>hx j (by omega) (by omega))
   have e1:cs.drop (i*P.cellsOf e)=(cs.drop (i*P.cellsOf e)).take (P.cellsOf e)++cs.drop ((i+1)*P.cellsOf e):=by
    rw [Nat.succ_mul,← List.drop_drop,List.take_append_drop]
   rw [e1];exact h1.append h2
theorem Gk (hR:∀ e k,rtT e=some k->zn P 12 e=some (jl k)) (hN:∀ k,jl k ≠ []):∀ (n m:Nat) (t:TypeId) (cs:List Value) (x:DataW H × List MemPlace) (es:List Sh),DataW.trod enc P w 0 spare held n t cs=some x->DOk P t x.1->zn P m t=some es->ReadLQ w es cs
 | 0,_,_,_,_,_,h,_,_=>by simp [DataW.trod] at h
 | _+1,0,_,_,_,_,_,_,h=>by simp [zn] at h
 | n + 1, m + 1, t, cs, x, es, h, hz, hs => by
   have ih:∀ (t:TypeId) (cs:List Value) (x:DataW H × List MemPlace) (es:List Sh),DataW.trod enc P w 0 spare held n t cs=some x->DOk P t x.1->zn P m t=some es->ReadLQ w es cs:=fun t cs x es=>Gk hR hN n m t cs x es;have v0:Val:=⟨fun _=>false,fun _=>0,fun _=>.empty,fun _=>0⟩
   have single:∀ (s:Sh) (v:Value),(∃ ρ:Val,CV.Rel (fun _=>False) w [] (cellOf s ρ) v∧Qm s ρ)->ReadLQ w [s] [v]:=by
    intro s v hv;refine ⟨rfl,fun k s' v' hs' hv' => ?_⟩;cases k with
    | zero=>simp [nth] at hs' hv';subst hs';subst hv';exact hv
    | succ k=>simp [nth] at hs'
   have slice : ∀ (e : TypeId) (el : List Sh) (s : Sh), P.underlying t = some (.slice e) -> 1 <= P.bytesOf e -> el.length = P.cellsOf e -> el ≠ [] -> (∀ ρ : Val, cellOf s ρ = .sl el (ρ.L []) ρ) ->
     (∀ ρ:Val,(ρ.L []<=Z1∧∀ i,i<ρ.L []->∀ f,Ba el f ((ρ.at i).at f))->Qm s ρ) ->
     (∀ (cs:List Value) (x:DataW H × List MemPlace),DataW.trod enc P w 0 spare held n e cs=some x->DOk P e x.1->ReadLQ w el cs)->ReadLQ w [s] cs:=by
    intro e el s hu hby hlen hne hcell hwf ih1;rcases DataW.trod_slice hu h with ⟨rfl,_⟩ | ⟨a,len,cap,elems,rest,n',hn',rfl,hx,hb,hl,hm,hlen2,hel2,_,_⟩
    ·exact single _ _ ⟨{ v0 with L:=fun _=>0 },by rw [hcell];exact CV.Rel.slnil,hwf _ ⟨by simp,fun i hi=>by simp at hi⟩⟩
    ·have hnn:n'=n:=by omega
     subst hnn;subst hx
     have hlenB:len<=Z1:=by
      have:=hz ((elems.map (·.1)).length*P.bytesOf e+(rest.map (·.1)).length*P.bytesOf e) (by simp [DataW.weights,hu,Nat.add_mul])
      have h2:len*1<=len*P.bytesOf e:=Nat.mul_le_mul_left _ hby;have h3:=reachBytes_lt;rw [List.length_map,hlen2] at this;unfold Z1;omega
     have helemB:∀ (i:Nat) (y:DataW H × List MemPlace),elems[i]? = some y->DOk P e y.1:=fun i y hy n hn =>
      hz n (by
       have:=Xt (P:=P) (e:=e) (ds:=elems.map (·.1)) (j:=i) (d:=y.1) (by rw [List.getElem?_map,hy];rfl) n hn
       simp only [DataW.weights,hu,List.mem_cons,List.mem_append];exact Or.inr (Or.inl this))
     have helem:∀ i,i<len->∃ ρ:Val,∃ es':List Value,w.cells? 0 (a.add (i*P.cellsOf e)) (P.cellsOf e)=some es'∧All2 (CV.Rel (fun _=>False) w []) (qY el 0 ρ) es'∧Xk el 0 ρ:=by
      intro i hi;have h1:=hel2 i hi;have h2:elems[i]? = some elems[i]:=List.getElem?_eq_getElem (by omega)
      rw [h2] at h1;cases hc:w.cells? 0 (a.add (i*P.cellsOf e)) (P.cellsOf e) with
      | none=>simp [hc] at h1
      | some cs' =>
        simp [hc] at h1;obtain ⟨ρ,hr,hw⟩:=(ih1 cs' _ h1 (helemB i _ h2)).glue;exact ⟨ρ,cs',rfl,hr,hw⟩
     have hch:∀ i,∃ ρ:Val,∃ es':List Value,i<len->w.cells? 0 (a.add (i*P.cellsOf e)) (P.cellsOf e)=some es'∧All2 (CV.Rel (fun _=>False) w []) (qY el 0 ρ) es'∧Xk el 0 ρ:=by
      intro i;by_cases hi:i<len
      ·obtain ⟨ρ,es',h⟩:=helem i hi;exact ⟨ρ,es',fun _=>h⟩
      ·exact ⟨v0,[],fun h=>(hi h).elim⟩
     refine single _ _ ⟨{ Sx.glue (fun i=>Classical.choose (hch i)) with L:=fun | []=>len | i::p=>(Classical.choose (hch i)).L p },?_,?_⟩
     ·rw [hcell];have hel1:0<el.length:=by cases el;exact (hne rfl).elim;simp
      have cellI:∀ i f,i<len->f<el.length->∃ v,w.cell? ((a.add (i*P.cellsOf e)).add f)=some v∧∀ s,nth el f=some s->CV.Rel (fun _=>False) w [] (cellOf s ((Classical.choose (hch i)).at f)) v:=by
       intro i f hi hf;obtain ⟨es',hsp⟩:=Classical.choose_spec (hch i);obtain ⟨h1,h2,_⟩:=hsp hi;obtain ⟨_,hl1,hl2⟩:=World.cells?_some h1;have hns:nth el f=some el[f]:=by rw [jd];exact List.getElem?_eq_getElem hf
       obtain ⟨v,hv,hr⟩:=h2.nth (i:=f) (a:=cellOf el[f] ((Classical.choose (hch i)).at f)) (by rw [kM,hns];simp)
       refine ⟨v,by rw [hl2 f (by omega)];exact hv,fun s hs => ?_⟩
       rw [hns] at hs;simp at hs;subst hs;exact hr
      have hspot:0<len->a.spot=none∧a.block<w.heap.size:=by
       intro hp;obtain ⟨v,hv,_⟩:=cellI 0 0 hp hel1;have hv':w.cell? a=some v:=by simpa [Addr.add] using hv
       exact ⟨World.cell?_spot hv',World.block_lt_of_cell? w a hv'⟩
      have addE:∀ i f,i<len->(a.add (i*P.cellsOf e)).add f=⟨a.block,a.off+(i*el.length+f),none⟩:=by
       intro i f hi
       have:=(hspot (by omega)).1
       obtain ⟨p,o,sp⟩:=a;simp only at this;subst this;rw [addr_add,addr_add,hlen,Nat.add_assoc]
      refine CV.Rel.sl (fun i f=>(w.cell? ⟨a.block,a.off+(i*el.length+f),none⟩).getD undef) hl (fun hp=>⟨(hspot hp).1,(hspot hp).2,fun h=>h⟩) (fun i f hi hf => ?_) (fun i f s hi hs => ?_)
      ·obtain ⟨v,hv,_⟩:=cellI i f hi hf;rw [addE i f hi] at hv;rw [hv];rfl
      ·have hf : f < el.length := by
        rw [jd] at hs;rcases Nat.lt_or_ge f el.length with h' | h'
        ·exact h'
        ·simp [List.getElem?_eq_none h'] at hs
       obtain ⟨v,hv,hr⟩:=cellI i f hi hf;rw [addE i f hi] at hv;rw [hv];exact hr s hs
     ·refine hwf _ ?_;refine ⟨hlenB,fun i hi f => ?_⟩;obtain ⟨es',hsp⟩:=Classical.choose_spec (hch i);obtain ⟨_,_,h3⟩:=hsp hi;rw [Ut];split
      ·rename_i s hs
       have:=(BO _ _ _).1 h3 f s hs
       rw [Nat.zero_add] at this;exact this
      ·trivial
   simp only [zn] at hs;split at hs
   ·rename_i hu;simp at hs;subst hs;obtain ⟨b,rfl,_⟩:=DataW.trod_bool hu h;exact single _ _ ⟨{ v0 with B:=fun _=>b },by simp only [cellOf];exact CV.Rel.bool b,by simp [Qm]⟩
   ·rename_i k hu;simp at hs;subst hs;obtain ⟨i,rfl,_,hw⟩:=DataW.trod_int hu h;exact single _ _ ⟨{ v0 with N:=fun _=>i },by simp only [cellOf];exact CV.Rel.int k i,by simpa [Qm] using hw⟩
   ·rename_i hu;simp at hs;subst hs;obtain ⟨s,rfl,_,hw⟩:=DataW.trod_string hu h;exact single _ _ ⟨{ v0 with S:=fun _=>s },by simp only [cellOf];exact CV.Rel.str s,by simpa [Qm] using hw⟩
   ·rename_i e hu;split at hs
    ·rename_i k hk;split at hs
     ·rename_i hlen;simp at hs;subst hs;rw [aTq,Nat.ble_eq,beq_iff_eq] at hlen;exact slice e (jl k) (.rt k) hu hlen.2 hlen.1 (hN k) (fun _=>rfl) (fun ρ hρ=>jnj hρ) fun cs x hx hd=>Gk hR hN n 12 e cs x _ hx hd (hR e k hk)
     ·simp at hs
    ·split at hs
     ·rename_i el hel;split at hs
      ·rename_i hcond;simp at hs;subst hs;rw [aTq,Nat.ble_eq] at hcond;obtain ⟨hcond,hby⟩:=hcond;simp only [aTq,beq_iff_eq,Bool.not_eq_true'] at hcond;exact slice e el (.sl el) hu hby hcond.1 (by intro h;subst h;simp at hcond) (fun _=>rfl) (fun _ h=>by simpa [Qm] using h) fun cs x hx hd=>ih e cs x el hx hd hel
      ·simp at hs
     ·simp at hs
   ·rename_i fs hu;split at hs
    ·rename_i l hl;split at hs
     ·rename_i hlen;simp at hs;subst hs;have hlen:l.length=P.cellsOf t:=by simpa using hlen
      obtain ⟨xs,n',hn',hxx,hcs,hxl,hf⟩:=DataW.trod_struct hu h;have hnn:n'=n:=by omega
      subst hnn
      have:=Vw ih fs.toList 0 l cs hl (by omega) (by omega) (fun f hf'=>by
       obtain ⟨i,hi⟩:=List.getElem?_of_mem hf';have h1:=hf i f (by simpa using hi)
       have hi2:i<xs.length:=by
        rw [hxl];rcases Nat.lt_or_ge i fs.size with h' | h'
        ·exact h'
        ·simp [Array.getElem?_eq_none h'] at hi
       refine ⟨xs[i],by rw [h1];exact List.getElem?_eq_getElem hi2,fun z hzz=>hz z ?_⟩
       rw [hxx];simp only [DataW.weights,hu];exact DataW.weights_mem_each (j:=i) (t:=f.type) (d:=xs[i].1) (by rw [List.getElem?_map];simp only [Array.getElem?_toList];rw [show fs[i]? = some f by simpa using hi];rfl) (by rw [List.getElem?_map,List.getElem?_eq_getElem hi2];rfl) z hzz)
      simpa using this
     ·simp at hs
    ·simp at hs
   ·rename_i k e hu;split at hs
    ·rename_i el hel;split at hs
     ·rename_i hcond;simp at hs;subst hs;simp only [aTq,beq_iff_eq] at hcond;obtain ⟨xs,n',hn',hxx,hcs,hxl,hf⟩:=DataW.trod_array hu h;have hnn:n'=n:=by omega
      subst hnn
      have:=Oo hel hcond.1 ih cs k 0 (by simp;omega) (fun j _ hj=>by
       have h1:=hf j (by omega)
       refine ⟨xs[j]'(by omega),by rw [h1];exact List.getElem?_eq_getElem (by omega),fun z hzz=>hz z ?_⟩
       rw [hxx];simp only [DataW.weights,hu];exact Xt (j:=j) (d:=(xs[j]'(by omega)).1) (by rw [List.getElem?_map,List.getElem?_eq_getElem (by omega)];rfl) z hzz)
      simpa using this
     ·simp at hs
    ·simp at hs
   ·simp at hs
theorem jcD (hR : ∀ e k, rtT e = some k -> zn P 12 e = some (jl k)) (hN : ∀ k, jl k ≠ []) {r : Reach} {b0 : Nat} {t : TypeId} {v : Value} {d : DataW H} {p : List MemPlace} {m : Nat} {es : List Sh} (hok : Value.okWide P w r b0 t v) (h : DataW.Trod enc P w 0 spare held t v d p) (hz : DOk P t d) (hs : zn P m t = some es) :
  ∃ ρ:Val,A1.Rel (fun _=>False) w [] (GN P t es ρ) v∧Xk es 0 ρ:=by
 obtain ⟨fuel,hf⟩:=h;obtain ⟨ρ,hr,hw⟩:=(Gk hR hN fuel m t _ _ es hf hz hs).glue;refine ⟨ρ,?_,hw⟩;unfold GN;have hnone:m ≠ 0:=by intro e;subst e;simp [zn] at hs
 obtain ⟨m',rfl⟩ : ∃ m',m=m'+1:=⟨m - 1,by omega⟩
 have one:v.cells = #[v]->∀ s,es=[s]->A1.Rel (fun _=>False) w [] (match qY es 0 ρ with | x::_=>A1.c x | []=>.agg []) v:=by
  intro hv s he;subst he;rw [hv] at hr;cases hr with
  | cons h1 _=>exact h1
 unfold JC;split
 ·rename_i heq;split at heq
  ·rename_i fs hu;unfold Value.okWide at hok;simp only [hu] at hok;obtain ⟨cs,rfl,_,_⟩:=hok;exact ⟨cs.toList,by simp,hr⟩
  ·rename_i n e hu;unfold Value.okWide at hok;simp only [hu] at hok;obtain ⟨cs,rfl,_,_⟩:=hok;exact ⟨cs.toList,by simp,hr⟩
  ·simp at heq
  ·simp at heq
 ·rename_i hne;simp only [zn] at hs;split at hs
  ·rename_i hu;simp at hs;obtain ⟨b,rfl⟩:=okWide_bool hu hok;exact one rfl _ hs.symm
  ·rename_i k hu;simp at hs;obtain ⟨b,rfl⟩:=okWide_int hu hok;exact one rfl _ hs.symm
  ·rename_i hu;simp at hs;obtain ⟨b,rfl⟩:=okWide_string hu hok;exact one rfl _ hs.symm
  ·rename_i e hu;obtain ⟨a,l,c,rfl⟩:=okWide_slice hu hok;split at hs
   ·split at hs
    ·simp at hs;exact one rfl _ hs.symm
    ·simp at hs
   ·split at hs
    ·split at hs
     ·simp at hs;exact one rfl _ hs.symm
     ·simp at hs
    ·simp at hs
  ·rename_i fs hu;exact (hne (by simp [hu])).elim
  ·rename_i k e hu;exact (hne (by simp [hu])).elim
  ·simp at hs
end
end Go.Sx
namespace Go.Proofs.YtiefjlcakpdfeaaGreatDoor
open Go Go.Sx Go.RowKit Rb
set_option maxRecDepth 100000
theorem NL {α:Type} [Inhabited α] {P:Nat->α->Prop} {n:Nat} (h:∀ i,i<n->∃ a,P i a):∃ l:List α,l.length=n∧∀ i,i<n->∃ a,nth l i=some a∧P i a:=by
 classical
 have hc:∀ i,∃ a,i<n->P i a:=fun i=>by
  by_cases hi:i<n
  ·obtain ⟨a,ha⟩:=h i hi;exact ⟨a,fun _=>ha⟩
  ·exact ⟨default,fun h=>(hi h).elim⟩
 refine ⟨(List.range n).map fun i=>Classical.choose (hc i),by simp,fun i hi=>⟨Classical.choose (hc i),?_,Classical.choose_spec (hc i) hi⟩⟩
 rw [jd,List.getElem?_map,List.getElem?_range hi];rfl
instance instAX:Inhabited AstX:=⟨noX⟩
instance instAS:Inhabited AstS:=⟨.mk (bs []) [] noX [] [] 0⟩
theorem DU {F:Nat->Prop} {w:World} {bs:List BI} {es:List Sh} {n:Nat} {ρ ρ':Val} {v:Value} (h:CV.Rel F w bs (.sl es n ρ) v) (he:∀ i,i<n->∀ f s,nth es f=some s->cellOf s ((ρ'.at i).at f)=cellOf s ((ρ.at i).at f)):CV.Rel F w bs (.sl es n ρ') v:=by
 cases h with
 | slnil=>exact .slnil
 | sl val hn h0 hc hr=>exact .sl val hn h0 hc fun i f s hi hs=>by rw [he i hi f s hs];exact hr i f s hi hs
theorem jfv {F:Nat->Prop} {w:World} {bs:List BI} {n:Nat} {ρ:Val} {v:Value} (h:CV.Rel F w bs (.sl [.str] n ρ) v):∃ l:List ByteArray,l.length=n∧CV.Rel F w bs (.sl [.str] n (zj l)) v:=by
 obtain ⟨l,h1,h2⟩:=NL (P:=fun i a=>a=((ρ.at i).at 0).S []) (n:=n) fun i _=>⟨_,rfl⟩;refine ⟨l,h1,DU h fun i hi f s hs => ?_⟩;obtain ⟨a,ha,e⟩:=h2 i hi;cases f with
 | succ f=>cases hs
 | zero =>
   cases hs
   have:nth (l.map CV.str) (i*1+0)=some (.str a):=by
    rw [jd,List.getElem?_map,← jd,Nat.mul_one,Nat.add_zero,ha];rfl
   show CV.str (((match nth (l.map CV.str) (i*1+0) with | some x=>Val.ofC x | none=>Val.zero)).S [])=_
   rw [this,e];rfl
def Rw (l:List AstX):Val:=Val.ofFlat 3 ((AstX.dens l).flatMap RX.cells)
theorem jlR (es:List Sh) (n:Nat) (σ:Val) (i:Nat):(Val.ofC (.sl es n σ)).at i=σ.at i:=rfl
theorem V6 {F:Nat->Prop} {w:World} {bs:List BI} {es:List Sh} {n:Nat} {σ:Val} {v:Value} (h:CV.Rel F w bs (.sl es n σ) v):CV.Rel F w bs (.sl es n (Val.ofC (.sl es n σ))) v :=
 DU h fun i _ f s _=>by rw [jlR]
inductive BW:AstS->Prop where
 | mk {kd:ByteArray} {w:List ByteArray} {e:AstX} {b x:List AstS} {p:Int} (hw:w.length<=Z1) (hb:∀ y ∈ b,BW y) (hx:∀ y ∈ x,BW y):BW (.mk kd w e b x p)
theorem jko {F : Nat -> Prop} {w : World} {bs : List BI} {c : CV} {v : Value} (h : CV.Rel F w bs c v) :
  (∀ n ρ,c=.sl (jl 0) n ρ->∃ l:List AstX,l.length=n∧CV.Rel F w bs (.sl (jl 0) n (Rw l)) v) ∧
  (∀ n ρ,c=.sl (jl 1) n ρ->∃ l:List AstS,l.length=n∧CV.Rel F w bs (.sl (jl 1) n (jN (AstS.dens l))) v∧((∀ m,wfM m 1 n ρ)->∀ y ∈ l,BW y)):=by
 induction h with
 | slnil =>
   refine ⟨fun n ρ e => ?_,fun n ρ e => ?_⟩
   ·simp only [CV.sl.injEq] at e;obtain ⟨_,rfl,_⟩:=e;exact ⟨[],rfl,.slnil⟩
   ·simp only [CV.sl.injEq] at e;obtain ⟨_,rfl,_⟩:=e;exact ⟨[],rfl,.slnil,fun _ y hy=>by cases hy⟩
 | sl val hn h0 hc hr ih =>
   rename_i es n ρ cap a;refine ⟨fun n' ρ' e => ?_,fun n' ρ' e => ?_⟩
   ·simp only [CV.sl.injEq] at e;obtain ⟨rfl,rfl,rfl⟩:=e
    obtain ⟨l,h1,h2⟩:=NL (P:=fun i (x:AstX)=>∀ f s,nth (jl 0) f=some s->∀ c,nth x.den.cells f=some c->CV.Rel F w [] (cellOf s (.ofC c)) (val i f)) (n:=n) fun i hi=>by
     obtain ⟨l,hl,hk⟩:=(ih i 2 (.rt 0) hi rfl).1 _ _ rfl;refine ⟨.mk (((ρ.at i).at 0).S []) (((ρ.at i).at 1).N []) l,fun f s hs c hcl => ?_⟩
     match f,hs,hcl with
     | 0,hs,hcl=>cases hs;cases hcl;exact hr i 0 .str hi rfl
     | 1,hs,hcl=>cases hs;cases hcl;exact hr i 1 (.int .i64) hi rfl
     | 2, hs, hcl =>
       cases hs;cases hcl
       have:=V6 hk
       rw [← hl] at this;show CV.Rel F w [] (.sl (jl 0) (AstX.dens l).length (Val.ofC (.sl (jl 0) (AstX.dens l).length (Rw l)))) _;rw [kr];exact this
     | f+3,hs,_=>cases hs
    refine ⟨l,h1,.sl val hn h0 hc fun i f s hi hs => ?_⟩;obtain ⟨x,hx,hp⟩:=h2 i hi;have hd:nth (AstX.dens l) i=some x.den:=by rw [Ur,hx];rfl
    have hf:f<3:=jq hs
    have:=GK hd hf
    unfold Rw;rw [this];obtain ⟨c,hcell⟩ : ∃ c,nth x.den.cells f=some c:=⟨x.den.cells[f]'hf,by rw [jd];exact List.getElem?_eq_getElem hf⟩
    rw [hcell];exact hp f s hs c hcell
   ·simp only [CV.sl.injEq] at e;obtain ⟨rfl,rfl,rfl⟩:=e
    obtain ⟨l,h1,h2⟩:=NL (P:=fun i (x:AstS)=>((∀ m,wfM m 1 n ρ)->BW x)∧∀ f s,nth (jl 1) f=some s->∀ c,nth x.den.cells f=some c->CV.Rel F w [] (cellOf s (.ofC c)) (val i f)) (n:=n) fun i hi=>by
     obtain ⟨ws,hw,hk1⟩:=jfv (hr i 1 (.sl [.str]) hi rfl);obtain ⟨k,hl,hk⟩:=(ih i 4 (.rt 0) hi rfl).1 _ _ rfl;obtain ⟨b,hb,hk5,hw5⟩:=(ih i 5 (.rt 1) hi rfl).2 _ _ rfl;obtain ⟨x,hx,hk6,hw6⟩:=(ih i 6 (.rt 1) hi rfl).2 _ _ rfl;refine ⟨.mk (((ρ.at i).at 0).S []) ws (.mk (((ρ.at i).at 2).S []) (((ρ.at i).at 3).N []) k) b x (((ρ.at i).at 7).N []),fun hm=>.mk (by rw [hw];exact (hm 1).2 i hi 1 (.sl [.str]) rfl) (hw5 fun m=>(hm (m+1)).2 i hi 5 (.rt 1) rfl) (hw6 fun m=>(hm (m+1)).2 i hi 6 (.rt 1) rfl),fun f s hs c hcl => ?_⟩
     match f,hs,hcl with
     | 0,hs,hcl=>cases hs;cases hcl;exact hr i 0 .str hi rfl
     | 1, hs, hcl =>
       cases hs;cases hcl
       have:=V6 hk1
       rw [← hw] at this;exact this
     | 2,hs,hcl=>cases hs;cases hcl;exact hr i 2 .str hi rfl
     | 3,hs,hcl=>cases hs;cases hcl;exact hr i 3 (.int .i64) hi rfl
     | 4, hs, hcl =>
       cases hs;cases hcl
       have:=V6 hk
       rw [← hl] at this;show CV.Rel F w [] (.sl (jl 0) (AstX.dens k).length (Val.ofC (.sl (jl 0) (AstX.dens k).length (Rw k)))) _;rw [kr];exact this
     | 5, hs, hcl =>
       cases hs;cases hcl
       have:=V6 hk5
       rw [← hb] at this;show CV.Rel F w [] (.sl (jl 1) (AstS.dens b).length (Val.ofC (.sl (jl 1) (AstS.dens b).length (jN (AstS.dens b))))) _;rw [QS];exact this
     | 6, hs, hcl =>
       cases hs;cases hcl
       have:=V6 hk6
       rw [← hx] at this;show CV.Rel F w [] (.sl (jl 1) (AstS.dens x).length (Val.ofC (.sl (jl 1) (AstS.dens x).length (jN (AstS.dens x))))) _;rw [QS];exact this
     | 7,hs,hcl=>cases hs;cases hcl;exact hr i 7 (.int .i64) hi rfl
     | f+8,hs,_=>cases hs
    refine ⟨l,h1,.sl val hn h0 hc fun i f s hi hs => ?_,fun hm y hy => ?_⟩
    rotate_left
    ·obtain ⟨k,hk⟩:=kR hy;obtain ⟨x,hx,hp,_⟩:=h2 k (by rw [← h1];exact jq hk)
     rw [hk] at hx;cases hx;exact hp hm
    obtain ⟨x,hx,_,hp⟩:=h2 i hi;have hd:nth (AstS.dens l) i=some x.den:=by rw [Gq,hx];rfl
    have hf:f<8:=jq hs
    have:=YZ hd hf
    rw [this];obtain ⟨c,hcell⟩ : ∃ c,nth x.den.cells f=some c:=⟨x.den.cells[f]'hf,by rw [jd];exact List.getElem?_eq_getElem hf⟩
    rw [hcell];exact hp f s hs c hcell
 | _=>exact ⟨fun n ρ e=>(by cases e),fun n ρ e=>(by cases e)⟩
theorem t64 (n:Nat):ja n=(n:Int):=rfl
mutual
def ndX:AstX->Nat
 | .mk _ _ l=>1+LG l
def LG:List AstX->Nat
 | []=>0
 | a::r=>ndX a+LG r
end
mutual
def ndS:AstS->Nat
 | .mk _ w e b x _=>1+w.length+ndX e+yr b+yr x
def yr:List AstS->Nat
 | []=>0
 | a::r=>ndS a+yr r
end
theorem Vj {α:Type}:∀ {l:List α} {i:Nat} {a:α},nth l i=some a->l.drop i=a::l.drop (i+1)
 | [],i,a,h=>by simp [nth] at h
 | b :: r, 0, a, h => by have : b = a := by simpa [nth] using h
                         subst this;rfl
 | b::r,i+1,a,h=>Vj (l:=r) (i:=i) h
def jo5 (f:Nat) (R:RF) (e:AstX):Prop:=∀ (y:RX) (d:Int),QO e y->0<=d->d<=300->d<f->∃ r,R y d=some r∧r<=d - 1∧(0<=r->(ndX e:Int)=d - r)
theorem I1 {f : Nat} {R : RF} {op : ByteArray} {v : Int} {l : List AstX} {y : RX} (hy : QO (.mk op v l) y) (hR : ∀ e ∈ l, jo5 f R e) : ∀ (k i : Nat) (d : Int), i <= l.length -> l.length + 1 <= k + i -> d <= 300 -> d < f -> (0 <= d -> (i : Int) + d <= 400) ->
  ∃ r,Xn R l.length y.ρ k d (i:Int)=some r∧r<=d∧(0<=r->(LG (l.drop i):Int)=d - r)
 | 0,i,d,h1,h2,_,_,_=>by omega
 | k + 1, i, d, h1, h2, h3, h4, h5 => by
   unfold Xn;cases hg:YD l.length d (i:Int) with
  | false =>
    refine ⟨d,rfl,Int.le_refl _,fun h => ?_⟩;unfold YD at hg;cases hl:lt (i:Int) (ja l.length) with
   | true =>
     rw [hl] at hg
     have:le 0 d=true:=Je.2 h
     rw [cond_true,this] at hg;cases hg
   | false =>
     have:¬ ((i:Int)<ja l.length):=fun h=>by rw [yg.2 h] at hl;cases hl
     simp only [t64] at this;have e:l.drop i=[]:=List.drop_of_length_le (by omega)
     rw [e];show ((0:Nat):Int)=_;omega
  | true =>
    unfold YD at hg;cases hl:lt (i:Int) (ja l.length) with
   | false=>rw [hl] at hg;cases hg
   | true =>
     rw [hl] at hg;have hd:0<=d:=Je.1 hg;have hi:i<l.length:=by have:=yg.1 hl;simp only [t64] at this;omega
     obtain ⟨a,ha⟩:=qV l i hi;obtain ⟨r,hr,hr1,hr2⟩:=hR a (Ja ha) (jR y.ρ i) d (Zz hy ha) hd h3 h4
     have:=h5 hd
     rw [cond_true,inR hi,Int.toNat_natCast,hr,zp (by omega)]
     obtain ⟨q,hq,hq1,hq2⟩:=I1 hy hR k (i+1) r (by omega) (by omega) (by omega) (by omega) (fun _=>by omega)
     refine ⟨q,hq,by omega,fun h => ?_⟩
     rw [Vj ha];have h6:=hq2 h;have h7:=hr2 (by omega)
     show ((ndX a+LG (l.drop (i+1)):Nat):Int)=_;omega
theorem jlr:∀ (f:Nat) (e:AstX) (y:RX) (d:Int),QO e y->-1000000000000000000<=d->d<=300->d<f->0<f->∃ r,V9 f y d=some r∧r<=d - 1∧(0<=r->(ndX e:Int)=d - r)
 | 0,e,y,d,_,_,_,_,h=>by omega
 | f + 1, .mk op v l, y, d, hy, h0, h1, h2, _ => by
   have hn:y.n=l.length:=hy.2.2.1.trans (kr l);show ∃ r,Xn (V9 f) y.n y.ρ (y.n+1) (IntKind.wrap .i64 (d - 1)) 0=some r∧_;rw [hn,Ro.w64_id (by omega) (by omega)]
   obtain ⟨r,hr,hr1,hr2⟩:=I1 (f:=f) (R:=V9 f) hy (fun e _ z dz hz h3 h4 h5=>jlr f e z dz hz (by omega) h4 h5 (by omega)) (l.length+1) 0 (d - 1) (by omega) (by omega) (by omega) (by omega) (fun _=>by omega)
   refine ⟨r,hr,hr1,fun h => ?_⟩
   have:=hr2 h
   show ((1+LG l:Nat):Int)=_;rw [List.drop_zero] at this;omega
theorem OQ {n i:Nat} {s:RS} (hi:i<n):∀ (k j:Nat),j<=s.wn->s.wn+1<=k+j->j<=300->∃ b,Zc n (i:Int) s k (j:Int)=some b∧(b=true->∀ u,j<=u->u<s.wn->u<300->(wAt s.wρ u).size<=60)
 | 0,j,h1,h2,_=>by omega
 | k + 1, j, h1, h2, h3 => by
   unfold Zc;rw [inR hi];cases hg:goW s (j:Int) with
  | false =>
    refine ⟨true,rfl,fun _ u hu1 hu2 hu3 => ?_⟩
    exfalso
    have a1:lt (j:Int) (ja s.wn)=true:=yg.2 (by rw [t64];omega)
    have a2:lt (j:Int) 300=true:=yg.2 (by omega)
    unfold goW at hg;rw [a1,a2] at hg;cases hg
  | true =>
    unfold goW at hg;cases a1:lt (j:Int) (ja s.wn) with
   | false=>rw [a1] at hg;cases hg
   | true =>
     rw [a1] at hg;have a2:=yg.1 hg;have hj:j<s.wn:=by have:=yg.1 a1;simp only [t64] at this;omega
     rw [inR hj,zp (by omega)]
     cases hz:lt 60 (wsz s (j:Int)) with
    | true=>exact ⟨false,rfl,fun h=>by cases h⟩
    | false =>
      obtain ⟨b,hb,hb2⟩:=OQ (s:=s) hi k (j+1) (by omega) (by omega) (by omega)
      refine ⟨b,hb,fun h u hu1 hu2 hu3 => ?_⟩;rcases Nat.eq_or_lt_of_le hu1 with e | e
      ·subst e
       have:¬ (60<wsz s (j:Int)):=fun h=>by rw [yg.2 h] at hz;cases hz
       unfold wsz at this;simp only [t64] at this;rw [Int.toNat_natCast] at this;omega
      ·exact hb2 h u e hu2 hu3
inductive SmS:AstS->Prop where
 | mk {kd:ByteArray} {w:List ByteArray} {e:AstX} {b x:List AstS} {p:Int} (hw:∀ u ∈ w,u.size<=60) (hb:∀ y ∈ b,SmS y) (hx:∀ y ∈ x,SmS y):SmS (.mk kd w e b x p)
theorem Mw (e:AstX):1<=ndX e:=by
 obtain ⟨op,v,l⟩:=e;show 1<=1+LG l;omega
theorem jhA (t:AstS):2<=ndS t:=by
 obtain ⟨kd,w,e,b,x,p⟩:=t
 have:=Mw e
 show 2<=1+w.length+ndX e+yr b+yr x;omega
theorem GB:∀ {l:List AstS} {t:AstS},t ∈ l->ndS t<=yr l
 | [],_,h=>by cases h
 | a :: r, t, h => by
   show ndS t<=ndS a+yr r;rcases List.mem_cons.1 h with rfl | h
   ·omega
   ·have:=GB h;omega
theorem Hr:∀ l:List AstS,l.length<=yr l
 | []=>lRq _
 | a :: r => by
   have:=jhA a
   have:=Hr r
   show r.length+1<=ndS a+yr r;omega
theorem DV.mono:∀ {k:Nat} {t:AstS},DV k t->∀ {k'},k<=k'->DV k' t:=by
 intro k e h
 induction h with
 | mk hw hu hb hb' hx hx' ihb ihx =>
   intro k' hk
   match k',hk with
  | k'+1,hk=>exact .mk (by omega) hu (by omega) (fun y hy=>ihb y hy (Nat.le_of_succ_le_succ hk)) (by omega) (fun y hy=>ihx y hy (Nat.le_of_succ_le_succ hk))
theorem SmS.dw {t:AstS} (h:SmS t):DV (ndS t) t:=by
 induction h with
 | mk hw hb hx ihb ihx =>
   rename_i kd w e b x p;have e1:ndS (.mk kd w e b x p)=(w.length+ndX e+yr b+yr x)+1:=by show 1+w.length+ndX e+yr b+yr x=_;omega
   rw [e1]
   have:=Hr b
   have:=Hr x
   refine .mk (by omega) (fun u hu => ?_) (by omega) (fun y hy=>(ihb y hy).mono (by have:=GB hy;omega)) (by omega) fun y hy=>(ihx y hy).mono (by have:=GB hy;omega)
   have:=hw u hu
   show u.size<=10000;omega
abbrev jlz (R:RFB) (e:Int) (l:List AstS):Prop:=∀ ρ (d:Int),LieL l ρ->d<=300->∃ r,R l.length ρ d e=some r∧(0<=r->(yr l:Int)=d - r∧∀ t ∈ l,SmS t)
def jpv (Q:List AstS->Prop):AstS->Prop
 | .mk _ _ _ b x _=>Q b∧Q x
theorem Uw {X : RF} (hX : ∀ a y d, QO a y -> -1000000000000000000 <= d -> d <= 300 -> ∃ r, X y d = some r ∧ r <= d - 1 ∧ (0 <= r -> (ndX a : Int) = d - r)) {R : RFB} {l : List AstS} {ρ : Val} (hl : LieL l ρ) {e : Int}
  (hR:∀ t ∈ l,jpv (jlz R (IntKind.wrap .i64 (e+1))) t) (hw:∀ t ∈ l,BW t):∀ (k i:Nat) (d:Int),i<=l.length->l.length+1<=k+i->d<=300->(0<=d->(i:Int)+d<=400) ->
  ∃ o,Jj X R l.length ρ e k d (i:Int)=some o∧(o.1=true->0<=o.2->(yr (l.drop i):Int)=d - o.2∧∀ t ∈ l.drop i,SmS t)
 | 0,i,d,h1,h2,_,_=>by omega
 | k + 1, i, d, h1, h2, h3, h5 => by
   unfold Jj;cases hg:YD l.length d (i:Int) with
  | false =>
    refine ⟨(true,d),rfl,fun _ h => ?_⟩;unfold YD at hg;cases hl:lt (i:Int) (ja l.length) with
   | true =>
     rw [hl] at hg
     have:le 0 d=true:=Je.2 h
     rw [cond_true,this] at hg;cases hg
   | false =>
     have:¬ ((i:Int)<ja l.length):=fun h=>by rw [yg.2 h] at hl;cases hl
     simp only [t64] at this;have e:l.drop i=[]:=List.drop_of_length_le (by omega)
     rw [e];refine ⟨?_,fun t ht=>by cases ht⟩
     show ((0:Nat):Int)=d - d;omega
  | true =>
    unfold YD at hg;cases hlt:lt (i:Int) (ja l.length) with
   | false=>rw [hlt] at hg;cases hg
   | true =>
     rw [hlt] at hg;have hd:0<=d:=Je.1 hg;have hi:i<l.length:=by have:=yg.1 hlt;simp only [t64] at this;omega
     obtain ⟨t,ht⟩:=qV l i hi;have hm:=Ja ht;have hRt:=hR t hm;have hwt:=hw t hm;obtain ⟨kd,w,c,b,x,p⟩:=t;obtain ⟨hRb,hRx⟩:=hRt;have hwl:w.length<=Z1:=by cases hwt with | mk h _ _=>exact h
     unfold Z1 at hwl;obtain ⟨a1,a2,a3,a4,a5,a6,a7,a8,a9⟩:=Zf hl ht;have hid:=h5 hd
     have hd1:d1 (jg ρ i) d=d - 1 - w.length:=by
      unfold d1;rw [a2,Ro.w64_id (x:=d - 1) (by omega) (by omega)]
      rw [t64,Ro.w64_id (by omega) (by omega)]
     obtain ⟨ra,hra,hra1,hra2⟩:=hX c (jg ρ i).cond (d - 1 - w.length) (by rw [a4];exact ⟨rfl,rfl,rfl,fun _=>rfl⟩) (by omega) (by omega)
     obtain ⟨wb,hwb,hwb2⟩:=OQ (s:=jg ρ i) hi ((jg ρ i).wn+1) 0 (by omega) (by omega) (by omega)
     obtain ⟨rb,hrb,hrb2⟩:=hRb (jg ρ i).bρ ra a6 (by omega)
     rw [cond_true,inR hi,Int.toNat_natCast,hd1,hra];unfold w17;rw [show ((0:Nat):Int)=0 from rfl] at hwb;simp only [nd,cond_true,Option.bind];rw [hwb,a5,a7,hrb];cases wb with
    | false=>exact ⟨(false,ra),rfl,fun h=>by cases h⟩
    | true =>
      simp only [cond_true]
      have hwords:0<=ra->∀ u ∈ w,u.size<=60:=fun h u hu=>by
       obtain ⟨j,hj⟩:=kR hu;have hjl:=jq hj;have h7:=hwb2 rfl j (by omega) (by rw [a2];exact hjl) (by omega)
       rw [a3] at h7
       have h8:wAt (.ofC (.sl [.str] w.length (zj w))) j=u:=by
        show (((zj w).at j).at 0).S []=u;rw [JW w j u hj];rfl
       rw [h8] at h7;exact h7
      cases hb0:le 0 rb with
     | false =>
       simp only [cond_false];have hb0':¬ (0<=rb):=fun h=>by rw [Je.2 h] at hb0;cases hb0
       rw [zp (by omega)]
       obtain ⟨o,ho,ho2⟩:=Uw hX hl hR hw k (i+1) rb (by omega) (by omega) (by omega) (fun h=>(hb0' h).elim)
       refine ⟨o,ho,fun h6 h7 => ?_⟩
       have:=(ho2 h6 h7).1
       omega
     | true =>
       simp only [cond_true];have hb0':=Je.1 hb0;obtain ⟨hb3,hb4⟩:=hrb2 hb0';obtain ⟨rx,hrx,hrx2⟩:=hRx (jg ρ i).eρ rb a8 (by omega)
       rw [hrx];simp only;rw [zp (by omega)]
       rcases Int.lt_or_le rx 0 with hx0 | hx0
       ·obtain ⟨o,ho,ho2⟩:=Uw hX hl hR hw k (i+1) rx (by omega) (by omega) (by omega) (fun h=>by omega)
        refine ⟨o,ho,fun h6 h7 => ?_⟩
        have:=(ho2 h6 h7).1
        omega
       ·obtain ⟨hx3,hx4⟩:=hrx2 hx0;obtain ⟨o,ho,ho2⟩:=Uw hX hl hR hw k (i+1) rx (by omega) (by omega) (by omega) (fun h=>by omega)
        refine ⟨o,ho,fun h6 h7 => ?_⟩;obtain ⟨g1,g2⟩:=ho2 h6 h7;have hra0:0<=ra:=by omega
        have hra3:=hra2 hra0;rw [Vj ht];refine ⟨?_,fun y hy => ?_⟩
        ·show ((1+w.length+ndX c+yr b+yr x+yr (l.drop (i+1)):Nat):Int)=_;omega
        ·rcases List.mem_cons.1 hy with rfl | hy
         ·exact .mk (hwords hra0) hb4 hx4
         ·exact g2 y hy
theorem BW.sub {kd:ByteArray} {w:List ByteArray} {e:AstX} {b x:List AstS} {p:Int} (h:BW (.mk kd w e b x p)):(∀ y ∈ b,BW y)∧∀ y ∈ x,BW y:=by
 cases h with | mk _ h1 h2=>exact ⟨h1,h2⟩
theorem jap {f:Nat} (hf:301<=f):∀ (D:Nat) (l:List AstS) (e:Nat),(∀ t ∈ l,BW t)->e<=31->32<=D+e->jlz (fbF f D) (e:Int) l
 | 0,l,e,_,h1,h2=>by omega
 | D + 1, l, e, hw, h1, h2 => by
   intro ρ d hl hd;show ∃ r,(bif lt 30 (e:Int) then some (-1) else fbV (Jj (V9 f) (fbF f D) l.length ρ (e:Int) (l.length+1) d 0))=some r∧_;cases he:lt 30 (e:Int) with
  | true=>exact ⟨-1,rfl,fun h=>by omega⟩
  | false =>
    have he':¬ (30<(e:Int)):=fun h=>by rw [yg.2 h] at he;cases he
    simp only [cond_false]
    obtain ⟨o,ho,ho2⟩:=Uw (X:=V9 f) (R:=fbF f D) (fun a y d hy h3 h4=>jlr f a y d hy h3 h4 (by omega) (by omega)) hl (e:=(e:Int)) (fun t ht=>by
     obtain ⟨kd,w,c,b,x,p⟩:=t
     have:=(hw _ ht).sub
     rw [zp (by omega)]
     exact ⟨jap hf D b (e+1) this.1 (by omega) (by omega),jap hf D x (e+1) this.2 (by omega) (by omega)⟩) hw (l.length+1) 0 d (by omega) (by omega) hd (fun _=>by omega)
    rw [show ((0:Nat):Int)=0 from rfl] at ho;rw [ho];obtain ⟨b,r⟩:=o;cases b with
   | false=>exact ⟨-1,rfl,fun h=>by omega⟩
   | true =>
     refine ⟨r,rfl,fun h => ?_⟩
     have:=ho2 rfl h
     rw [List.drop_zero] at this;exact this
end Go.Proofs.YtiefjlcakpdfeaaGreatDoor