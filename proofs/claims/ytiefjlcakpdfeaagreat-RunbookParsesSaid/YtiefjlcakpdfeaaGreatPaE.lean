/-
 Part PaE of the proof: EngR EngS EngT EngTc.
-/
import Derived.Test.YtiefjlcakpdfeaaGreatPaD
namespace Go.Sx
open Go Go.RowKit
section
variable {P:Program}
theorem jdZ {n i:Nat} (a b:Val) (h:i<n):(Val.cat n a b).at i=a.at i:=by
 show yI (Nat.blt i n) _ _=_
 have:Nat.blt i n=true:=Nat.blt_eq.mpr h
 rw [this];rfl
theorem jos {n i:Nat} (a b:Val) (h:¬ i<n):(Val.cat n a b).at i=b.at (i - n):=by
 show yI (Nat.blt i n) _ _=_
 have:Nat.blt i n=false:=by
  cases hb:Nat.blt i n
  ·rfl
  ·exact absurd (Nat.blt_eq.mp hb) h
 rw [this];rfl
theorem Ma {F w} {es : List Sh} {n m : Nat} {ρ σ : Val} {v1 v2 : Nat -> Nat -> Value} (h1 : ∀ i f s, i < n -> nth es f = some s -> CV.Rel F w [] (cellOf s ((ρ.at i).at f)) (v1 i f)) (h2 : ∀ i f s, i < m -> nth es f = some s -> CV.Rel F w [] (cellOf s ((σ.at i).at f)) (v2 i f)) :
  ∀ i f s,i<n+m->nth es f=some s->CV.Rel F w [] (cellOf s (((Val.cat n ρ σ).at i).at f)) (if i<n then v1 i f else v2 (i - n) f):=by
 intro i f s hi hf;by_cases h:i<n
 ·rw [jdZ ρ σ h,if_pos h];exact h1 i f s h hf
 ·rw [jos ρ σ h,if_neg h];exact h2 _ f s (by omega) hf
theorem Oo {k n m:Nat} {v1 v2:Nat->Nat->Value} {i f:Nat} (hi:i<n+m) (hf:f<k):(qw k n v1++qw k m v2)[i*k+f]? = some (if i<n then v1 i f else v2 (i - n) f):=by
 by_cases h:i<n
 ·rw [if_pos h,List.getElem?_append_left (by rw [qm];exact X5 h hf),GB h hf]
 ·rw [if_neg h];have hle:n*k<=i*k:=Nat.mul_le_mul_right _ (by omega)
  rw [List.getElem?_append_right (by rw [qm];omega),qm]
  have:i*k+f - n*k=(i - n)*k+f:=by rw [Nat.sub_mul];omega
  rw [this,GB (by omega) hf]
theorem jbZ (w:World):Below w.heap.size w w.drew:=Below.drew (Below.refl _ _)
theorem M3 {F w bs mem} (hm : MemRel P F w bs mem) {t ty e : TypeId} {j : TypeInfo} {z : Value} (ht : P.underlying t = some (.slice e)) (hj : P.info? e = some j) (hz : j.zero = some z) (hzs : z.cells.size = j.size) (hby : 0 < j.bytes)
  {es:List Sh} (hes:es.length=j.size) {n m:Nat} {σ τ:Val} {base:Option Addr} {cap:Nat} {u:Value} {v1 v2:Nat->Nat->Value}
  (hold:(Builtin.firstCells j.size n (.slice base n cap)).run P w.drew=.ok (qw j.size n v1).toArray w.drew) (hτ:∀ i f s,i<n+m->nth es f=some s->CV.Rel F w [] (cellOf s ((τ.at i).at f)) (if i<n then v1 i f else v2 (i - n) f))
  (hs:SrcOk P F w j.size t es m σ u v2) (hg:cap<n+m) (hlim:(n+m)*j.bytes<=140737488355328) :
  ∃ F' w' bs' v,Ext bs.length F w bs F' w' bs'∧MemRel P F' w' bs' (mem++[some (e,[.row false es (n+m) τ])])∧CV.Rel F' w' bs' (.os mem.length j.size) v∧(Builtin.append_ #[t,t] ty #[.slice base n cap,u]).run P w=.ok v w':=by
 have hsmall:n+m<=140737488355328:=Nat.le_trans (Nat.le_mul_of_pos_right _ hby) hlim;have hmax:n+m<=maxLen:=by simp only [maxLen];omega
 have hrun:=run_append_grow_src (P:=P) w t t ty e j z ht hj hz base n cap (qw j.size n v1) hold u m (qw j.size m v2) hs.src hg (by omega) (growslice_fits hg hlim)
 have hb:=jbZ w;have hm':=hm.below hb;have hge:=grownCap_ge w (n+m) cap e
 obtain ⟨F',he,hm2⟩:=hm'.lay (e:=e) (es:=es) (n:=n+m) (cap:=grownCap w (n+m) cap e) (ρ:=τ) (arr:=(qw j.size n v1++qw j.size m v2).toArray++Builtin.zeroCells z.cells (grownCap w (n+m) cap e - (n+m)))
  hge (grownCap_le_maxLen w (n+m) cap e hmax) (by
   simp only [Array.size_append,List.size_toArray,List.length_append,qm,size_zeroCells,hzs,← Nat.add_mul,hes];congr 1;omega) (fun i f=>if i<n then v1 i f else v2 (i - n) f) (fun i f hi hf=>by
   rw [hes] at hf ⊢;have hlt:i*j.size+f<(n+m)*j.size:=X5 hi hf;rw [Array.getElem?_append_left (by simp only [List.size_toArray,List.length_append,qm,← Nat.add_mul];exact hlt)]
   rw [List.getElem?_toArray];exact Oo hi hf) (fun i f s hi hf=>(hτ i f s hi hf).grow (Ext.of_below (K:=0) (F:=F) (bs:=[]) hb).grow0)
 refine ⟨F',_,_,_,(Ext.of_below (F:=F) (bs:=bs) hb).trans he (lRq _),hm2,?_,hrun⟩;exact CV.Rel.os (x:=⟨w.heap.size,n+m,grownCap w (n+m) cap e⟩) (by rw [← hm.len];exact jy _ _) (fun _=>rfl)
theorem OI {F w bs mem} (hm : MemRel P F w bs mem) {t ty : TypeId} {a x : A1} {v u : Value} {r : AV} {mem' : Mem} (h : (ZZ P mem t a x).sel = some (r, mem')) (ha : A1.Rel F w bs a v) (hx : A1.Rel F w bs x u) :
  ∃ F' w' bs' z,Ext bs.length F w bs F' w' bs'∧MemRel P F' w' bs' mem'∧r.Rel F' w' bs' z∧(Builtin.append_ #[t,t] ty #[v,u]).run P w=.ok z w':=by
 unfold ZZ at h;split at h
 ·rename_i e ht;split at h
  ·rename_i j z hj hz;split at h
   ·simp [Tree.sel] at h
   ·rename_i hcond;simp only [Bool.not_eq_true',Bool.not_eq_false,aTq,Nat.blt_eq,beq_iff_eq] at hcond;obtain ⟨⟨hsz,hby⟩,hzl⟩:=hcond
    obtain ⟨zv,hzv,hzs⟩ : ∃ zv,j.zero=some zv∧zv.cells.size=j.size:=by
     unfold jV at hz;simp only [hj] at hz;split at hz
     ·rename_i zv hzv
      have:=(yU (F:=F) (w:=w) (bs:=bs) hz).length
      simp at this;exact ⟨zv,hzv,by omega⟩
     ·simp at hz
    split at h
    ·
     simp only [Tree.sel,sIq,pIq] at h;obtain ⟨rfl,rfl⟩:=h;cases ha;cases hx;exact ⟨F,w,bs,_,Ext.refl,hm,CV.Rel.nils,Z5 ht hj none 0 0 (lRq _) (Src.ofNil w ht 0)⟩
    ·
     rename_i b sz;split at h
     ·rename_i q hrow;obtain ⟨T,fz,es,n,ρ⟩:=q;simp only [Tree.sel,sIq,pIq] at h;obtain ⟨rfl,rfl⟩:=h;cases hx;cases ha with
      | os hb hbase =>
        rename_i y base;refine ⟨F,w,bs,_,Ext.refl,hm,CV.Rel.os hb hbase,Z5 ht hj base y.n y.cap ?_ (Src.ofNil w ht 0)⟩;have hr:=hm.row b T fz es n ρ y (j7 hrow) hb;rw [hr.len];exact hr.le
     ·simp [Tree.sel] at h
    ·
     split at h
     ·rename_i es m σ hs;split at h
      ·rename_i hes;simp only [Tree.sel] at h;cases hlim:Nat.ble (m*j.bytes) 140737488355328<;>simp [hlim] at h;obtain ⟨rfl,rfl⟩:=h;have hes:es.length=j.size:=by simpa using hes
       have hlim:=Nat.ble_eq.mp hlim;cases ha;obtain ⟨val,hsrc⟩:=jih hm ht hs hes hx;rcases Nat.eq_zero_or_pos m with h0 | h0
       ·obtain ⟨he,hm2⟩:=hm.lay0 e es h0 σ;subst h0;have hfl:qw j.size 0 val=[]:=by simp [qw]
        have hsr:=hsrc.src;rw [hfl] at hsr;exact ⟨F,w,_,_,he,hm2,CV.Rel.os (x:=⟨w.heap.size,0,0⟩) (by rw [← hm.len];exact jy _ _) (fun h=>by simp at h),Z5 ht hj none 0 0 (lRq _) hsr⟩
       ·have hfl:qw j.size 0 val=[]:=by simp [qw]
        have:=M3 (P:=P) hm (ty:=ty) ht hj hzv hzs hby hes (n:=0) (m:=m) (σ:=σ) (τ:=σ) (base:=none) (cap:=0) (v1:=val) (by rw [hfl];exact run_firstCells_none _ _ _ _ _) (fun i f s hi hf=>by rw [if_neg (by omega),Nat.sub_zero];exact hsrc.rel i f s (by omega) hf) hsrc (by omega) (by simpa using hlim)
        obtain ⟨F',w',bs',v,he,hm2,hr,hrun⟩:=this;refine ⟨F',w',bs',v,he,?_,hr,hrun⟩;rwa [Nat.zero_add] at hm2
      ·simp [Tree.sel] at h
     ·simp [Tree.sel] at h
    ·
     rename_i b sz hnn;split at h
     ·rename_i T es n ρ es' m σ hrow hs;split at h
      ·rename_i hcond;simp only [aTq,beq_iff_eq] at hcond;obtain ⟨⟨⟨⟨hT,hes⟩,hsz'⟩,hse⟩,hbb⟩:=hcond;subst hT;have hse:=jm hse;subst hse;simp only [Tree.sel] at h;cases hlim:Nat.ble ((n+m)*j.bytes) 140737488355328<;>simp [hlim] at h;obtain ⟨rfl,rfl⟩:=h;have hlim:=Nat.ble_eq.mp hlim;obtain ⟨val,hsrc⟩:=jih hm ht hs hes hx;have hrow:=j7 hrow;cases ha with
       | os hb hbase =>
         rename_i y base;have hr:=hm.row b T false es n ρ y hrow hb;have hn:=hr.len;have hkill:=hm.kill b;have hlen:(jl mem b none).length=mem.length:=j0 _ _ _
         have hle:y.n<=y.cap:=by
          rw [hn];exact hr.le
         by_cases hg:y.cap<n+m
         ·
          have hold:∃ v1,(Builtin.firstCells j.size n (.slice base n y.cap)).run P w.drew=.ok (qw j.size n v1).toArray w.drew∧∀ i f s,i<n->nth es f=some s->CV.Rel F w [] (cellOf s ((ρ.at i).at f)) (v1 i f):=by
           rcases Nat.eq_zero_or_pos n with h0 | h0
           ·subst h0;have hfl:qw j.size 0 val=[]:=by simp [qw]
            refine ⟨val,?_,fun i f s hi=>by omega⟩
            rw [hfl];cases base with
            | none=>exact run_firstCells_none _ _ _ _ _
            | some a=>exact run_firstCells_some _ j.size 0 a 0 y.cap [] (by simp) (by simp)
           ·obtain ⟨arr,ha,hs',v1,h3,h4⟩:=hr.block h0;have hbs:=hbase (hr.room h0);subst hbs;refine ⟨v1,run_firstCells_some _ j.size n _ n y.cap _ (qm _ _ _) (fun q z hq => ?_),h4⟩;obtain ⟨i,f,hi,hf,rfl,rfl⟩:=KS hq;rw [addr_eq rfl];show World.cell? w.drew ⟨y.p,0+(i*j.size+f),none⟩=_;rw [cell_of_row w.drew y.p _ arr T _ ha,Nat.zero_add,← hes];exact h3 i f hi (by omega)
          obtain ⟨v1,hold,h1⟩:=hold
          have:=M3 (P:=P) hkill (ty:=ty) ht hj hzv hzs hby hes hold (Ma h1 hsrc.rel) hsrc hg hlim
          rw [hlen] at this;obtain ⟨F',w',bs',v,he,hm2,hr2,hrun⟩:=this;exact ⟨F',w',bs',v,he,hm2,hr2,by rw [hn];exact hrun⟩
         ·
          rcases Nat.eq_zero_or_pos m with h0 | h0
          ·
           subst h0;have hfl:qw j.size 0 val=[]:=by simp [qw]
           have hsr:=hsrc.src;rw [hfl] at hsr;have hrel:∀ i f s v,i<n->CV.Rel F w [] (cellOf s ((ρ.at i).at f)) v->CV.Rel F w [] (cellOf s (((Val.cat n ρ σ).at i).at f)) v:=fun i f s v hi h=>by rw [jdZ ρ σ hi];exact h
           refine ⟨F,w,bs++[y],_,Ext.refl.push (.inl ⟨y,jO hb,rfl⟩),hkill.push y (fun hl => ?_) (fun hl => ?_) (fun h=>by simp [jf] at h) (fun fz' es' n' ρ' h => ?_),CV.Rel.os (x:=y) (by rw [← hlen,← hkill.len];exact jy _ _) hbase,Z5 ht hj base y.n y.cap hle hsr⟩
           ·exact hm.loc b y T _ hb hrow ⟨rfl,hl.2⟩
           ·exact hm.rewrite_inj hb hrow ⟨rfl,hl.2⟩
           ·simp at h;obtain ⟨rfl,rfl,rfl,rfl⟩:=h;refine ⟨by simpa using hn,by simpa using hr.le,hr.mx,fun h0 => ?_,fun _ h=>by cases h⟩
            obtain ⟨arr,ha,hs',v1,h3,h4⟩:=hr.blk h0;exact ⟨arr,ha,hs',v1,h3,fun i f s hi hf=>hrel i f s _ hi (h4 i f s hi hf)⟩
          ·have hn0:0<y.cap:=by omega
           obtain ⟨arr,ha,hs',v1,h3,h4⟩:=hr.blk hn0;have hbs:=hbase hn0;subst hbs;obtain ⟨ad,c,rfl,hcell⟩:=hsrc.addr h0
           have hfit:n*j.size+(qw j.size m val).length<=arr.size:=by
            rw [qm,hs',hes,← Nat.add_mul];exact Nat.mul_le_mul_right _ (by omega)
           have hrun:=run_append_room (P:=P) w t ty T j ht hj y.p n y.cap arr ha ad m c (qw j.size m val) (qm _ _ _) hcell hsrc.src.one (by omega) hfit
           have hlive:jM y [CV.row false es n ρ]:=⟨rfl,hn0⟩;obtain ⟨he,hm2⟩:=hm.rewrite hb hrow hlive (arr.toList.take (n*j.size)++qw j.size m val++arr.toList.drop (n*j.size+(qw j.size m val).length)).toArray;have hF:=hm.loc b y T _ hb hrow hlive;have hinj:=hm.rewrite_inj hb hrow hlive
           refine ⟨F,_,bs++[⟨y.p,n+m,y.cap⟩],_,he.push (.inl ⟨y,jO hb,rfl⟩),hm2.push ⟨y.p,n+m,y.cap⟩ (fun _=>⟨hF.1,by simpa [World.setRow] using hF.2⟩) (fun _=>hinj) (fun h=>by simp [jf] at h) (fun fz' es' n' ρ' h => ?_),
            CV.Rel.os (x:=⟨y.p,n+m,y.cap⟩) (by rw [← hlen,← hkill.len];exact jy _ _) (fun _=>rfl),by rw [hn];exact hrun⟩
           simp at h;obtain ⟨rfl,rfl,rfl,rfl⟩:=h;refine ⟨rfl,by simp only;omega,hr.mx,fun _=>⟨_,setRow_heap w y.p _ _ _ _ ha,?_,fun i f=>if i<n then v1 i f else val (i - n) f,fun i f hi hf => ?_,fun i f s hi hf => ?_⟩,fun _ h=>by cases h⟩
           ·simp only [List.size_toArray,List.length_append,List.length_take,List.length_drop,Array.length_toList];omega
           ·have hpre : arr.toList.take (n * j.size) = qw j.size n v1 := by
             apply List.ext_getElem?;intro q;rcases Nat.lt_or_ge q (n*j.size) with hq | hq
             ·rw [List.getElem?_take,if_pos hq];have hk:0<j.size:=hsz;have hdm:q=q / j.size*j.size+q % j.size:=by rw [Nat.mul_comm];exact (Nat.div_add_mod q j.size).symm
              have hq1:q / j.size<n:=Nat.div_lt_of_lt_mul (by rw [Nat.mul_comm];exact hq)
              have hq2:q % j.size<j.size:=Nat.mod_lt _ hk;have h5:=h3 (q / j.size) (q % j.size) hq1 (by omega)
              rw [hes,← hdm] at h5;have h6:=GB (val:=v1) hq1 hq2;rw [← hdm] at h6;rw [h6];simpa using h5
             ·rw [List.getElem?_take,if_neg (by omega),List.getElem?_eq_none (by rw [qm];exact hq)]
            have hlt:i*j.size+f<(n+m)*j.size:=X5 hi (by omega)
            rw [hes,hpre,List.getElem?_toArray,List.getElem?_append_left (by rw [List.length_append,qm,qm,← Nat.add_mul];exact hlt)]
            exact Oo hi (by omega)
           ·exact Ma (fun i f s hi hf=>(h4 i f s hi hf).grow he.grow0) (fun i f s hi hf=>(hsrc.rel i f s hi hf).grow he.grow0) i f s hi hf
      ·simp [Tree.sel] at h
     ·simp [Tree.sel] at h
    ·simp [Tree.sel] at h
  ·simp [Tree.sel] at h
 ·simp [Tree.sel] at h
theorem Oy {mem:Mem} {t:TypeId} {a x:A1} (h:jil a=false):V0 P mem t a x=ZZ P mem t a x:=by
 unfold V0;split
 ·cases h
 ·rfl
theorem jjs {F w bs mem} (hm : MemRel P F w bs mem) {t ty : TypeId} {a x : A1} {v u : Value} {r : AV} {mem' : Mem} (h : (V0 P mem t a x).sel = some (r, mem')) (ha : A1.Rel F w bs a v) (hx : A1.Rel F w bs x u) :
  ∃ F' w' bs' z,Ext bs.length F w bs F' w' bs'∧MemRel P F' w' bs' mem'∧r.Rel F' w' bs' z∧(Builtin.append_ #[t,t] ty #[v,u]).run P w=.ok z w':=by
 unfold V0 at h;split at h
 ·rename_i b sz m;split at h
  ·rename_i T es n ρ hrow;split at h
   ·rename_i hmn;have hmn:=Nat.le_of_ble_eq_true hmn;have hlen:(jl mem b none).length=mem.length:=j0 _ _ _;have hkill:=hm.kill b;cases ha with
    | osh hb hl hbase =>
      rename_i y base;have hr:=hm.row b T false es n ρ y hrow hb
      have hm2:MemRel P F w (bs++[⟨y.p,m,y.cap⟩]) (jl mem b none++[some (T,[.row false es m ρ])]):=by
       refine hkill.push ⟨y.p,m,y.cap⟩ (fun hl=>hm.loc b y T _ hb hrow ⟨rfl,hl.2⟩) (fun hl=>by have hi:=hm.rewrite_inj hb hrow (show jM y _ from ⟨rfl,hl.2⟩);exact hi) (fun h=>by simp [jf] at h) (fun fz' es' n' ρ' h => ?_)
       simp at h;obtain ⟨rfl,rfl,rfl,rfl⟩:=h;refine ⟨rfl,Nat.le_trans hmn hr.le,hr.mx,fun h0 => ?_,fun _ h=>by cases h⟩
       obtain ⟨arr,ha,hs',v1,h3,h4⟩:=hr.blk h0;exact ⟨arr,ha,hs',v1,fun i f hi hf=>h3 i f (by omega) hf,fun i f s hi hf=>h4 i f s (by omega) hf⟩
      have he:Ext bs.length F w bs F w (bs++[⟨y.p,m,y.cap⟩]):=Ext.refl.push (.inl ⟨y,jO hb,rfl⟩)
      have ha2:A1.Rel F w (bs++[⟨y.p,m,y.cap⟩]) (.c (.os mem.length sz)) (.slice base m y.cap) :=
       CV.Rel.os (x:=⟨y.p,m,y.cap⟩) (by rw [← hlen,← hkill.len];exact jy _ _) hbase
      obtain ⟨F',w',bs',z,he2,hm3,hr3,hrun⟩:=OI (ty:=ty) hm2 h ha2 (hx.grow he.grow);exact ⟨F',w',bs',z,he.trans he2 (by simp),hm3,hr3,hrun⟩
   ·simp [Tree.sel] at h
  ·simp [Tree.sel] at h
 ·exact OI hm h ha hx
theorem CV.Rel.open {F w x v} (h:CV.Rel F w [] x v) (bs:List BI):CV.Rel F w bs x v :=
 h.mono (lRq _) (fun _ _ h=>h) (fun _ _ _=>rfl) (fun k p h=>by simp [nth] at h)
theorem jda {F w} {es:List Sh} {ρ:Val} {val:Nat->Value} (hr:∀ f s,nth es f=some s->CV.Rel F w [] (cellOf s (ρ.at f)) (val f)) (bs:List BI):All2 (CV.Rel F w bs) (qS es 0 ρ) ((List.range es.length).map val):=by
 refine All2.of_nth (by simp [y9]) fun i x v hx hv => ?_
 rw [kX] at hx;split at hx
 ·rename_i s hs;simp at hx;subst hx;have him:=Fc hs;rw [jd] at hv;simp only [List.getElem?_map,List.getElem?_range him,Option.map_some,sIq] at hv;subst hv;simpa using (hr i s hs).open bs
 ·simp at hx
theorem jca {F w bs mem} (hm : MemRel P F w bs mem) {t : TypeId} {b sz i off : Nat} {r : AV} (h : Q6 P mem t b sz i off = some r) {v : Value} (hx : CV.Rel F w bs (.rowp b sz i off) v) :
  ∃ a p o z,r=.one a∧v=.pointer (some ⟨p,o,none⟩)∧a.Rel F w bs z∧(loadVar t ⟨p,o,none⟩).run P w=.ok z w:=by
 unfold Q6 at h;split at h
 ·rename_i T fz es n ρ hrow;split at h
  ·rename_i hsz;have hsz:es.length=sz:=by simpa using hsz
   split at h
   ·rename_i a ha;simp at h;subst h;cases hx with
    | rowp hb hi =>
      rename_i x;have hr:=hm.row b T fz es n ρ x (j7 hrow) hb;have hin:i<n:=by rw [← hr.len];exact hi
      obtain ⟨arr,harr,hs,val,h3,h4⟩:=hr.block (by omega)
      obtain ⟨z,hz,hrun⟩:=Vm ha (jda (fun f s hf=>h4 i f s hin hf) bs) x.p (i*sz);refine ⟨a,x.p,i*sz+off,z,rfl,rfl,hz,hrun w fun j v hv => ?_⟩
      have hj:j<es.length:=by
       rcases Nat.lt_or_ge j es.length with h' | h'
       ·exact h'
       ·rw [List.getElem?_eq_none (by simpa using h')] at hv;cases hv
      simp only [List.getElem?_map,List.getElem?_range hj,Option.map_some,sIq] at hv;subst hv;rw [cell_of_row w x.p _ arr T _ harr,← hsz];exact h3 i j hin hj
   ·simp at h
  ·simp at h
 ·simp at h
theorem jad {a b:Nat}:Nat.beq a b=decide (a=b):=by
 by_cases h:a=b
 ·subst h;simp
 ·have : Nat.beq a b = false := by
   cases hb:Nat.beq a b
   ·rfl
   ·exact absurd (Nat.eq_of_beq_eq_true hb) h
  simp [this,h]
theorem jo0 (a:Val) (i f:Nat) (x:CV) (k g:Nat):((a.upd i f x).at k).at g=if k=i∧g=f then Val.ofC x else (a.at k).at g:=by
 show yI (Nat.beq k i) (yI (Nat.beq g f) (Val.ofC x) ((a.at k).at g)) ((a.at k).at g)=_;rw [jad,jad];by_cases h1:k=i<;>by_cases h2:g=f<;>simp [h1,h2,jaH,IP]
theorem MI:∀ (l:List CV) (a:Val) (i f k g:Nat),(((a.upds i f l).at k).at g)=if k=i∧f<=g then (match nth l (g - f) with | some x=>Val.ofC x | none=>(a.at k).at g) else (a.at k).at g
 | [],a,i,f,k,g=>by simp [Val.upds,nth]
 | x :: r, a, i, f, k, g => by
   simp only [Val.upds];rw [MI r,jo0];by_cases h1:k=i
   ·rcases Nat.lt_trichotomy g f with h2 | h2 | h2
    ·rw [if_neg (by omega),if_neg (by omega),if_neg (by omega)]
    ·subst h2;rw [if_neg (by omega),if_pos ⟨h1,rfl⟩,if_pos ⟨h1,lRq _⟩,Nat.sub_self]
     rfl
    ·rw [if_pos ⟨h1,by omega⟩,if_neg (by omega),if_pos ⟨h1,by omega⟩]
     rw [show g - f=(g - (f+1))+1 by omega]
     rfl
   ·rw [if_neg (by omega),if_neg (by omega),if_neg (by omega)]
theorem ah {F w bs mem} (hm : MemRel P F w bs mem) {t : TypeId} {b sz i off : Nat} {v : A1} {mem' : Mem} (h : YQ P mem t b sz i off v = some mem') {px y : Value} (hx : CV.Rel F w bs (.rowp b sz i off) px) (hy : A1.Rel F w bs v y) :
  ∃ F' w' p o j,Ext bs.length F w bs F' w' bs∧MemRel P F' w' bs mem'∧px=.pointer (some ⟨p,o,none⟩)∧P.info? t=some j∧y.cells.size=j.size∧(storeCells ⟨p,o,none⟩ y.cells.toList 0).run P w=.ok () w':=by
 unfold YQ at h;split at h
 ·rename_i j hj;simp only at h;have hyc:=A1.Rel.cells hy;obtain ⟨F1,e1,m1,r1⟩:=ZI hm hyc;split at h
  ·rename_i T es n ρ hrow;split at h
   ·rename_i hcond;simp only [aTq,beq_iff_eq,Nat.blt_eq] at hcond;obtain ⟨⟨hsz,hlen⟩,hpos⟩:=hcond;split at h
    ·rename_i es' hes';split at h
     ·rename_i hfit;simp at h;subst h;rw [WM] at hes';obtain ⟨rfl,hle⟩:=Jg hes';simp only [List.length_drop] at hle;obtain ⟨hfl,hfn⟩:=Yp hfit;have hrow:=j7 hrow;have hys:y.cells.toList.length=j.size:=by rw [← r1.length];exact hlen
      cases hx with
      | rowp hb hi =>
        rename_i x;have hr:=m1.row b T false es n ρ x hrow hb;have hin:i<n:=by rw [← hr.len];exact hi
        have hn0:0<n:=by omega
        obtain ⟨arr,harr,hs,val,h3,h4⟩:=hr.block hn0;have hlive:jM x [CV.row false es n ρ]:=⟨rfl,hr.room hn0⟩;have hcap:=(hr.cap hn0).1;have hal:arr.toList.length=arr.size:=by simp
        have hfitA:i*sz+off+0+y.cells.toList.length<=arr.size:=by
         have h5:(i+1)*sz<=x.cap*sz:=Nat.mul_le_mul_right _ (by omega)
         rw [Nat.add_mul,Nat.one_mul] at h5;rw [hs,hys,hsz];omega
        have hone:∀ u ∈ y.cells.toList,u.oneCell'=true:=by
         intro u hu;obtain ⟨k,hk⟩:=Ws hu;rw [jd] at hk;obtain ⟨c,_,hc⟩:=r1.nth' hk;exact hc.one
        have hst:=run_storeCells_at (P:=P) x.p (i*sz+off) T y.cells.toList 0 arr w harr hfitA hone;simp only [Nat.add_zero] at hst;obtain ⟨e2,m2⟩:=m1.rewrite hb hrow hlive (arr.toList.take (i*sz+off)++y.cells.toList++arr.toList.drop (i*sz+off+y.cells.toList.length)).toArray;have hF:=m1.loc b x T _ hb hrow hlive;have hinj:=m1.rewrite_inj hb hrow hlive;refine ⟨F1,_,x.p,i*sz+off,j,e1.trans e2 (lRq _),?_,rfl,hj,by simpa using hys,hst⟩
        have:=m2.put hb (T:=T) (cs:=[.row false es n (ρ.upds i off (qI mem v.cells).2)]) k7 (fun _=>⟨hF.1,by simpa [World.setRow] using hF.2⟩) (fun _=>hinj) (fun h=>by simp [jf] at h) (fun fz' es'' n' ρ' h => ?_)
        ·rwa [au] at this
        ·simp at h;obtain ⟨rfl,rfl,rfl,rfl⟩:=h;refine ⟨hr.len,hr.le,hr.mx,fun _=>⟨_,setRow_heap w x.p _ _ _ _ harr,?_,fun i' f'=>if i'=i∧off<=f' then (match nth y.cells.toList (f' - off) with | some u=>u | none=>val i' f') else val i' f',fun i' f' hi' hf' => ?_,fun i' f' s hi' hf' => ?_⟩,fun _ h=>by cases h⟩
         ·simp only [List.size_toArray,List.length_append,List.length_take,List.length_drop];omega
         ·dsimp only
          have h6:=h3 i' f' hi' hf';rw [hsz] at h6 ⊢;rw [List.getElem?_toArray]
          have hne:i' ≠ i->¬ (i*sz+off<=i'*sz+f'∧i'*sz+f'<i*sz+off+y.cells.toList.length):=by
           intro hne;rcases Nat.lt_or_gt_of_ne hne with hlt | hgt
           ·have:(i'+1)*sz<=i*sz:=Nat.mul_le_mul_right _ hlt
            rw [Nat.add_mul,Nat.one_mul] at this;omega
           ·have:(i+1)*sz<=i'*sz:=Nat.mul_le_mul_right _ hgt
            rw [Nat.add_mul,Nat.one_mul] at this;omega
          by_cases hin':i*sz+off<=i'*sz+f'∧i'*sz+f'<i*sz+off+y.cells.toList.length
          ·have hii:i'=i:=Classical.byContradiction fun h=>hne h hin';subst hii;rw [if_pos ⟨rfl,by omega⟩]
           rw [List.append_assoc,List.getElem?_append_right (by simp only [List.length_take];omega),List.getElem?_append_left (by simp only [List.length_take];omega)]
           have e5:i'*sz+f' - (arr.toList.take (i'*sz+off)).length=f' - off:=by simp only [List.length_take];omega
           rw [e5,jd]
           have:f' - off<y.cells.toList.length:=by omega
           rw [List.getElem?_eq_getElem this]
          ·have hval : (if i' = i ∧ off <= f' then (match nth y.cells.toList (f' - off) with | some u => u | none => val i' f') else val i' f') = val i' f' := by
            by_cases hc:i'=i∧off<=f'
            ·obtain ⟨rfl,hof⟩:=hc;rw [if_pos ⟨rfl,hof⟩]
             have:nth y.cells.toList (f' - off)=none:=by rw [jd,List.getElem?_eq_none];omega
             rw [this]
            ·rw [if_neg hc]
           rw [hval];rcases Nat.lt_or_ge (i'*sz+f') (i*sz+off) with hlt | hge
           ·rw [List.append_assoc,List.getElem?_append_left (by simp only [List.length_take];omega),List.getElem?_take,if_pos hlt]
            simpa using h6
           ·rw [List.getElem?_append_right (by simp only [List.length_append,List.length_take];omega)]
            rw [List.getElem?_drop]
            have e5:i*sz+off+y.cells.toList.length+(i'*sz+f' - (arr.toList.take (i*sz+off)++y.cells.toList).length)=i'*sz+f':=by
             simp only [List.length_append,List.length_take];omega
            rw [e5];simpa using h6
         ·dsimp only
          rw [MI];by_cases hc:i'=i∧off<=f'
          ·obtain ⟨rfl,hof⟩:=hc;rw [if_pos ⟨rfl,hof⟩,if_pos ⟨rfl,hof⟩];cases hu:nth (qI mem v.cells).2 (f' - off) with
           | none =>
             have:nth y.cells.toList (f' - off)=none:=by
              rw [jd,List.getElem?_eq_none_iff] at hu ⊢;rw [← r1.length];exact hu
             rw [this];exact (h4 i' f' s hi' hf').grow e2.grow0
           | some c =>
             obtain ⟨u,hu',hrel⟩:=r1.nth hu;have hu2:nth y.cells.toList (f' - off)=some u:=by rw [jd];exact hu'
             rw [hu2]
             have hes:nth ((es.drop off).take j.size) (f' - off)=some s:=by
              have hlt:=js hu;rw [hlen] at hlt;rw [jd,List.getElem?_take,if_pos hlt,List.getElem?_drop,show off+(f' - off)=f' by omega,← jd]
              exact hf'
             obtain ⟨c',hc',hfit'⟩:=hfn _ s hes;rw [hu] at hc';simp at hc';subst hc';exact (QU hrel hfit').grow e2.grow0
          ·rw [if_neg hc,if_neg hc];exact (h4 i' f' s hi' hf').grow e2.grow0
     ·simp at h
    ·simp at h
   ·simp at h
  ·simp at h
 ·simp at h
inductive IntOpt:Option Int->Option Value->Prop
 | no:IntOpt none none
 | yes (k i):IntOpt (some i) (some (.int k i))
theorem ZQ {w : World} {t e : TypeId} {j : TypeInfo} (ht : P.underlying t = some (.slice e)) (hj : P.info? e = some j) (a : Option Addr) {n cap : Nat} (hn : n <= cap) {lo hi : Option Int} {vlo vhi : Option Value} (h1 : IntOpt lo vlo) (h2 : IntOpt hi vhi)
  (hl0:∀ l,lo=some l->0<=l) (hl:(lo.getD 0).toNat<=(hi.getD n).toNat) (hh0:∀ h,hi=some h->0<=h) (hh:(hi.getD n).toNat<=n) :
  (Instr.slice t (.slice a n cap) vlo vhi none).run P w=.ok (.slice (if cap=(lo.getD 0).toNat then a else a.map (·.add ((lo.getD 0).toNat*j.size))) ((hi.getD n).toNat - (lo.getD 0).toNat) (cap - (lo.getD 0).toNat)) w:=by
 have hs:(sizeOf e).run P w=.ok j.size w:=by simp [sizeOf,typeInfo,hj]
 cases h1 with
 | no =>
   cases h2 with
  | no=>simp [Instr.slice,run_underlying ht,Instr.sliceBounds,hs]
  | yes k h =>
    have:=hh0 h rfl
    simp only [Option.getD_some] at hh;simp [Instr.slice,run_underlying ht,Instr.sliceBounds,run_sliceBound w k h cap .sliceAcap this (by omega),hs]
 | yes k l =>
   have hl0:=hl0 l rfl;cases h2 with
  | no =>
    simp only [Option.getD_some,Option.getD_none] at hl;simp [Instr.slice,run_underlying ht,Instr.sliceBounds,run_sliceBound w k l n .sliceB hl0 (by omega),hs]
  | yes k' h =>
    have:=hh0 h rfl
    simp only [Option.getD_some] at hh hl;simp [Instr.slice,run_underlying ht,Instr.sliceBounds,run_sliceBound w k' h cap .sliceAcap this (by omega),run_sliceBound w k l h.toNat .sliceB hl0 (by omega),hs]
theorem U2 {F w} {bs : List BI} {es : List Sh} {n : Nat} {ρ : Val} {v : Value} (h : CV.Rel F w bs (.sl es n ρ) v) {l hh k : Nat} (hk : es.length = k) (hl : l <= hh) (hh' : hh <= n) {ρ' : Val} (hρ : ∀ i, ρ'.at i = ρ.at (l + i)) :
  ∃ a cap,v=.slice a n cap∧n<=cap∧CV.Rel F w bs (.sl es (hh - l) ρ') (.slice (if cap=l then a else a.map (·.add (l*k))) (hh - l) (cap - l)):=by
 cases h with
 | slnil =>
   obtain rfl:hh=0:=by omega
   obtain rfl:l=0:=by omega
   exact ⟨none,0,rfl,lRq _,.slnil⟩
 | sl val hn h0 hc hr =>
   rename_i cap a;refine ⟨some a,cap,rfl,hn,?_⟩;have e:(if cap=l then some a else (some a).map (·.add (l*k)))=some (if cap=l then a else a.add (l*k)):=by split<;>rfl
   rw [e];refine .sl (fun i f=>val (l+i) f) (by omega) (fun hp => ?_) (fun i f hi hf => ?_) (fun i f s hi hf => ?_)
   ·obtain ⟨h1,h2,h3⟩:=h0 (by omega)
    rw [if_neg (by omega),addr_eq h1]
    exact ⟨rfl,h2,h3⟩
   ·obtain ⟨h1,h2,h3⟩:=h0 (by omega)
    rw [if_neg (by omega),addr_eq h1]
    have:=hc (l+i) f (by omega) hf
    rw [Nat.add_mul] at this;rw [← hk];show w.cell? ⟨a.block,a.off+l*es.length+(i*es.length+f),none⟩=_;rw [← this];congr 2;omega
   ·rw [hρ];exact hr (l+i) f s (by omega) hf
theorem ai {F w} {bs : List BI} {mem : Mem} {t e : TypeId} {j : TypeInfo} (ht : P.underlying t = some (.slice e)) (hj : P.info? e = some j) {es : List Sh} (hes : es.length = j.size) {n : Nat} {ρ : Val} {v : Value} (hv : CV.Rel F w bs (.sl es n ρ) v)
  {lo hi:Option Int} {vlo vhi:Option Value} (h1:IntOpt lo vlo) (h2:IntOpt hi vhi) {r:AV} {mem':Mem} (h:(Vp es n ρ lo hi mem).sel=some (r,mem')) :
  mem'=mem∧∃ z,r.Rel F w bs z∧(Instr.slice t v vlo vhi none).run P w=.ok z w:=by
 unfold Vp at h;split at h
 ·simp only [Tree.sel,sIq,pIq] at h;obtain ⟨rfl,rfl⟩:=h;obtain ⟨a,cap,rfl,hc,hr⟩:=U2 hv hes (l:=0) (hh:=n) (Nat.zero_le _) (lRq _) (ρ':=ρ) (fun i=>by rw [Nat.zero_add])
  refine ⟨rfl,_,?_,ZQ ht hj a hc h1 h2 (fun _ h=>by cases h) (by simp) (fun _ h=>by cases h) (by simp)⟩
  exact hr
 ·rename_i hh;simp only [Tree.sel] at h;cases hc:(le 0 hh&&le hh (ja n))<;>simp [hc] at h;obtain ⟨rfl,rfl⟩:=h;rw [aTq,qz,qz] at hc;have hc2:hh<=(n:Int):=hc.2;obtain ⟨a,cap,rfl,hcap,hr⟩:=U2 hv hes (l:=0) (hh:=hh.toNat) (Nat.zero_le _) (by omega) (ρ':=ρ) (fun i=>by rw [Nat.zero_add])
  refine ⟨rfl,_,?_,ZQ ht hj a hcap h1 h2 (fun _ h=>by cases h) (by simp) (fun _ h=>by cases h;exact hc.1) (by simp;omega)⟩
  exact hr
 ·rename_i l;simp only [Tree.sel] at h;cases hc:(le 0 l&&le l (ja n))<;>simp [hc] at h;obtain ⟨rfl,rfl⟩:=h;rw [aTq,qz,qz] at hc;have hc2:l<=(n:Int):=hc.2;obtain ⟨a,cap,rfl,hcap,hr⟩:=U2 hv hes (l:=l.toNat) (hh:=n) (by omega) (lRq _) (ρ':=ρ.from l.toNat) (fun i=>rfl)
  refine ⟨rfl,_,?_,ZQ ht hj a hcap h1 h2 (fun _ h=>by cases h;exact hc.1) (by simp;omega) (fun _ h=>by cases h) (by simp)⟩
  exact hr
 ·rename_i l hh;simp only [Tree.sel] at h;cases hc:(le 0 l&&le l hh&&le hh (ja n))<;>simp [hc] at h;obtain ⟨rfl,rfl⟩:=h;rw [aTq,aTq,qz,qz,qz] at hc;have hc2:hh<=(n:Int):=hc.2;obtain ⟨a,cap,rfl,hcap,hr⟩:=U2 hv hes (l:=l.toNat) (hh:=hh.toNat) (by omega) (by omega) (ρ':=ρ.from l.toNat) (fun i=>rfl)
  refine ⟨rfl,_,?_,ZQ ht hj a hcap h1 h2 (fun _ h=>by cases h;exact hc.1.1) (by simp;omega) (fun _ h=>by cases h;omega) (by simp;omega)⟩
  exact hr
theorem IntOpt.zero {lo:Option Int} {vlo:Option Value} (h:IntOpt lo vlo) (hz:isZero lo=true):vlo=none∨∃ k,vlo=some (.int k 0):=by
 cases h with
 | no=>exact .inl rfl
 | yes k i =>
   have:i=0:=by simpa [isZero] using hz
   subst this;exact .inr ⟨k,rfl⟩
theorem F4 {w : World} {t e : TypeId} {j : TypeInfo} (ht : P.underlying t = some (.slice e)) (hj : P.info? e = some j) (a : Option Addr) (n cap : Nat) {vlo : Option Value} (h1 : vlo = none ∨ ∃ k, vlo = some (.int k 0)) (k k' : IntKind) :
  (Instr.slice t (.slice a n cap) vlo (some (.int k 0)) (some (.int k' 0))).run P w=.ok (.slice a 0 0) w:=by
 have hs:(sizeOf e).run P w=.ok j.size w:=by simp [sizeOf,typeInfo,hj]
 rcases h1 with rfl | ⟨k'',rfl⟩
 ·simp [Instr.slice,run_underlying ht,Instr.sliceBounds,run_sliceBound,hs]
 ·simp [Instr.slice,run_underlying ht,Instr.sliceBounds,run_sliceBound,hs]
theorem jaM {w : World} {t e : TypeId} {j : TypeInfo} (ht : P.underlying t = some (.slice e)) (hj : P.info? e = some j) {vlo vhi : Option Value} (h1 : vlo = none ∨ ∃ k, vlo = some (.int k 0)) (h2 : vhi = none ∨ ∃ k, vhi = some (.int k 0)) :
  (Instr.slice t (.slice none 0 0) vlo vhi none).run P w=.ok (.slice none 0 0) w:=by
 have hs:(sizeOf e).run P w=.ok j.size w:=by simp [sizeOf,typeInfo,hj]
 rcases h1 with rfl | ⟨k,rfl⟩<;>rcases h2 with rfl | ⟨k',rfl⟩<;>simp [Instr.slice,run_underlying ht,Instr.sliceBounds,run_sliceBound,hs]
theorem jed {F w} {bs : List BI} {t : TypeId} (ht : P.underlying t = some .string) {s : ByteArray} {lo hi : Option Int} {vlo vhi : Option Value} (h1 : IntOpt lo vlo) (h2 : IntOpt hi vhi) {mem mem' : Mem} {r : AV} (h : (Lt s lo hi mem).sel = some (r, mem')) :
  mem'=mem∧∃ z,r.Rel F w bs z∧(Instr.slice t (.string s) vlo vhi none).run P w=.ok z w:=by
 unfold Lt at h;simp only [Tree.sel] at h;cases hc:(le 0 (lo.getD 0)&&le (lo.getD 0) (hi.getD (ja s.size))&&le (hi.getD (ja s.size)) (ja s.size))<;>simp [hc] at h;obtain ⟨rfl,rfl⟩:=h;rw [aTq,aTq,qz,qz,qz] at hc;obtain ⟨⟨c1,c2⟩,c3⟩:=hc;refine ⟨rfl,_,CV.Rel.str _,?_⟩;have e:ja s.size=(s.size:Int):=rfl;rw [e] at c2 c3;rw [← jdi];cases h1 with
 | no =>
   cases h2 with
  | no=>simp [Instr.slice,run_underlying ht,Instr.sliceBounds,e]
  | yes k i =>
    simp only [Option.getD_some] at c2 c3;simp [Instr.slice,run_underlying ht,Instr.sliceBounds,run_sliceBound w k i s.size .sliceAlen (by simpa using c2) c3]
 | yes k l =>
   simp only [Option.getD_some] at c1 c2;cases h2 with
  | no =>
    simp only [Option.getD_none] at c2;simp [Instr.slice,run_underlying ht,Instr.sliceBounds,run_sliceBound w k l s.size .sliceB c1 c2,e]
  | yes k' i =>
    simp only [Option.getD_some] at c2 c3;simp [Instr.slice,run_underlying ht,Instr.sliceBounds,run_sliceBound w k' i s.size .sliceAlen (by omega) c3,run_sliceBound w k l i.toNat .sliceB c1 (by omega)]
theorem jep {F w bs mem} (hm : MemRel P F w bs mem) {t : TypeId} {a : A1} {lo hi mx : Option Int} {vlo vhi vmx : Option Value} (h1 : IntOpt lo vlo) (h2 : IntOpt hi vhi) (h3 : IntOpt mx vmx) {r : AV} {mem' : Mem} (h : (Za P mem t a lo hi mx).sel = some (r, mem')) {v : Value} (ha : A1.Rel F w bs a v) :
  ∃ F' bs' z,Ext bs.length F w bs F' w bs'∧MemRel P F' w bs' mem'∧r.Rel F' w bs' z∧(Instr.slice t v vlo vhi vmx).run P w=.ok z w:=by
 unfold Za at h;split at h
 ·rename_i e ht;split at h
  ·rename_i j hj;split at h
   ·rename_i m;split at h
    ·rename_i hcond;rw [aTq,aTq] at hcond;obtain ⟨⟨hm0,hlo⟩,hhi⟩:=hcond;have hm0:=eq_of_beq hm0;subst hm0;obtain ⟨km,rfl⟩ : ∃ k,vmx=some (.int k 0):=by cases h3;exact ⟨_,rfl⟩
     obtain ⟨kh,rfl⟩ : ∃ k,vhi=some (.int k 0):=by
      cases h2 with
      | no=>cases hhi
      | yes k i =>
        have:i=0:=by simpa [I5] using hhi
        subst this;exact ⟨k,rfl⟩
     have hlo:=h1.zero hlo
     have lay:∀ (es:List Sh) (ρ:Val) (base:Option Addr) (n cap:Nat),v=.slice base n cap->∃ F' bs' z,Ext bs.length F w bs F' w bs'∧MemRel P F' w bs' (mem++[some (e,[.row false es 0 ρ])])∧AV.Rel F' w bs' (.one (.c (.os mem.length j.size))) z∧(Instr.slice t v vlo (some (.int kh 0)) (some (.int km 0))).run P w=.ok z w:=by
      intro es ρ base n cap hv;subst hv;obtain ⟨he,hm2⟩:=hm.lay0 e es rfl ρ;exact ⟨F,_,_,he,hm2,CV.Rel.os (x:=⟨w.heap.size,0,0⟩) (by rw [← hm.len];exact jy _ _) (fun h=>by simp at h),F4 ht hj base n cap hlo kh km⟩
     split at h
     ·simp only [Tree.sel,sIq,pIq] at h;obtain ⟨rfl,rfl⟩:=h;cases ha;exact ⟨F,bs,_,Ext.refl,hm,CV.Rel.nils,F4 ht hj none 0 0 hlo kh km⟩
     ·split at h
      ·simp only [Tree.sel,sIq,pIq] at h;obtain ⟨rfl,rfl⟩:=h;refine (show ∃ base n cap,v=.slice base n cap from ?_).elim fun base hb=>hb.elim fun n hb=>hb.elim fun cap hb=>lay _ _ base n cap hb;cases ha
       ·exact ⟨_,_,_,rfl⟩
       ·exact ⟨_,_,_,rfl⟩
      ·simp [Tree.sel] at h
     ·split at h
      ·split at h
       ·simp only [Tree.sel,sIq,pIq] at h;obtain ⟨rfl,rfl⟩:=h;refine (show ∃ base n cap,v=.slice base n cap from ?_).elim fun base hb=>hb.elim fun n hb=>hb.elim fun cap hb=>lay _ _ base n cap hb;cases ha;exact ⟨_,_,_,rfl⟩
       ·simp [Tree.sel] at h
      ·simp [Tree.sel] at h
     ·simp [Tree.sel] at h
    ·simp [Tree.sel] at h
   ·cases h3;split at h
    ·split at h
     ·rename_i hes;obtain ⟨rfl,z,hz,hrun⟩:=ai ht hj (by simpa using hes) ha h1 h2 h
      exact ⟨F,bs,z,Ext.refl,hm,hz,hrun⟩
     ·simp [Tree.sel] at h
    ·split at h
     ·rename_i hc;rw [aTq] at hc;simp only [Tree.sel,sIq,pIq] at h;obtain ⟨rfl,rfl⟩:=h;cases ha;exact ⟨F,bs,_,Ext.refl,hm,CV.Rel.nils,jaM ht hj (h1.zero hc.1) (h2.zero hc.2)⟩
     ·simp [Tree.sel] at h
    ·rename_i b sz;split at h
     ·rename_i T fz es n ρ hrow;split at h
      ·rename_i hc;simp only [aTq,beq_iff_eq] at hc;obtain ⟨⟨hes,hsz⟩,hT⟩:=hc;subst hT;have hrow:=j7 hrow;obtain ⟨x,hb⟩ : ∃ x,nth bs b=some x:=by cases ha;exact ⟨_,by assumption⟩
       split at h
       ·
        rename_i hh _;simp only [Tree.sel] at h;cases hc:(lt 0 hh&&le hh (ja n))<;>simp [hc] at h;obtain ⟨rfl,rfl⟩:=h;rw [aTq,Jl,qz] at hc;have hc2:hh<=(n:Int):=hc.2;have hr:=hm.row b T false es n ρ x hrow hb;have hn0:0<n:=by omega
        obtain ⟨arr,harr,hs',val,h3',h4'⟩:=hr.block hn0;have hlive:jM x [CV.row false es n ρ]:=⟨rfl,hr.room hn0⟩;have hF:=hm.loc b x T _ hb hrow hlive;have hinj:=hm.rewrite_inj hb hrow hlive;have hlen:(jl mem b none).length=mem.length:=j0 _ _ _;have hkill:=hm.kill b
        refine ⟨F,bs++[⟨x.p,hh.toNat,x.cap⟩],.slice (some ⟨x.p,0,none⟩) hh.toNat x.cap,Ext.refl.push (.inl ⟨x,jO hb,rfl⟩),hkill.push ⟨x.p,hh.toNat,x.cap⟩ (fun _=>hF) (fun _=>hinj) (fun h=>by simp [jf] at h) (fun fz' es' n' ρ' h => ?_),
         CV.Rel.os (x:=⟨x.p,hh.toNat,x.cap⟩) (by rw [← hlen,← hkill.len];exact jy _ _) (fun _=>rfl),?_⟩
        ·simp at h;obtain ⟨rfl,rfl,rfl,rfl⟩:=h
         have:=(hr.cap hn0)
         exact ⟨rfl,by simp only;omega,this.2,fun _=>⟨arr,harr,hs',val,fun i f hi=>h3' i f (by omega),fun i f s hi=>h4' i f s (by omega)⟩,fun _ h=>by cases h⟩
        ·cases ha with
         | os hb' hbase =>
           rename_i y base;rw [hb] at hb';simp at hb';subst hb';have hbs:=hbase (hr.room hn0);subst hbs
           have:=(hr.cap hn0).1
           have hcut:=ZQ (P:=P) (w:=w) ht hj (some ⟨x.p,0,none⟩) (n:=x.n) (cap:=x.cap) (by rw [hr.len];exact this) h1 h2 (fun _ h=>by cases h) (by simp) (fun _ h=>by cases h;omega) (by rw [hr.len];simp;omega)
           rw [hcut];simp only [Option.getD_none,Option.getD_some,Int.toNat_zero,Nat.sub_zero,Nat.zero_mul];rw [if_neg (by omega)]
           simp [addr_eq]
       ·
        obtain ⟨F',he,hm2,hok,hF⟩:=hm.freeze hb hrow;have hsl:=jaV hb hok hF (by omega) ha bs
        obtain ⟨rfl,z,hz,hrun⟩:=ai ht hj hes hsl h1 h2 h;exact ⟨F',bs,z,he,hm2,hz,hrun⟩
      ·simp [Tree.sel] at h
     ·simp [Tree.sel] at h
    ·simp [Tree.sel] at h
  ·simp [Tree.sel] at h
 ·rename_i ht;split at h
  ·rename_i s;cases h3;cases ha;obtain ⟨rfl,z,hz,hrun⟩:=jed (F:=F) (bs:=bs) ht h1 h2 h;exact ⟨F,bs,z,Ext.refl,hm,hz,hrun⟩
  ·simp [Tree.sel] at h
 ·simp [Tree.sel] at h
theorem jcz {mem:Mem} {t:TypeId} {a:A1} {lo hi mx:Option Int} {q:AV × Mem} (h:(Za P mem t a lo hi mx).sel=some q):(∃ e,P.underlying t=some (.slice e))∨P.underlying t=some .string:=by
 unfold Za at h;split at h
 ·rename_i e ht;exact .inl ⟨e,ht⟩
 ·rename_i ht;exact .inr ht
 ·simp [Tree.sel] at h
theorem Iq:∀ (l:List CV) (i:Nat),Val.ofCs.nthC l i=nth l i
 | [],0=>rfl
 | [],_+1=>rfl
 | _::_,0=>rfl
 | _::r,i+1=>Iq r i
theorem jiG {F w bs mem} (hm : MemRel P F w bs mem) {t : TypeId} {a : A1} {lo hi mx : Option Int} {vlo vhi vmx : Option Value} (h1 : IntOpt lo vlo) (h2 : IntOpt hi vhi) (h3 : IntOpt mx vmx) {T : Tree (AV × Mem)} (hT : ka P mem t a lo hi mx = some T)
  {r:AV} {mem':Mem} (h:T.sel=some (r,mem')) {v:Value} (ha:A1.Rel F w bs a v) :
  mem'=mem∧(∃ z,r.Rel F w bs z∧(Instr.slice t v vlo vhi vmx).run P w=.ok z w)∧∃ e,P.underlying t=some (.slice e):=by
 unfold ka at hT;split at hT
 ·rename_i b sz l;split at hT
  ·rename_i e T' es n ρ ht hrow;split at hT
   ·rename_i j hj;split at hT
    ·rename_i hc;simp only [aTq,beq_iff_eq] at hc;obtain ⟨⟨hes,hsz⟩,hTe⟩:=hc;subst hTe;simp only [sIq] at hT;subst hT;simp only [Tree.sel] at h;cases hl:(le 0 l&&lt l (ja n))<;>simp [hl] at h;obtain ⟨rfl,rfl⟩:=h;rw [aTq,qz,Jl] at hl;have hl2:l<(n:Int):=hl.2;have hrow:=j7 hrow;cases h2;cases h3;cases h1 with
     | yes k _ =>
       cases ha with
      | os hb hbase =>
        rename_i x base;have hr:=hm.row b T' false es n ρ x hrow hb;have hbs:=hbase (hr.room (by omega))
        subst hbs;have hcap:=(hr.cap (by omega)).1
        refine ⟨rfl,⟨.slice (some ⟨x.p,l.toNat*sz,none⟩) (x.n - l.toNat) (x.cap - l.toNat),CV.Rel.ost hb (by rw [hr.len];omega),?_⟩,T',ht⟩
        have hcut:=ZQ (P:=P) (w:=w) ht hj (some ⟨x.p,0,none⟩) (n:=x.n) (cap:=x.cap) (by rw [hr.len];exact hcap) (.yes k l) .no (fun _ h=>by cases h;exact hl.1) (by simp [hr.len];omega) (fun _ h=>by cases h) (by simp)
        rw [hcut];simp only [Option.getD_none,Option.getD_some];have hne:¬ x.cap=l.toNat:=by omega
        rw [if_neg hne,hsz];simp [addr_eq]
    ·simp at hT
   ·simp at hT
  ·simp at hT
 ·simp at hT
theorem jho {F w bs mem} (hm : MemRel P F w bs mem) {t ty : TypeId} {a : A1} {r : AV} {mem' : Mem} (h : (N3 P mem t a).sel = some (r, mem')) {v : Value} (ha : A1.Rel F w bs a v) :
  ∃ w',Ext bs.length F w bs F w' bs∧MemRel P F w' bs mem'∧r=.any∧(Builtin.clear_ #[t] ty #[v]).run P w=.ok (.tuple #[]) w':=by
 unfold N3 at h;split at h
 ·rename_i b sz lo;split at h
  ·rename_i e T es n ρ ht hrow;split at h
   ·rename_i z hz;split at h
    ·rename_i hc;simp only [aTq,beq_iff_eq,Nat.blt_eq] at hc;obtain ⟨⟨⟨⟨hes,hzl⟩,hpos⟩,hTe⟩,hfit⟩:=hc;subst hTe;simp only [Tree.sel,sIq,pIq] at h;obtain ⟨rfl,rfl⟩:=h;have hrow:=j7 hrow;cases ha with
     | ost hb hlo =>
       rename_i x;have hr:=hm.row b T false es n ρ x hrow hb;have hlo':lo<n:=by rw [← hr.len];exact hlo
       have hn0:0<n:=by omega
       obtain ⟨arr,harr,hs,val,h3,h4⟩:=hr.block hn0;have hlive:jM x [CV.row false es n ρ]:=⟨rfl,hr.room hn0⟩;have hcap:=(hr.cap hn0).1;obtain ⟨zv,hzv,hzr⟩:=k3 (F:=F) (w:=w) (bs:=bs) hz
       have hzlen:zv.cells.size=sz:=by
        have:=hzr.length
        simp at this;omega
       have hzs:(Builtin.zeroCells zv.cells (x.n - lo)).toList.length=(n - lo)*sz:=by
        rw [Array.length_toList,size_zeroCells,hzlen,hr.len]
       have hznth:∀ i f,i<n - lo->f<sz->(Builtin.zeroCells zv.cells (x.n - lo)).toList[i*sz+f]? = zv.cells.toList[f]?:=by
        intro i f hi hf
        have hlt:i*sz+f<(n - lo)*sz:=by
         have:(i+1)*sz<=(n - lo)*sz:=Nat.mul_le_mul_right _ hi
         rw [Nat.add_mul,Nat.one_mul] at this;omega
        have hmod:(i*sz+f) % sz=f:=by
         rw [Nat.add_comm,Nat.add_mul_mod_self_right];exact Nat.mod_eq_of_lt hf
        simp only [Builtin.zeroCells,Array.getElem?_toList,Array.getElem?_map,hzlen,hr.len];rw [Array.getElem?_range,if_pos hlt];simp only [Option.map_some,hmod];rw [getElem!_pos zv.cells f (by omega),Array.getElem?_eq_getElem (by omega)]
       have hone:∀ u ∈ (Builtin.zeroCells zv.cells (x.n - lo)).toList,u.oneCell'=true:=by
        intro u hu;simp only [Builtin.zeroCells,Array.toList_map,List.mem_map,Array.mem_toList_iff,Array.mem_range,hzlen] at hu;obtain ⟨i,_,rfl⟩:=hu;have hlt:i % sz<zv.cells.size:=by rw [hzlen];exact Nat.mod_lt _ hpos
        rw [getElem!_pos zv.cells _ hlt];obtain ⟨c,_,hc⟩:=hzr.nth' (i:=i % sz) (b:=zv.cells[i % sz]) (by rw [Array.getElem?_toList,Array.getElem?_eq_getElem hlt])
        exact hc.one
       have hal:arr.toList.length=arr.size:=by simp
       have hmul:lo*sz+(n - lo)*sz=n*sz:=by rw [← Nat.add_mul];congr 1;omega
       have hcapm:n*sz<=x.cap*sz:=Nat.mul_le_mul_right _ hcap
       have hfitA:lo*sz+0+(Builtin.zeroCells zv.cells (x.n - lo)).toList.length<=arr.size:=by
        rw [hs,hzs,hes];omega
       have hst:=run_storeCells_at (P:=P) x.p (lo*sz) T (Builtin.zeroCells zv.cells (x.n - lo)).toList 0 arr w harr hfitA hone;simp only [Nat.add_zero] at hst;obtain ⟨e2,m2⟩:=hm.rewrite hb hrow hlive (arr.toList.take (lo*sz)++(Builtin.zeroCells zv.cells (x.n - lo)).toList++arr.toList.drop (lo*sz+(Builtin.zeroCells zv.cells (x.n - lo)).toList.length)).toArray;have hF:=hm.loc b x T _ hb hrow hlive;have hinj:=hm.rewrite_inj hb hrow hlive;refine ⟨_,e2,?_,rfl,?_⟩
       ·have:=m2.put hb (T:=T) (cs:=[.row false es n (Val.cat lo ρ (.byFst fun _=>Val.ofCs z))]) k7 (fun _=>⟨hF.1,by simpa [World.setRow] using hF.2⟩) (fun _=>hinj) (fun h=>by simp [jf] at h) (fun fz' es'' n' ρ' h => ?_)
        ·rwa [au] at this
        ·simp at h;obtain ⟨rfl,rfl,rfl,rfl⟩:=h;refine ⟨hr.len,hr.le,hr.mx,fun _=>⟨_,setRow_heap w x.p _ _ _ _ harr,?_,fun i f=>if i<lo then val i f else (match nth zv.cells.toList f with | some u=>u | none=>undef),fun i f hi hf => ?_,fun i f s hi hf => ?_⟩,fun _ h=>by cases h⟩
         ·simp only [List.size_toArray,List.length_append,List.length_take,List.length_drop];omega
         ·dsimp only
          have h6:=h3 i f hi hf;rw [hes] at h6 hf ⊢;rw [List.getElem?_toArray];by_cases hil:i<lo
          ·rw [if_pos hil]
           have hlt:i*sz+f<lo*sz:=by
            have:(i+1)*sz<=lo*sz:=Nat.mul_le_mul_right _ hil
            rw [Nat.add_mul,Nat.one_mul] at this;omega
           rw [List.append_assoc,List.getElem?_append_left (by simp only [List.length_take];omega),List.getElem?_take,if_pos hlt]
           simpa using h6
          ·rw [if_neg hil];have hge:lo*sz<=i*sz:=Nat.mul_le_mul_right _ (by omega)
           have hlt:i*sz+f<n*sz:=by
            have:(i+1)*sz<=n*sz:=Nat.mul_le_mul_right _ hi
            rw [Nat.add_mul,Nat.one_mul] at this;omega
           have htk:(arr.toList.take (lo*sz)).length=lo*sz:=by simp only [List.length_take];omega
           rw [List.append_assoc,List.getElem?_append_right (by omega),List.getElem?_append_left (by rw [htk,hzs];omega),htk]
           have e5:i*sz+f - lo*sz=(i - lo)*sz+f:=by
            rw [Nat.sub_mul];omega
           rw [e5,hznth (i - lo) f (by omega) hf,jd]
           have:f<zv.cells.toList.length:=by rw [Array.length_toList];omega
           rw [List.getElem?_eq_getElem this]
         ·dsimp only
          have hfl:=js hf;by_cases hil:i<lo
          ·rw [if_pos hil]
           have e6:(Val.cat lo ρ (.byFst fun _=>Val.ofCs z)).at i=ρ.at i:=by
            unfold Val.cat;rw [KC]
            have:Nat.blt i lo=true:=by simpa using hil
            rw [this];rfl
           rw [e6];exact (h4 i f s hi hf).grow e2.grow0
          ·rw [if_neg hil]
           have e6:(Val.cat lo ρ (.byFst fun _=>Val.ofCs z)).at i=Val.ofCs z:=by
            unfold Val.cat;rw [KC]
            have:Nat.blt i lo=false:=by
             rw [← Bool.not_eq_true];simpa using hil
            rw [this];rfl
           rw [e6];obtain ⟨_,hfn⟩:=Yp hfit;obtain ⟨c,hc,hfc⟩:=hfn f s hf;obtain ⟨u,hu,hrel⟩:=hzr.nth hc;have hu2:nth zv.cells.toList f=some u:=by rw [jd];exact hu
           rw [hu2]
           have e7:(Val.ofCs z).at f=Val.ofC c:=by
            unfold Val.ofCs;rw [KC,Iq,hc]
           rw [e7];exact (QU hrel hfc).grow e2.grow0
       ·obtain ⟨k,hk⟩ : ∃ k,x.n - lo=k+1:=⟨x.n - lo - 1,by omega⟩
        rw [hk] at hst ⊢;simp [Builtin.clear_,run_underlying ht,hzv,hst]
    ·simp [Tree.sel] at h
   ·simp [Tree.sel] at h
  ·simp [Tree.sel] at h
 ·simp [Tree.sel] at h
end
end Go.Sx