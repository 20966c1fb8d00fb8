/-
 Part PaF of the proof: EngTm EngTd.
-/
import Derived.Test.YtiefjlcakpdfeaaGreatPaE
import Derived.Laws.MakeOwn
import Derived.Laws.CopyRow
import Derived.RangeFuncRecord
namespace Go.Sx
open Go Go.RowKit
section
variable {P:Program}
theorem jkS (l:List CV):∀ n,Val.ofCs.nthC l n=nth l n:=by
 induction l with
 | nil=>intro n;rfl
 | cons x r ih=>intro n;cases n with
  | zero=>rfl
  | succ n=>exact ih n
theorem jiZ {F w bs mem} (hm : MemRel P F w bs mem) {t : TypeId} {a b : AV} {va vb : Value} {r : AV} {mem' : Mem} (h : (Wo P mem t a b).sel = some (r, mem')) (ha : a.Rel F w bs va) (hb : b.Rel F w bs vb) :
  ∃ F' w' bs' v,Ext bs.length F w bs F' w' bs'∧MemRel P F' w' bs' mem'∧r.Rel F' w' bs' v∧(Instr.makeSlice t va vb).run P w=.ok v w':=by
 unfold Wo at h;split at h
 ·rename_i kl l kc c;split at h
  ·rename_i e hu;split at h
   ·rename_i j es z hj hes hz;split at h
    ·rename_i hcond;simp only [aTq,beq_iff_eq,Nat.blt_eq] at hcond;obtain ⟨⟨⟨⟨h1,h2⟩,hby⟩,h3⟩,hfit⟩:=hcond;simp only [Tree.sel] at h;cases hc:(le 0 l&&le l c&&le (c*ja j.bytes) 140737488355328)<;>simp [hc] at h;obtain ⟨rfl,rfl⟩:=h;rw [aTq,aTq,qz,qz,qz] at hc;obtain ⟨⟨hl0,hlc⟩,hmax⟩:=hc;have hmax:c*(j.bytes:Int)<=140737488355328:=hmax;have hc0:0<=c:=Int.le_trans hl0 hlc
     have hcb:c<=140737488355328:=by
      have h1:c*1<=c*(j.bytes:Int):=Int.mul_le_mul_of_nonneg_left (by omega) hc0
      omega
     unfold jV at hz;simp only [hj] at hz;split at hz
     ·rename_i zv hzv;have hzc:All2 (CV.Rel F w bs) z zv.cells.toList:=yU hz;have hzs:zv.cells.size=j.size:=by have:=hzc.length;simp at this;omega
      obtain ⟨hfl,hfn⟩:=Yp hfit;cases ha;cases hb;have hrun:=run_make (P:=P) w t e j zv hu hj hzv kl kc l c hl0 hlc (by rw [Int.mul_comm];omega) (by omega)
      have hat:∀ i f,i<c.toNat->f<es.length->(madeCells zv.cells (c.toNat*j.size))[i*es.length+f]? = some (zv.cells[f]!):=by
       intro i f hi hf;have hlt:i*es.length+f<c.toNat*j.size:=by rw [← h1];exact X5 hi hf
       have hlt2:i*es.length+f<(madeCells zv.cells (c.toNat*j.size)).size:=by rw [size_madeCells];exact hlt
       rw [Array.getElem?_eq_getElem hlt2];simp only [madeCells,Array.getElem_map,Array.getElem_range];rw [hzs,← h1,Tj hf]
      obtain ⟨F',he,hm'⟩:=hm.lay (e:=e) (es:=es) (n:=l.toNat) (cap:=c.toNat) (ρ:=.byFst fun _=>Val.ofCs z) (arr:=madeCells zv.cells (c.toNat*j.size)) (by omega) (by simp only [maxLen];omega) (by rw [size_madeCells,h1]) (fun _ f=>zv.cells[f]!)
       (fun i f hi hf=>hat i f (by omega) hf) (fun i f s hi hf=>by
        obtain ⟨x,hx,hfx⟩:=hfn f s hf;obtain ⟨u,hu',hr⟩:=hzc.nth hx
        have e1:((Val.byFst fun _=>Val.ofCs z).at i).at f=Val.ofC x:=by
         show (match Val.ofCs.nthC z f with | some x=>Val.ofC x | none=>Val.zero)=_
         rw [jkS,hx]
        rw [e1];simp only [Array.getElem?_toList] at hu';rw [getElem!_def,hu'];exact QU hr hfx)
      exact ⟨F',_,_,_,he,hm',CV.Rel.os (x:=⟨w.heap.size,l.toNat,c.toNat⟩) (by rw [← hm.len];exact jy _ _) (fun _=>rfl),hrun⟩
     ·cases hz
    ·simp [Tree.sel] at h
   ·simp [Tree.sel] at h
  ·simp [Tree.sel] at h
 ·simp [Tree.sel] at h
theorem ji7 {F w bs mem} (hm : MemRel P F w bs mem) {t : TypeId} {a : A1} {lo hi mx : Option Int} {vlo vhi vmx : Option Value} (h1 : IntOpt lo vlo) (h2 : IntOpt hi vhi) (h3 : IntOpt mx vmx) {T : Tree (AV × Mem)} (hT : y8 P mem t a lo hi mx = some T)
  {r:AV} {mem':Mem} (h:T.sel=some (r,mem')) {v:Value} (ha:A1.Rel F w bs a v) :
  mem'=mem∧(∃ z,r.Rel F w bs z∧(Instr.slice t v vlo vhi vmx).run P w=.ok z w)∧∃ e,P.underlying t=some (.slice e):=by
 unfold y8 at hT;split at hT
 ·rename_i b sz hh;split at hT
  ·rename_i e T' es n ρ ht hrow;split at hT
   ·rename_i j hj;split at hT
    ·rename_i hc;simp only [aTq,beq_iff_eq] at hc;obtain ⟨⟨hes,hsz⟩,hTe⟩:=hc;subst hTe;simp only [sIq] at hT;subst hT;simp only [Tree.sel] at h;cases hl:(le 0 hh&&le hh (ja n))<;>simp [hl] at h;obtain ⟨rfl,rfl⟩:=h;rw [aTq,qz,qz] at hl;have hl2:hh<=(n:Int):=hl.2;have hrow:=j7 hrow;cases h1;cases h3;cases h2 with
     | yes k _ =>
       cases ha with
      | os hb hbase =>
        rename_i x base;have hr:=hm.row b T' false es n ρ x hrow hb;refine ⟨rfl,⟨.slice base hh.toNat x.cap,CV.Rel.osh hb (by rw [hr.len];omega) hbase,?_⟩,T',ht⟩
        have hcut:=ZQ (P:=P) (w:=w) ht hj base (n:=x.n) (cap:=x.cap) (by rw [hr.len];exact hr.le) .no (.yes k hh) (fun _ h=>by cases h) (by simp) (fun _ h=>by cases h;exact hl.1) (by simp [hr.len];omega)
        rw [hcut];simp only [Option.getD_none,Option.getD_some,Int.toNat_zero,Nat.zero_mul,Nat.sub_zero];congr 2;split
        ·rfl
        ·cases base with
         | none=>rfl
         | some q =>
           obtain ⟨q1,q2,q3⟩:=q;simp only [Option.map_some,Addr.add];split<;>simp_all
    ·simp at hT
   ·simp at hT
  ·simp at hT
 ·simp at hT
theorem jfe {p o j:Nat}:(⟨p,o,none⟩ : Addr).add j=⟨p,o+j,none⟩:=by
 unfold Addr.add;split<;>simp_all
theorem jkH {F w bs mem} (hm : MemRel P F w bs mem) {x : A1} {es : List Sh} {m : Nat} {σ : Val} (h : VN mem x = some (es, m, σ)) {u : Value} (hx : A1.Rel F w bs x u) :
  ∃ sb sc,u=.slice sb m sc∧∃ val:Nat->Nat->Value,(∀ k,k<=m->(Builtin.firstCells es.length k u).run P w=.ok (((List.range (k*es.length)).map fun q=>val (q / es.length) (q % es.length)).toArray) w) ∧
   (∀ i f s,i<m->nth es f=some s->CV.Rel F w [] (cellOf s ((σ.at i).at f)) (val i f)):=by
 have load : ∀ (blk off : Nat) (val : Nat -> Nat -> Value) (m : Nat), (∀ i f, i < m -> f < es.length -> w.cell? ⟨blk, off + (i * es.length + f), none⟩ = some (val i f)) -> ∀ k, k <= m ->
   (loadCells ⟨blk,off,none⟩ (k*es.length)).run P w=.ok (((List.range (k*es.length)).map fun q=>val (q / es.length) (q % es.length)).toArray) w:=by
  intro blk off val m hc k hk;refine run_loadCells w _ _ _ fun q hq => ?_;rw [jfe]
  have hpos:0<es.length:=by
   rcases Nat.eq_zero_or_pos es.length with h0 | h0
   ·rw [h0] at hq;omega
   ·exact h0
  have hdiv:q / es.length<k:=Nat.div_lt_of_lt_mul (by rw [Nat.mul_comm];exact hq)
  have:=hc (q / es.length) (q % es.length) (by omega) (Nat.mod_lt _ hpos)
  rwa [Nat.mul_comm,Nat.div_add_mod] at this
 unfold VN at h;split at h
 ·rename_i es' n ρ;simp only [sIq,pIq] at h;obtain ⟨rfl,rfl,rfl⟩:=h;cases hx with
  | slnil =>
    refine ⟨none,0,rfl,fun _ _=>undef,fun k hk => ?_,fun i f s hi=>by omega⟩
    obtain rfl:k=0:=by omega
    simp [Builtin.firstCells]
  | sl val hn h0 hc hr =>
    rename_i cap a;refine ⟨some a,_,rfl,val,fun k hk => ?_,hr⟩;show (loadCells a (k*es'.length)).run P w=_;by_cases hn0:n=0
    ·obtain rfl:k=0:=by omega
     rw [Nat.zero_mul];exact run_loadCells w a 0 _ fun j hj=>by omega
    ·obtain ⟨hs,_,_⟩:=h0 (by omega)
     obtain ⟨blk,off,spot⟩:=a;simp only at hs;subst hs;exact load blk off val n hc k hk
 ·rename_i b sz m';split at h
  ·rename_i T fz es' n ρ hrow;split at h
   ·rename_i hsz;simp only [sIq,pIq] at h;obtain ⟨rfl,rfl,rfl⟩:=h;have hrow:=j7 hrow;cases hx with
    | osh hb hl hbase =>
      rename_i xb base;have hr:=hm.row b T fz es' n ρ xb hrow hb;have hmn:m'<=n:=by rw [← hr.len];exact hl
      by_cases hm0:m'=0
      ·subst hm0;refine ⟨base,_,rfl,fun _ _=>undef,fun k hk => ?_,fun i f s hi=>by omega⟩
       obtain rfl:k=0:=by omega
       cases base with
       | none=>simp [Builtin.firstCells]
       | some a =>
         simp only [Builtin.firstCells,Nat.zero_mul];exact run_loadCells w a 0 _ fun j hj=>by omega
      ·have hn0:0<n:=by omega
       obtain ⟨arr,harr,hs,val,h3,h4⟩:=hr.block hn0
       have:=hbase (hr.room hn0)
       subst this;refine ⟨_,_,rfl,val,fun k hk => ?_,fun i f s hi hs=>h4 i f s (by omega) hs⟩
       refine load xb.p 0 val m' (fun i f hi hf => ?_) k hk;rw [Nat.zero_add]
       have:=h3 i f (by omega) hf
       simp only [World.cell?,harr,Option.isSome_none,Bool.false_eq_true,if_false];exact this
   ·simp at h
  ·simp at h
 ·simp at h
theorem Od {lo k i:Nat} {ρ σ:Val} (h:i<lo∨lo+k<=i):(splice lo k ρ σ).at i=ρ.at i:=by
 unfold splice;rw [KC];cases h1:Nat.blt i lo
 ·have h2 : Nat.blt i (lo + k) = false := by
   rw [← Bool.not_eq_true] at h1 ⊢;simp only [Nat.blt_eq] at h1 ⊢;omega
  rw [h2];rfl
 ·rfl
theorem jeb {lo k i:Nat} {ρ σ:Val} (h1:lo<=i) (h2:i<lo+k):(splice lo k ρ σ).at i=σ.at (i - lo):=by
 unfold splice;rw [KC];have e1:Nat.blt i lo=false:=by rw [← Bool.not_eq_true];simp only [Nat.blt_eq];omega
 have e2:Nat.blt i (lo+k)=true:=by simp only [Nat.blt_eq];exact h2
 rw [e1,e2];rfl
theorem ji5 {F w bs mem} (hm : MemRel P F w bs mem) {t ty : TypeId} {ts : List TypeId} {a x : A1} {r : AV} {mem' : Mem} (h : (Uu P mem t a x).sel = some (r, mem')) {v u : Value} (ha : A1.Rel F w bs a v) (hx : A1.Rel F w bs x u) :
  ∃ w' z,Ext bs.length F w bs F w' bs∧MemRel P F w' bs mem'∧r.Rel F w' bs z∧(Builtin.copy_ (t::ts).toArray ty #[v,u]).run P w=.ok z w':=by
 unfold Uu at h;split at h
 ·rename_i b sz lo es' m σ hd hc;split at h
  ·rename_i e T es n ρ ht hrow;split at h
   ·rename_i j hj;split at h
    ·rename_i hcond;simp only [aTq,beq_iff_eq,Nat.blt_eq] at hcond;obtain ⟨⟨⟨⟨hse,hes⟩,hszj⟩,hTe⟩,hpos⟩:=hcond;have hse:=jm hse;subst hse;subst hTe;simp only [Tree.sel,sIq,pIq] at h;obtain ⟨rfl,rfl⟩:=h;have hrow:=j7 hrow;obtain ⟨sb,sc,rfl,val',hfirst,hrel'⟩:=jkH hm hc hx
     have hdst:∃ (xb:BI) (base:Option Addr) (cap:Nat),nth bs b=some xb∧v=.slice base (xb.n - lo) cap∧(0<xb.cap->base=some ⟨xb.p,lo*sz,none⟩)∧lo<=xb.n:=by
      unfold jce at hd;split at hd
      ·simp only [sIq,pIq] at hd;obtain ⟨rfl,rfl,rfl⟩:=hd;cases ha with
       | os hb hbase=>exact ⟨_,_,_,hb,rfl,fun h=>by rw [hbase h];simp,Nat.zero_le _⟩
      ·simp only [sIq,pIq] at hd;obtain ⟨rfl,rfl,rfl⟩:=hd;cases ha with
       | ost hb hl=>exact ⟨_,_,_,hb,rfl,fun _=>rfl,Nat.le_of_lt hl⟩
      ·simp at hd
     obtain ⟨xb,base,cap,hb,rfl,hbase,hlo⟩:=hdst;have hr:=hm.row b T false es' n ρ xb hrow hb;have hlo:lo<=n:=by rw [← hr.len];exact hlo
     generalize hk:Nat.min m (n - lo)=k;have hkm:k<=m:=by rw [← hk];exact Nat.min_le_left _ _
     have hkn:k<=n - lo:=by rw [← hk];exact Nat.min_le_right _ _
     have hcells:=hfirst k hkm;have hcs:((List.range (k*es'.length)).map fun q=>val' (q / es'.length) (q % es'.length)).length=k*sz:=by simp [hes,hszj]
     have hrun : ∀ w', (∀ a, base = some a -> (storeCells a ((List.range (k * es'.length)).map fun q => val' (q / es'.length) (q % es'.length)) 0).run P w = .ok () w') -> (base = none -> w' = w) ->
       (Builtin.copy_ (t::ts).toArray ty #[.slice base (xb.n - lo) cap,.slice sb m sc]).run P w=.ok (goInt k) w':=by
      intro w' h1 h2;have hes':j.size=es'.length:=hes.symm;have hsz:(sizeOf T).run P w=.ok es'.length w:=by simp [sizeOf,typeInfo,hj,hes']
      cases base with
      | none=>rw [h2 rfl];simp [Builtin.copy_,run_underlying ht,Builtin.lenOf,hsz,hr.len,hk,hcells]
      | some a =>
        have:=h1 a rfl
        simp [Builtin.copy_,run_underlying ht,Builtin.lenOf,hsz,hr.len,hk,hcells,this]
     by_cases hk0:k=0
     ·subst hk0;refine ⟨w,goInt 0,Ext.refl,?_,CV.Rel.int _ _,hrun w (fun a _=>by simp [storeCells]) fun _=>rfl⟩
      have he:∀ i f s,i<n->nth es' f=some s->cellOf s ((ρ.at i).at f)=cellOf s (((splice lo 0 ρ σ).at i).at f):=fun i f s _ _=>by rw [Od (by omega)]
      have m2:=(hm.kill b).put hb (T:=T) (cs:=[.row false es' n (splice lo 0 ρ σ)]) k7 (fun hl=>hm.loc b xb T _ hb hrow hl) (fun hl k' y T' cs' hk' hc' hv => ?_) (fun h=>by simp [jf] at h) (fun fz' es'' n' ρ' h => ?_)
      ·rwa [au] at m2
      ·rcases jL hc' with ⟨_,h⟩ | ⟨hne,h⟩
       ·cases h
       ·exact fun e=>hne (hm.inj k' b y xb T' cs' T _ hk' hb h hrow hv hl e)
      ·simp only [List.cons.injEq,CV.row.injEq,and_true] at h;obtain ⟨rfl,rfl,rfl,rfl⟩:=h;refine ⟨hr.len,hr.le,hr.mx,fun h0 => ?_,hr.frz⟩;obtain ⟨arr,a1,a2,val,a3,a4⟩:=hr.blk h0;exact ⟨arr,a1,a2,val,a3,fun i f s hi hs=>he i f s hi hs▸a4 i f s hi hs⟩
     ·have hn0:0<n:=by omega
      have hb0:=hbase (hr.room hn0);subst hb0;obtain ⟨arr,harr,hs,val,h3,h4⟩:=hr.block hn0;have hlive:jM xb [CV.row false es' n ρ]:=⟨rfl,hr.room hn0⟩;have hcap:=(hr.cap hn0).1;have hlen:es'.length=sz:=by rw [hes,hszj]
      generalize hcl:((List.range (k*es'.length)).map fun q=>val' (q / es'.length) (q % es'.length))=cs at *
      have hcnth:∀ i f,i<k->f<sz->cs[i*sz+f]? = some (val' i f):=by
       intro i f hi hf
       have hlt:i*sz+f<k*sz:=by
        have:(i+1)*sz<=k*sz:=Nat.mul_le_mul_right _ hi
        rw [Nat.add_mul,Nat.one_mul] at this;omega
       rw [← hcl,List.getElem?_map,hlen,List.getElem?_range hlt];simp only [Option.map_some];rw [Nat.mul_comm,Nat.mul_add_div hpos,Nat.div_eq_of_lt hf,Nat.mul_add_mod,Nat.mod_eq_of_lt hf,Nat.add_zero]
      have hone:∀ z ∈ cs,z.oneCell'=true:=by
       intro z hz;rw [← hcl,List.mem_map] at hz;obtain ⟨q,hq,rfl⟩:=hz;rw [List.mem_range,hlen] at hq;rw [hlen];have hdiv:q / sz<k:=Nat.div_lt_of_lt_mul (by rw [Nat.mul_comm];exact hq)
       have hmod:q % sz<es'.length:=by rw [hlen];exact Nat.mod_lt _ hpos
       obtain ⟨s,hs⟩ : ∃ s,nth es' (q % sz)=some s:=⟨es'[q % sz],by rw [jd];exact List.getElem?_eq_getElem hmod⟩
       exact (hrel' (q / sz) (q % sz) s (by omega) hs).one
      have hcapm:n*sz<=xb.cap*sz:=Nat.mul_le_mul_right _ hcap
      have hlok:lo*sz+k*sz<=n*sz:=by
       rw [← Nat.add_mul];exact Nat.mul_le_mul_right _ (by omega)
      have hal:arr.toList.length=arr.size:=by simp
      have hfitA:lo*sz+0+cs.length<=arr.size:=by rw [hs,hcs,hlen];omega
      have hst:=run_storeCells_at (P:=P) xb.p (lo*sz) T cs 0 arr w harr hfitA hone;simp only [Nat.add_zero] at hst;obtain ⟨e2,m2⟩:=hm.rewrite hb hrow hlive (arr.toList.take (lo*sz)++cs++arr.toList.drop (lo*sz+cs.length)).toArray;have hF:=hm.loc b xb T _ hb hrow hlive;have hinj:=hm.rewrite_inj hb hrow hlive;refine ⟨_,goInt k,e2,?_,CV.Rel.int _ _,hrun _ (fun a h=>by cases h;exact hst) fun h=>by cases h⟩
      have:=m2.put hb (T:=T) (cs:=[.row false es' n (splice lo k ρ σ)]) k7 (fun _=>⟨hF.1,by simpa [World.setRow] using hF.2⟩) (fun _=>hinj) (fun h=>by simp [jf] at h) (fun fz' es'' n' ρ' h => ?_)
      ·rwa [au] at this
      ·simp only [List.cons.injEq,CV.row.injEq,and_true] at h;obtain ⟨rfl,rfl,rfl,rfl⟩:=h;refine ⟨hr.len,hr.le,hr.mx,fun _=>⟨_,setRow_heap w xb.p _ _ _ _ harr,?_,fun i f=>if i<lo∨lo+k<=i then val i f else val' (i - lo) f,fun i f hi hf => ?_,fun i f s hi hf => ?_⟩,fun _ h=>by cases h⟩
       ·simp only [List.size_toArray,List.length_append,List.length_take,List.length_drop];omega
       ·dsimp only
        have h6:=h3 i f hi hf;rw [hlen] at h6 hf ⊢;rw [List.getElem?_toArray];have htk:(arr.toList.take (lo*sz)).length=lo*sz:=by simp only [List.length_take];rw [hal,hs,hlen];omega
        by_cases hil:i<lo
        ·rw [if_pos (.inl hil)]
         have hlt:i*sz+f<lo*sz:=by
          have:(i+1)*sz<=lo*sz:=Nat.mul_le_mul_right _ hil
          rw [Nat.add_mul,Nat.one_mul] at this;omega
         rw [List.append_assoc,List.getElem?_append_left (by rw [htk];exact hlt),List.getElem?_take,if_pos hlt]
         simpa using h6
        ·have hge:lo*sz<=i*sz:=Nat.mul_le_mul_right _ (by omega)
         by_cases hik:lo+k<=i
         ·rw [if_pos (.inr hik)];have hge2:(lo+k)*sz<=i*sz:=Nat.mul_le_mul_right _ hik;rw [Nat.add_mul] at hge2;rw [List.append_assoc,List.getElem?_append_right (by omega),htk,List.getElem?_append_right (by rw [hcs];omega),hcs,List.getElem?_drop]
          rw [show lo*sz+k*sz+(i*sz+f - lo*sz - k*sz)=i*sz+f by omega]
          simpa using h6
         ·rw [if_neg (by omega)]
          have hlt:(i - lo)*sz+f<k*sz:=by
           have:(i - lo+1)*sz<=k*sz:=Nat.mul_le_mul_right _ (by omega)
           rw [Nat.add_mul,Nat.one_mul] at this;omega
          rw [List.append_assoc,List.getElem?_append_right (by omega),List.getElem?_append_left (by rw [htk,hcs];rw [Nat.sub_mul] at hlt;omega),htk]
          have e5:i*sz+f - lo*sz=(i - lo)*sz+f:=by
           rw [Nat.sub_mul];omega
          rw [e5,hcnth (i - lo) f (by omega) hf]
       ·dsimp only
        by_cases hil:i<lo∨lo+k<=i
        ·rw [if_pos hil,Od hil];exact (h4 i f s hi hf).grow e2.grow0
        ·rw [if_neg hil,jeb (by omega) (by omega)]
         exact (hrel' (i - lo) f s (by omega) hf).grow e2.grow0
    ·simp [Tree.sel] at h
   ·simp [Tree.sel] at h
  ·simp [Tree.sel] at h
 ·simp [Tree.sel] at h
theorem jnw {F w bs mem} (hm : MemRel P F w bs mem) {t : TypeId} {n : Nat} {parts : List (Nat × A1)} {pv : Array (Nat × Value)} {r : AV} (h : jaC P t n parts = some r)
  (hp:All2 (fun x y=>x.1=y.1∧A1.Rel F w bs x.2 y.2) parts pv.toList) :
  ∃ F' w' v,Ext bs.length F w bs F' w' bs∧MemRel P F' w' bs mem∧r.Rel F' w' bs v∧(Instr.buildSlice t n pv).run P w=.ok v w':=by
 unfold jaC at h;split at h
 ·rename_i e hu;split at h
  ·rename_i j es z hj hes hz;split at h
   ·rename_i hcond;simp only [aTq,beq_iff_eq,Nat.ble_eq,Nat.blt_eq] at hcond;obtain ⟨⟨⟨h1,h2⟩,h3⟩,h4⟩:=hcond;split at h
    ·rename_i cs hfill;split at h
     ·rename_i hfit;simp only [aTq,List.all_eq_true] at hfit;obtain ⟨hcl,hfit⟩:=hfit;simp only [sIq] at h;subst h;unfold jV at hz;simp only [hj] at hz;split at hz
      ·rename_i zv hzv;have hzc:All2 (CV.Rel F w bs) z zv.cells.toList:=yU hz;have hzs:zv.cells.size=j.size:=by have:=hzc.length;simp at this;omega
       let base:List Value:=(List.range (n*j.size)).map fun i=>zv.cells[i % zv.cells.size]!
       have hbase:All2 (CV.Rel F w bs) (Qo z n) base:=by
        refine All2.of_nth (by simp [base,Z6,h3]) fun i x v hx hv => ?_
        have hi:=js hv;simp only [base,List.length_map,List.length_range] at hi;rw [Vl z n i (by rw [h3];exact hi)] at hx
        rw [jd] at hv;simp only [base,List.getElem?_map,List.getElem?_range hi,Option.map_some,sIq] at hv;subst hv;obtain ⟨u,hu,hr⟩:=hzc.nth hx;rw [hzs,← h3];simp only [Array.getElem?_toList] at hu;rw [getElem!_def,hu];exact hr
       obtain ⟨rv,hrv,hf⟩:=Kd (places':=fun i=>some (i*j.size,j.size)) (fun i p h=>h) hfill hbase hp;obtain ⟨hl,hnth⟩:=ZC hfit;have hlen:rv.length=n*j.size:=by rw [← hrv.length,hl,h1]
       have harr:((Array.range (n*j.size)).map (zv.cells[· % zv.cells.size]!))=base.toArray:=by
        apply Array.ext';simp [base,Array.toList_map]
       let F':Nat->Prop:=fun p=>F p∧p<w.heap.size
       have ext:∀ o:Obj,Ext bs.length F w bs F' (w.alloc o) bs:=fun o=>⟨by simp,fun _ _ h=>h.1,fun p h hp _=>⟨h,hp⟩,fun p hp _=>Below.heap_alloc _ _ _ hp,rfl,rfl,rfl,fun _ _ _ h=>h,fun x h=>.inl ⟨x,h,rfl⟩⟩
       have mm:∀ o:Obj,MemRel P F' (w.alloc o) bs mem:=fun o=>hm.move (ext o) fun k x T cs hk hc hv=>⟨hm.loc k x T cs hk hc hv,Below.heap_alloc _ _ _ (hm.loc k x T cs hk hc hv).2⟩;by_cases hn:n=0
       ·subst hn;have hrv0:rv=[]:=List.eq_nil_of_length_eq_zero (by simpa using hlen)
        subst hrv0;refine ⟨F',w.alloc (.cells #[] e),.slice (some ⟨w.heap.size,0,none⟩) 0 0,ext _,mm _,CV.Rel.sl (fun _ _=>undef) (lRq _) (fun h=>by omega) (fun i f h=>by omega) (fun i f s h=>by omega),?_⟩
        have hpv:pv = #[]:=by
         have:=HH (cs:=cs) (sz:=j.size) h2 hfill
         subst this;cases hp':pv.toList with
         | nil=>rw [← Array.toArray_toList (xs:=pv),hp']
         | cons _ _=>rw [hp'] at hp;cases hp
        subst hpv;have hr0:Array.range 0 = #[]:=Array.eq_empty_of_size_eq_zero (by simp)
        simp [Instr.buildSlice,run_underlying hu,sizeOf,typeInfo,hj,Instr.fill,newRow,hr0]
       ·have hpos : n * j.size ≠ 0 := by
         intro e;rcases Nat.mul_eq_zero.1 e with e | e<;>omega
        have hnew:(w.alloc (.cells rv.toArray e)).heap[w.heap.size]? = some (.cells rv.toArray e (0,0)):=World.alloc_heap_new w _;refine ⟨F',w.alloc (.cells rv.toArray e),.slice (some ⟨w.heap.size,0,none⟩) n n,ext _,mm _,CV.Rel.sl (fun i f=>rv.toArray[i*es.length+f]?.getD undef) (lRq _) (fun _=>⟨rfl,by simp,fun h=>Nat.lt_irrefl _ h.2⟩) (fun i f hi hf => ?_) (fun i f s hi hs => ?_),?_⟩
        ·have hlt : i * es.length + f < rv.length := by
          rw [hlen,← h1]
          have:(i+1)*es.length<=n*es.length:=Nat.mul_le_mul_right _ hi
          rw [Nat.add_mul,Nat.one_mul] at this;omega
         show (w.alloc (.cells rv.toArray e)).cell? ⟨w.heap.size,0+(i*es.length+f),none⟩=_;unfold World.cell?;simp only [hnew,Nat.zero_add,Option.isSome_none,Bool.false_eq_true,if_false];simp [hlt]
        ·obtain ⟨c,hc,hfitc⟩:=hnth i f s hi hs;obtain ⟨u,hu,hrel⟩:=hrv.nth hc;have hrel:=(hrel.grow (ext (.cells rv.toArray e)).grow)
         have:=QU hrel hfitc
         have e1:((Val.ofFlat j.size cs).at i).at f=Val.ofC c:=by
          show (match nth cs (i*j.size+f) with | some x=>Val.ofC x | none=>Val.zero)=_
          rw [← h1,hc]
         rw [e1];simpa [hu] using this
        ·exact run_buildSlice w t e n pv rv.toArray j zv hu hj hzv (by omega) hpos (by rw [harr];exact hf)
      ·simp at hz
     ·simp at h
    ·simp at h
   ·simp at h
  ·simp at h
 ·simp at h
end
end Go.Sx