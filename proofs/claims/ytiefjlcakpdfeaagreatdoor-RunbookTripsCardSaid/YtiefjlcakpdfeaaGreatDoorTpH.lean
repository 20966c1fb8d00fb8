/-
 Part TpH of the proof: EngM.
-/
import Derived.Test.YtiefjlcakpdfeaaGreatDoorTpG
namespace Go.Sx
open Go Go.RowKit
def obs (m:Mem):Nat->Nat ⊕ Option (Option (TypeId × List CV))
 | 0=>.inl m.length
 | b+1=>.inr (nth m b)
theorem XY {m m':Mem} (h:∀ l,obs m l=obs m' l):m=m':=by
 apply List.ext_getElem?;intro i
 have:=h (i+1)
 simpa [obs,jd] using this
def Touch.at:Touch->Nat->Prop
 | none,_=>True
 | some t,l=>∃ x,(l,x) ∈ t
def Touch.wr:Touch->Nat->Prop
 | none,_=>True
 | some t,l=>(l,true) ∈ t
theorem Touch.wr_at {t:Touch} {l:Nat} (h:t.wr l):t.at l:=by
 cases t
 ·trivial
 ·exact ⟨true,h⟩
theorem JX {α β:Type} {t:Tree α} {f:α->Tree β} {a:α} (h:t.sel=some a):(t.bind f).sel=(f a).sel:=by
 induction t with
 | leaf b=>simp only [Tree.sel,sIq] at h;subst h;rfl
 | br c t e iht ihe =>
   simp only [Tree.bind,Tree.sel] at h ⊢;cases c
   ·exact ihe h
   ·exact iht h
 | need c t ih =>
   simp only [Tree.bind,Tree.sel] at h ⊢;cases c
   ·simp at h
   ·exact ih h
 | fail=>simp [Tree.sel] at h
theorem DZ {t:Nat} {ts:List Nat}:JE t ts=true↔t ∈ ts:=by
 induction ts with
 | nil=>simp [JE]
 | cons u r ih=>simp [JE,ih]
theorem JJ {ts:List Nat} {ρ:Operand->Option AV} {x:Operand} {av:AV} (h:UK ts ρ x=some av):ρ x=some av:=by
 unfold UK at h;split at h
 ·split at h
  ·exact h
  ·simp at h
 ·exact h
theorem Ip {ts:List Nat} {ρ ρ':Operand->Option AV} (h:∀ t ∈ ts,ρ (.tmp t)=ρ' (.tmp t)) (h':∀ x,(∀ t,x ≠ .tmp t)->ρ x=ρ' x):UK ts ρ=UK ts ρ':=by
 funext x;cases x with
 | tmp t =>
   simp only [UK];split
   ·rename_i ha;exact h t (DZ.1 ha)
   ·rfl
 | _=>exact h' _ (by simp)
theorem Un {o:Oper} {s s':St} {K:List (Nat × Bool)} (h:∀ t ∈ tmpsIn o.op.operands.toList,nth s.tmps t=nth s'.tmps t):lim o s K=lim o s' K:=by
 unfold lim;refine Ip (fun t ht => ?_) (fun x hx => ?_)
 ·simp only [zJ,h t ht]
 ·unfold zJ;split
  ·exact absurd rfl (hx _)
  ·rfl
  ·rfl
  ·rfl
section
variable {P:Program}
theorem zk {mem M:Mem} {b:Nat} (h:nth mem b=nth M b):rowAt mem b=rowAt M b:=by unfold rowAt;rw [h]
theorem jcU {mem:Mem} {x:CV} (h:ym x=false):ZS mem x=(mem,x):=by
 unfold ZS;split
 ·simp [ym] at h
 ·rfl
theorem Va:∀ {l:List CV} {mem:Mem},(∀ x ∈ l,ym x=false)->qL mem l=(mem,l)
 | [],_,_=>rfl
 | x :: r, mem, h => by
   have h2:=Va (l:=r) (mem:=mem) fun y hy=>h y (List.mem_cons_of_mem _ hy);simp only [qL,jcU (h x (by simp)),h2]
theorem jfs {α:Type} {l:List α} {b:Nat} {y x:α} (h:x ∈ jk l b y):x ∈ l∨x=y:=by
 rw [jC] at h;rcases List.mem_or_eq_of_mem_set h with h | h
 ·exact .inl h
 ·exact .inr h
theorem Ug:∀ {news cs:List CV} {o:Nat} {x:CV},x ∈ putCells cs o news->x ∈ cs∨x ∈ news
 | [],cs,o,x,h=>.inl h
 | y :: r, cs, o, x, h => by
   simp only [putCells] at h;rcases Ug h with h | h
   ·rcases jfs h with h | h
    ·exact .inl h
    ·exact .inr (by simp [h])
   ·exact .inr (by simp [h])
theorem Br {places:Nat->Option (Nat × Nat)}:∀ {parts:List (Nat × A1)} {cs r:List CV},ku places cs parts=some r->(∀ x ∈ cs,ym x=false)->(∀ p ∈ parts,∀ x ∈ p.2.cells,ym x=false)->∀ x ∈ r,ym x=false
 | [],cs,r,h,hc,_=>by simp [ku] at h;subst h;exact hc
 | (i, v) :: q, cs, r, h, hc, hp => by
   simp only [ku] at h;split at h
   ·simp at h
   ·split at h
    ·refine Br h (fun x hx => ?_) (fun p hp'=>hp p (by simp [hp']))
     rcases Ug hx with hx | hx
     ·exact hc x hx
     ·exact hp (i,v) (by simp) x hx
    ·simp at h
theorem XU:∀ {l:List Value} {z:List CV},kV l=some z->∀ x ∈ z,ym x=false
 | [],z,h=>by simp [kV] at h;subst h;simp
 | v :: r, z, h => by
   simp only [kV] at h;split at h
   ·rename_i c l hc hl;simp at h;subst h;intro x hx;rcases List.mem_cons.1 hx with rfl | hx
    ·unfold WM at hc;split at hc<;>simp at hc<;>subst hc<;>rfl
    ·exact XU hl x hx
   ·simp at h
theorem jcr {P:Program} {t:TypeId} {z:List CV} (h:jS P t=some z):∀ x ∈ z,ym x=false:=by
 unfold jS at h;split at h
 ·split at h
  ·exact XU h
  ·simp at h
 ·simp at h
theorem TC {z:List CV}:∀ {n:Nat} {x:CV},x ∈ Qi z n->x ∈ z
 | 0,x,h=>by simp [Qi] at h
 | n + 1, x, h => by
   simp only [Qi,List.mem_append] at h;rcases h with h | h
   ·exact h
   ·exact TC h
theorem OT {P : Program} {M mem : Mem} {t : TypeId} {l c : AV} {r : AV} {M' : Mem} (h : (XI P M t l c).sel = some (r, M')) (hlen : mem.length = M.length) :
  ∃ b,M'=M++[b]∧(XI P mem t l c).sel=some (r,mem++[b]):=by
 unfold XI at h ⊢;split at h
 ·rename_i kl l kc c;split at h
  ·split at h
   ·rename_i j es z hj hes hz;split at h
    ·rename_i hc;simp only [if_pos hc,Tree.sel] at h ⊢;cases hc2:(le 0 l&&le l c&&le (c*ja j.bytes) 140737488355328)<;>simp [hc2] at h;obtain ⟨rfl,rfl⟩:=h;exact ⟨_,rfl,by simp [hlen]⟩
    ·simp [Tree.sel] at h
   ·simp [Tree.sel] at h
  ·simp [Tree.sel] at h
 ·simp [Tree.sel] at h
theorem Lt {P : Program} {M mem : Mem} {t : TypeId} {n : Nat} {parts : List (Nat × A1)} {r : AV} {M' : Mem} (h : kO P M t n parts = some (r, M')) (hp : ∀ p ∈ parts, ∀ x ∈ p.2.cells, ym x = false) (hlen : mem.length = M.length) :
  ∃ b,M'=M++[b]∧kO P mem t n parts=some (r,mem++[b]):=by
 unfold kO at h ⊢;split at h
 ·split at h
  ·rename_i hz;split at h
   ·rename_i hc;rw [if_pos hc];split at h
    ·rename_i cs hf;have hno:=Br hf (fun x hx=>jcr hz x (TC hx)) hp;simp only [Va hno] at h ⊢;split at h
     ·rename_i hfit;rw [if_pos hfit];simp only [sIq,pIq] at h;obtain ⟨rfl,rfl⟩:=h;exact ⟨_,rfl,by rw [hlen]⟩
     ·simp at h
    ·simp at h
   ·simp at h
  ·simp at h
 ·simp at h
theorem BH {mem M:Mem} {x:A1} (h:∀ b sz,x=.c (.os b sz)->nth mem b=nth M b):YU mem x=YU M x:=by
 unfold YU;split
 ·rfl
 ·rw [zk (h _ _ rfl)]
 ·rfl
theorem yE {α:Type} {l:List α} {x:α} {k:Nat} (h:k<l.length):nth (l++[x]) k=nth l k:=by
 rw [jd,jd,List.getElem?_append_left h]
theorem Qx {α:Type} {l:List α} {x:α} {k:Nat} (h:k ≠ l.length):nth (l++[x]) k=nth l k:=by
 rw [jd,jd];rcases Nat.lt_or_ge k l.length with h' | h'
 ·rw [List.getElem?_append_left h']
 ·rw [List.getElem?_eq_none h',List.getElem?_eq_none (by simp;omega)]
theorem qo {α:Type} {l:List α} {b:Nat} {x:α} (h:b<l.length):nth (jk l b x) b=some x:=by
 rw [jC,jd,List.getElem?_set_self h]
theorem zm {α:Type} {l:List α} {b k:Nat} {x:α} (h:k ≠ b):nth (jk l b x) k=nth l k:=by
 rw [jC,jd,jd,List.getElem?_set_ne (fun e=>h e.symm)]
theorem BG {mem M:Mem} {x:CV} (h:∀ b sz,x=.os b sz->nth mem b=nth M b) (ho:BQ x=true):Zp mem x=Zp M x:=by
 cases x<;>first | rfl | (simp [BQ] at ho;done) | skip
 ·rename_i b sz;simp only [Zp,zk (h b sz rfl)]
theorem Bs:∀ {l:List CV} {b sz:Nat},CV.os b sz ∈ l->(b+1,false) ∈ J3 l
 | [],_,_,h=>by simp at h
 | y :: l, b, sz, h => by
   rcases List.mem_cons.1 h with h | h
   ·subst h;simp [J3]
   ·have:=Bs h
    cases y<;>simp [J3,this]
theorem Uq:∀ {l:List A1} {x:A1} {b sz:Nat},x ∈ l->CV.os b sz ∈ x.cells->(b+1,false) ∈ YW l
 | [],_,_,_,h,_=>by simp at h
 | y :: l, x, b, sz, h, hc => by
   rcases List.mem_cons.1 h with h | h
   ·subst h;simp [YW,Bs hc]
   ·simp [YW,Uq h hc]
theorem WC:∀ {l:List CV} {p:Nat × Bool},p ∈ J3 l->p.2=false
 | [],_,h=>by simp [J3] at h
 | y :: l, p, h => by
   cases y<;>simp only [J3,List.mem_cons] at h<;>first | exact WC h | (rcases h with rfl | h;rfl;exact WC h)
theorem BP:∀ {l:List A1} {p:Nat × Bool},p ∈ YW l->p.2=false
 | [],_,h=>by simp [YW] at h
 | y :: l, p, h => by
   simp only [YW,List.mem_append] at h;rcases h with h | h
   ·exact WC h
   ·exact BP h
theorem BD {mem M:Mem} {x:A1} (h:∀ b sz,CV.os b sz ∈ x.cells->nth mem b=nth M b) (ho:x.cells.all BQ=true):zo mem x=zo M x:=by
 cases x with
 | c x=>simp only [zo];rw [BG (fun b sz e=>h b sz (by subst e;simp [A1.cells])) (List.all_eq_true.1 ho x (by simp [A1.cells]))]
 | agg l =>
   simp only [zo];congr 1;exact List.map_congr_left fun x hx=>BG (fun b sz e=>h b sz (by subst e;exact hx)) (List.all_eq_true.1 ho x hx)
theorem MY {args:List A1} (h:jbN args=true) {x:A1} (hx:x ∈ args):x.cells.all BQ=true:=by
 refine List.all_eq_true.2 fun y hy => ?_
 have:=List.all_eq_true.1 (List.all_eq_true.1 h x hx) y hy
 cases y<;>first | rfl | simp [closedC,ym] at this
theorem FC {P : Program} (t : TypeId) (b sz : Nat) (lo hi mx : Option Int) (row : Option (TypeId × Bool × List Sh × Nat × Val)) :
  ∃ o:Option (Bool × AV),∀ mm:Mem,rowAt mm b=row->ko P mm t (.c (.os b sz)) lo hi mx=o.map fun p=>.need p.1 (.leaf (p.2,mm)):=by
 cases lo with
 | none=>exact ⟨none,fun mm _=>rfl⟩
 | some l=>cases hi with
  | some _=>exact ⟨none,fun mm _=>rfl⟩
  | none=>cases mx with
   | some _=>exact ⟨none,fun mm _=>rfl⟩
   | none =>
     cases hu:P.underlying t with
    | none=>exact ⟨none,fun mm _=>by simp [ko,hu]⟩
    | some d =>
      rcases row with _ | ⟨T,fz,es,n,ρ⟩
      ·exact ⟨none,fun mm h=>by simp only [ko,hu,h];cases d<;>rfl⟩
      ·cases fz
       ·cases d with
        | slice e =>
          cases hj:P.info? e with
         | none=>exact ⟨none,fun mm h=>by simp [ko,hu,h,hj]⟩
         | some j =>
           by_cases hc:(es.length==j.size&&sz==j.size&&T==e)=true
           ·exact ⟨some (le 0 l&&lt l (ja n),.one (.c (.ost b sz l.toNat))),fun mm h=>by simp only [ko,hu,h,hj];rw [if_pos hc];rfl⟩
           ·exact ⟨none,fun mm h=>by simp only [ko,hu,h,hj];rw [if_neg hc];rfl⟩
        | _=>exact ⟨none,fun mm h=>by simp only [ko,hu,h];rfl⟩
       ·exact ⟨none,fun mm h=>by simp only [ko,hu,h];cases d<;>rfl⟩
theorem Fl {P : Program} (t : TypeId) (b sz : Nat) (lo hi mx : Option Int) (row : Option (TypeId × Bool × List Sh × Nat × Val)) :
  ∃ o:Option (Bool × AV),∀ mm:Mem,rowAt mm b=row->kA P mm t (.c (.os b sz)) lo hi mx=o.map fun p=>.need p.1 (.leaf (p.2,mm)):=by
 cases lo with
 | some _=>exact ⟨none,fun mm _=>rfl⟩
 | none=>cases hi with
  | none=>exact ⟨none,fun mm _=>rfl⟩
  | some l=>cases mx with
   | some _=>exact ⟨none,fun mm _=>rfl⟩
   | none =>
     cases hu:P.underlying t with
    | none=>exact ⟨none,fun mm _=>by simp [kA,hu]⟩
    | some d =>
      rcases row with _ | ⟨T,fz,es,n,ρ⟩
      ·exact ⟨none,fun mm h=>by simp only [kA,hu,h];cases d<;>rfl⟩
      ·cases fz
       ·cases d with
        | slice e =>
          cases hj:P.info? e with
         | none=>exact ⟨none,fun mm h=>by simp [kA,hu,h,hj]⟩
         | some j =>
           by_cases hc:(es.length==j.size&&sz==j.size&&T==e)=true
           ·exact ⟨some (le 0 l&&le l (ja n),.one (.c (.osh b sz l.toNat))),fun mm h=>by simp only [kA,hu,h,hj];rw [if_pos hc];rfl⟩
           ·exact ⟨none,fun mm h=>by simp only [kA,hu,h,hj];rw [if_neg hc];rfl⟩
        | _=>exact ⟨none,fun mm h=>by simp only [kA,hu,h];rfl⟩
       ·exact ⟨none,fun mm h=>by simp only [kA,hu,h];cases d<;>rfl⟩
theorem MM {mem M:Mem} {x:A1} (h:∀ b sz m,x=.c (.osh b sz m)->nth mem b=nth M b):VZ mem x=VZ M x:=by
 cases x with
 | agg l=>rfl
 | c x =>
   cases x<;>try rfl
   rename_i b sz m;simp only [VZ,zk (h b sz m rfl)]
theorem JL {H : Hd} {call : ju} {M M' mem : Mem} {ρ : List (Nat × Bool) -> Operand -> Option AV} {op : Op} {r : AV} (h : (qP P H call M ρ op).sel = some (r, M'))
  (hat:∀ l,(qi H (ρ []) M.length op).at l->obs mem l=obs M l) :
  ∃ mem',(qP P H call mem ρ op).sel=some (r,mem')∧∀ l,((qi H (ρ []) M.length op).wr l->obs mem' l=obs M' l)∧(¬ (qi H (ρ []) M.length op).wr l->obs mem' l=obs mem l∧obs M' l=obs M l):=by
 cases hT:qi H (ρ []) M.length op with
 | none =>
   rw [hT] at hat;obtain rfl:mem=M:=XY fun l=>hat l trivial;exact ⟨M',h,fun l=>⟨fun _=>rfl,fun hn=>(hn trivial).elim⟩⟩
 | some t =>
   rw [hT] at hat
   have still:(∀ l,¬ (l,true) ∈ t)->M'=M->∀ l,(Touch.wr (some t) l->obs mem l=obs M' l)∧(¬ Touch.wr (some t) l->obs mem l=obs mem l∧obs M' l=obs M l):=by
    intro hno e l;subst e;exact ⟨fun hw=>(hno l hw).elim,fun _=>⟨rfl,rfl⟩⟩
   have rd:∀ b,(b+1,false) ∈ t->nth mem b=nth M b:=by
    intro b hb
    have:=hat (b+1) ⟨false,hb⟩
    simpa [obs] using this
   have rdw:∀ b,(b+1,true) ∈ t->nth mem b=nth M b:=by
    intro b hb
    have:=hat (b+1) ⟨true,hb⟩
    simpa [obs] using this
   have len:(0,true) ∈ t->mem.length=M.length:=by
    intro hb
    have:=hat 0 ⟨true,hb⟩
    simpa [obs] using this
   have pure_case:∀ e:Tree AV,(e.bind fun v=>Tree.leaf (v,M)).sel=some (r,M')->(∀ l,¬ (l,true) ∈ t)->∃ mem',(e.bind fun v=>Tree.leaf (v,mem)).sel=some (r,mem')∧∀ l,(Touch.wr (some t) l->obs mem' l=obs M' l)∧(¬ Touch.wr (some t) l->obs mem' l=obs mem l∧obs M' l=obs M l):=by
    intro e he ht;obtain ⟨v,hv,h2⟩:=jh he;simp only [Tree.sel,sIq,pIq] at h2;obtain ⟨rfl,rfl⟩:=h2;exact ⟨mem,by rw [JX hv];rfl,still ht rfl⟩
   have grow:∀ b:Option (TypeId × List CV),(0,true) ∈ t->(M.length+1,true) ∈ t->(∀ l,(l,true) ∈ t->l=0∨l=M.length+1)->∀ l,(Touch.wr (some t) l->obs (mem++[b]) l=obs (M++[b]) l)∧(¬ Touch.wr (some t) l->obs (mem++[b]) l=obs mem l∧obs (M++[b]) l=obs M l):=by
    intro b h1 h2 h3 l;have hlen:=len h1;refine ⟨fun hw => ?_,fun hn => ?_⟩
    ·rcases h3 l hw with rfl | rfl
     ·simp [obs,hlen]
     ·simp only [obs,jy];rw [← hlen,jy]
    ·cases l with
     | zero=>exact (hn h1).elim
     | succ k =>
       have hk:k ≠ M.length:=fun e=>hn (by subst e;exact h2)
       exact ⟨by simp only [obs,Sum.inr.injEq];exact Qx (by omega),by simp only [obs,Sum.inr.injEq];exact Qx hk⟩
   have grow2 : ∀ (d : Nat) (b : Option (TypeId × List CV)), d < M.length -> (0, true) ∈ t -> (M.length + 1, true) ∈ t -> (d + 1, true) ∈ t -> (∀ l, (l, true) ∈ t -> l = 0 ∨ l = M.length + 1 ∨ l = d + 1) ->
     ∀ l,(Touch.wr (some t) l->obs (jk mem d none++[b]) l=obs (jk M d none++[b]) l)∧(¬ Touch.wr (some t) l->obs (jk mem d none++[b]) l=obs mem l∧obs (jk M d none++[b]) l=obs M l):=by
    intro d b hd h1 h2 h4 h3 l;have hlen:=len h1;have hl1:(jk mem d (none:Option (TypeId × List CV))).length=mem.length:=jX _ _ _;have hl2:(jk M d (none:Option (TypeId × List CV))).length=M.length:=jX _ _ _;refine ⟨fun hw => ?_,fun hn => ?_⟩
    ·rcases h3 l hw with rfl | rfl | rfl
     ·simp [obs,hl1,hl2,hlen]
     ·simp only [obs,Sum.inr.injEq];have e1:nth (jk mem d none++[b]) M.length=some b:=by rw [← hlen,← hl1];exact jy _ _
      have e2:nth (jk M d none++[b]) M.length=some b:=by
       have:=jy (jk M d none) b
       rwa [hl2] at this
      rw [e1,e2]
     ·simp only [obs,Sum.inr.injEq];rw [yE (by omega),yE (by omega),qo (by omega),qo hd]
    ·cases l with
     | zero=>exact (hn h1).elim
     | succ k =>
       have hk:k ≠ M.length:=fun e=>hn (by subst e;exact h2)
       have hkd:k ≠ d:=fun e=>hn (by subst e;exact h4)
       exact ⟨by simp only [obs,Sum.inr.injEq];rw [Qx (by omega),zm hkd],by simp only [obs,Sum.inr.injEq];rw [Qx (by omega),zm hkd]⟩
   cases op with
  | alloc e =>
    simp only [qi,sIq] at hT;subst hT;simp only [qP] at h ⊢;split at h
    ·rename_i z hz;simp only [Tree.sel,sIq,pIq] at h;obtain ⟨rfl,rfl⟩:=h;exact ⟨_,by simp only [Tree.sel,len (by simp)],grow _ (by simp) (by simp) (by simp)⟩
    ·simp [Tree.sel] at h
  | box e x =>
    simp only [qi,sIq] at hT;subst hT;simp only [qP] at h ⊢;split at h
    ·rename_i z hz;split at h
     ·simp [Tree.sel] at h
     ·rename_i hrow;rw [if_neg hrow];simp only [Tree.sel,sIq,pIq] at h;obtain ⟨rfl,rfl⟩:=h;exact ⟨_,by simp only [Tree.sel,len (by simp)],grow _ (by simp) (by simp) (by simp)⟩
    ·simp [Tree.sel] at h
  | load ty x =>
    simp only [qi] at hT;simp only [qP] at h ⊢;split at h
    ·rename_i b sz i off hu;rw [hu] at hT;simp only [sIq] at hT;subst hT;split at h
     ·rename_i v hv;simp only [Tree.sel,sIq,pIq] at h;obtain ⟨rfl,rfl⟩:=h;refine ⟨mem,?_,still (by simp) rfl⟩
      have:QW P mem ty b sz i off=QW P M ty b sz i off:=by unfold QW;rw [zk (rd b (by simp))]
      rw [this,hv];rfl
     ·simp [Tree.sel] at h
    ·rename_i u hnr hu;split at h
     ·rename_i v hv;simp only [Tree.sel,sIq,pIq] at h;obtain ⟨rfl,rfl⟩:=h;refine ⟨mem,?_,still ?_ rfl⟩
      ·have : Kn P mem ty u = Kn P M ty u := by
        unfold Kn;split
        ·rename_i b o;rw [hu] at hT;simp only [sIq] at hT;rw [rd b (by rw [← hT];simp)]
        ·rfl
        ·rfl
       rw [this,hv];rfl
      ·rw [hu] at hT;intro l;split at hT<;>simp at hT<;>subst hT<;>simp
     ·simp [Tree.sel] at h
    ·simp [Tree.sel] at h
  | store ty x y =>
    simp only [qi] at hT;simp only [qP] at h ⊢;split at h
    ·rename_i b sz i off v hx hy;rw [hx] at hT;simp only [hy] at hT;split at hT
     ·rename_i hos;simp only [sIq] at hT;subst hT;have hb:=rdw b (by simp)
      have hno:∀ x ∈ v.cells,ym x=false:=fun x hx=>by
       have:=List.all_eq_true.1 hos x hx
       simpa using this
      split at h
      ·rename_i m' hm';simp only [Tree.sel,sIq,pIq] at h;obtain ⟨rfl,rfl⟩:=h;unfold YV at hm' ⊢;simp only [Va hno] at hm' ⊢;rw [zk hb];split at hm'
       ·rename_i j hj;split at hm'
        ·rename_i T es n ρ hrow;split at hm'
         ·rename_i hcond;split at hm'
          ·rename_i es' htk;split at hm'
           ·rename_i hfit;simp only [sIq] at hm';subst hm'
            have hM:nth M b=some (some (T,[.row false es n ρ])):=by
             unfold rowAt at hrow;split at hrow
             ·rename_i hh;simp only [sIq,pIq] at hrow;obtain ⟨rfl,rfl,rfl,rfl,rfl⟩:=hrow;exact hh
             ·cases hrow
            refine ⟨jk mem b (some (T,[.row false es n (ρ.upds i off v.cells)])),by simp only [hcond,if_true,hfit];rfl,fun l=>⟨fun hw => ?_,fun hn => ?_⟩⟩
            ·simp only [Touch.wr,List.mem_cons,pIq,and_true,List.not_mem_nil,or_false] at hw;subst hw;simp only [obs,Sum.inr.injEq];have h1:b<M.length:=jq hM;have h2:b<mem.length:=jq (hb.trans hM);rw [qo h1,qo h2]
            ·simp only [Touch.wr,List.mem_cons,pIq,and_true,List.not_mem_nil,or_false] at hn;cases l with
             | zero=>simp [obs,jC]
             | succ k =>
               have hk:k ≠ b:=fun e=>hn (by rw [e])
               simp only [obs,zm hk,and_self]
           ·cases hm'
          ·cases hm'
         ·cases hm'
        ·cases hm'
       ·cases hm'
      ·simp [Tree.sel] at h
     ·cases hT
    ·rename_i b off v hx hy;rw [hx] at hT;simp only [sIq] at hT;subst hT;have hb:=rdw b (by simp)
     rw [hb];split at h
     ·rename_i T cs i hmem hi;split at h
      ·rename_i hcond;simp only [Tree.sel,sIq,pIq] at h;obtain ⟨rfl,rfl⟩:=h;refine ⟨jk mem b (some (T,putCells cs off v.cells)),by rw [if_pos hcond];rfl,fun l=>⟨fun hw => ?_,fun hn => ?_⟩⟩
       ·simp only [Touch.wr,List.mem_cons,pIq,and_true,List.not_mem_nil,or_false] at hw;subst hw;simp only [obs,Sum.inr.injEq];have h1:b<M.length:=jq hmem;have h2:b<mem.length:=jq (hb.trans hmem);rw [qo h1,qo h2]
       ·simp only [Touch.wr,List.mem_cons,pIq,and_true,List.not_mem_nil,or_false] at hn;cases l with
        | zero=>simp [obs,jC]
        | succ k =>
          have hk:k ≠ b:=fun e=>hn (by rw [e])
          simp only [obs,zm hk,and_self]
      ·simp [Tree.sel] at h
     ·simp [Tree.sel] at h
    ·simp [Tree.sel] at h
  | buildSlice ty n parts =>
    simp only [qi] at hT;simp only [qP] at h ⊢;split at h
    ·rename_i l hl;rw [hl] at hT;simp only at hT;split at hT
     ·rename_i hlit;simp only [sIq] at hT;subst hT;rw [if_pos hlit] at h ⊢;split at h
      ·rename_i q hq;simp only [Tree.sel,sIq,pIq] at h;obtain ⟨rfl,rfl⟩:=h;exact ⟨mem,rfl,still (by simp) rfl⟩
      ·simp [Tree.sel] at h
     rename_i hlit;rw [if_neg hlit] at h ⊢;split at hT
     ·rename_i hall;simp only [sIq] at hT;subst hT;split at h
      ·rename_i q hq;simp only [Tree.sel,sIq] at h;subst h
       obtain ⟨b,rfl,h2⟩:=Lt hq (fun p hp x hx=>by
        have:=List.all_eq_true.1 (List.all_eq_true.1 hall p hp) x hx
        simpa using this) (len (by simp))
       exact ⟨mem++[b],by rw [h2];rfl,grow b (by simp) (by simp) (by simp)⟩
      ·simp [Tree.sel] at h
     ·simp at hT
    ·simp [Tree.sel] at h
  | makeSlice ty x y =>
    simp only [qi] at hT;simp only [qP] at h ⊢;simp only [sIq] at hT;subst hT;split at h
    ·rename_i l c hl hc;obtain ⟨b,rfl,h2⟩:=OT h (len (by simp))
     exact ⟨mem++[b],h2,grow b (by simp) (by simp) (by simp)⟩
    ·simp [Tree.sel] at h
  | slice ty x lo hi mx =>
    simp only [qi] at hT;simp only [qP] at h ⊢
    have hcut:∀ es n σ l hh,(Ve es n σ l hh M).sel=some (r,M')->(∀ l,¬ (l,true) ∈ t)->∃ mem',(Ve es n σ l hh mem).sel=some (r,mem')∧∀ l,(Touch.wr (some t) l->obs mem' l=obs M' l)∧(¬ Touch.wr (some t) l->obs mem' l=obs mem l∧obs M' l=obs M l):=by
     intro es n σ l hh hc ht
     have fin:∀ (c:Bool) (v:AV),(Tree.need c (.leaf (v,M))).sel=some (r,M')->∃ mem',(Tree.need c (.leaf (v,mem))).sel=some (r,mem')∧∀ l,(Touch.wr (some t) l->obs mem' l=obs M' l)∧(¬ Touch.wr (some t) l->obs mem' l=obs mem l∧obs M' l=obs M l):=by
      intro c v hs;simp only [Tree.sel] at hs ⊢;cases c<;>simp at hs;obtain ⟨rfl,rfl⟩:=hs;exact ⟨mem,rfl,still ht rfl⟩
     unfold Ve at hc ⊢;split at hc
     ·simp only [Tree.sel,sIq,pIq] at hc;obtain ⟨rfl,rfl⟩:=hc;exact ⟨mem,rfl,still ht rfl⟩
     ·exact fin _ _ hc
     ·exact fin _ _ hc
     ·exact fin _ _ hc
    split at hT
    ·rename_i es n σ hx;simp only [sIq] at hT;subst hT;rw [hx] at h ⊢;split at h
     ·rename_i b l hh m hb h1 h2 h3;simp only [sIq,AV.one.injEq] at hb;subst hb;simp only [Qa,sIq] at h3;subst h3;have e0:∀ mm:Mem,(if Hu H=true then ko P mm ty (A1.c (.sl es n σ)) l hh none else none)=none:=fun mm=>by split<;>rfl
      have e1:∀ mm:Mem,(if UY H=true then kA P mm ty (A1.c (.sl es n σ)) l hh none else none)=none:=fun mm=>by split<;>rfl
      rw [e0,e1] at h ⊢;simp only [HI,Bool.and_false,Bool.false_and,Bool.false_eq_true,if_false] at h ⊢;unfold Za at h ⊢;split at h
      ·split at h
       ·simp only at h ⊢;split at h
        ·rename_i hc;rw [if_pos hc];exact hcut _ _ _ _ _ h (by simp)
        ·simp [Tree.sel] at h
       ·simp [Tree.sel] at h
      ·simp [Tree.sel] at h
      ·simp [Tree.sel] at h
     ·simp [Tree.sel] at h
    ·rename_i hx;simp only [sIq] at hT;subst hT;rw [hx] at h ⊢;split at h
     ·rename_i b l hh m hb h1 h2 h3;simp only [sIq,AV.one.injEq] at hb;subst hb;simp only [Qa,sIq] at h3;subst h3;have e0:∀ mm:Mem,(if Hu H=true then ko P mm ty (A1.c .nils) l hh none else none)=none:=fun mm=>by split<;>rfl
      have e1:∀ mm:Mem,(if UY H=true then kA P mm ty (A1.c .nils) l hh none else none)=none:=fun mm=>by split<;>rfl
      rw [e0,e1] at h ⊢;simp only [HI,Bool.and_false,Bool.false_and,Bool.false_eq_true,if_false] at h ⊢;unfold Za at h ⊢;split at h
      ·split at h
       ·simp only at h ⊢;split at h
        ·rename_i hc;rw [if_pos hc];simp only [Tree.sel,sIq,pIq] at h;obtain ⟨rfl,rfl⟩:=h;exact ⟨mem,rfl,still (by simp) rfl⟩
        ·simp [Tree.sel] at h
       ·simp [Tree.sel] at h
      ·simp [Tree.sel] at h
      ·simp [Tree.sel] at h
     ·simp [Tree.sel] at h
    ·rename_i s hx;simp only [sIq] at hT;subst hT;rw [hx] at h ⊢;split at h
     ·rename_i b l hh m hb h1 h2 h3;simp only [sIq,AV.one.injEq] at hb;subst hb;simp only [Qa,sIq] at h3;subst h3;have e0:∀ mm:Mem,(if Hu H=true then ko P mm ty (A1.c (.str s)) l hh none else none)=none:=fun mm=>by split<;>rfl
      have e1:∀ mm:Mem,(if UY H=true then kA P mm ty (A1.c (.str s)) l hh none else none)=none:=fun mm=>by split<;>rfl
      rw [e0,e1] at h ⊢;simp only [HI,Bool.and_false,Bool.false_and,Bool.false_eq_true,if_false] at h ⊢;unfold Za at h ⊢;split at h
      ·split at h<;>simp [Tree.sel] at h
      ·simp only at h ⊢;unfold G1 at h ⊢;simp only [Tree.sel] at h ⊢;cases hc:(le 0 (l.getD 0)&&le (l.getD 0) (hh.getD (ja s.size))&&le (hh.getD (ja s.size)) (ja s.size))<;>simp [hc] at h;obtain ⟨rfl,rfl⟩:=h;exact ⟨mem,rfl,still (by simp) rfl⟩
      ·simp [Tree.sel] at h
     ·simp [Tree.sel] at h
    ·rename_i b sz hx;split at hT
     ·rename_i hh0;simp only [sIq] at hT;subst hT;rw [hx] at h ⊢;split at h
      ·rename_i a l hh m ha h1 h2 h3;simp only [sIq,AV.one.injEq] at ha;subst ha;simp only [Qa,sIq] at h3;subst h3;have hrow:rowAt mem b=rowAt M b:=zk (rd b (by simp))
       obtain ⟨o1,ho1⟩:=FC (P:=P) ty b sz l hh none (rowAt M b);obtain ⟨o2,ho2⟩:=Fl (P:=P) ty b sz l hh none (rowAt M b);simp only [ho1 M rfl,ho2 M rfl,ho1 mem hrow,ho2 mem hrow,hh0,if_true,HI,Option.isNone_none,Bool.and_self] at h ⊢
       have leaf:∀ p:Bool × AV,(Tree.need p.1 (.leaf (p.2,M))).sel=some (r,M')->∃ mem',(Tree.need p.1 (.leaf (p.2,mem))).sel=some (r,mem')∧∀ l,(Touch.wr (some [(b+1,false)]) l->obs mem' l=obs M' l)∧(¬ Touch.wr (some [(b+1,false)]) l->obs mem' l=obs mem l∧obs M' l=obs M l):=by
        intro p hp;obtain ⟨c,v⟩:=p;cases c<;>simp [Tree.sel] at hp;obtain ⟨rfl,rfl⟩:=hp;exact ⟨mem,rfl,still (by simp) rfl⟩
       have two : (match o2.map fun (p : Bool × AV) => Tree.need p.1 (.leaf (p.2, M)) with | some r => r | none => Tree.fail).sel = some (r, M') ->
         ∃ mem',(match o2.map fun (p:Bool × AV)=>Tree.need p.1 (.leaf (p.2,mem)) with | some r=>r | none=>Tree.fail).sel=some (r,mem')∧∀ l,(Touch.wr (some [(b+1,false)]) l->obs mem' l=obs M' l)∧(¬ Touch.wr (some [(b+1,false)]) l->obs mem' l=obs mem l∧obs M' l=obs M l):=by
        intro hp;cases o2 with
        | none=>simp [Tree.sel] at hp
        | some p=>exact leaf p hp
       cases ht:Hu H
       ·simp only [ht,Bool.false_eq_true,if_false] at h ⊢;exact two h
       ·simp only [ht,if_true] at h ⊢;cases o1 with
        | none=>exact two h
        | some p=>exact leaf p h
      ·simp [Tree.sel] at h
     ·simp at hT
    ·simp at hT
  | indexAddr ty x i =>
    simp only [qi] at hT;simp only [qP] at h ⊢;split at h
    ·rename_i b sz kk k hx hi;rw [hx] at hT;simp only [sIq] at hT;subst hT;rw [zk (rd b (by simp))]
     split at h
     ·split at h
      ·split at h
       ·rename_i hc;rw [if_pos hc];simp only [Tree.sel] at h ⊢;cases hr:jc k _<;>simp [hr] at h;obtain ⟨rfl,rfl⟩:=h;exact ⟨mem,rfl,still (by simp) rfl⟩
       ·simp [Tree.sel] at h
      ·simp [Tree.sel] at h
     ·simp [Tree.sel] at h
    ·split at hT
     ·rename_i b sz hx;obtain ⟨v,hv,_⟩:=jh h;simp only [JU,GD,ite_self,evPure0,hx] at hv;split at hv<;>simp_all [Tree.sel]
     ·split at hT
      ·simp only [sIq] at hT;exact pure_case _ h (by subst hT;simp)
      ·simp at hT
  | call c =>
    simp only [qi] at hT;simp only [qP] at h ⊢;split at h
    ·rename_i x hcal;simp only [hcal] at hT;split at hT
     ·rename_i hq;simp only [sIq] at hT;subst hT;rw [Bool.or_eq_true] at hq;split at h
      ·rename_i f args ht;split at h
       ·rename_i hcl
        have hclosed:args.all jB=true:=by
         rcases hq with hq | hq
         ·simp only [j5,hcal,ht,aTq] at hq;exact hq.2
         ·simp only [Xz,hcal,ht,aTq] at hq;exact hq.2
        have hv:∀ m:Mem,args.map (zo m)=args:=fun m=>(List.map_congr_left fun x hx=>Kf (List.all_eq_true.1 hclosed x hx)).trans (List.map_id _);have hfz:∀ m:Mem,zy m args=(m,args):=fun m=>Ki hclosed;split at h
        ·rename_i G hG;simp only [hv,hclosed,if_true,Bool.true_or] at h ⊢;obtain ⟨rr,hr,h⟩:=jh h;simp only [Tree.sel,sIq,pIq] at h;obtain ⟨rfl,rfl⟩:=h;exact ⟨mem,by rw [if_pos hcl,JX hr];rfl,still (by simp) rfl⟩
        ·rename_i hG;split at h
         ·rename_i G' hG';simp only [hfz,hclosed,if_true] at h ⊢;obtain ⟨rr,hr,h⟩:=jh h;simp only [Tree.sel,sIq,pIq] at h;obtain ⟨rfl,rfl⟩:=h;exact ⟨mem,by rw [if_pos hcl,JX hr];rfl,still (by simp) rfl⟩
         ·rename_i hG';rcases hq with hq | hq
          ·simp [j5,hcal,ht,hG] at hq
          ·simp [Xz,hcal,ht,hG'] at hq
       ·simp [Tree.sel] at h
      ·simp [Tree.sel] at h
     ·simp only [UG,hcal] at hT;split at hT
      ·rename_i f args ht;split at hT
       ·rename_i hs;simp only [sIq] at hT;subst hT;have hw:args.map (zo mem)=args.map (zo M):=List.map_congr_left fun x hx=>BD (fun b sz hb=>rd b (Uq hx hb)) (MY (by rw [aTq] at hs;exact hs.2) hx)
        simp only [ht] at h ⊢;split at h
        ·rename_i hcl;split at h
         ·rename_i G hG;split at h
          ·rename_i hca;obtain ⟨rr,hr,h⟩:=jh h;split at h
           ·rename_i hf;simp only [Tree.sel,sIq,pIq] at h;obtain ⟨rfl,rfl⟩:=h;refine ⟨mem,?_,still (fun l hl=>by have:=BP hl;simp at this) rfl⟩
            simp only [hw,if_pos hcl,if_pos hca,JX hr,if_pos hf];rfl
           ·simp [Tree.sel] at h
          ·rw [aTq] at hs
           have:rdA H args=true:=by unfold rdA;rw [hs.2];rfl
           rw [if_pos this] at h;simp [Tree.sel] at h
         ·rename_i hG;simp [hG] at hs
        ·simp [Tree.sel] at h
       ·split at hT
        ·rename_i hs;simp only [sIq] at hT;subst hT
         have hall:∀ n k,k<=n->(k,false) ∈ K9 n:=by
          intro n
          induction n with
          | zero => intro k hk; obtain rfl : k = 0 := by omega
                    simp [K9]
          | succ n ih =>
            intro k hk;rcases Nat.lt_or_ge k (n+1) with h | h
            ·exact List.mem_cons_of_mem _ (ih k (by omega))
            ·obtain rfl:k=n+1:=by omega
             simp [K9]
         have hrd:∀ n (p:Nat × Bool),p ∈ K9 n->p.2=false:=by
          intro n
          induction n with
          | zero=>intro p hp;simp [K9] at hp;subst hp;rfl
          | succ n ih =>
            intro p hp;simp only [K9,List.mem_cons] at hp;rcases hp with rfl | hp
            ·rfl
            ·exact ih p hp
         obtain rfl:mem=M:=by
          have h0:=hat 0 ⟨false,hall _ 0 (Nat.zero_le _)⟩;simp only [obs,Sum.inl.injEq] at h0;refine XY fun l => ?_;cases l with
          | zero=>simp only [obs,h0]
          | succ k =>
            rcases Nat.lt_or_ge k M.length with hk | hk
            ·exact hat (k+1) ⟨false,hall _ _ (by omega)⟩
            ·simp only [obs,jd];rw [List.getElem?_eq_none (by omega),List.getElem?_eq_none (by omega)]
         simp only [ht] at h ⊢;split at h
         ·rename_i hcl;split at h
          ·rename_i G hG;split at h
           ·rename_i hca;obtain ⟨rr,hr,h⟩:=jh h;split at h
            ·rename_i hf;simp only [Tree.sel,sIq,pIq] at h;obtain ⟨rfl,rfl⟩:=h;refine ⟨mem,?_,still (fun l hl=>by have:=hrd _ _ hl;simp at this) rfl⟩
             simp only [if_pos hcl,if_pos hca,JX hr,if_pos hf];rfl
            ·simp [Tree.sel] at h
           ·rw [aTq] at hs;rw [if_pos hs.2] at h;simp [Tree.sel] at h
          ·rename_i hG;simp [hG] at hs
         ·simp [Tree.sel] at h
        ·simp at hT
      ·simp at hT
    ·rename_i hcal;simp only [hcal] at hT;split at h
     ·rename_i b x ty ty' hargs htys;rw [hargs] at hT;split at h
      ·rename_i htt;rw [if_pos htt]
       have hno:jhq b=false:=by
        cases b with
        | c y=>cases y<;>first | rfl | (exfalso;simp at hT)
        | agg _=>rfl
       rw [Ou hno] at h;simp only [Ou hno];unfold ZQ at h ⊢;split at h
       ·split at h
        ·split at h
         ·simp [Tree.sel] at h
         ·rename_i hc;rw [if_neg hc];split at hT
          ·
           rename_i es n σ heq;simp only [sIq,List.cons.injEq,and_true] at heq;obtain ⟨rfl,rfl⟩:=heq;simp only [sIq] at hT;subst hT;simp only [YU] at h ⊢;split at h
           ·rename_i hes;rw [if_pos hes];simp only [Tree.sel] at h ⊢;cases hl:Nat.ble _ 140737488355328<;>simp [hl] at h;obtain ⟨rfl,rfl⟩:=h;exact ⟨_,by simp only [len (by simp),cond_true],grow _ (by simp) (by simp) (by simp)⟩
           ·simp [Tree.sel] at h
          ·rename_i b' sz' heq;simp only [sIq,List.cons.injEq,and_true] at heq;obtain ⟨rfl,rfl⟩:=heq;simp only [sIq] at hT;subst hT;simp only [BH (mem:=mem) (M:=M) (x:=.c (.os b' sz')) (fun b sz e=>by cases e;exact rd b' (by simp))] at h ⊢
           split at h
           ·split at h
            ·rename_i hes;rw [if_pos hes];simp only [Tree.sel] at h ⊢;cases hl:Nat.ble _ 140737488355328<;>simp [hl] at h;obtain ⟨rfl,rfl⟩:=h;exact ⟨_,by simp only [len (by simp),cond_true],grow _ (by simp) (by simp) (by simp)⟩
            ·simp [Tree.sel] at h
           ·simp [Tree.sel] at h
          ·rename_i b' sz' es n σ heq;simp only [sIq,List.cons.injEq,and_true] at heq;obtain ⟨rfl,rfl⟩:=heq;simp only [sIq] at hT;subst hT;simp only [YU,zk (rdw b' (by simp))] at h ⊢
           split at h
           ·rename_i hrow hs;split at h
            ·rename_i hes;rw [if_pos hes];simp only [Tree.sel] at h ⊢;cases hl:Nat.ble _ 140737488355328<;>simp [hl] at h;obtain ⟨rfl,rfl⟩:=h;exact ⟨_,by simp only [len (by simp),cond_true],grow2 b' _ (jq (j9 hrow)) (by simp) (by simp) (by simp) (by simp)⟩
            ·simp [Tree.sel] at h
           ·simp [Tree.sel] at h
          ·rename_i b' sz' b2 sz2 heq;simp only [sIq,List.cons.injEq,and_true] at heq;obtain ⟨rfl,rfl⟩:=heq;simp only [sIq] at hT;subst hT;simp only [BH (mem:=mem) (M:=M) (x:=.c (.os b2 sz2)) (fun b sz e=>by cases e;exact rd b2 (by simp)),zk (rdw b' (by simp))] at h ⊢
           split at h
           ·rename_i hrow hs;split at h
            ·rename_i hes;rw [if_pos hes];simp only [Tree.sel] at h ⊢;cases hl:Nat.ble _ 140737488355328<;>simp [hl] at h;obtain ⟨rfl,rfl⟩:=h;exact ⟨_,by simp only [len (by simp),cond_true],grow2 b' _ (jq (j9 hrow)) (by simp) (by simp) (by simp) (by simp)⟩
            ·simp [Tree.sel] at h
           ·simp [Tree.sel] at h
          ·rename_i heq;simp only [sIq,List.cons.injEq,and_true] at heq;obtain ⟨rfl,rfl⟩:=heq;simp only [sIq] at hT;subst hT;simp only [Tree.sel,sIq,pIq] at h ⊢;obtain ⟨rfl,rfl⟩:=h;exact ⟨mem,⟨rfl,rfl⟩,still (by simp) rfl⟩
          ·rename_i b' sz' heq;simp only [sIq,List.cons.injEq,and_true] at heq;obtain ⟨rfl,rfl⟩:=heq;simp only [sIq] at hT;subst hT;simp only [zk (rd b' (by simp))] at h ⊢
           split at h
           ·simp only [Tree.sel,sIq,pIq] at h;obtain ⟨rfl,rfl⟩:=h;exact ⟨mem,rfl,still (by simp) rfl⟩
           ·simp [Tree.sel] at h
          ·simp at hT
        ·simp [Tree.sel] at h
       ·simp [Tree.sel] at h
      ·simp [Tree.sel] at h
     ·simp [Tree.sel] at h
    ·rename_i hcal;simp [j5,Xz,UG,hcal] at hT
    ·rename_i hcal;simp only [hcal] at hT;split at h
     ·rename_i a x ty tys hargs htys;rw [hargs] at hT
      have main : ∀ (b sz lo : Nat), jbG a = some (b, sz, lo) -> (b + 1, true) ∈ t -> (∀ l, (l, true) ∈ t -> l = b + 1) -> VZ mem x = VZ M x ->
        ∃ mem',(V3 P mem ty a x).sel=some (r,mem')∧∀ l,(Touch.wr (some t) l->obs mem' l=obs M' l)∧(¬ Touch.wr (some t) l->obs mem' l=obs mem l∧obs M' l=obs M l):=by
       intro b sz lo hd hb hw hcp;unfold V3 at h ⊢;rw [hd] at h ⊢;rw [hcp];have hrow:rowAt mem b=rowAt M b:=zk (rdw b hb);split at h
       ·rename_i b' sz' lo' es' m σ h1 h2;simp only [sIq,pIq] at h1;obtain ⟨rfl,rfl,rfl⟩:=h1;rw [hrow];split at h
        ·rename_i hM;split at h
         ·split at h
          ·rename_i hc;rw [if_pos hc];simp only [Tree.sel,sIq,pIq] at h;obtain ⟨rfl,rfl⟩:=h;refine ⟨_,rfl,fun l=>⟨fun hwl => ?_,fun hn => ?_⟩⟩
           ·have hl:=hw l hwl;subst hl;simp only [obs,Sum.inr.injEq];have h1:b<M.length:=jq (j9 hM);have h2:b<mem.length:=jq ((rdw b hb).trans (j9 hM));rw [qo h1,qo h2]
           ·cases l with
            | zero=>simp [obs,jC]
            | succ k =>
              have hk:k ≠ b:=fun e=>hn (by subst e;exact hb)
              simp only [obs,zm hk,and_self]
          ·simp [Tree.sel] at h
         ·simp [Tree.sel] at h
        ·simp [Tree.sel] at h
       ·simp [Tree.sel] at h
      split at hT
      ·rename_i b sz es n σ heq;simp only [sIq,List.cons.injEq,and_true] at heq;obtain ⟨rfl,rfl⟩:=heq;simp only [sIq] at hT;subst hT;exact main b sz 0 rfl (by simp) (by simp) rfl
      ·rename_i b sz lo b' sz' m heq;simp only [sIq,List.cons.injEq,and_true] at heq;obtain ⟨rfl,rfl⟩:=heq;simp only [sIq] at hT;subst hT;exact main b sz lo rfl (by simp) (by simp) (MM fun b2 sz2 m2 e=>by cases e;exact rd b' (by simp))
      ·rename_i b sz lo es n σ heq;simp only [sIq,List.cons.injEq,and_true] at heq;obtain ⟨rfl,rfl⟩:=heq;simp only [sIq] at hT;subst hT;exact main b sz lo rfl (by simp) (by simp) rfl
      ·cases hT
     ·simp [Tree.sel] at h
    ·rename_i hcal;simp only [hcal] at hT;split at h
     ·rename_i b sz ty hargs htys;rw [hargs] at hT;simp only [sIq] at hT;subst hT;rw [zk (rd b (by simp))]
      split at h
      ·simp only [Tree.sel,sIq,pIq] at h;obtain ⟨rfl,rfl⟩:=h;exact ⟨mem,rfl,still (by simp) rfl⟩
      ·simp [Tree.sel] at h
     ·refine pure_case _ h ?_;split at hT<;>simp at hT<;>subst hT<;>simp
    ·rename_i h1 h2 h2' h2c h3
     have:t=[]:=by
      split at hT
      ·rename_i hcal;exact (h2 hcal).elim
      ·rename_i hcal;exact (h3 hcal).elim
      ·rename_i hcal;exact (h2c hcal).elim
      ·split at hT
       ·simpa using hT.symm
       ·simp [UG] at hT
     exact pure_case _ h (by subst this;simp)
  | _ =>
    simp only [qi,j5,if_true,sIq] at hT;simp only [qP] at h ⊢;exact pure_case _ h (by subst hT;simp)
structure StepOk (P:Program) (H:Hd) (call:ju) (all:List Oper) (s s1:St) (o:Oper) (T:Touch) (K:List (Nat × Bool)) (r:AV):Prop where
 touch:T=qi H (lim o s K) s.mem.length o.op
 put:s1.tmps=(s.put0 o.dst K r).tmps
 step:(o.guard=none∧K=[]∧(qP P H call s.mem (fun K'=>lim o s K') o.op).sel=some (r,s1.mem)) ∨
  (∃ j b m',o.guard=some (j,b)∧keysOf all s j b=some K∧J6 H (lim o s K) o.op=true∧(∀ p ∈ K,some p.1 ≠ o.dst)∧s1.mem=s.mem∧((qP P H call s.mem (fun K'=>lim o s (K'++K)) o.op).toNeed dGu (yG s K)).sel=some (r,m'))
theorem yi (s:St) (d:Option Tmp) (K:List (Nat × Bool)) (v:AV):(s.put0 d K v).mem=s.mem:=by
 cases d<;>rfl
theorem Bo {H : Hd} {call : ju} {all : List Oper} : ∀ (l : List Oper) (s : St) {s' : St} {is : List kG}, (Zn P H call all l s).sel = some (s', is) ->
  ∃ (st:Nat->St) (rs:Nat->AV),st 0=s∧st l.length=s'∧is.length=l.length∧∀ i o,l[i]? = some o->∃ T K,is[i]? = some (T,K)∧StepOk P H call all (st i) (st (i+1)) o T K (rs i)
 | [], s, s', is, h => by
   simp only [Zn,Tree.sel,sIq,pIq] at h;obtain ⟨rfl,rfl⟩:=h;exact ⟨fun _=>s,fun _=>.any,rfl,rfl,rfl,fun i o h=>by simp at h⟩
 | o :: r, s, s', is, h => by
   have key : ∀ (s1 : St) (T : Touch) (K : List (Nat × Bool)) (v : AV) (is' : List kG), (Zn P H call all r s1).sel = some (s', is') -> is = (T, K) :: is' -> StepOk P H call all s s1 o T K v ->
     ∃ (st:Nat->St) (rs:Nat->AV),st 0=s∧st (o::r).length=s'∧is.length=(o::r).length∧∀ i o',(o::r)[i]? = some o'->∃ T K,is[i]? = some (T,K)∧StepOk P H call all (st i) (st (i+1)) o' T K (rs i):=by
    intro s1 T K v is' h1 hi hs;obtain ⟨st,rs,h0,hn,hl,hstep⟩:=Bo r s1 h1;subst hi;refine ⟨fun i=>match i with | 0=>s | i+1=>st i,fun i=>match i with | 0=>v | i+1=>rs i,rfl,hn,by simp [hl],fun i o' hi => ?_⟩
    cases i with
    | zero =>
      simp at hi;subst hi;exact ⟨T,K,rfl,by simpa [h0] using hs⟩
    | succ i =>
      simp at hi;obtain ⟨T',K',h1,h2⟩:=hstep i o' hi;exact ⟨T',K',by simpa using h1,h2⟩
   simp only [Zn] at h;split at h
   ·rename_i hg;obtain ⟨⟨rv,mem'⟩,h1,h2⟩:=jh h;obtain ⟨⟨s2,is'⟩,h3,h4⟩:=jh h2;simp only [Tree.sel,sIq,pIq] at h4;obtain ⟨rfl,rfl⟩:=h4;refine key _ _ _ rv _ h3 rfl ⟨rfl,?_,.inl ⟨hg,rfl,?_⟩⟩
    ·cases o.dst<;>rfl
    ·rw [yi];exact h1
   ·rename_i j b hg;split at h
    ·rename_i K hK;split at h
     ·simp [Tree.sel] at h
     ·rename_i hcond;simp only [Bool.or_eq_true,Bool.not_eq_true',not_or,Bool.not_eq_false,Bool.not_eq_true] at hcond;obtain ⟨hq,hdst⟩:=hcond;obtain ⟨⟨rv,mem'⟩,h1,h2⟩:=jh h;obtain ⟨⟨s2,is'⟩,h3,h4⟩:=jh h2;simp only [Tree.sel,sIq,pIq] at h4;obtain ⟨rfl,rfl⟩:=h4
      have hkd:∀ p ∈ K,some p.1 ≠ o.dst:=by
       intro p hp e;rw [List.any_eq_false] at hdst;exact hdst p hp (by simp [e])
      exact key _ _ _ rv _ h3 rfl ⟨rfl,rfl,.inr ⟨j,b,mem',hg,hK,hq,hkd,yi _ _ _ _,h1⟩⟩
    ·simp [Tree.sel] at h
theorem YK:∀ {k:Nat} {l:List Oper},X7 k l=true->∀ i o,l[i]? = some o->∀ e ∈ o.after,Region.binds .any e=true->e.on<k+i
 | k, o :: r, h, 0, o', hi, e, he, hb => by
   simp at hi;subst hi;simp only [X7,aTq,List.all_eq_true] at h
   have:=h.1 e (by simpa using he)
   rw [hb] at this;simpa using this
 | k, o :: r, h, i + 1, o', hi, e, he, hb => by
   simp only [X7,aTq] at h
   have:=YK h.2 i o' (by simpa using hi) e he hb
   omega
 | k,[],_,i,o',hi,_,_,_=>by simp at hi
theorem KQ:∀ {l:List Oper},Wj l=true->∀ (i j:Nat) (o o':Oper) (d:Tmp),l[i]? = some o->l[j]? = some o'->o.dst=some d->o'.dst=some d->i=j
 | [],_,i,_,_,_,_,hi,_,_,_=>by simp at hi
 | x::r,h,0,0,_,_,_,_,_,_,_=>rfl
 | x :: r, h, 0, j + 1, o, o', d, hi, hj, hd, hd' => by
   simp at hi hj;subst hi;simp only [Wj,hd,aTq,List.all_eq_true] at h
   have:=h.1 o' (List.mem_of_getElem? hj)
   simp [hd'] at this
 | x :: r, h, i + 1, 0, o, o', d, hi, hj, hd, hd' => by
   simp at hi hj;subst hj;simp only [Wj,hd',aTq,List.all_eq_true] at h
   have:=h.1 o (List.mem_of_getElem? hi)
   simp [hd] at this
 | x :: r, h, i + 1, j + 1, o, o', d, hi, hj, hd, hd' => by
   simp only [Wj,aTq] at h;rw [KQ h.2 i j o o' d (by simpa using hi) (by simpa using hj) hd hd']
theorem kH {t:Nat}:∀ {k:Nat} {l:List Oper} {i:Nat},JD t k l=some i->∃ j o,i=k+j∧l[j]? = some o∧o.dst=some t
 | k,[],i,h=>by simp [JD] at h
 | k, o :: r, i, h => by
   simp only [JD] at h;split at h
   ·rename_i hd;simp at h;subst h;exact ⟨0,o,rfl,rfl,by simpa using hd⟩
   ·obtain ⟨j,o',h1,h2,h3⟩:=kH h;exact ⟨j+1,o',by omega,by simpa using h2,h3⟩
theorem Z7 {t:Nat}:∀ {k:Nat} {l:List Oper},JD t k l=none->∀ (i:Nat) (o:Oper),l[i]? = some o->o.dst ≠ some t
 | k,[],_,i,o,hi=>by simp at hi
 | k, x :: r, h, i, o, hi => by
   simp only [JD] at h;split at h
   ·simp at h
   ·rename_i hd;cases i with
    | zero=>simp at hi;subst hi;simpa using hd
    | succ i=>exact Z7 h i o (by simpa using hi)
theorem kF {all : List Oper} {masks : List Nat} : ∀ {k : Nat} {l : List Oper} {is : List kG}, Ht all masks k l is = true -> ∀ j o T K, l[j]? = some o -> is[j]? = some (T, K) ->
  (∀ t ∈ tmpsIn o.op.operands.toList,Hw all masks (k+j) t=true)∧(∀ g b,o.guard=some (g,b)->zA masks g (k+j)=true)∧(∀ p ∈ K,GP all masks (k+j) p.1=true)
 | k,[],_,_,j,o,_,_,hj,_=>by simp at hj
 | k,_::_,[],_,j,_,_,_,_,hi=>by simp at hi
 | k, x :: r, (T0, K0) :: q, h, 0, o, T, K, hj, hi => by
   simp at hj hi;obtain ⟨rfl,rfl⟩:=hi;subst hj;simp only [Ht,aTq,List.all_eq_true] at h;obtain ⟨⟨⟨h1,h2⟩,h3⟩,_⟩:=h;refine ⟨fun t ht=>by simpa using h1 t ht,fun g b hg => ?_,fun p hp=>by simpa using h3 p hp⟩
   rw [hg] at h2;simpa using h2
 | k, x :: r, (T0, K0) :: q, h, j + 1, o, T, K, hj, hi => by
   simp only [Ht,aTq] at h
   have:=kF h.2 j o T K (by simpa using hj) (by simpa using hi)
   rwa [show k+1+j=k+(j+1) by omega] at this
theorem WH {masks:List Nat} {i j:Nat} {T U:Touch} (h:clash masks i j T U=true) {l:Nat} (hl:T.wr l∧U.at l∨T.at l∧U.wr l):zA masks i j=true:=by
 cases T with
 | none=>cases U with
  | none=>exact h
  | some u =>
    simp only [clash,Bool.or_eq_true] at h;rcases h with h | h
    ·rcases hl with ⟨_,x,hx⟩ | ⟨_,hx⟩
     ·simp at h;subst h;simp at hx
     ·simp at h;subst h;simp [Touch.wr] at hx
    ·exact h
 | some t=>cases U with
  | none =>
    simp only [clash,Bool.or_eq_true] at h;rcases h with h | h
    ·rcases hl with ⟨hx,_⟩ | ⟨⟨x,hx⟩,_⟩
     ·simp at h;subst h;simp [Touch.wr] at hx
     ·simp at h;subst h;simp at hx
    ·exact h
  | some u =>
    simp only [clash,List.all_eq_true] at h;rcases hl with ⟨h1,x,h2⟩ | ⟨⟨x,h1⟩,h2⟩
    ·have:=h _ h1 _ h2
     simpa using this
    ·have:=h _ h1 _ h2
     simpa using this
theorem Dt {masks:List Nat} {i:Nat} {t:Touch}:∀ {k:Nat} {l:List kG},Ky masks i t k l=true->∀ j T K,l[j]? = some (T,K)->clash masks i (k+j) t T=true
 | k,[],_,j,_,_,hj=>by simp at hj
 | k, x :: r, h, 0, T, K, hj => by
   simp at hj;subst hj;simp only [Ky,aTq] at h;exact h.1
 | k, x :: r, h, j + 1, T, K, hj => by
   simp only [Ky,aTq] at h
   have:=Dt h.2 j T K (by simpa using hj)
   rwa [show k+1+j=k+(j+1) by omega] at this
theorem Zu {masks:List Nat}:∀ {k:Nat} {l:List kG},Yr masks k l=true->∀ i j T K T' K',i<j->l[i]? = some (T,K)->l[j]? = some (T',K')->clash masks (k+i) (k+j) T T'=true
 | k,[],_,i,_,_,_,_,_,_,hi,_=>by simp at hi
 | k, x :: r, h, 0, j + 1, T, K, T', K', _, hi, hj => by
   simp at hi;subst hi;simp only [Yr,aTq] at h
   have:=Dt h.1 j T' K' (by simpa using hj)
   rwa [show k+1+j=k+(j+1) by omega] at this
 | k,x::r,h,0,0,_,_,_,_,hij,_,_=>by omega
 | k,x::r,h,i+1,0,_,_,_,_,hij,_,_=>by omega
 | k, x :: r, h, i + 1, j + 1, T, K, T', K', hij, hi, hj => by
   simp only [Yr,aTq] at h
   have:=Zu h.2 i j T K T' K' (by omega) (by simpa using hi) (by simpa using hj)
   rwa [show k+1+i=k+(i+1) by omega,show k+1+j=k+(j+1) by omega] at this
theorem VH {masks:List Nat} {i:Nat}:∀ {l:List Edge},(Wd masks l).testBit i=true->∃ e ∈ l,Region.binds .any e=true∧∃ m,nth masks e.on=some m∧(i=e.on∨m.testBit i=true)
 | [],h=>by simp [Wd] at h
 | e :: r, h => by
   simp only [Wd,Nat.testBit_or,Bool.or_eq_true] at h;rcases h with h | h
   ·split at h
    ·rename_i m hm;split at h
     ·rename_i hb;rw [Nat.testBit_or,Bool.or_eq_true,Nat.testBit_two_pow] at h;refine ⟨e,by simp,hb,m,hm,h.imp (fun h => ?_) id⟩
      have:=of_decide_eq_true h
      exact this.symm
     ·simp at h
    ·simp at h
   ·obtain ⟨e',he,h2⟩:=VH h;exact ⟨e',by simp [he],h2⟩
theorem YX {all : List Oper} {L N : Nat -> Prop} (hd : ∀ j o, all[j]? = some o -> N j -> ∀ e ∈ o.after, Region.binds .any e = true -> L e.on) (hLN : ∀ j, L j -> N j) :
  ∀ (l:List Oper) (acc:List Nat),(∀ k,l[k]? = all[acc.length+k]?)->(∀ j m,nth acc j=some m->∀ i,m.testBit i=true->N j->L i)->∀ j m,nth (qI l acc) j=some m->∀ i,m.testBit i=true->N j->L i
 | [],acc,_,hacc=>hacc
 | o :: r, acc, hl, hacc => by
   simp only [qI];refine YX hd hLN r _ (fun k => ?_) (fun j m hj i hi hN => ?_)
   ·have:=hl (k+1)
    simp only [List.getElem?_cons_succ] at this;rw [this];simp [Nat.add_assoc,Nat.add_comm 1]
   ·rcases yU hj with h | ⟨h1,h2⟩
    ·exact hacc j m h i hi hN
    ·subst h2
     have ho:all[j]? = some o:=by
      have:=hl 0
      simpa [h1] using this.symm
     obtain ⟨e,he,hb,m,hm,h⟩:=VH hi;have hLe:=hd j o ho hN e (by simpa using he) hb
     rcases h with rfl | h
     ·exact hLe
     ·exact hacc _ m hm i h (hLN _ hLe)
structure Plan (P:Program) (H:Hd) (call:ju) (all:List Oper) where
 st:Nat->St
 rs:Nat->AV
 T:Nat->Touch
 K:Nat->List (Nat × Bool)
 anc:Nat->Nat->Prop
 step:∀ i o,all[i]? = some o->StepOk P H call all (st i) (st (i+1)) o (T i) (K i) (rs i)
 start:∀ sl ∈ (st 0).tmps,sl.keys=[]
 edges:∀ i o,all[i]? = some o->∀ e ∈ o.after,Region.binds .any e=true->e.on<i
 dsts:∀ (i j:Nat) (o o':Oper) (d:Tmp),all[i]? = some o->all[j]? = some o'->o.dst=some d->o'.dst=some d->i=j
 tmps:∀ (j:Nat) (o:Oper) (t:Tmp),all[j]? = some o->t ∈ tmpsIn o.op.operands.toList->(∃ (i:Nat) (oi:Oper),all[i]? = some oi∧oi.dst=some t∧(anc i j∨anc j i∨i=j))∨(∀ (i:Nat) (oi:Oper),all[i]? = some oi->oi.dst ≠ some t)
 guards:∀ (j:Nat) (o:Oper) (g:Nat) (b:Bool),all[j]? = some o->o.guard=some (g,b)->anc g j
 keys:∀ (j:Nat) (o:Oper) p,all[j]? = some o->p ∈ K j->∃ (i:Nat) (oi:Oper),all[i]? = some oi∧oi.dst=some p.1∧anc i j
 touch:∀ i j l,i<j->j<all.length->(T i).wr l∧(T j).at l∨(T i).at l∧(T j).wr l->anc i j
 lt:∀ i j,anc i j->i<j
 down:∀ (L N:Nat->Prop),(∀ j o,all[j]? = some o->N j->∀ e ∈ o.after,Region.binds .any e=true->L e.on)->(∀ j,L j->N j)->∀ i j,anc i j->N j->L i
theorem jjE {H : Hd} {call : ju} {all : List Oper} {s s' : St} {is : List kG} (h : (Zn P H call all all s).sel = some (s', is)) (hd : Qq all is = true) (h0 : ∀ sl ∈ s.tmps, sl.keys = []) :
  ∃ p:Plan P H call all,p.st 0=s∧p.st all.length=s':=by
 obtain ⟨st,rs,e0,en,hl,hstep⟩:=Bo all s h;simp only [Qq,aTq] at hd;obtain ⟨⟨⟨h1,h2⟩,h3⟩,h4⟩:=hd
 have hi:∀ i,i<all.length->is[i]? = some ((is[i]?.getD (none,[])).1,(is[i]?.getD (none,[])).2):=by
  intro i hi;rw [List.getElem?_eq_getElem (by omega)]
  simp
 have hlt:∀ {i:Nat} {o:Oper},all[i]? = some o->i<all.length:=by
  intro i o h;rcases Nat.lt_or_ge i all.length with h' | h'
  ·exact h'
  ·simp [List.getElem?_eq_none h'] at h
 refine ⟨{ st:=st,rs:=rs,T:=fun i=>(is[i]?.getD (none,[])).1,K:=fun i=>(is[i]?.getD (none,[])).2,anc:=fun i j=>zA (qI all []) i j=true,step:=?_,start:=?_,edges:=?_,dsts:=KQ h2,tmps:=?_,guards:=?_,keys:=?_,touch:=?_,lt:=?_,down:=?_ },e0,en⟩
 ·intro i o ho;obtain ⟨T,K,h1,h2⟩:=hstep i o ho;simpa [h1] using h2
 ·rw [e0];exact h0
 ·intro i o ho e he hb
  have:=YK h1 i o ho e he hb
  omega
 ·intro j o t ho ht
  have:=(kF h3 j o _ _ ho (hi j (hlt ho))).1 t ht
  rw [Nat.zero_add] at this;unfold Hw at this;split at this
  ·rename_i i hw;obtain ⟨j',o',h1,h2,h3⟩:=kH hw;left;rw [Bool.or_eq_true,Bool.or_eq_true,beq_iff_eq] at this;rw [show i=j' by omega] at this
   exact ⟨j',o',h2,h3,this.elim (fun h=>h.elim .inl fun h=>.inr (.inl h)) fun h=>.inr (.inr h)⟩
  ·rename_i hw;right;exact Z7 hw
 ·intro j o g b ho hg
  have:=(kF h3 j o _ _ ho (hi j (hlt ho))).2.1 g b hg
  rwa [Nat.zero_add] at this
 ·intro j o p ho hp
  have:=(kF h3 j o _ _ ho (hi j (hlt ho))).2.2 p hp
  rw [Nat.zero_add] at this;unfold GP at this;split at this
  ·rename_i i hw;obtain ⟨j',o',h1,h2,h3⟩:=kH hw;exact ⟨j',o',h2,h3,by rw [show j'=i by omega];exact this⟩
  ·simp at this
 ·intro i j l hij hj hl'
  have:=Zu h4 i j _ _ _ _ hij (hi i (by omega)) (hi j hj)
  rw [Nat.zero_add,Nat.zero_add] at this;exact WH this hl'
 ·intro i j h;unfold zA at h;rw [aTq] at h;simpa using h.1
 ·intro L N hd hLN i j h hN;unfold zA at h;rw [aTq] at h;obtain ⟨_,h⟩:=h;split at h
  ·rename_i m hm;exact YX hd hLN all [] (by simp) (fun j m h=>by simp [nth] at h) j m hm i h hN
  ·simp at h
end
end Go.Sx