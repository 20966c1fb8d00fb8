/-
 Part TaH of the proof: EngM.
-/
import Derived.Test.YtiefjlcakpdfeaaGreatDoorTaG
namespace Go.Sx
open Go Go.RowKit
def obs (m:Mem):Nat->Nat ⊕ Option (Option (TypeId × List CV))
 | 0=>.inl m.length
 | b+1=>.inr (nth m b)
theorem XJ {m m':Mem} (h:∀ l,obs m l=obs m' l):m=m':=by
 apply List.ext_getElem?;intro i
 have:=h (i+1)
 simpa [obs,jd] using this
def Touch.at:Touch->Nat->Prop
 | none,_=>True
 | some t,l=>∃ x,(l,x) ∈ t
def Touch.wr:Touch->Nat->Prop
 | none,_=>True
 | some t,l=>(l,true) ∈ t
theorem Touch.wr_at {t:Touch} {l:Nat} (h:t.wr l):t.at l:=by
 cases t
 ·trivial
 ·exact ⟨true,h⟩
theorem JB {α β:Type} {t:Tree α} {f:α->Tree β} {a:α} (h:t.sel=some a):(t.bind f).sel=(f a).sel:=by
 induction t with
 | leaf b=>simp only [Tree.sel,sIq] at h;subst h;rfl
 | br c t e iht ihe =>
   simp only [Tree.bind,Tree.sel] at h ⊢;cases c
   ·exact ihe h
   ·exact iht h
 | need c t ih =>
   simp only [Tree.bind,Tree.sel] at h ⊢;cases c
   ·simp at h
   ·exact ih h
 | fail=>simp [Tree.sel] at h
theorem Dk {t:Nat} {ts:List Nat}:JM t ts=true↔t ∈ ts:=by
 induction ts with
 | nil=>simp [JM]
 | cons u r ih=>simp [JM,ih]
theorem Jz {ts:List Nat} {ρ:Operand->Option AV} {x:Operand} {av:AV} (h:Bv ts ρ x=some av):ρ x=some av:=by
 unfold Bv at h;split at h
 ·split at h
  ·exact h
  ·simp at h
 ·exact h
theorem IK {ts:List Nat} {ρ ρ':Operand->Option AV} (h:∀ t ∈ ts,ρ (.tmp t)=ρ' (.tmp t)) (h':∀ x,(∀ t,x ≠ .tmp t)->ρ x=ρ' x):Bv ts ρ=Bv ts ρ':=by
 funext x;cases x with
 | tmp t =>
   simp only [Bv];split
   ·rename_i ha;exact h t (Dk.1 ha)
   ·rfl
 | _=>exact h' _ (by simp)
theorem UA {o:Oper} {s s':St} {K:List (Nat × Bool)} (h:∀ t ∈ tmpsIn o.op.operands.toList,nth s.tmps t=nth s'.tmps t):lim o s K=lim o s' K:=by
 unfold lim;refine IK (fun t ht => ?_) (fun x hx => ?_)
 ·simp only [zp,h t ht]
 ·unfold zp;split
  ·exact absurd rfl (hx _)
  ·rfl
  ·rfl
  ·rfl
section
variable {P:Program}
theorem qV {mem M:Mem} {b:Nat} (h:nth mem b=nth M b):rowAt mem b=rowAt M b:=by unfold rowAt;rw [h]
theorem jed {mem:Mem} {x:CV} (h:z7 x=false):Zx mem x=(mem,x):=by
 unfold Zx;split
 ·simp [z7] at h
 ·rfl
theorem WT:∀ {l:List CV} {mem:Mem},(∀ x ∈ l,z7 x=false)->qA mem l=(mem,l)
 | [],_,_=>rfl
 | x :: r, mem, h => by
   have h2:=WT (l:=r) (mem:=mem) fun y hy=>h y (List.mem_cons_of_mem _ hy);simp only [qA,jed (h x (by simp)),h2]
theorem jhK {α:Type} {l:List α} {b:Nat} {y x:α} (h:x ∈ jk l b y):x ∈ l∨x=y:=by
 rw [jy] at h;rcases List.mem_or_eq_of_mem_set h with h | h
 ·exact .inl h
 ·exact .inr h
theorem V8:∀ {news cs:List CV} {o:Nat} {x:CV},x ∈ putCells cs o news->x ∈ cs∨x ∈ news
 | [],cs,o,x,h=>.inl h
 | y :: r, cs, o, x, h => by
   simp only [putCells] at h;rcases V8 h with h | h
   ·rcases jhK h with h | h
    ·exact .inl h
    ·exact .inr (by simp [h])
   ·exact .inr (by simp [h])
theorem BQ {places:Nat->Option (Nat × Nat)}:∀ {parts:List (Nat × A1)} {cs r:List CV},y6 places cs parts=some r->(∀ x ∈ cs,z7 x=false)->(∀ p ∈ parts,∀ x ∈ p.2.cells,z7 x=false)->∀ x ∈ r,z7 x=false
 | [],cs,r,h,hc,_=>by simp [y6] at h;subst h;exact hc
 | (i, v) :: q, cs, r, h, hc, hp => by
   simp only [y6] at h;split at h
   ·simp at h
   ·split at h
    ·refine BQ h (fun x hx => ?_) (fun p hp'=>hp p (by simp [hp']))
     rcases V8 hx with hx | hx
     ·exact hc x hx
     ·exact hp (i,v) (by simp) x hx
    ·simp at h
theorem Xw:∀ {l:List Value} {z:List CV},kN l=some z->∀ x ∈ z,z7 x=false
 | [],z,h=>by simp [kN] at h;subst h;simp
 | v :: r, z, h => by
   simp only [kN] at h;split at h
   ·rename_i c l hc hl;simp at h;subst h;intro x hx;rcases List.mem_cons.1 hx with rfl | hx
    ·unfold WZ at hc;split at hc<;>simp at hc<;>subst hc<;>rfl
    ·exact Xw hl x hx
   ·simp at h
theorem jeq {P:Program} {t:TypeId} {z:List CV} (h:jP P t=some z):∀ x ∈ z,z7 x=false:=by
 unfold jP at h;split at h
 ·split at h
  ·exact Xw h
  ·simp at h
 ·simp at h
theorem Fy {z:List CV}:∀ {n:Nat} {x:CV},x ∈ J5 z n->x ∈ z
 | 0,x,h=>by simp [J5] at h
 | n + 1, x, h => by
   simp only [J5,List.mem_append] at h;rcases h with h | h
   ·exact h
   ·exact Fy h
theorem OV {P : Program} {M mem : Mem} {t : TypeId} {l c : AV} {r : AV} {M' : Mem} (h : (X5 P M t l c).sel = some (r, M')) (hlen : mem.length = M.length) :
  ∃ b,M'=M++[b]∧(X5 P mem t l c).sel=some (r,mem++[b]):=by
 unfold X5 at h ⊢;split at h
 ·rename_i kl l kc c;split at h
  ·split at h
   ·rename_i j es z hj hes hz;split at h
    ·rename_i hc;simp only [if_pos hc,Tree.sel] at h ⊢;cases hc2:(le 0 l&&le l c&&le (c*ja j.bytes) 140737488355328)<;>simp [hc2] at h;obtain ⟨rfl,rfl⟩:=h;exact ⟨_,rfl,by simp [hlen]⟩
    ·simp [Tree.sel] at h
   ·simp [Tree.sel] at h
  ·simp [Tree.sel] at h
 ·simp [Tree.sel] at h
theorem NO {P : Program} {M mem : Mem} {t : TypeId} {n : Nat} {parts : List (Nat × A1)} {r : AV} {M' : Mem} (h : kE P M t n parts = some (r, M')) (hp : ∀ p ∈ parts, ∀ x ∈ p.2.cells, z7 x = false) (hlen : mem.length = M.length) :
  ∃ b,M'=M++[b]∧kE P mem t n parts=some (r,mem++[b]):=by
 unfold kE at h ⊢;split at h
 ·split at h
  ·rename_i hz;split at h
   ·rename_i hc;rw [if_pos hc];split at h
    ·rename_i cs hf;have hno:=BQ hf (fun x hx=>jeq hz x (Fy hx)) hp;simp only [WT hno] at h ⊢;split at h
     ·rename_i hfit;rw [if_pos hfit];simp only [sIq,pIq] at h;obtain ⟨rfl,rfl⟩:=h;exact ⟨_,rfl,by rw [hlen]⟩
     ·simp at h
    ·simp at h
   ·simp at h
  ·simp at h
 ·simp at h
theorem BX {mem M:Mem} {x:A1} (h:∀ b sz,x=.c (.os b sz)->nth mem b=nth M b):Yw mem x=Yw M x:=by
 unfold Yw;split
 ·rfl
 ·rw [qV (h _ _ rfl)]
 ·rfl
theorem yr {α:Type} {l:List α} {x:α} {k:Nat} (h:k<l.length):nth (l++[x]) k=nth l k:=by
 rw [jd,jd,List.getElem?_append_left h]
theorem Qq {α:Type} {l:List α} {x:α} {k:Nat} (h:k ≠ l.length):nth (l++[x]) k=nth l k:=by
 rw [jd,jd];rcases lOq k l.length with h' | h'
 ·rw [List.getElem?_append_left h']
 ·rw [List.getElem?_eq_none h',List.getElem?_eq_none (by simp;omega)]
theorem qh {α:Type} {l:List α} {b:Nat} {x:α} (h:b<l.length):nth (jk l b x) b=some x:=by
 rw [jy,jd,List.getElem?_set_self h]
theorem qW {α:Type} {l:List α} {b k:Nat} {x:α} (h:k ≠ b):nth (jk l b x) k=nth l k:=by
 rw [jy,jd,jd,List.getElem?_set_ne (fun e=>h e.symm)]
theorem BJ {mem M:Mem} {x:CV} (h:∀ b sz,x=.os b sz->nth mem b=nth M b) (ho:B6 x=true):Q4 mem x=Q4 M x:=by
 cases x<;>first | rfl | (simp [B6] at ho;done) | skip
 ·rename_i b sz;simp only [Q4,qV (h b sz rfl)]
theorem BL:∀ {l:List CV} {b sz:Nat},CV.os b sz ∈ l->(b+1,false) ∈ JP l
 | [],_,_,h=>by simp at h
 | y :: l, b, sz, h => by
   rcases List.mem_cons.1 h with h | h
   ·subst h;simp [JP]
   ·have:=BL h
    cases y<;>simp [JP,this]
theorem Ua:∀ {l:List A1} {x:A1} {b sz:Nat},x ∈ l->CV.os b sz ∈ x.cells->(b+1,false) ∈ YD l
 | [],_,_,_,h,_=>by simp at h
 | y :: l, x, b, sz, h, hc => by
   rcases List.mem_cons.1 h with h | h
   ·subst h;simp [YD,BL hc]
   ·simp [YD,Ua h hc]
theorem WQ:∀ {l:List CV} {p:Nat × Bool},p ∈ JP l->p.2=false
 | [],_,h=>by simp [JP] at h
 | y :: l, p, h => by
   cases y<;>simp only [JP,List.mem_cons] at h<;>first | exact WQ h | (rcases h with rfl | h;rfl;exact WQ h)
theorem Gh:∀ {l:List A1} {p:Nat × Bool},p ∈ YD l->p.2=false
 | [],_,h=>by simp [YD] at h
 | y :: l, p, h => by
   simp only [YD,List.mem_append] at h;rcases h with h | h
   ·exact WQ h
   ·exact Gh h
theorem B0 {mem M:Mem} {x:A1} (h:∀ b sz,CV.os b sz ∈ x.cells->nth mem b=nth M b) (ho:x.cells.all B6=true):q8 mem x=q8 M x:=by
 cases x with
 | c x=>simp only [q8];rw [BJ (fun b sz e=>h b sz (by subst e;simp [A1.cells])) (List.all_eq_true.1 ho x (by simp [A1.cells]))]
 | agg l =>
   simp only [q8];congr 1;exact List.map_congr_left fun x hx=>BJ (fun b sz e=>h b sz (by subst e;exact hx)) (List.all_eq_true.1 ho x hx)
theorem jbl {args:List A1} (h:jaB args=true) {x:A1} (hx:x ∈ args):x.cells.all B6=true:=by
 refine List.all_eq_true.2 fun y hy => ?_
 have:=List.all_eq_true.1 (List.all_eq_true.1 h x hx) y hy
 cases y<;>first | rfl | simp [closedC,z7] at this
theorem Tt {P : Program} (t : TypeId) (b sz : Nat) (lo hi mx : Option Int) (row : Option (TypeId × Bool × List Sh × Nat × Val)) :
  ∃ o:Option (Bool × AV),∀ mm:Mem,rowAt mm b=row->yX P mm t (.c (.os b sz)) lo hi mx=o.map fun p=>.need p.1 (.leaf (p.2,mm)):=by
 cases lo with
 | none=>exact ⟨none,fun mm _=>rfl⟩
 | some l=>cases hi with
  | some _=>exact ⟨none,fun mm _=>rfl⟩
  | none=>cases mx with
   | some _=>exact ⟨none,fun mm _=>rfl⟩
   | none =>
     cases hu:P.underlying t with
    | none=>exact ⟨none,fun mm _=>by simp [yX,hu]⟩
    | some d =>
      rcases row with _ | ⟨T,fz,es,n,ρ⟩
      ·exact ⟨none,fun mm h=>by simp only [yX,hu,h];cases d<;>rfl⟩
      ·cases fz
       ·cases d with
        | slice e =>
          cases hj:P.info? e with
         | none=>exact ⟨none,fun mm h=>by simp [yX,hu,h,hj]⟩
         | some j =>
           by_cases hc:(es.length==j.size&&sz==j.size&&T==e)=true
           ·exact ⟨some (le 0 l&&lt l (ja n),.one (.c (.ost b sz l.toNat))),fun mm h=>by simp only [yX,hu,h,hj];rw [if_pos hc];rfl⟩
           ·exact ⟨none,fun mm h=>by simp only [yX,hu,h,hj];rw [if_neg hc];rfl⟩
        | _=>exact ⟨none,fun mm h=>by simp only [yX,hu,h];rfl⟩
       ·exact ⟨none,fun mm h=>by simp only [yX,hu,h];cases d<;>rfl⟩
theorem F7 {P : Program} (t : TypeId) (b sz : Nat) (lo hi mx : Option Int) (row : Option (TypeId × Bool × List Sh × Nat × Val)) :
  ∃ o:Option (Bool × AV),∀ mm:Mem,rowAt mm b=row->y8 P mm t (.c (.os b sz)) lo hi mx=o.map fun p=>.need p.1 (.leaf (p.2,mm)):=by
 cases lo with
 | some _=>exact ⟨none,fun mm _=>rfl⟩
 | none=>cases hi with
  | none=>exact ⟨none,fun mm _=>rfl⟩
  | some l=>cases mx with
   | some _=>exact ⟨none,fun mm _=>rfl⟩
   | none =>
     cases hu:P.underlying t with
    | none=>exact ⟨none,fun mm _=>by simp [y8,hu]⟩
    | some d =>
      rcases row with _ | ⟨T,fz,es,n,ρ⟩
      ·exact ⟨none,fun mm h=>by simp only [y8,hu,h];cases d<;>rfl⟩
      ·cases fz
       ·cases d with
        | slice e =>
          cases hj:P.info? e with
         | none=>exact ⟨none,fun mm h=>by simp [y8,hu,h,hj]⟩
         | some j =>
           by_cases hc:(es.length==j.size&&sz==j.size&&T==e)=true
           ·exact ⟨some (le 0 l&&le l (ja n),.one (.c (.osh b sz l.toNat))),fun mm h=>by simp only [y8,hu,h,hj];rw [if_pos hc];rfl⟩
           ·exact ⟨none,fun mm h=>by simp only [y8,hu,h,hj];rw [if_neg hc];rfl⟩
        | _=>exact ⟨none,fun mm h=>by simp only [y8,hu,h];rfl⟩
       ·exact ⟨none,fun mm h=>by simp only [y8,hu,h];cases d<;>rfl⟩
theorem jbj {mem M:Mem} {x:A1} (h:∀ b sz m,x=.c (.osh b sz m)->nth mem b=nth M b):VB mem x=VB M x:=by
 cases x with
 | agg l=>rfl
 | c x =>
   cases x<;>try rfl
   rename_i b sz m;simp only [VB,qV (h b sz m rfl)]
theorem Jy {H : Hd} {call : jt} {M M' mem : Mem} {ρ : List (Nat × Bool) -> Operand -> Option AV} {op : Op} {r : AV} (h : (qD P H call M ρ op).sel = some (r, M'))
  (hat:∀ l,(qe H (ρ []) M.length op).at l->obs mem l=obs M l) :
  ∃ mem',(qD P H call mem ρ op).sel=some (r,mem')∧∀ l,((qe H (ρ []) M.length op).wr l->obs mem' l=obs M' l)∧(¬ (qe H (ρ []) M.length op).wr l->obs mem' l=obs mem l∧obs M' l=obs M l):=by
 cases hT:qe H (ρ []) M.length op with
 | none =>
   rw [hT] at hat;obtain rfl:mem=M:=XJ fun l=>hat l trivial;exact ⟨M',h,fun l=>⟨fun _=>rfl,fun hn=>(hn trivial).elim⟩⟩
 | some t =>
   rw [hT] at hat
   have still:(∀ l,¬ (l,true) ∈ t)->M'=M->∀ l,(Touch.wr (some t) l->obs mem l=obs M' l)∧(¬ Touch.wr (some t) l->obs mem l=obs mem l∧obs M' l=obs M l):=by
    intro hno e l;subst e;exact ⟨fun hw=>(hno l hw).elim,fun _=>⟨rfl,rfl⟩⟩
   have rd:∀ b,(b+1,false) ∈ t->nth mem b=nth M b:=by
    intro b hb
    have:=hat (b+1) ⟨false,hb⟩
    simpa [obs] using this
   have rdw:∀ b,(b+1,true) ∈ t->nth mem b=nth M b:=by
    intro b hb
    have:=hat (b+1) ⟨true,hb⟩
    simpa [obs] using this
   have len:(0,true) ∈ t->mem.length=M.length:=by
    intro hb
    have:=hat 0 ⟨true,hb⟩
    simpa [obs] using this
   have pure_case:∀ e:Tree AV,(e.bind fun v=>Tree.leaf (v,M)).sel=some (r,M')->(∀ l,¬ (l,true) ∈ t)->∃ mem',(e.bind fun v=>Tree.leaf (v,mem)).sel=some (r,mem')∧∀ l,(Touch.wr (some t) l->obs mem' l=obs M' l)∧(¬ Touch.wr (some t) l->obs mem' l=obs mem l∧obs M' l=obs M l):=by
    intro e he ht;obtain ⟨v,hv,h2⟩:=jg he;simp only [Tree.sel,sIq,pIq] at h2;obtain ⟨rfl,rfl⟩:=h2;exact ⟨mem,by rw [JB hv];rfl,still ht rfl⟩
   have grow:∀ b:Option (TypeId × List CV),(0,true) ∈ t->(M.length+1,true) ∈ t->(∀ l,(l,true) ∈ t->l=0∨l=M.length+1)->∀ l,(Touch.wr (some t) l->obs (mem++[b]) l=obs (M++[b]) l)∧(¬ Touch.wr (some t) l->obs (mem++[b]) l=obs mem l∧obs (M++[b]) l=obs M l):=by
    intro b h1 h2 h3 l;have hlen:=len h1;refine ⟨fun hw => ?_,fun hn => ?_⟩
    ·rcases h3 l hw with rfl | rfl
     ·simp [obs,hlen]
     ·simp only [obs,jv];rw [← hlen,jv]
    ·cases l with
     | zero=>exact (hn h1).elim
     | succ k =>
       have hk:k ≠ M.length:=fun e=>hn (by subst e;exact h2)
       exact ⟨by simp only [obs,Sum.inr.injEq];exact Qq (by omega),by simp only [obs,Sum.inr.injEq];exact Qq hk⟩
   have grow2 : ∀ (d : Nat) (b : Option (TypeId × List CV)), d < M.length -> (0, true) ∈ t -> (M.length + 1, true) ∈ t -> (d + 1, true) ∈ t -> (∀ l, (l, true) ∈ t -> l = 0 ∨ l = M.length + 1 ∨ l = d + 1) ->
     ∀ l,(Touch.wr (some t) l->obs (jk mem d none++[b]) l=obs (jk M d none++[b]) l)∧(¬ Touch.wr (some t) l->obs (jk mem d none++[b]) l=obs mem l∧obs (jk M d none++[b]) l=obs M l):=by
    intro d b hd h1 h2 h4 h3 l;have hlen:=len h1;have hl1:(jk mem d (none:Option (TypeId × List CV))).length=mem.length:=jS _ _ _;have hl2:(jk M d (none:Option (TypeId × List CV))).length=M.length:=jS _ _ _;refine ⟨fun hw => ?_,fun hn => ?_⟩
    ·rcases h3 l hw with rfl | rfl | rfl
     ·simp [obs,hl1,hl2,hlen]
     ·simp only [obs,Sum.inr.injEq];have e1:nth (jk mem d none++[b]) M.length=some b:=by rw [← hlen,← hl1];exact jv _ _
      have e2:nth (jk M d none++[b]) M.length=some b:=by
       have:=jv (jk M d none) b
       rwa [hl2] at this
      rw [e1,e2]
     ·simp only [obs,Sum.inr.injEq];rw [yr (by omega),yr (by omega),qh (by omega),qh hd]
    ·cases l with
     | zero=>exact (hn h1).elim
     | succ k =>
       have hk:k ≠ M.length:=fun e=>hn (by subst e;exact h2)
       have hkd:k ≠ d:=fun e=>hn (by subst e;exact h4)
       exact ⟨by simp only [obs,Sum.inr.injEq];rw [Qq (by omega),qW hkd],by simp only [obs,Sum.inr.injEq];rw [Qq (by omega),qW hkd]⟩
   cases op with
  | alloc e =>
    simp only [qe,sIq] at hT;subst hT;simp only [qD] at h ⊢;split at h
    ·rename_i z hz;simp only [Tree.sel,sIq,pIq] at h;obtain ⟨rfl,rfl⟩:=h;exact ⟨_,by simp only [Tree.sel,len (by simp)],grow _ (by simp) (by simp) (by simp)⟩
    ·simp [Tree.sel] at h
  | box e x =>
    simp only [qe,sIq] at hT;subst hT;simp only [qD] at h ⊢;split at h
    ·rename_i z hz;split at h
     ·simp [Tree.sel] at h
     ·rename_i hrow;rw [if_neg hrow];simp only [Tree.sel,sIq,pIq] at h;obtain ⟨rfl,rfl⟩:=h;exact ⟨_,by simp only [Tree.sel,len (by simp)],grow _ (by simp) (by simp) (by simp)⟩
    ·simp [Tree.sel] at h
  | load ty x =>
    simp only [qe] at hT;simp only [qD] at h ⊢;split at h
    ·rename_i b sz i off hu;rw [hu] at hT;simp only [sIq] at hT;subst hT;split at h
     ·rename_i v hv;simp only [Tree.sel,sIq,pIq] at h;obtain ⟨rfl,rfl⟩:=h;refine ⟨mem,?_,still (by simp) rfl⟩
      have:QM P mem ty b sz i off=QM P M ty b sz i off:=by unfold QM;rw [qV (rd b (by simp))]
      rw [this,hv];rfl
     ·simp [Tree.sel] at h
    ·rename_i u hnr hu;split at h
     ·rename_i v hv;simp only [Tree.sel,sIq,pIq] at h;obtain ⟨rfl,rfl⟩:=h;refine ⟨mem,?_,still ?_ rfl⟩
      ·have : Y3 P mem ty u = Y3 P M ty u := by
        unfold Y3;split
        ·rename_i b o;rw [hu] at hT;simp only [sIq] at hT;rw [rd b (by rw [← hT];simp)]
        ·rfl
        ·rfl
       rw [this,hv];rfl
      ·rw [hu] at hT;intro l;split at hT<;>simp at hT<;>subst hT<;>simp
     ·simp [Tree.sel] at h
    ·simp [Tree.sel] at h
  | store ty x y =>
    simp only [qe] at hT;simp only [qD] at h ⊢;split at h
    ·rename_i b sz i off v hx hy;rw [hx] at hT;simp only [hy] at hT;split at hT
     ·rename_i hos;simp only [sIq] at hT;subst hT;have hb:=rdw b (by simp)
      have hno:∀ x ∈ v.cells,z7 x=false:=fun x hx=>by
       have:=List.all_eq_true.1 hos x hx
       simpa using this
      split at h
      ·rename_i m' hm';simp only [Tree.sel,sIq,pIq] at h;obtain ⟨rfl,rfl⟩:=h;unfold Ym at hm' ⊢;simp only [WT hno] at hm' ⊢;rw [qV hb];split at hm'
       ·rename_i j hj;split at hm'
        ·rename_i T es n ρ hrow;split at hm'
         ·rename_i hcond;split at hm'
          ·rename_i es' htk;split at hm'
           ·rename_i hfit;simp only [sIq] at hm';subst hm'
            have hM:nth M b=some (some (T,[.row false es n ρ])):=by
             unfold rowAt at hrow;split at hrow
             ·rename_i hh;simp only [sIq,pIq] at hrow;obtain ⟨rfl,rfl,rfl,rfl,rfl⟩:=hrow;exact hh
             ·cases hrow
            refine ⟨jk mem b (some (T,[.row false es n (ρ.upds i off v.cells)])),by simp only [hcond,if_true,hfit];rfl,fun l=>⟨fun hw => ?_,fun hn => ?_⟩⟩
            ·simp only [Touch.wr,List.mem_cons,pIq,and_true,List.not_mem_nil,or_false] at hw;subst hw;simp only [obs,Sum.inr.injEq];have h1:b<M.length:=jo hM;have h2:b<mem.length:=jo (hb.trans hM);rw [qh h1,qh h2]
            ·simp only [Touch.wr,List.mem_cons,pIq,and_true,List.not_mem_nil,or_false] at hn;cases l with
             | zero=>simp [obs,jy]
             | succ k =>
               have hk:k ≠ b:=fun e=>hn (by rw [e])
               simp only [obs,qW hk,and_self]
           ·cases hm'
          ·cases hm'
         ·cases hm'
        ·cases hm'
       ·cases hm'
      ·simp [Tree.sel] at h
     ·cases hT
    ·rename_i b off v hx hy;rw [hx] at hT;simp only [sIq] at hT;subst hT;have hb:=rdw b (by simp)
     rw [hb];split at h
     ·rename_i T cs i hmem hi;split at h
      ·rename_i hcond;simp only [Tree.sel,sIq,pIq] at h;obtain ⟨rfl,rfl⟩:=h;refine ⟨jk mem b (some (T,putCells cs off v.cells)),by rw [if_pos hcond];rfl,fun l=>⟨fun hw => ?_,fun hn => ?_⟩⟩
       ·simp only [Touch.wr,List.mem_cons,pIq,and_true,List.not_mem_nil,or_false] at hw;subst hw;simp only [obs,Sum.inr.injEq];have h1:b<M.length:=jo hmem;have h2:b<mem.length:=jo (hb.trans hmem);rw [qh h1,qh h2]
       ·simp only [Touch.wr,List.mem_cons,pIq,and_true,List.not_mem_nil,or_false] at hn;cases l with
        | zero=>simp [obs,jy]
        | succ k =>
          have hk:k ≠ b:=fun e=>hn (by rw [e])
          simp only [obs,qW hk,and_self]
      ·simp [Tree.sel] at h
     ·simp [Tree.sel] at h
    ·simp [Tree.sel] at h
  | buildSlice ty n parts =>
    simp only [qe] at hT;simp only [qD] at h ⊢;split at h
    ·rename_i l hl;rw [hl] at hT;simp only at hT;split at hT
     ·rename_i hlit;simp only [sIq] at hT;subst hT;rw [if_pos hlit] at h ⊢;split at h
      ·rename_i q hq;simp only [Tree.sel,sIq,pIq] at h;obtain ⟨rfl,rfl⟩:=h;exact ⟨mem,rfl,still (by simp) rfl⟩
      ·simp [Tree.sel] at h
     rename_i hlit;rw [if_neg hlit] at h ⊢;split at hT
     ·rename_i hall;simp only [sIq] at hT;subst hT;split at h
      ·rename_i q hq;simp only [Tree.sel,sIq] at h;subst h
       obtain ⟨b,rfl,h2⟩:=NO hq (fun p hp x hx=>by
        have:=List.all_eq_true.1 (List.all_eq_true.1 hall p hp) x hx
        simpa using this) (len (by simp))
       exact ⟨mem++[b],by rw [h2];rfl,grow b (by simp) (by simp) (by simp)⟩
      ·simp [Tree.sel] at h
     ·simp at hT
    ·simp [Tree.sel] at h
  | makeSlice ty x y =>
    simp only [qe] at hT;simp only [qD] at h ⊢;simp only [sIq] at hT;subst hT;split at h
    ·rename_i l c hl hc;obtain ⟨b,rfl,h2⟩:=OV h (len (by simp))
     exact ⟨mem++[b],h2,grow b (by simp) (by simp) (by simp)⟩
    ·simp [Tree.sel] at h
  | slice ty x lo hi mx =>
    simp only [qe] at hT;simp only [qD] at h ⊢
    have hcut:∀ es n σ l hh,(W3 es n σ l hh M).sel=some (r,M')->(∀ l,¬ (l,true) ∈ t)->∃ mem',(W3 es n σ l hh mem).sel=some (r,mem')∧∀ l,(Touch.wr (some t) l->obs mem' l=obs M' l)∧(¬ Touch.wr (some t) l->obs mem' l=obs mem l∧obs M' l=obs M l):=by
     intro es n σ l hh hc ht
     have fin:∀ (c:Bool) (v:AV),(Tree.need c (.leaf (v,M))).sel=some (r,M')->∃ mem',(Tree.need c (.leaf (v,mem))).sel=some (r,mem')∧∀ l,(Touch.wr (some t) l->obs mem' l=obs M' l)∧(¬ Touch.wr (some t) l->obs mem' l=obs mem l∧obs M' l=obs M l):=by
      intro c v hs;simp only [Tree.sel] at hs ⊢;cases c<;>simp at hs;obtain ⟨rfl,rfl⟩:=hs;exact ⟨mem,rfl,still ht rfl⟩
     unfold W3 at hc ⊢;split at hc
     ·simp only [Tree.sel,sIq,pIq] at hc;obtain ⟨rfl,rfl⟩:=hc;exact ⟨mem,rfl,still ht rfl⟩
     ·exact fin _ _ hc
     ·exact fin _ _ hc
     ·exact fin _ _ hc
    split at hT
    ·rename_i es n σ hx;simp only [sIq] at hT;subst hT;rw [hx] at h ⊢;split at h
     ·rename_i b l hh m hb h1 h2 h3;simp only [sIq,AV.one.injEq] at hb;subst hb;simp only [JV,sIq] at h3;subst h3;have e0:∀ mm:Mem,(if Le H=true then yX P mm ty (A1.c (.sl es n σ)) l hh none else none)=none:=fun mm=>by split<;>rfl
      have e1:∀ mm:Mem,(if Bl H=true then y8 P mm ty (A1.c (.sl es n σ)) l hh none else none)=none:=fun mm=>by split<;>rfl
      rw [e0,e1] at h ⊢;simp only [Lt,Bool.and_false,Bool.false_and,Bool.false_eq_true,if_false] at h ⊢;unfold QH at h ⊢;split at h
      ·split at h
       ·simp only at h ⊢;split at h
        ·rename_i hc;rw [if_pos hc];exact hcut _ _ _ _ _ h (by simp)
        ·simp [Tree.sel] at h
       ·simp [Tree.sel] at h
      ·simp [Tree.sel] at h
      ·simp [Tree.sel] at h
     ·simp [Tree.sel] at h
    ·rename_i hx;simp only [sIq] at hT;subst hT;rw [hx] at h ⊢;split at h
     ·rename_i b l hh m hb h1 h2 h3;simp only [sIq,AV.one.injEq] at hb;subst hb;simp only [JV,sIq] at h3;subst h3;have e0:∀ mm:Mem,(if Le H=true then yX P mm ty (A1.c .nils) l hh none else none)=none:=fun mm=>by split<;>rfl
      have e1:∀ mm:Mem,(if Bl H=true then y8 P mm ty (A1.c .nils) l hh none else none)=none:=fun mm=>by split<;>rfl
      rw [e0,e1] at h ⊢;simp only [Lt,Bool.and_false,Bool.false_and,Bool.false_eq_true,if_false] at h ⊢;unfold QH at h ⊢;split at h
      ·split at h
       ·simp only at h ⊢;split at h
        ·rename_i hc;rw [if_pos hc];simp only [Tree.sel,sIq,pIq] at h;obtain ⟨rfl,rfl⟩:=h;exact ⟨mem,rfl,still (by simp) rfl⟩
        ·simp [Tree.sel] at h
       ·simp [Tree.sel] at h
      ·simp [Tree.sel] at h
      ·simp [Tree.sel] at h
     ·simp [Tree.sel] at h
    ·rename_i s hx;simp only [sIq] at hT;subst hT;rw [hx] at h ⊢;split at h
     ·rename_i b l hh m hb h1 h2 h3;simp only [sIq,AV.one.injEq] at hb;subst hb;simp only [JV,sIq] at h3;subst h3;have e0:∀ mm:Mem,(if Le H=true then yX P mm ty (A1.c (.str s)) l hh none else none)=none:=fun mm=>by split<;>rfl
      have e1:∀ mm:Mem,(if Bl H=true then y8 P mm ty (A1.c (.str s)) l hh none else none)=none:=fun mm=>by split<;>rfl
      rw [e0,e1] at h ⊢;simp only [Lt,Bool.and_false,Bool.false_and,Bool.false_eq_true,if_false] at h ⊢;unfold QH at h ⊢;split at h
      ·split at h<;>simp [Tree.sel] at h
      ·simp only at h ⊢;unfold Lp at h ⊢;simp only [Tree.sel] at h ⊢;cases hc:(le 0 (l.getD 0)&&le (l.getD 0) (hh.getD (ja s.size))&&le (hh.getD (ja s.size)) (ja s.size))<;>simp [hc] at h;obtain ⟨rfl,rfl⟩:=h;exact ⟨mem,rfl,still (by simp) rfl⟩
      ·simp [Tree.sel] at h
     ·simp [Tree.sel] at h
    ·rename_i b sz hx;split at hT
     ·rename_i hh0;simp only [sIq] at hT;subst hT;rw [hx] at h ⊢;split at h
      ·rename_i a l hh m ha h1 h2 h3;simp only [sIq,AV.one.injEq] at ha;subst ha;simp only [JV,sIq] at h3;subst h3;have hrow:rowAt mem b=rowAt M b:=qV (rd b (by simp))
       obtain ⟨o1,ho1⟩:=Tt (P:=P) ty b sz l hh none (rowAt M b);obtain ⟨o2,ho2⟩:=F7 (P:=P) ty b sz l hh none (rowAt M b);simp only [ho1 M rfl,ho2 M rfl,ho1 mem hrow,ho2 mem hrow,hh0,if_true,Lt,Option.isNone_none,Bool.and_self] at h ⊢
       have leaf:∀ p:Bool × AV,(Tree.need p.1 (.leaf (p.2,M))).sel=some (r,M')->∃ mem',(Tree.need p.1 (.leaf (p.2,mem))).sel=some (r,mem')∧∀ l,(Touch.wr (some [(b+1,false)]) l->obs mem' l=obs M' l)∧(¬ Touch.wr (some [(b+1,false)]) l->obs mem' l=obs mem l∧obs M' l=obs M l):=by
        intro p hp;obtain ⟨c,v⟩:=p;cases c<;>simp [Tree.sel] at hp;obtain ⟨rfl,rfl⟩:=hp;exact ⟨mem,rfl,still (by simp) rfl⟩
       have two : (match o2.map fun (p : Bool × AV) => Tree.need p.1 (.leaf (p.2, M)) with | some r => r | none => Tree.fail).sel = some (r, M') ->
         ∃ mem',(match o2.map fun (p:Bool × AV)=>Tree.need p.1 (.leaf (p.2,mem)) with | some r=>r | none=>Tree.fail).sel=some (r,mem')∧∀ l,(Touch.wr (some [(b+1,false)]) l->obs mem' l=obs M' l)∧(¬ Touch.wr (some [(b+1,false)]) l->obs mem' l=obs mem l∧obs M' l=obs M l):=by
        intro hp;cases o2 with
        | none=>simp [Tree.sel] at hp
        | some p=>exact leaf p hp
       cases ht:Le H
       ·simp only [ht,Bool.false_eq_true,if_false] at h ⊢;exact two h
       ·simp only [ht,if_true] at h ⊢;cases o1 with
        | none=>exact two h
        | some p=>exact leaf p h
      ·simp [Tree.sel] at h
     ·simp at hT
    ·simp at hT
  | indexAddr ty x i =>
    simp only [qe] at hT;simp only [qD] at h ⊢;split at h
    ·rename_i b sz kk k hx hi;rw [hx] at hT;simp only [sIq] at hT;subst hT;rw [qV (rd b (by simp))]
     split at h
     ·split at h
      ·split at h
       ·rename_i hc;rw [if_pos hc];simp only [Tree.sel] at h ⊢;cases hr:jc k _<;>simp [hr] at h;obtain ⟨rfl,rfl⟩:=h;exact ⟨mem,rfl,still (by simp) rfl⟩
       ·simp [Tree.sel] at h
      ·simp [Tree.sel] at h
     ·simp [Tree.sel] at h
    ·split at hT
     ·rename_i b sz hx;obtain ⟨v,hv,_⟩:=jg h;simp only [JE,HS,ite_self,evPure0,hx] at hv;split at hv<;>simp_all [Tree.sel]
     ·split at hT
      ·simp only [sIq] at hT;exact pure_case _ h (by subst hT;simp)
      ·simp at hT
  | call c =>
    simp only [qe] at hT;simp only [qD] at h ⊢;split at h
    ·rename_i x hcal;simp only [hcal] at hT;split at hT
     ·rename_i hq;simp only [sIq] at hT;subst hT;rw [Bool.or_eq_true] at hq;split at h
      ·rename_i f args ht;split at h
       ·rename_i hcl
        have hclosed:args.all jx=true:=by
         rcases hq with hq | hq
         ·simp only [j0,hcal,ht,aTq] at hq;exact hq.2
         ·simp only [XV,hcal,ht,aTq] at hq;exact hq.2
        have hv:∀ m:Mem,args.map (q8 m)=args:=fun m=>(List.map_congr_left fun x hx=>YY (List.all_eq_true.1 hclosed x hx)).trans (List.map_id _);have hfz:∀ m:Mem,zg m args=(m,args):=fun m=>Y5 hclosed;split at h
        ·rename_i G hG;simp only [hv,hclosed,if_true,Bool.true_or] at h ⊢;obtain ⟨rr,hr,h⟩:=jg h;simp only [Tree.sel,sIq,pIq] at h;obtain ⟨rfl,rfl⟩:=h;exact ⟨mem,by rw [if_pos hcl,JB hr];rfl,still (by simp) rfl⟩
        ·rename_i hG;split at h
         ·rename_i G' hG';simp only [hfz,hclosed,if_true] at h ⊢;obtain ⟨rr,hr,h⟩:=jg h;simp only [Tree.sel,sIq,pIq] at h;obtain ⟨rfl,rfl⟩:=h;exact ⟨mem,by rw [if_pos hcl,JB hr];rfl,still (by simp) rfl⟩
         ·rename_i hG';rcases hq with hq | hq
          ·simp [j0,hcal,ht,hG] at hq
          ·simp [XV,hcal,ht,hG'] at hq
       ·simp [Tree.sel] at h
      ·simp [Tree.sel] at h
     ·simp only [Bt,hcal] at hT;split at hT
      ·rename_i f args ht;split at hT
       ·rename_i hs;simp only [sIq] at hT;subst hT;have hw:args.map (q8 mem)=args.map (q8 M):=List.map_congr_left fun x hx=>B0 (fun b sz hb=>rd b (Ua hx hb)) (jbl (by rw [aTq] at hs;exact hs.2) hx)
        simp only [ht] at h ⊢;split at h
        ·rename_i hcl;split at h
         ·rename_i G hG;split at h
          ·rename_i hca;obtain ⟨rr,hr,h⟩:=jg h;split at h
           ·rename_i hf;simp only [Tree.sel,sIq,pIq] at h;obtain ⟨rfl,rfl⟩:=h;refine ⟨mem,?_,still (fun l hl=>by have:=Gh hl;simp at this) rfl⟩
            simp only [hw,if_pos hcl,if_pos hca,JB hr,if_pos hf];rfl
           ·simp [Tree.sel] at h
          ·rw [aTq] at hs
           have:rdA H args=true:=by unfold rdA;rw [hs.2];rfl
           rw [if_pos this] at h;simp [Tree.sel] at h
         ·rename_i hG;simp [hG] at hs
        ·simp [Tree.sel] at h
       ·split at hT
        ·rename_i hs;simp only [sIq] at hT;subst hT
         have hall:∀ n k,k<=n->(k,false) ∈ KN n:=by
          intro n
          induction n with
          | zero => intro k hk; obtain rfl : k = 0 := by omega
                    simp [KN]
          | succ n ih =>
            intro k hk;rcases lOq k (n+1) with h | h
            ·exact List.mem_cons_of_mem _ (ih k (by omega))
            ·obtain rfl:k=n+1:=by omega
             simp [KN]
         have hrd:∀ n (p:Nat × Bool),p ∈ KN n->p.2=false:=by
          intro n
          induction n with
          | zero=>intro p hp;simp [KN] at hp;subst hp;rfl
          | succ n ih =>
            intro p hp;simp only [KN,List.mem_cons] at hp;rcases hp with rfl | hp
            ·rfl
            ·exact ih p hp
         obtain rfl:mem=M:=by
          have h0:=hat 0 ⟨false,hall _ 0 (Nat.zero_le _)⟩;simp only [obs,Sum.inl.injEq] at h0;refine XJ fun l => ?_;cases l with
          | zero=>simp only [obs,h0]
          | succ k =>
            rcases lOq k M.length with hk | hk
            ·exact hat (k+1) ⟨false,hall _ _ (by omega)⟩
            ·simp only [obs,jd];rw [List.getElem?_eq_none (by omega),List.getElem?_eq_none (by omega)]
         simp only [ht] at h ⊢;split at h
         ·rename_i hcl;split at h
          ·rename_i G hG;split at h
           ·rename_i hca;obtain ⟨rr,hr,h⟩:=jg h;split at h
            ·rename_i hf;simp only [Tree.sel,sIq,pIq] at h;obtain ⟨rfl,rfl⟩:=h;refine ⟨mem,?_,still (fun l hl=>by have:=hrd _ _ hl;simp at this) rfl⟩
             simp only [if_pos hcl,if_pos hca,JB hr,if_pos hf];rfl
            ·simp [Tree.sel] at h
           ·rw [aTq] at hs;rw [if_pos hs.2] at h;simp [Tree.sel] at h
          ·rename_i hG;simp [hG] at hs
         ·simp [Tree.sel] at h
        ·simp at hT
      ·simp at hT
    ·rename_i hcal;simp only [hcal] at hT;split at h
     ·rename_i b x ty ty' hargs htys;rw [hargs] at hT;split at h
      ·rename_i htt;rw [if_pos htt]
       have hno:jip b=false:=by
        cases b with
        | c y=>cases y<;>first | rfl | (exfalso;simp at hT)
        | agg _=>rfl
       rw [OD hno] at h;simp only [OD hno];unfold Zk at h ⊢;split at h
       ·split at h
        ·split at h
         ·simp [Tree.sel] at h
         ·rename_i hc;rw [if_neg hc];split at hT
          ·
           rename_i es n σ heq;simp only [sIq,List.cons.injEq,and_true] at heq;obtain ⟨rfl,rfl⟩:=heq;simp only [sIq] at hT;subst hT;simp only [Yw] at h ⊢;split at h
           ·rename_i hes;rw [if_pos hes];simp only [Tree.sel] at h ⊢;cases hl:Nat.ble _ 140737488355328<;>simp [hl] at h;obtain ⟨rfl,rfl⟩:=h;exact ⟨_,by simp only [len (by simp),cond_true],grow _ (by simp) (by simp) (by simp)⟩
           ·simp [Tree.sel] at h
          ·rename_i b' sz' heq;simp only [sIq,List.cons.injEq,and_true] at heq;obtain ⟨rfl,rfl⟩:=heq;simp only [sIq] at hT;subst hT;simp only [BX (mem:=mem) (M:=M) (x:=.c (.os b' sz')) (fun b sz e=>by cases e;exact rd b' (by simp))] at h ⊢
           split at h
           ·split at h
            ·rename_i hes;rw [if_pos hes];simp only [Tree.sel] at h ⊢;cases hl:Nat.ble _ 140737488355328<;>simp [hl] at h;obtain ⟨rfl,rfl⟩:=h;exact ⟨_,by simp only [len (by simp),cond_true],grow _ (by simp) (by simp) (by simp)⟩
            ·simp [Tree.sel] at h
           ·simp [Tree.sel] at h
          ·rename_i b' sz' es n σ heq;simp only [sIq,List.cons.injEq,and_true] at heq;obtain ⟨rfl,rfl⟩:=heq;simp only [sIq] at hT;subst hT;simp only [Yw,qV (rdw b' (by simp))] at h ⊢
           split at h
           ·rename_i hrow hs;split at h
            ·rename_i hes;rw [if_pos hes];simp only [Tree.sel] at h ⊢;cases hl:Nat.ble _ 140737488355328<;>simp [hl] at h;obtain ⟨rfl,rfl⟩:=h;exact ⟨_,by simp only [len (by simp),cond_true],grow2 b' _ (jo (j6 hrow)) (by simp) (by simp) (by simp) (by simp)⟩
            ·simp [Tree.sel] at h
           ·simp [Tree.sel] at h
          ·rename_i b' sz' b2 sz2 heq;simp only [sIq,List.cons.injEq,and_true] at heq;obtain ⟨rfl,rfl⟩:=heq;simp only [sIq] at hT;subst hT;simp only [BX (mem:=mem) (M:=M) (x:=.c (.os b2 sz2)) (fun b sz e=>by cases e;exact rd b2 (by simp)),qV (rdw b' (by simp))] at h ⊢
           split at h
           ·rename_i hrow hs;split at h
            ·rename_i hes;rw [if_pos hes];simp only [Tree.sel] at h ⊢;cases hl:Nat.ble _ 140737488355328<;>simp [hl] at h;obtain ⟨rfl,rfl⟩:=h;exact ⟨_,by simp only [len (by simp),cond_true],grow2 b' _ (jo (j6 hrow)) (by simp) (by simp) (by simp) (by simp)⟩
            ·simp [Tree.sel] at h
           ·simp [Tree.sel] at h
          ·rename_i heq;simp only [sIq,List.cons.injEq,and_true] at heq;obtain ⟨rfl,rfl⟩:=heq;simp only [sIq] at hT;subst hT;simp only [Tree.sel,sIq,pIq] at h ⊢;obtain ⟨rfl,rfl⟩:=h;exact ⟨mem,⟨rfl,rfl⟩,still (by simp) rfl⟩
          ·rename_i b' sz' heq;simp only [sIq,List.cons.injEq,and_true] at heq;obtain ⟨rfl,rfl⟩:=heq;simp only [sIq] at hT;subst hT;simp only [qV (rd b' (by simp))] at h ⊢
           split at h
           ·simp only [Tree.sel,sIq,pIq] at h;obtain ⟨rfl,rfl⟩:=h;exact ⟨mem,rfl,still (by simp) rfl⟩
           ·simp [Tree.sel] at h
          ·simp at hT
        ·simp [Tree.sel] at h
       ·simp [Tree.sel] at h
      ·simp [Tree.sel] at h
     ·simp [Tree.sel] at h
    ·rename_i hcal;simp [j0,XV,Bt,hcal] at hT
    ·rename_i hcal;simp only [hcal] at hT;split at h
     ·rename_i a x ty tys hargs htys;rw [hargs] at hT
      have main : ∀ (b sz lo : Nat), jb1 a = some (b, sz, lo) -> (b + 1, true) ∈ t -> (∀ l, (l, true) ∈ t -> l = b + 1) -> VB mem x = VB M x ->
        ∃ mem',(Uo P mem ty a x).sel=some (r,mem')∧∀ l,(Touch.wr (some t) l->obs mem' l=obs M' l)∧(¬ Touch.wr (some t) l->obs mem' l=obs mem l∧obs M' l=obs M l):=by
       intro b sz lo hd hb hw hcp;unfold Uo at h ⊢;rw [hd] at h ⊢;rw [hcp];have hrow:rowAt mem b=rowAt M b:=qV (rdw b hb);split at h
       ·rename_i b' sz' lo' es' m σ h1 h2;simp only [sIq,pIq] at h1;obtain ⟨rfl,rfl,rfl⟩:=h1;rw [hrow];split at h
        ·rename_i hM;split at h
         ·split at h
          ·rename_i hc;rw [if_pos hc];simp only [Tree.sel,sIq,pIq] at h;obtain ⟨rfl,rfl⟩:=h;refine ⟨_,rfl,fun l=>⟨fun hwl => ?_,fun hn => ?_⟩⟩
           ·have hl:=hw l hwl;subst hl;simp only [obs,Sum.inr.injEq];have h1:b<M.length:=jo (j6 hM);have h2:b<mem.length:=jo ((rdw b hb).trans (j6 hM));rw [qh h1,qh h2]
           ·cases l with
            | zero=>simp [obs,jy]
            | succ k =>
              have hk:k ≠ b:=fun e=>hn (by subst e;exact hb)
              simp only [obs,qW hk,and_self]
          ·simp [Tree.sel] at h
         ·simp [Tree.sel] at h
        ·simp [Tree.sel] at h
       ·simp [Tree.sel] at h
      split at hT
      ·rename_i b sz es n σ heq;simp only [sIq,List.cons.injEq,and_true] at heq;obtain ⟨rfl,rfl⟩:=heq;simp only [sIq] at hT;subst hT;exact main b sz 0 rfl (by simp) (by simp) rfl
      ·rename_i b sz lo b' sz' m heq;simp only [sIq,List.cons.injEq,and_true] at heq;obtain ⟨rfl,rfl⟩:=heq;simp only [sIq] at hT;subst hT;exact main b sz lo rfl (by simp) (by simp) (jbj fun b2 sz2 m2 e=>by cases e;exact rd b' (by simp))
      ·rename_i b sz lo es n σ heq;simp only [sIq,List.cons.injEq,and_true] at heq;obtain ⟨rfl,rfl⟩:=heq;simp only [sIq] at hT;subst hT;exact main b sz lo rfl (by simp) (by simp) rfl
      ·cases hT
     ·simp [Tree.sel] at h
    ·rename_i hcal;simp only [hcal] at hT;split at h
     ·rename_i b sz ty hargs htys;rw [hargs] at hT;simp only [sIq] at hT;subst hT;rw [qV (rd b (by simp))]
      split at h
      ·simp only [Tree.sel,sIq,pIq] at h;obtain ⟨rfl,rfl⟩:=h;exact ⟨mem,rfl,still (by simp) rfl⟩
      ·simp [Tree.sel] at h
     ·refine pure_case _ h ?_;split at hT<;>simp at hT<;>subst hT<;>simp
    ·rename_i h1 h2 h2' h2c h3
     have:t=[]:=by
      split at hT
      ·rename_i hcal;exact (h2 hcal).elim
      ·rename_i hcal;exact (h3 hcal).elim
      ·rename_i hcal;exact (h2c hcal).elim
      ·split at hT
       ·simpa using hT.symm
       ·simp [Bt] at hT
     exact pure_case _ h (by subst this;simp)
  | _ =>
    simp only [qe,j0,if_true,sIq] at hT;simp only [qD] at h ⊢;exact pure_case _ h (by subst hT;simp)
structure StepOk (P:Program) (H:Hd) (call:jt) (all:List Oper) (s s1:St) (o:Oper) (T:Touch) (K:List (Nat × Bool)) (r:AV):Prop where
 touch:T=qe H (lim o s K) s.mem.length o.op
 put:s1.tmps=(s.put0 o.dst K r).tmps
 step:(o.guard=none∧K=[]∧(qD P H call s.mem (fun K'=>lim o s K') o.op).sel=some (r,s1.mem)) ∨
  (∃ j b m',o.guard=some (j,b)∧keysOf all s j b=some K∧JS H (lim o s K) o.op=true∧(∀ p ∈ K,some p.1 ≠ o.dst)∧s1.mem=s.mem∧((qD P H call s.mem (fun K'=>lim o s (K'++K)) o.op).toNeed dGu (yy s K)).sel=some (r,m'))
theorem zY (s:St) (d:Option Tmp) (K:List (Nat × Bool)) (v:AV):(s.put0 d K v).mem=s.mem:=by
 cases d<;>rfl
theorem BK {H : Hd} {call : jt} {all : List Oper} : ∀ (l : List Oper) (s : St) {s' : St} {is : List kq}, (Ze P H call all l s).sel = some (s', is) ->
  ∃ (st:Nat->St) (rs:Nat->AV),st 0=s∧st l.length=s'∧is.length=l.length∧∀ i o,l[i]? = some o->∃ T K,is[i]? = some (T,K)∧StepOk P H call all (st i) (st (i+1)) o T K (rs i)
 | [], s, s', is, h => by
   simp only [Ze,Tree.sel,sIq,pIq] at h;obtain ⟨rfl,rfl⟩:=h;exact ⟨fun _=>s,fun _=>.any,rfl,rfl,rfl,fun i o h=>by simp at h⟩
 | o :: r, s, s', is, h => by
   have key : ∀ (s1 : St) (T : Touch) (K : List (Nat × Bool)) (v : AV) (is' : List kq), (Ze P H call all r s1).sel = some (s', is') -> is = (T, K) :: is' -> StepOk P H call all s s1 o T K v ->
     ∃ (st:Nat->St) (rs:Nat->AV),st 0=s∧st (o::r).length=s'∧is.length=(o::r).length∧∀ i o',(o::r)[i]? = some o'->∃ T K,is[i]? = some (T,K)∧StepOk P H call all (st i) (st (i+1)) o' T K (rs i):=by
    intro s1 T K v is' h1 hi hs;obtain ⟨st,rs,h0,hn,hl,hstep⟩:=BK r s1 h1;subst hi;refine ⟨fun i=>match i with | 0=>s | i+1=>st i,fun i=>match i with | 0=>v | i+1=>rs i,rfl,hn,by simp [hl],fun i o' hi => ?_⟩
    cases i with
    | zero =>
      simp at hi;subst hi;exact ⟨T,K,rfl,by simpa [h0] using hs⟩
    | succ i =>
      simp at hi;obtain ⟨T',K',h1,h2⟩:=hstep i o' hi;exact ⟨T',K',by simpa using h1,h2⟩
   simp only [Ze] at h;split at h
   ·rename_i hg;obtain ⟨⟨rv,mem'⟩,h1,h2⟩:=jg h;obtain ⟨⟨s2,is'⟩,h3,h4⟩:=jg h2;simp only [Tree.sel,sIq,pIq] at h4;obtain ⟨rfl,rfl⟩:=h4;refine key _ _ _ rv _ h3 rfl ⟨rfl,?_,.inl ⟨hg,rfl,?_⟩⟩
    ·cases o.dst<;>rfl
    ·rw [zY];exact h1
   ·rename_i j b hg;split at h
    ·rename_i K hK;split at h
     ·simp [Tree.sel] at h
     ·rename_i hcond;simp only [Bool.or_eq_true,Bool.not_eq_true',not_or,Bool.not_eq_false,Bool.not_eq_true] at hcond;obtain ⟨hq,hdst⟩:=hcond;obtain ⟨⟨rv,mem'⟩,h1,h2⟩:=jg h;obtain ⟨⟨s2,is'⟩,h3,h4⟩:=jg h2;simp only [Tree.sel,sIq,pIq] at h4;obtain ⟨rfl,rfl⟩:=h4
      have hkd:∀ p ∈ K,some p.1 ≠ o.dst:=by
       intro p hp e;rw [List.any_eq_false] at hdst;exact hdst p hp (by simp [e])
      exact key _ _ _ rv _ h3 rfl ⟨rfl,rfl,.inr ⟨j,b,mem',hg,hK,hq,hkd,zY _ _ _ _,h1⟩⟩
    ·simp [Tree.sel] at h
theorem YB:∀ {k:Nat} {l:List Oper},XO k l=true->∀ i o,l[i]? = some o->∀ e ∈ o.after,Region.binds .any e=true->e.on<k+i
 | k, o :: r, h, 0, o', hi, e, he, hb => by
   simp at hi;subst hi;simp only [XO,aTq,List.all_eq_true] at h
   have:=h.1 e (by simpa using he)
   rw [hb] at this;simpa using this
 | k, o :: r, h, i + 1, o', hi, e, he, hb => by
   simp only [XO,aTq] at h
   have:=YB h.2 i o' (by simpa using hi) e he hb
   omega
 | k,[],_,i,o',hi,_,_,_=>by simp at hi
theorem KJ:∀ {l:List Oper},Wh l=true->∀ (i j:Nat) (o o':Oper) (d:Tmp),l[i]? = some o->l[j]? = some o'->o.dst=some d->o'.dst=some d->i=j
 | [],_,i,_,_,_,_,hi,_,_,_=>by simp at hi
 | x::r,h,0,0,_,_,_,_,_,_,_=>rfl
 | x :: r, h, 0, j + 1, o, o', d, hi, hj, hd, hd' => by
   simp at hi hj;subst hi;simp only [Wh,hd,aTq,List.all_eq_true] at h
   have:=h.1 o' (List.mem_of_getElem? hj)
   simp [hd'] at this
 | x :: r, h, i + 1, 0, o, o', d, hi, hj, hd, hd' => by
   simp at hi hj;subst hj;simp only [Wh,hd',aTq,List.all_eq_true] at h
   have:=h.1 o (List.mem_of_getElem? hi)
   simp [hd] at this
 | x :: r, h, i + 1, j + 1, o, o', d, hi, hj, hd, hd' => by
   simp only [Wh,aTq] at h;rw [KJ h.2 i j o o' d (by simpa using hi) (by simpa using hj) hd hd']
theorem kp {t:Nat}:∀ {k:Nat} {l:List Oper} {i:Nat},JL t k l=some i->∃ j o,i=k+j∧l[j]? = some o∧o.dst=some t
 | k,[],i,h=>by simp [JL] at h
 | k, o :: r, i, h => by
   simp only [JL] at h;split at h
   ·rename_i hd;simp at h;subst h;exact ⟨0,o,rfl,rfl,by simpa using hd⟩
   ·obtain ⟨j,o',h1,h2,h3⟩:=kp h;exact ⟨j+1,o',by omega,by simpa using h2,h3⟩
theorem ZF {t:Nat}:∀ {k:Nat} {l:List Oper},JL t k l=none->∀ (i:Nat) (o:Oper),l[i]? = some o->o.dst ≠ some t
 | k,[],_,i,o,hi=>by simp at hi
 | k, x :: r, h, i, o, hi => by
   simp only [JL] at h;split at h
   ·simp at h
   ·rename_i hd;cases i with
    | zero=>simp at hi;subst hi;simpa using hd
    | succ i=>exact ZF h i o (by simpa using hi)
theorem kr {all : List Oper} {masks : List Nat} : ∀ {k : Nat} {l : List Oper} {is : List kq}, Lr all masks k l is = true -> ∀ j o T K, l[j]? = some o -> is[j]? = some (T, K) ->
  (∀ t ∈ tmpsIn o.op.operands.toList,GY all masks (k+j) t=true)∧(∀ g b,o.guard=some (g,b)->zh masks g (k+j)=true)∧(∀ p ∈ K,Hu all masks (k+j) p.1=true)
 | k,[],_,_,j,o,_,_,hj,_=>by simp at hj
 | k,_::_,[],_,j,_,_,_,_,hi=>by simp at hi
 | k, x :: r, (T0, K0) :: q, h, 0, o, T, K, hj, hi => by
   simp at hj hi;obtain ⟨rfl,rfl⟩:=hi;subst hj;simp only [Lr,aTq,List.all_eq_true] at h;obtain ⟨⟨⟨h1,h2⟩,h3⟩,_⟩:=h;refine ⟨fun t ht=>by simpa using h1 t ht,fun g b hg => ?_,fun p hp=>by simpa using h3 p hp⟩
   rw [hg] at h2;simpa using h2
 | k, x :: r, (T0, K0) :: q, h, j + 1, o, T, K, hj, hi => by
   simp only [Lr,aTq] at h
   have:=kr h.2 j o T K (by simpa using hj) (by simpa using hi)
   rwa [show k+1+j=k+(j+1) by omega] at this
theorem Vf {masks:List Nat} {i j:Nat} {T U:Touch} (h:clash masks i j T U=true) {l:Nat} (hl:T.wr l∧U.at l∨T.at l∧U.wr l):zh masks i j=true:=by
 cases T with
 | none=>cases U with
  | none=>exact h
  | some u =>
    simp only [clash,Bool.or_eq_true] at h;rcases h with h | h
    ·rcases hl with ⟨_,x,hx⟩ | ⟨_,hx⟩
     ·simp at h;subst h;simp at hx
     ·simp at h;subst h;simp [Touch.wr] at hx
    ·exact h
 | some t=>cases U with
  | none =>
    simp only [clash,Bool.or_eq_true] at h;rcases h with h | h
    ·rcases hl with ⟨hx,_⟩ | ⟨⟨x,hx⟩,_⟩
     ·simp at h;subst h;simp [Touch.wr] at hx
     ·simp at h;subst h;simp at hx
    ·exact h
  | some u =>
    simp only [clash,List.all_eq_true] at h;rcases hl with ⟨h1,x,h2⟩ | ⟨⟨x,h1⟩,h2⟩
    ·have:=h _ h1 _ h2
     simpa using this
    ·have:=h _ h1 _ h2
     simpa using this
theorem Dx {masks:List Nat} {i:Nat} {t:Touch}:∀ {k:Nat} {l:List kq},Ke masks i t k l=true->∀ j T K,l[j]? = some (T,K)->clash masks i (k+j) t T=true
 | k,[],_,j,_,_,hj=>by simp at hj
 | k, x :: r, h, 0, T, K, hj => by
   simp at hj;subst hj;simp only [Ke,aTq] at h;exact h.1
 | k, x :: r, h, j + 1, T, K, hj => by
   simp only [Ke,aTq] at h
   have:=Dx h.2 j T K (by simpa using hj)
   rwa [show k+1+j=k+(j+1) by omega] at this
theorem QW {masks:List Nat}:∀ {k:Nat} {l:List kq},ZX masks k l=true->∀ i j T K T' K',i<j->l[i]? = some (T,K)->l[j]? = some (T',K')->clash masks (k+i) (k+j) T T'=true
 | k,[],_,i,_,_,_,_,_,_,hi,_=>by simp at hi
 | k, x :: r, h, 0, j + 1, T, K, T', K', _, hi, hj => by
   simp at hi;subst hi;simp only [ZX,aTq] at h
   have:=Dx h.1 j T' K' (by simpa using hj)
   rwa [show k+1+j=k+(j+1) by omega] at this
 | k,x::r,h,0,0,_,_,_,_,hij,_,_=>by omega
 | k,x::r,h,i+1,0,_,_,_,_,hij,_,_=>by omega
 | k, x :: r, h, i + 1, j + 1, T, K, T', K', hij, hi, hj => by
   simp only [ZX,aTq] at h
   have:=QW h.2 i j T K T' K' (by omega) (by simpa using hi) (by simpa using hj)
   rwa [show k+1+i=k+(i+1) by omega,show k+1+j=k+(j+1) by omega] at this
theorem V6 {masks:List Nat} {i:Nat}:∀ {l:List Edge},(XZ masks l).testBit i=true->∃ e ∈ l,Region.binds .any e=true∧∃ m,nth masks e.on=some m∧(i=e.on∨m.testBit i=true)
 | [],h=>by simp [XZ] at h
 | e :: r, h => by
   simp only [XZ,Nat.testBit_or,Bool.or_eq_true] at h;rcases h with h | h
   ·split at h
    ·rename_i m hm;split at h
     ·rename_i hb;rw [Nat.testBit_or,Bool.or_eq_true,Nat.testBit_two_pow] at h;refine ⟨e,by simp,hb,m,hm,h.imp (fun h => ?_) id⟩
      have:=of_decide_eq_true h
      exact this.symm
     ·simp at h
    ·simp at h
   ·obtain ⟨e',he,h2⟩:=V6 h;exact ⟨e',by simp [he],h2⟩
theorem YE {all : List Oper} {L N : Nat -> Prop} (hd : ∀ j o, all[j]? = some o -> N j -> ∀ e ∈ o.after, Region.binds .any e = true -> L e.on) (hLN : ∀ j, L j -> N j) :
  ∀ (l:List Oper) (acc:List Nat),(∀ k,l[k]? = all[acc.length+k]?)->(∀ j m,nth acc j=some m->∀ i,m.testBit i=true->N j->L i)->∀ j m,nth (qw l acc) j=some m->∀ i,m.testBit i=true->N j->L i
 | [],acc,_,hacc=>hacc
 | o :: r, acc, hl, hacc => by
   simp only [qw];refine YE hd hLN r _ (fun k => ?_) (fun j m hj i hi hN => ?_)
   ·have:=hl (k+1)
    simp only [List.getElem?_cons_succ] at this;rw [this];simp [Nat.add_assoc,Nat.add_comm 1]
   ·rcases yN hj with h | ⟨h1,h2⟩
    ·exact hacc j m h i hi hN
    ·subst h2
     have ho:all[j]? = some o:=by
      have:=hl 0
      simpa [h1] using this.symm
     obtain ⟨e,he,hb,m,hm,h⟩:=V6 hi;have hLe:=hd j o ho hN e (by simpa using he) hb
     rcases h with rfl | h
     ·exact hLe
     ·exact hacc _ m hm i h (hLN _ hLe)
structure Plan (P:Program) (H:Hd) (call:jt) (all:List Oper) where
 st:Nat->St
 rs:Nat->AV
 T:Nat->Touch
 K:Nat->List (Nat × Bool)
 anc:Nat->Nat->Prop
 step:∀ i o,all[i]? = some o->StepOk P H call all (st i) (st (i+1)) o (T i) (K i) (rs i)
 start:∀ sl ∈ (st 0).tmps,sl.keys=[]
 edges:∀ i o,all[i]? = some o->∀ e ∈ o.after,Region.binds .any e=true->e.on<i
 dsts:∀ (i j:Nat) (o o':Oper) (d:Tmp),all[i]? = some o->all[j]? = some o'->o.dst=some d->o'.dst=some d->i=j
 tmps:∀ (j:Nat) (o:Oper) (t:Tmp),all[j]? = some o->t ∈ tmpsIn o.op.operands.toList->(∃ (i:Nat) (oi:Oper),all[i]? = some oi∧oi.dst=some t∧(anc i j∨anc j i∨i=j))∨(∀ (i:Nat) (oi:Oper),all[i]? = some oi->oi.dst ≠ some t)
 guards:∀ (j:Nat) (o:Oper) (g:Nat) (b:Bool),all[j]? = some o->o.guard=some (g,b)->anc g j
 keys:∀ (j:Nat) (o:Oper) p,all[j]? = some o->p ∈ K j->∃ (i:Nat) (oi:Oper),all[i]? = some oi∧oi.dst=some p.1∧anc i j
 touch:∀ i j l,i<j->j<all.length->(T i).wr l∧(T j).at l∨(T i).at l∧(T j).wr l->anc i j
 lt:∀ i j,anc i j->i<j
 down:∀ (L N:Nat->Prop),(∀ j o,all[j]? = some o->N j->∀ e ∈ o.after,Region.binds .any e=true->L e.on)->(∀ j,L j->N j)->∀ i j,anc i j->N j->L i
theorem jkv {H : Hd} {call : jt} {all : List Oper} {s s' : St} {is : List kq} (h : (Ze P H call all all s).sel = some (s', is)) (hd : Qj all is = true) (h0 : ∀ sl ∈ s.tmps, sl.keys = []) :
  ∃ p:Plan P H call all,p.st 0=s∧p.st all.length=s':=by
 obtain ⟨st,rs,e0,en,hl,hstep⟩:=BK all s h;simp only [Qj,aTq] at hd;obtain ⟨⟨⟨h1,h2⟩,h3⟩,h4⟩:=hd
 have hi:∀ i,i<all.length->is[i]? = some ((is[i]?.getD (none,[])).1,(is[i]?.getD (none,[])).2):=by
  intro i hi;rw [gEq (by omega)]
  simp
 have hlt:∀ {i:Nat} {o:Oper},all[i]? = some o->i<all.length:=by
  intro i o h;rcases lOq i all.length with h' | h'
  ·exact h'
  ·simp [List.getElem?_eq_none h'] at h
 refine ⟨{ st:=st,rs:=rs,T:=fun i=>(is[i]?.getD (none,[])).1,K:=fun i=>(is[i]?.getD (none,[])).2,anc:=fun i j=>zh (qw all []) i j=true,step:=?_,start:=?_,edges:=?_,dsts:=KJ h2,tmps:=?_,guards:=?_,keys:=?_,touch:=?_,lt:=?_,down:=?_ },e0,en⟩
 ·intro i o ho;obtain ⟨T,K,h1,h2⟩:=hstep i o ho;simpa [h1] using h2
 ·rw [e0];exact h0
 ·intro i o ho e he hb
  have:=YB h1 i o ho e he hb
  omega
 ·intro j o t ho ht
  have:=(kr h3 j o _ _ ho (hi j (hlt ho))).1 t ht
  rw [Nat.zero_add] at this;unfold GY at this;split at this
  ·rename_i i hw;obtain ⟨j',o',h1,h2,h3⟩:=kp hw;left;rw [Bool.or_eq_true,Bool.or_eq_true,beq_iff_eq] at this;rw [show i=j' by omega] at this
   exact ⟨j',o',h2,h3,this.elim (fun h=>h.elim .inl fun h=>.inr (.inl h)) fun h=>.inr (.inr h)⟩
  ·rename_i hw;right;exact ZF hw
 ·intro j o g b ho hg
  have:=(kr h3 j o _ _ ho (hi j (hlt ho))).2.1 g b hg
  rwa [Nat.zero_add] at this
 ·intro j o p ho hp
  have:=(kr h3 j o _ _ ho (hi j (hlt ho))).2.2 p hp
  rw [Nat.zero_add] at this;unfold Hu at this;split at this
  ·rename_i i hw;obtain ⟨j',o',h1,h2,h3⟩:=kp hw;exact ⟨j',o',h2,h3,by rw [show j'=i by omega];exact this⟩
  ·simp at this
 ·intro i j l hij hj hl'
  have:=QW h4 i j _ _ _ _ hij (hi i (by omega)) (hi j hj)
  rw [Nat.zero_add,Nat.zero_add] at this;exact Vf this hl'
 ·intro i j h;unfold zh at h;rw [aTq] at h;simpa using h.1
 ·intro L N hd hLN i j h hN;unfold zh at h;rw [aTq] at h;obtain ⟨_,h⟩:=h;split at h
  ·rename_i m hm;exact YE hd hLN all [] (by simp) (fun j m h=>by simp [nth] at h) j m hm i h hN
  ·simp at h
end
end Go.Sx