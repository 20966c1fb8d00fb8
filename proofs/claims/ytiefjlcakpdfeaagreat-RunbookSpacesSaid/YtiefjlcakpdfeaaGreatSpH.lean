/-
 Part SpH of the proof: EngM.
-/
import Derived.Test.YtiefjlcakpdfeaaGreatSpG
namespace Go.Sx
open Go Go.RowKit
def obs (m:Mem):Nat → Nat ⊕ Option (Option (TypeId × List CV))
 | 0 => .inl m.length
 | b + 1 => .inr (nth m b)
theorem obs_ext {m m':Mem} (h:∀ l,obs m l = obs m' l):m = m':=by
 apply List.ext_getElem?
 intro i
 have:=h (i + 1)
 simpa [obs,nth_eq] using this
def Touch.at:Touch → Nat → Prop
 | none,_ => True
 | some t,l => ∃ x,(l,x) ∈ t
def Touch.wr:Touch → Nat → Prop
 | none,_ => True
 | some t,l => (l,true) ∈ t
theorem Touch.wr_at {t:Touch} {l:Nat} (h:t.wr l):t.at l:=by
 cases t
 ·trivial
 ·exact ⟨true,h⟩
theorem bind_sel {α β:Type} {t:Tree α} {f:α → Tree β} {a:α} (h:t.sel = some a):(t.bind f).sel = (f a).sel:=by
 induction t with
 | leaf b => simp only [Tree.sel,Option.some.injEq] at h; subst h; rfl
 | br c t e iht ihe =>
   simp only [Tree.bind,Tree.sel] at h ⊢
   cases c
   ·exact ihe h
   ·exact iht h
 | need c t ih =>
   simp only [Tree.bind,Tree.sel] at h ⊢
   cases c
   ·simp at h
   ·exact ih h
 | fail => simp [Tree.sel] at h
theorem anyN_iff {t:Nat} {ts:List Nat}:anyN t ts = true ↔ t ∈ ts:=by
 induction ts with
 | nil => simp [anyN]
 | cons u r ih => simp [anyN,ih]
theorem limit_le {ts:List Nat} {ρ:Operand → Option AV} {x:Operand} {av:AV} (h:limit ts ρ x = some av):ρ x = some av:=by
 unfold limit at h
 split at h
 ·split at h
  ·exact h
  ·simp at h
 ·exact h
theorem limit_congr {ts:List Nat} {ρ ρ':Operand → Option AV} (h:∀ t ∈ ts,ρ (.tmp t) = ρ' (.tmp t)) (h':∀ x,(∀ t,x ≠ .tmp t) → ρ x = ρ' x):limit ts ρ = limit ts ρ':=by
 funext x
 cases x with
 | tmp t =>
   simp only [limit]
   split
   ·rename_i ha
    exact h t (anyN_iff.1 ha)
   ·rfl
 | _ => exact h' _ (by simp)
theorem lim_congr {o:Oper} {s s':St} {K:List (Nat × Bool)} (h:∀ t ∈ tmpsIn o.op.operands.toList,nth s.tmps t = nth s'.tmps t):lim o s K = lim o s' K:=by
 unfold lim
 refine limit_congr (fun t ht => ?_) (fun x hx => ?_)
 ·simp only [opnd,h t ht]
 ·unfold opnd
  split
  ·exact absurd rfl (hx _)
  ·rfl
  ·rfl
  ·rfl
section
variable {P:Program}
theorem rowAt_congr {mem M:Mem} {b:Nat} (h:nth mem b = nth M b):rowAt mem b = rowAt M b:=by unfold rowAt; rw [h]
theorem frzC_none {mem:Mem} {x:CV} (h:hasOs x = false):frzC mem x = (mem,x):=by
 unfold frzC
 split
 ·simp [hasOs] at h
 ·rfl
theorem frzCs_none:∀ {l:List CV} {mem:Mem},(∀ x ∈ l,hasOs x = false) → frzCs mem l = (mem,l)
 | [],_,_ => rfl
 | x :: r, mem, h => by
   have h2:=frzCs_none (l:=r) (mem:=mem) fun y hy => h y (List.mem_cons_of_mem _ hy)
   simp only [frzCs,frzC_none (h x (by simp)),h2]
theorem mem_setN {α:Type} {l:List α} {b:Nat} {y x:α} (h:x ∈ setN l b y):x ∈ l ∨ x = y:=by
 rw [setN_eq] at h
 rcases List.mem_or_eq_of_mem_set h with h | h
 ·exact .inl h
 ·exact .inr h
theorem putCells_mem:∀ {news cs:List CV} {o:Nat} {x:CV},x ∈ putCells cs o news → x ∈ cs ∨ x ∈ news
 | [],cs,o,x,h => .inl h
 | y :: r, cs, o, x, h => by
   simp only [putCells] at h
   rcases putCells_mem h with h | h
   ·rcases mem_setN h with h | h
    ·exact .inl h
    ·exact .inr (by simp [h])
   ·exact .inr (by simp [h])
theorem evFill_noOs {places:Nat → Option (Nat × Nat)}:∀ {parts:List (Nat × A1)} {cs r:List CV},evFill places cs parts = some r → (∀ x ∈ cs,hasOs x = false) → (∀ p ∈ parts,∀ x ∈ p.2.cells,hasOs x = false) → ∀ x ∈ r,hasOs x = false
 | [],cs,r,h,hc,_ => by simp [evFill] at h; subst h; exact hc
 | (i, v) :: q, cs, r, h, hc, hp => by
   simp only [evFill] at h
   split at h
   ·simp at h
   ·split at h
    ·refine evFill_noOs h (fun x hx => ?_) (fun p hp' => hp p (by simp [hp']))
     rcases putCells_mem hx with hx | hx
     ·exact hc x hx
     ·exact hp (i,v) (by simp) x hx
    ·simp at h
theorem liftCells_noOs:∀ {l:List Value} {z:List CV},liftCells l = some z → ∀ x ∈ z,hasOs x = false
 | [],z,h => by simp [liftCells] at h; subst h; simp
 | v :: r, z, h => by
   simp only [liftCells] at h
   split at h
   ·rename_i c l hc hl
    simp at h; subst h
    intro x hx
    rcases List.mem_cons.1 hx with rfl | hx
    ·unfold liftCell at hc
     split at hc <;> simp at hc <;> subst hc <;> rfl
    ·exact liftCells_noOs hl x hx
   ·simp at h
theorem zero_noOs {P:Program} {t:TypeId} {z:List CV} (h:zeroCellsOf P t = some z):∀ x ∈ z,hasOs x = false:=by
 unfold zeroCellsOf at h
 split at h
 ·split at h
  ·exact liftCells_noOs h
  ·simp at h
 ·simp at h
theorem repC_mem {z:List CV}:∀ {n:Nat} {x:CV},x ∈ repC z n → x ∈ z
 | 0,x,h => by simp [repC] at h
 | n + 1, x, h => by
   simp only [repC,List.mem_append] at h
   rcases h with h | h
   ·exact h
   ·exact repC_mem h
theorem makeSlice_mem {P : Program} {M mem : Mem} {t : TypeId} {l c : AV} {r : AV} {M' : Mem} (h : (evMake P M t l c).sel = some (r, M')) (hlen : mem.length = M.length) :
  ∃ b,M' = M ++ [b] ∧ (evMake P mem t l c).sel = some (r,mem ++ [b]):=by
 unfold evMake at h ⊢
 split at h
 ·rename_i kl l kc c
  split at h
  ·split at h
   ·rename_i j es z hj hes hz
    split at h
    ·rename_i hc
     simp only [if_pos hc,Tree.sel] at h ⊢
     cases hc2:(le 0 l && le l c && le (c * toInt64 j.bytes) 140737488355328) <;> simp [hc2] at h
     obtain ⟨rfl,rfl⟩:=h
     exact ⟨_,rfl,by simp [hlen]⟩
    ·simp [Tree.sel] at h
   ·simp [Tree.sel] at h
  ·simp [Tree.sel] at h
 ·simp [Tree.sel] at h
theorem buildSlice_mem {P : Program} {M mem : Mem} {t : TypeId} {n : Nat} {parts : List (Nat × A1)} {r : AV} {M' : Mem} (h : evBuildSlice P M t n parts = some (r, M')) (hp : ∀ p ∈ parts, ∀ x ∈ p.2.cells, hasOs x = false) (hlen : mem.length = M.length) :
  ∃ b,M' = M ++ [b] ∧ evBuildSlice P mem t n parts = some (r,mem ++ [b]):=by
 unfold evBuildSlice at h ⊢
 split at h
 ·split at h
  ·rename_i hz
   split at h
   ·rename_i hc
    rw [if_pos hc]
    split at h
    ·rename_i cs hf
     have hno:=evFill_noOs hf (fun x hx => zero_noOs hz x (repC_mem hx)) hp
     simp only [frzCs_none hno] at h ⊢
     split at h
     ·rename_i hfit
      rw [if_pos hfit]
      simp only [Option.some.injEq,Prod.mk.injEq] at h
      obtain ⟨rfl,rfl⟩:=h
      exact ⟨_,rfl,by rw [hlen]⟩
     ·simp at h
    ·simp at h
   ·simp at h
  ·simp at h
 ·simp at h
theorem srcOf_congr {mem M:Mem} {x:A1} (h:∀ b sz,x = .c (.os b sz) → nth mem b = nth M b):srcOf mem x = srcOf M x:=by
 unfold srcOf
 split
 ·rfl
 ·rw [rowAt_congr (h _ _ rfl)]
 ·rfl
theorem nth_append_lt {α:Type} {l:List α} {x:α} {k:Nat} (h:k < l.length):nth (l ++ [x]) k = nth l k:=by
 rw [nth_eq,nth_eq,List.getElem?_append_left h]
theorem nth_append_gt {α:Type} {l:List α} {x:α} {k:Nat} (h:k ≠ l.length):nth (l ++ [x]) k = nth l k:=by
 rw [nth_eq,nth_eq]
 rcases Nat.lt_or_ge k l.length with h' | h'
 ·rw [List.getElem?_append_left h']
 ·rw [List.getElem?_eq_none h',List.getElem?_eq_none (by simp; omega)]
theorem nth_set_self {α:Type} {l:List α} {b:Nat} {x:α} (h:b < l.length):nth (setN l b x) b = some x:=by
 rw [setN_eq,nth_eq,List.getElem?_set_self h]
theorem nth_set_ne' {α:Type} {l:List α} {b k:Nat} {x:α} (h:k ≠ b):nth (setN l b x) k = nth l k:=by
 rw [setN_eq,nth_eq,nth_eq,List.getElem?_set_ne (fun e => h e.symm)]
theorem viewC_congr {mem M:Mem} {x:CV} (h:∀ b sz,x = .os b sz → nth mem b = nth M b) (ho:noOc x = true):viewC mem x = viewC M x:=by
 cases x <;> first | rfl | (simp [noOc] at ho; done) | skip
 ·rename_i b sz
  simp only [viewC,rowAt_congr (h b sz rfl)]
theorem osCells_mem:∀ {l:List CV} {b sz:Nat},CV.os b sz ∈ l → (b + 1,false) ∈ osCells l
 | [],_,_,h => by simp at h
 | y :: l, b, sz, h => by
   rcases List.mem_cons.1 h with h | h
   ·subst h; simp [osCells]
   ·have:=osCells_mem h
    cases y <;> simp [osCells,this]
theorem osAll_mem:∀ {l:List A1} {x:A1} {b sz:Nat},x ∈ l → CV.os b sz ∈ x.cells → (b + 1,false) ∈ osAll l
 | [],_,_,_,h,_ => by simp at h
 | y :: l, x, b, sz, h, hc => by
   rcases List.mem_cons.1 h with h | h
   ·subst h; simp [osAll,osCells_mem hc]
   ·simp [osAll,osAll_mem h hc]
theorem osCells_rd:∀ {l:List CV} {p:Nat × Bool},p ∈ osCells l → p.2 = false
 | [],_,h => by simp [osCells] at h
 | y :: l, p, h => by
   cases y <;> simp only [osCells,List.mem_cons] at h <;> first | exact osCells_rd h | (rcases h with rfl | h; rfl; exact osCells_rd h)
theorem osAll_rd:∀ {l:List A1} {p:Nat × Bool},p ∈ osAll l → p.2 = false
 | [],_,h => by simp [osAll] at h
 | y :: l, p, h => by
   simp only [osAll,List.mem_append] at h
   rcases h with h | h
   ·exact osCells_rd h
   ·exact osAll_rd h
theorem view1_congr {mem M:Mem} {x:A1} (h:∀ b sz,CV.os b sz ∈ x.cells → nth mem b = nth M b) (ho:x.cells.all noOc = true):view1 mem x = view1 M x:=by
 cases x with
 | c x => simp only [view1]; rw [viewC_congr (fun b sz e => h b sz (by subst e; simp [A1.cells])) (List.all_eq_true.1 ho x (by simp [A1.cells]))]
 | agg l =>
   simp only [view1]
   congr 1
   exact List.map_congr_left fun x hx => viewC_congr (fun b sz e => h b sz (by subst e; exact hx)) (List.all_eq_true.1 ho x hx)
theorem rdAll_noOc {args:List A1} (h:rdAll args = true) {x:A1} (hx:x ∈ args):x.cells.all noOc = true:=by
 refine List.all_eq_true.2 fun y hy => ?_
 have:=List.all_eq_true.1 (List.all_eq_true.1 h x hx) y hy
 cases y <;> first | rfl | simp [closedC,hasOs] at this
theorem evTail_shape {P : Program} (t : TypeId) (b sz : Nat) (lo hi mx : Option Int) (row : Option (TypeId × Bool × List Sh × Nat × Val)) :
  ∃ o:Option (Bool × AV),∀ mm:Mem,rowAt mm b = row → evTail P mm t (.c (.os b sz)) lo hi mx = o.map fun p => .need p.1 (.leaf (p.2,mm)):=by
 cases lo with
 | none => exact ⟨none,fun mm _ => rfl⟩
 | some l => cases hi with
  | some _ => exact ⟨none,fun mm _ => rfl⟩
  | none => cases mx with
   | some _ => exact ⟨none,fun mm _ => rfl⟩
   | none =>
     cases hu:P.underlying t with
    | none => exact ⟨none,fun mm _ => by simp [evTail,hu]⟩
    | some d =>
      rcases row with _ | ⟨T,fz,es,n,ρ⟩
      ·exact ⟨none,fun mm h => by simp only [evTail,hu,h]; cases d <;> rfl⟩
      ·cases fz
       ·cases d with
        | slice e =>
          cases hj:P.info? e with
         | none => exact ⟨none,fun mm h => by simp [evTail,hu,h,hj]⟩
         | some j =>
           by_cases hc:(es.length == j.size && sz == j.size && T == e) = true
           ·exact ⟨some (le 0 l && lt l (toInt64 n),.one (.c (.ost b sz l.toNat))),fun mm h => by simp only [evTail,hu,h,hj]; rw [if_pos hc]; rfl⟩
           ·exact ⟨none,fun mm h => by simp only [evTail,hu,h,hj]; rw [if_neg hc]; rfl⟩
        | _ => exact ⟨none,fun mm h => by simp only [evTail,hu,h]; rfl⟩
       ·exact ⟨none,fun mm h => by simp only [evTail,hu,h]; cases d <;> rfl⟩
theorem evHead_shape {P : Program} (t : TypeId) (b sz : Nat) (lo hi mx : Option Int) (row : Option (TypeId × Bool × List Sh × Nat × Val)) :
  ∃ o:Option (Bool × AV),∀ mm:Mem,rowAt mm b = row → evHead P mm t (.c (.os b sz)) lo hi mx = o.map fun p => .need p.1 (.leaf (p.2,mm)):=by
 cases lo with
 | some _ => exact ⟨none,fun mm _ => rfl⟩
 | none => cases hi with
  | none => exact ⟨none,fun mm _ => rfl⟩
  | some l => cases mx with
   | some _ => exact ⟨none,fun mm _ => rfl⟩
   | none =>
     cases hu:P.underlying t with
    | none => exact ⟨none,fun mm _ => by simp [evHead,hu]⟩
    | some d =>
      rcases row with _ | ⟨T,fz,es,n,ρ⟩
      ·exact ⟨none,fun mm h => by simp only [evHead,hu,h]; cases d <;> rfl⟩
      ·cases fz
       ·cases d with
        | slice e =>
          cases hj:P.info? e with
         | none => exact ⟨none,fun mm h => by simp [evHead,hu,h,hj]⟩
         | some j =>
           by_cases hc:(es.length == j.size && sz == j.size && T == e) = true
           ·exact ⟨some (le 0 l && le l (toInt64 n),.one (.c (.osh b sz l.toNat))),fun mm h => by simp only [evHead,hu,h,hj]; rw [if_pos hc]; rfl⟩
           ·exact ⟨none,fun mm h => by simp only [evHead,hu,h,hj]; rw [if_neg hc]; rfl⟩
        | _ => exact ⟨none,fun mm h => by simp only [evHead,hu,h]; rfl⟩
       ·exact ⟨none,fun mm h => by simp only [evHead,hu,h]; cases d <;> rfl⟩
theorem cpOf_congr {mem M:Mem} {x:A1} (h:∀ b sz m,x = .c (.osh b sz m) → nth mem b = nth M b):cpOf mem x = cpOf M x:=by
 cases x with
 | agg l => rfl
 | c x =>
   cases x <;> try rfl
   rename_i b sz m
   simp only [cpOf,rowAt_congr (h b sz m rfl)]
theorem evOp_mem {H : Hd} {call : CallH} {M M' mem : Mem} {ρ : List (Nat × Bool) → Operand → Option AV} {op : Op} {r : AV} (h : (evOp P H call M ρ op).sel = some (r, M'))
  (hat:∀ l,(touchOf H (ρ []) M.length op).at l → obs mem l = obs M l) :
  ∃ mem',(evOp P H call mem ρ op).sel = some (r,mem') ∧ ∀ l,((touchOf H (ρ []) M.length op).wr l → obs mem' l = obs M' l) ∧ (¬ (touchOf H (ρ []) M.length op).wr l → obs mem' l = obs mem l ∧ obs M' l = obs M l):=by
 cases hT:touchOf H (ρ []) M.length op with
 | none =>
   rw [hT] at hat
   obtain rfl:mem = M:=obs_ext fun l => hat l trivial
   exact ⟨M',h,fun l => ⟨fun _ => rfl,fun hn => (hn trivial).elim⟩⟩
 | some t =>
   rw [hT] at hat
   have still:(∀ l,¬ (l,true) ∈ t) → M' = M → ∀ l,(Touch.wr (some t) l → obs mem l = obs M' l) ∧ (¬ Touch.wr (some t) l → obs mem l = obs mem l ∧ obs M' l = obs M l):=by
    intro hno e l
    subst e
    exact ⟨fun hw => (hno l hw).elim,fun _ => ⟨rfl,rfl⟩⟩
   have rd:∀ b,(b + 1,false) ∈ t → nth mem b = nth M b:=by
    intro b hb
    have:=hat (b + 1) ⟨false,hb⟩
    simpa [obs] using this
   have rdw:∀ b,(b + 1,true) ∈ t → nth mem b = nth M b:=by
    intro b hb
    have:=hat (b + 1) ⟨true,hb⟩
    simpa [obs] using this
   have len:(0,true) ∈ t → mem.length = M.length:=by
    intro hb
    have:=hat 0 ⟨true,hb⟩
    simpa [obs] using this
   have pure_case:∀ e:Tree AV,(e.bind fun v => Tree.leaf (v,M)).sel = some (r,M') → (∀ l,¬ (l,true) ∈ t) → ∃ mem',(e.bind fun v => Tree.leaf (v,mem)).sel = some (r,mem') ∧ ∀ l,(Touch.wr (some t) l → obs mem' l = obs M' l) ∧ (¬ Touch.wr (some t) l → obs mem' l = obs mem l ∧ obs M' l = obs M l):=by
    intro e he ht
    obtain ⟨v,hv,h2⟩:=sel_bind he
    simp only [Tree.sel,Option.some.injEq,Prod.mk.injEq] at h2
    obtain ⟨rfl,rfl⟩:=h2
    exact ⟨mem,by rw [bind_sel hv]; rfl,still ht rfl⟩
   have grow:∀ b:Option (TypeId × List CV),(0,true) ∈ t → (M.length + 1,true) ∈ t → (∀ l,(l,true) ∈ t → l = 0 ∨ l = M.length + 1) → ∀ l,(Touch.wr (some t) l → obs (mem ++ [b]) l = obs (M ++ [b]) l) ∧ (¬ Touch.wr (some t) l → obs (mem ++ [b]) l = obs mem l ∧ obs (M ++ [b]) l = obs M l):=by
    intro b h1 h2 h3 l
    have hlen:=len h1
    refine ⟨fun hw => ?_,fun hn => ?_⟩
    ·rcases h3 l hw with rfl | rfl
     ·simp [obs,hlen]
     ·simp only [obs,nth_append_last]
      rw [← hlen,nth_append_last]
    ·cases l with
     | zero => exact (hn h1).elim
     | succ k =>
       have hk:k ≠ M.length:=fun e => hn (by subst e; exact h2)
       exact ⟨by simp only [obs,Sum.inr.injEq]; exact nth_append_gt (by omega),by simp only [obs,Sum.inr.injEq]; exact nth_append_gt hk⟩
   have grow2 : ∀ (d : Nat) (b : Option (TypeId × List CV)), d < M.length → (0, true) ∈ t → (M.length + 1, true) ∈ t → (d + 1, true) ∈ t → (∀ l, (l, true) ∈ t → l = 0 ∨ l = M.length + 1 ∨ l = d + 1) →
     ∀ l,(Touch.wr (some t) l → obs (setN mem d none ++ [b]) l = obs (setN M d none ++ [b]) l) ∧ (¬ Touch.wr (some t) l → obs (setN mem d none ++ [b]) l = obs mem l ∧ obs (setN M d none ++ [b]) l = obs M l):=by
    intro d b hd h1 h2 h4 h3 l
    have hlen:=len h1
    have hl1:(setN mem d (none:Option (TypeId × List CV))).length = mem.length:=setN_length _ _ _
    have hl2:(setN M d (none:Option (TypeId × List CV))).length = M.length:=setN_length _ _ _
    refine ⟨fun hw => ?_,fun hn => ?_⟩
    ·rcases h3 l hw with rfl | rfl | rfl
     ·simp [obs,hl1,hl2,hlen]
     ·simp only [obs,Sum.inr.injEq]
      have e1:nth (setN mem d none ++ [b]) M.length = some b:=by rw [← hlen,← hl1]; exact nth_append_last _ _
      have e2:nth (setN M d none ++ [b]) M.length = some b:=by
       have:=nth_append_last (setN M d none) b
       rwa [hl2] at this
      rw [e1,e2]
     ·simp only [obs,Sum.inr.injEq]
      rw [nth_append_lt (by omega),nth_append_lt (by omega),nth_set_self (by omega),nth_set_self hd]
    ·cases l with
     | zero => exact (hn h1).elim
     | succ k =>
       have hk:k ≠ M.length:=fun e => hn (by subst e; exact h2)
       have hkd:k ≠ d:=fun e => hn (by subst e; exact h4)
       exact ⟨by simp only [obs,Sum.inr.injEq]; rw [nth_append_gt (by omega),nth_set_ne' hkd],by simp only [obs,Sum.inr.injEq]; rw [nth_append_gt (by omega),nth_set_ne' hkd]⟩
   cases op with
  | alloc e =>
    simp only [touchOf,Option.some.injEq] at hT
    subst hT
    simp only [evOp] at h ⊢
    split at h
    ·rename_i z hz
     simp only [Tree.sel,Option.some.injEq,Prod.mk.injEq] at h
     obtain ⟨rfl,rfl⟩:=h
     exact ⟨_,by simp only [Tree.sel,len (by simp)],grow _ (by simp) (by simp) (by simp)⟩
    ·simp [Tree.sel] at h
  | box e x =>
    simp only [touchOf,Option.some.injEq] at hT
    subst hT
    simp only [evOp] at h ⊢
    split at h
    ·rename_i z hz
     split at h
     ·simp [Tree.sel] at h
     ·rename_i hrow
      rw [if_neg hrow]
      simp only [Tree.sel,Option.some.injEq,Prod.mk.injEq] at h
      obtain ⟨rfl,rfl⟩:=h
      exact ⟨_,by simp only [Tree.sel,len (by simp)],grow _ (by simp) (by simp) (by simp)⟩
    ·simp [Tree.sel] at h
  | load ty x =>
    simp only [touchOf] at hT
    simp only [evOp] at h ⊢
    split at h
    ·rename_i b sz i off hu
     rw [hu] at hT
     simp only [Option.some.injEq] at hT
     subst hT
     split at h
     ·rename_i v hv
      simp only [Tree.sel,Option.some.injEq,Prod.mk.injEq] at h
      obtain ⟨rfl,rfl⟩:=h
      refine ⟨mem,?_,still (by simp) rfl⟩
      have:evLoadRow P mem ty b sz i off = evLoadRow P M ty b sz i off:=by unfold evLoadRow; rw [rowAt_congr (rd b (by simp))]
      rw [this,hv]; rfl
     ·simp [Tree.sel] at h
    ·rename_i u hnr hu
     split at h
     ·rename_i v hv
      simp only [Tree.sel,Option.some.injEq,Prod.mk.injEq] at h
      obtain ⟨rfl,rfl⟩:=h
      refine ⟨mem,?_,still ?_ rfl⟩
      ·have : evLoad P mem ty u = evLoad P M ty u := by
        unfold evLoad
        split
        ·rename_i b o
         rw [hu] at hT
         simp only [Option.some.injEq] at hT
         rw [rd b (by rw [← hT]; simp)]
        ·rfl
        ·rfl
       rw [this,hv]; rfl
      ·rw [hu] at hT
       intro l
       split at hT <;> simp at hT <;> subst hT <;> simp
     ·simp [Tree.sel] at h
    ·simp [Tree.sel] at h
  | store ty x y =>
    simp only [touchOf] at hT
    simp only [evOp] at h ⊢
    split at h
    ·rename_i b sz i off v hx hy
     rw [hx] at hT
     simp only [hy] at hT
     split at hT
     ·rename_i hos
      simp only [Option.some.injEq] at hT
      subst hT
      have hb:=rdw b (by simp)
      have hno:∀ x ∈ v.cells,hasOs x = false:=fun x hx => by
       have:=List.all_eq_true.1 hos x hx
       simpa using this
      split at h
      ·rename_i m' hm'
       simp only [Tree.sel,Option.some.injEq,Prod.mk.injEq] at h
       obtain ⟨rfl,rfl⟩:=h
       unfold evStoreRow at hm' ⊢
       simp only [frzCs_none hno] at hm' ⊢
       rw [rowAt_congr hb]
       split at hm'
       ·rename_i j hj
        split at hm'
        ·rename_i T es n ρ hrow
         split at hm'
         ·rename_i hcond
          split at hm'
          ·rename_i es' htk
           split at hm'
           ·rename_i hfit
            simp only [Option.some.injEq] at hm'
            subst hm'
            have hM:nth M b = some (some (T,[.row false es n ρ])):=by
             unfold rowAt at hrow
             split at hrow
             ·rename_i hh
              simp only [Option.some.injEq,Prod.mk.injEq] at hrow
              obtain ⟨rfl,rfl,rfl,rfl,rfl⟩:=hrow
              exact hh
             ·cases hrow
            refine ⟨setN mem b (some (T,[.row false es n (ρ.upds i off v.cells)])),by simp only [hcond,if_true,hfit]; rfl,fun l => ⟨fun hw => ?_,fun hn => ?_⟩⟩
            ·simp only [Touch.wr,List.mem_cons,Prod.mk.injEq,and_true,List.not_mem_nil,or_false] at hw
             subst hw
             simp only [obs,Sum.inr.injEq]
             have h1:b < M.length:=nth_lt hM
             have h2:b < mem.length:=nth_lt (hb.trans hM)
             rw [nth_set_self h1,nth_set_self h2]
            ·simp only [Touch.wr,List.mem_cons,Prod.mk.injEq,and_true,List.not_mem_nil,or_false] at hn
             cases l with
             | zero => simp [obs,setN_eq]
             | succ k =>
               have hk:k ≠ b:=fun e => hn (by rw [e])
               simp only [obs,nth_set_ne' hk,and_self]
           ·cases hm'
          ·cases hm'
         ·cases hm'
        ·cases hm'
       ·cases hm'
      ·simp [Tree.sel] at h
     ·cases hT
    ·rename_i b off v hx hy
     rw [hx] at hT
     simp only [Option.some.injEq] at hT
     subst hT
     have hb:=rdw b (by simp)
     rw [hb]
     split at h
     ·rename_i T cs i hmem hi
      split at h
      ·rename_i hcond
       simp only [Tree.sel,Option.some.injEq,Prod.mk.injEq] at h
       obtain ⟨rfl,rfl⟩:=h
       refine ⟨setN mem b (some (T,putCells cs off v.cells)),by rw [if_pos hcond]; rfl,fun l => ⟨fun hw => ?_,fun hn => ?_⟩⟩
       ·simp only [Touch.wr,List.mem_cons,Prod.mk.injEq,and_true,List.not_mem_nil,or_false] at hw
        subst hw
        simp only [obs,Sum.inr.injEq]
        have h1:b < M.length:=nth_lt hmem
        have h2:b < mem.length:=nth_lt (hb.trans hmem)
        rw [nth_set_self h1,nth_set_self h2]
       ·simp only [Touch.wr,List.mem_cons,Prod.mk.injEq,and_true,List.not_mem_nil,or_false] at hn
        cases l with
        | zero => simp [obs,setN_eq]
        | succ k =>
          have hk:k ≠ b:=fun e => hn (by rw [e])
          simp only [obs,nth_set_ne' hk,and_self]
      ·simp [Tree.sel] at h
     ·simp [Tree.sel] at h
    ·simp [Tree.sel] at h
  | buildSlice ty n parts =>
    simp only [touchOf] at hT
    simp only [evOp] at h ⊢
    split at h
    ·rename_i l hl
     rw [hl] at hT
     simp only at hT
     split at hT
     ·rename_i hlit
      simp only [Option.some.injEq] at hT
      subst hT
      rw [if_pos hlit] at h ⊢
      split at h
      ·rename_i q hq
       simp only [Tree.sel,Option.some.injEq,Prod.mk.injEq] at h
       obtain ⟨rfl,rfl⟩:=h
       exact ⟨mem,rfl,still (by simp) rfl⟩
      ·simp [Tree.sel] at h
     rename_i hlit
     rw [if_neg hlit] at h ⊢
     split at hT
     ·rename_i hall
      simp only [Option.some.injEq] at hT
      subst hT
      split at h
      ·rename_i q hq
       simp only [Tree.sel,Option.some.injEq] at h
       subst h
       obtain ⟨b,rfl,h2⟩:=buildSlice_mem hq (fun p hp x hx => by
        have:=List.all_eq_true.1 (List.all_eq_true.1 hall p hp) x hx
        simpa using this) (len (by simp))
       exact ⟨mem ++ [b],by rw [h2]; rfl,grow b (by simp) (by simp) (by simp)⟩
      ·simp [Tree.sel] at h
     ·simp at hT
    ·simp [Tree.sel] at h
  | makeSlice ty x y =>
    simp only [touchOf] at hT
    simp only [evOp] at h ⊢
    simp only [Option.some.injEq] at hT
    subst hT
    split at h
    ·rename_i l c hl hc
     obtain ⟨b,rfl,h2⟩:=makeSlice_mem h (len (by simp))
     exact ⟨mem ++ [b],h2,grow b (by simp) (by simp) (by simp)⟩
    ·simp [Tree.sel] at h
  | slice ty x lo hi mx =>
    simp only [touchOf] at hT
    simp only [evOp] at h ⊢
    have hcut:∀ es n σ l hh,(cutSl es n σ l hh M).sel = some (r,M') → (∀ l,¬ (l,true) ∈ t) → ∃ mem',(cutSl es n σ l hh mem).sel = some (r,mem') ∧ ∀ l,(Touch.wr (some t) l → obs mem' l = obs M' l) ∧ (¬ Touch.wr (some t) l → obs mem' l = obs mem l ∧ obs M' l = obs M l):=by
     intro es n σ l hh hc ht
     have fin:∀ (c:Bool) (v:AV),(Tree.need c (.leaf (v,M))).sel = some (r,M') → ∃ mem',(Tree.need c (.leaf (v,mem))).sel = some (r,mem') ∧ ∀ l,(Touch.wr (some t) l → obs mem' l = obs M' l) ∧ (¬ Touch.wr (some t) l → obs mem' l = obs mem l ∧ obs M' l = obs M l):=by
      intro c v hs
      simp only [Tree.sel] at hs ⊢
      cases c <;> simp at hs
      obtain ⟨rfl,rfl⟩:=hs
      exact ⟨mem,rfl,still ht rfl⟩
     unfold cutSl at hc ⊢
     split at hc
     ·simp only [Tree.sel,Option.some.injEq,Prod.mk.injEq] at hc
      obtain ⟨rfl,rfl⟩:=hc
      exact ⟨mem,rfl,still ht rfl⟩
     ·exact fin _ _ hc
     ·exact fin _ _ hc
     ·exact fin _ _ hc
    split at hT
    ·rename_i es n σ hx
     simp only [Option.some.injEq] at hT
     subst hT
     rw [hx] at h ⊢
     split at h
     ·rename_i b l hh m hb h1 h2 h3
      simp only [Option.some.injEq,AV.one.injEq] at hb
      subst hb
      simp only [boundOf,Option.some.injEq] at h3
      subst h3
      have e0:∀ mm:Mem,(if tails H = true then evTail P mm ty (A1.c (.sl es n σ)) l hh none else none) = none:=fun mm => by split <;> rfl
      have e1:∀ mm:Mem,(if heads H = true then evHead P mm ty (A1.c (.sl es n σ)) l hh none else none) = none:=fun mm => by split <;> rfl
      rw [e0,e1] at h ⊢
      simp only [isOsA,Bool.and_false,Bool.false_and,Bool.false_eq_true,if_false] at h ⊢
      unfold evSlice at h ⊢
      split at h
      ·split at h
       ·simp only at h ⊢
        split at h
        ·rename_i hc
         rw [if_pos hc]
         exact hcut _ _ _ _ _ h (by simp)
        ·simp [Tree.sel] at h
       ·simp [Tree.sel] at h
      ·simp [Tree.sel] at h
      ·simp [Tree.sel] at h
     ·simp [Tree.sel] at h
    ·rename_i hx
     simp only [Option.some.injEq] at hT
     subst hT
     rw [hx] at h ⊢
     split at h
     ·rename_i b l hh m hb h1 h2 h3
      simp only [Option.some.injEq,AV.one.injEq] at hb
      subst hb
      simp only [boundOf,Option.some.injEq] at h3
      subst h3
      have e0:∀ mm:Mem,(if tails H = true then evTail P mm ty (A1.c .nils) l hh none else none) = none:=fun mm => by split <;> rfl
      have e1:∀ mm:Mem,(if heads H = true then evHead P mm ty (A1.c .nils) l hh none else none) = none:=fun mm => by split <;> rfl
      rw [e0,e1] at h ⊢
      simp only [isOsA,Bool.and_false,Bool.false_and,Bool.false_eq_true,if_false] at h ⊢
      unfold evSlice at h ⊢
      split at h
      ·split at h
       ·simp only at h ⊢
        split at h
        ·rename_i hc
         rw [if_pos hc]
         simp only [Tree.sel,Option.some.injEq,Prod.mk.injEq] at h
         obtain ⟨rfl,rfl⟩:=h
         exact ⟨mem,rfl,still (by simp) rfl⟩
        ·simp [Tree.sel] at h
       ·simp [Tree.sel] at h
      ·simp [Tree.sel] at h
      ·simp [Tree.sel] at h
     ·simp [Tree.sel] at h
    ·rename_i s hx
     simp only [Option.some.injEq] at hT
     subst hT
     rw [hx] at h ⊢
     split at h
     ·rename_i b l hh m hb h1 h2 h3
      simp only [Option.some.injEq,AV.one.injEq] at hb
      subst hb
      simp only [boundOf,Option.some.injEq] at h3
      subst h3
      have e0:∀ mm:Mem,(if tails H = true then evTail P mm ty (A1.c (.str s)) l hh none else none) = none:=fun mm => by split <;> rfl
      have e1:∀ mm:Mem,(if heads H = true then evHead P mm ty (A1.c (.str s)) l hh none else none) = none:=fun mm => by split <;> rfl
      rw [e0,e1] at h ⊢
      simp only [isOsA,Bool.and_false,Bool.false_and,Bool.false_eq_true,if_false] at h ⊢
      unfold evSlice at h ⊢
      split at h
      ·split at h <;> simp [Tree.sel] at h
      ·simp only at h ⊢
       unfold cutStr at h ⊢
       simp only [Tree.sel] at h ⊢
       cases hc:(le 0 (l.getD 0) && le (l.getD 0) (hh.getD (toInt64 s.size)) && le (hh.getD (toInt64 s.size)) (toInt64 s.size)) <;> simp [hc] at h
       obtain ⟨rfl,rfl⟩:=h
       exact ⟨mem,rfl,still (by simp) rfl⟩
      ·simp [Tree.sel] at h
     ·simp [Tree.sel] at h
    ·rename_i b sz hx
     split at hT
     ·rename_i hh0
      simp only [Option.some.injEq] at hT
      subst hT
      rw [hx] at h ⊢
      split at h
      ·rename_i a l hh m ha h1 h2 h3
       simp only [Option.some.injEq,AV.one.injEq] at ha
       subst ha
       simp only [boundOf,Option.some.injEq] at h3
       subst h3
       have hrow:rowAt mem b = rowAt M b:=rowAt_congr (rd b (by simp))
       obtain ⟨o1,ho1⟩:=evTail_shape (P:=P) ty b sz l hh none (rowAt M b)
       obtain ⟨o2,ho2⟩:=evHead_shape (P:=P) ty b sz l hh none (rowAt M b)
       simp only [ho1 M rfl,ho2 M rfl,ho1 mem hrow,ho2 mem hrow,hh0,if_true,isOsA,Option.isNone_none,Bool.and_self] at h ⊢
       have leaf:∀ p:Bool × AV,(Tree.need p.1 (.leaf (p.2,M))).sel = some (r,M') → ∃ mem',(Tree.need p.1 (.leaf (p.2,mem))).sel = some (r,mem') ∧ ∀ l,(Touch.wr (some [(b + 1,false)]) l → obs mem' l = obs M' l) ∧ (¬ Touch.wr (some [(b + 1,false)]) l → obs mem' l = obs mem l ∧ obs M' l = obs M l):=by
        intro p hp
        obtain ⟨c,v⟩:=p
        cases c <;> simp [Tree.sel] at hp
        obtain ⟨rfl,rfl⟩:=hp
        exact ⟨mem,rfl,still (by simp) rfl⟩
       have two : (match o2.map fun (p : Bool × AV) => Tree.need p.1 (.leaf (p.2, M)) with | some r => r | none => Tree.fail).sel = some (r, M') →
         ∃ mem',(match o2.map fun (p:Bool × AV) => Tree.need p.1 (.leaf (p.2,mem)) with | some r => r | none => Tree.fail).sel = some (r,mem') ∧ ∀ l,(Touch.wr (some [(b + 1,false)]) l → obs mem' l = obs M' l) ∧ (¬ Touch.wr (some [(b + 1,false)]) l → obs mem' l = obs mem l ∧ obs M' l = obs M l):=by
        intro hp
        cases o2 with
        | none => simp [Tree.sel] at hp
        | some p => exact leaf p hp
       cases ht:tails H
       ·simp only [ht,Bool.false_eq_true,if_false] at h ⊢
        exact two h
       ·simp only [ht,if_true] at h ⊢
        cases o1 with
        | none => exact two h
        | some p => exact leaf p h
      ·simp [Tree.sel] at h
     ·simp at hT
    ·simp at hT
  | indexAddr ty x i =>
    simp only [touchOf] at hT
    simp only [evOp] at h ⊢
    split at h
    ·rename_i b sz kk k hx hi
     rw [hx] at hT
     simp only [Option.some.injEq] at hT
     subst hT
     rw [rowAt_congr (rd b (by simp))]
     split at h
     ·split at h
      ·split at h
       ·rename_i hc
        rw [if_pos hc]
        simp only [Tree.sel] at h ⊢
        cases hr:inRange k _ <;> simp [hr] at h
        obtain ⟨rfl,rfl⟩:=h
        exact ⟨mem,rfl,still (by simp) rfl⟩
       ·simp [Tree.sel] at h
      ·simp [Tree.sel] at h
     ·simp [Tree.sel] at h
    ·split at hT
     ·rename_i b sz hx
      obtain ⟨v,hv,_⟩:=sel_bind h
      simp only [evPure,arrAt,ite_self,evPure0,hx] at hv
      split at hv <;> simp_all [Tree.sel]
     ·split at hT
      ·simp only [Option.some.injEq] at hT
       exact pure_case _ h (by subst hT; simp)
      ·simp at hT
  | call c =>
    simp only [touchOf] at hT
    simp only [evOp] at h ⊢
    split at h
    ·rename_i x hcal
     simp only [hcal] at hT
     split at hT
     ·rename_i hq
      simp only [Option.some.injEq] at hT
      subst hT
      rw [Bool.or_eq_true] at hq
      split at h
      ·rename_i f args ht
       split at h
       ·rename_i hcl
        have hclosed:args.all closedA = true:=by
         rcases hq with hq | hq
         ·simp only [quietOp,hcal,ht,Bool.and_eq_true] at hq
          exact hq.2
         ·simp only [laysOp,hcal,ht,Bool.and_eq_true] at hq
          exact hq.2
        have hv:∀ m:Mem,args.map (view1 m) = args:=fun m => (List.map_congr_left fun x hx => view1_closed (List.all_eq_true.1 hclosed x hx)).trans (List.map_id _)
        have hfz:∀ m:Mem,frz1s m args = (m,args):=fun m => frz1s_closed hclosed
        split at h
        ·rename_i G hG
         simp only [hv,hclosed,if_true,Bool.true_or] at h ⊢
         obtain ⟨rr,hr,h⟩:=sel_bind h
         simp only [Tree.sel,Option.some.injEq,Prod.mk.injEq] at h
         obtain ⟨rfl,rfl⟩:=h
         exact ⟨mem,by rw [if_pos hcl,bind_sel hr]; rfl,still (by simp) rfl⟩
        ·rename_i hG
         split at h
         ·rename_i G' hG'
          simp only [hfz,hclosed,if_true] at h ⊢
          obtain ⟨rr,hr,h⟩:=sel_bind h
          simp only [Tree.sel,Option.some.injEq,Prod.mk.injEq] at h
          obtain ⟨rfl,rfl⟩:=h
          exact ⟨mem,by rw [if_pos hcl,bind_sel hr]; rfl,still (by simp) rfl⟩
         ·rename_i hG'
          rcases hq with hq | hq
          ·simp [quietOp,hcal,ht,hG] at hq
          ·simp [laysOp,hcal,ht,hG'] at hq
       ·simp [Tree.sel] at h
      ·simp [Tree.sel] at h
     ·simp only [readsOp,hcal] at hT
      split at hT
      ·rename_i f args ht
       split at hT
       ·rename_i hs
        simp only [Option.some.injEq] at hT
        subst hT
        have hw:args.map (view1 mem) = args.map (view1 M):=List.map_congr_left fun x hx => view1_congr (fun b sz hb => rd b (osAll_mem hx hb)) (rdAll_noOc (by rw [Bool.and_eq_true] at hs; exact hs.2) hx)
        simp only [ht] at h ⊢
        split at h
        ·rename_i hcl
         split at h
         ·rename_i G hG
          split at h
          ·rename_i hca
           obtain ⟨rr,hr,h⟩:=sel_bind h
           split at h
           ·rename_i hf
            simp only [Tree.sel,Option.some.injEq,Prod.mk.injEq] at h
            obtain ⟨rfl,rfl⟩:=h
            refine ⟨mem,?_,still (fun l hl => by have:=osAll_rd hl; simp at this) rfl⟩
            simp only [hw,if_pos hcl,if_pos hca,bind_sel hr,if_pos hf]
            rfl
           ·simp [Tree.sel] at h
          ·rw [Bool.and_eq_true] at hs
           have:rdA H args = true:=by unfold rdA; rw [hs.2]; rfl
           rw [if_pos this] at h
           simp [Tree.sel] at h
         ·rename_i hG
          simp [hG] at hs
        ·simp [Tree.sel] at h
       ·split at hT
        ·rename_i hs
         simp only [Option.some.injEq] at hT
         subst hT
         have hall:∀ n k,k ≤ n → (k,false) ∈ allRd n:=by
          intro n
          induction n with
          | zero => intro k hk; obtain rfl : k = 0 := by omega
                    simp [allRd]
          | succ n ih =>
            intro k hk
            rcases Nat.lt_or_ge k (n + 1) with h | h
            ·exact List.mem_cons_of_mem _ (ih k (by omega))
            ·obtain rfl:k = n + 1:=by omega
             simp [allRd]
         have hrd:∀ n (p:Nat × Bool),p ∈ allRd n → p.2 = false:=by
          intro n
          induction n with
          | zero => intro p hp; simp [allRd] at hp; subst hp; rfl
          | succ n ih =>
            intro p hp
            simp only [allRd,List.mem_cons] at hp
            rcases hp with rfl | hp
            ·rfl
            ·exact ih p hp
         obtain rfl:mem = M:=by
          have h0:=hat 0 ⟨false,hall _ 0 (Nat.zero_le _)⟩
          simp only [obs,Sum.inl.injEq] at h0
          refine obs_ext fun l => ?_
          cases l with
          | zero => simp only [obs,h0]
          | succ k =>
            rcases Nat.lt_or_ge k M.length with hk | hk
            ·exact hat (k + 1) ⟨false,hall _ _ (by omega)⟩
            ·simp only [obs,nth_eq]
             rw [List.getElem?_eq_none (by omega),List.getElem?_eq_none (by omega)]
         simp only [ht] at h ⊢
         split at h
         ·rename_i hcl
          split at h
          ·rename_i G hG
           split at h
           ·rename_i hca
            obtain ⟨rr,hr,h⟩:=sel_bind h
            split at h
            ·rename_i hf
             simp only [Tree.sel,Option.some.injEq,Prod.mk.injEq] at h
             obtain ⟨rfl,rfl⟩:=h
             refine ⟨mem,?_,still (fun l hl => by have:=hrd _ _ hl; simp at this) rfl⟩
             simp only [if_pos hcl,if_pos hca,bind_sel hr,if_pos hf]
             rfl
            ·simp [Tree.sel] at h
           ·rw [Bool.and_eq_true] at hs
            rw [if_pos hs.2] at h
            simp [Tree.sel] at h
          ·rename_i hG
           simp [hG] at hs
         ·simp [Tree.sel] at h
        ·simp at hT
      ·simp at hT
    ·rename_i hcal
     simp only [hcal] at hT
     split at h
     ·rename_i b x ty ty' hargs htys
      rw [hargs] at hT
      split at h
      ·rename_i htt
       rw [if_pos htt]
       have hno:isOsh b = false:=by
        cases b with
        | c y => cases y <;> first | rfl | (exfalso; simp at hT)
        | agg _ => rfl
       rw [evAppO_eq hno] at h
       simp only [evAppO_eq hno]
       unfold evAppend at h ⊢
       split at h
       ·split at h
        ·split at h
         ·simp [Tree.sel] at h
         ·rename_i hc
          rw [if_neg hc]
          split at hT
          ·
           rename_i es n σ heq
           simp only [Option.some.injEq,List.cons.injEq,and_true] at heq
           obtain ⟨rfl,rfl⟩:=heq
           simp only [Option.some.injEq] at hT
           subst hT
           simp only [srcOf] at h ⊢
           split at h
           ·rename_i hes
            rw [if_pos hes]
            simp only [Tree.sel] at h ⊢
            cases hl:Nat.ble _ 140737488355328 <;> simp [hl] at h
            obtain ⟨rfl,rfl⟩:=h
            exact ⟨_,by simp only [len (by simp),cond_true],grow _ (by simp) (by simp) (by simp)⟩
           ·simp [Tree.sel] at h
          ·rename_i b' sz' heq
           simp only [Option.some.injEq,List.cons.injEq,and_true] at heq
           obtain ⟨rfl,rfl⟩:=heq
           simp only [Option.some.injEq] at hT
           subst hT
           simp only [srcOf_congr (mem:=mem) (M:=M) (x:=.c (.os b' sz')) (fun b sz e => by cases e; exact rd b' (by simp))] at h ⊢
           split at h
           ·split at h
            ·rename_i hes
             rw [if_pos hes]
             simp only [Tree.sel] at h ⊢
             cases hl:Nat.ble _ 140737488355328 <;> simp [hl] at h
             obtain ⟨rfl,rfl⟩:=h
             exact ⟨_,by simp only [len (by simp),cond_true],grow _ (by simp) (by simp) (by simp)⟩
            ·simp [Tree.sel] at h
           ·simp [Tree.sel] at h
          ·rename_i b' sz' es n σ heq
           simp only [Option.some.injEq,List.cons.injEq,and_true] at heq
           obtain ⟨rfl,rfl⟩:=heq
           simp only [Option.some.injEq] at hT
           subst hT
           simp only [srcOf,rowAt_congr (rdw b' (by simp))] at h ⊢
           split at h
           ·rename_i hrow hs
            split at h
            ·rename_i hes
             rw [if_pos hes]
             simp only [Tree.sel] at h ⊢
             cases hl:Nat.ble _ 140737488355328 <;> simp [hl] at h
             obtain ⟨rfl,rfl⟩:=h
             exact ⟨_,by simp only [len (by simp),cond_true],grow2 b' _ (nth_lt (rowAt_some hrow)) (by simp) (by simp) (by simp) (by simp)⟩
            ·simp [Tree.sel] at h
           ·simp [Tree.sel] at h
          ·rename_i b' sz' b2 sz2 heq
           simp only [Option.some.injEq,List.cons.injEq,and_true] at heq
           obtain ⟨rfl,rfl⟩:=heq
           simp only [Option.some.injEq] at hT
           subst hT
           simp only [srcOf_congr (mem:=mem) (M:=M) (x:=.c (.os b2 sz2)) (fun b sz e => by cases e; exact rd b2 (by simp)),rowAt_congr (rdw b' (by simp))] at h ⊢
           split at h
           ·rename_i hrow hs
            split at h
            ·rename_i hes
             rw [if_pos hes]
             simp only [Tree.sel] at h ⊢
             cases hl:Nat.ble _ 140737488355328 <;> simp [hl] at h
             obtain ⟨rfl,rfl⟩:=h
             exact ⟨_,by simp only [len (by simp),cond_true],grow2 b' _ (nth_lt (rowAt_some hrow)) (by simp) (by simp) (by simp) (by simp)⟩
            ·simp [Tree.sel] at h
           ·simp [Tree.sel] at h
          ·rename_i heq
           simp only [Option.some.injEq,List.cons.injEq,and_true] at heq
           obtain ⟨rfl,rfl⟩:=heq
           simp only [Option.some.injEq] at hT
           subst hT
           simp only [Tree.sel,Option.some.injEq,Prod.mk.injEq] at h ⊢
           obtain ⟨rfl,rfl⟩:=h
           exact ⟨mem,⟨rfl,rfl⟩,still (by simp) rfl⟩
          ·rename_i b' sz' heq
           simp only [Option.some.injEq,List.cons.injEq,and_true] at heq
           obtain ⟨rfl,rfl⟩:=heq
           simp only [Option.some.injEq] at hT
           subst hT
           simp only [rowAt_congr (rd b' (by simp))] at h ⊢
           split at h
           ·simp only [Tree.sel,Option.some.injEq,Prod.mk.injEq] at h
            obtain ⟨rfl,rfl⟩:=h
            exact ⟨mem,rfl,still (by simp) rfl⟩
           ·simp [Tree.sel] at h
          ·simp at hT
        ·simp [Tree.sel] at h
       ·simp [Tree.sel] at h
      ·simp [Tree.sel] at h
     ·simp [Tree.sel] at h
    ·rename_i hcal
     simp [quietOp,laysOp,readsOp,hcal] at hT
    ·rename_i hcal
     simp only [hcal] at hT
     split at h
     ·rename_i a x ty tys hargs htys
      rw [hargs] at hT
      have main : ∀ (b sz lo : Nat), dstOf a = some (b, sz, lo) → (b + 1, true) ∈ t → (∀ l, (l, true) ∈ t → l = b + 1) → cpOf mem x = cpOf M x →
        ∃ mem',(evCopy P mem ty a x).sel = some (r,mem') ∧ ∀ l,(Touch.wr (some t) l → obs mem' l = obs M' l) ∧ (¬ Touch.wr (some t) l → obs mem' l = obs mem l ∧ obs M' l = obs M l):=by
       intro b sz lo hd hb hw hcp
       unfold evCopy at h ⊢
       rw [hd] at h ⊢
       rw [hcp]
       have hrow:rowAt mem b = rowAt M b:=rowAt_congr (rdw b hb)
       split at h
       ·rename_i b' sz' lo' es' m σ h1 h2
        simp only [Option.some.injEq,Prod.mk.injEq] at h1
        obtain ⟨rfl,rfl,rfl⟩:=h1
        rw [hrow]
        split at h
        ·rename_i hM
         split at h
         ·split at h
          ·rename_i hc
           rw [if_pos hc]
           simp only [Tree.sel,Option.some.injEq,Prod.mk.injEq] at h
           obtain ⟨rfl,rfl⟩:=h
           refine ⟨_,rfl,fun l => ⟨fun hwl => ?_,fun hn => ?_⟩⟩
           ·have hl:=hw l hwl
            subst hl
            simp only [obs,Sum.inr.injEq]
            have h1:b < M.length:=nth_lt (rowAt_some hM)
            have h2:b < mem.length:=nth_lt ((rdw b hb).trans (rowAt_some hM))
            rw [nth_set_self h1,nth_set_self h2]
           ·cases l with
            | zero => simp [obs,setN_eq]
            | succ k =>
              have hk:k ≠ b:=fun e => hn (by subst e; exact hb)
              simp only [obs,nth_set_ne' hk,and_self]
          ·simp [Tree.sel] at h
         ·simp [Tree.sel] at h
        ·simp [Tree.sel] at h
       ·simp [Tree.sel] at h
      split at hT
      ·rename_i b sz es n σ heq
       simp only [Option.some.injEq,List.cons.injEq,and_true] at heq
       obtain ⟨rfl,rfl⟩:=heq
       simp only [Option.some.injEq] at hT
       subst hT
       exact main b sz 0 rfl (by simp) (by simp) rfl
      ·rename_i b sz lo b' sz' m heq
       simp only [Option.some.injEq,List.cons.injEq,and_true] at heq
       obtain ⟨rfl,rfl⟩:=heq
       simp only [Option.some.injEq] at hT
       subst hT
       exact main b sz lo rfl (by simp) (by simp) (cpOf_congr fun b2 sz2 m2 e => by cases e; exact rd b' (by simp))
      ·rename_i b sz lo es n σ heq
       simp only [Option.some.injEq,List.cons.injEq,and_true] at heq
       obtain ⟨rfl,rfl⟩:=heq
       simp only [Option.some.injEq] at hT
       subst hT
       exact main b sz lo rfl (by simp) (by simp) rfl
      ·cases hT
     ·simp [Tree.sel] at h
    ·rename_i hcal
     simp only [hcal] at hT
     split at h
     ·rename_i b sz ty hargs htys
      rw [hargs] at hT
      simp only [Option.some.injEq] at hT
      subst hT
      rw [rowAt_congr (rd b (by simp))]
      split at h
      ·simp only [Tree.sel,Option.some.injEq,Prod.mk.injEq] at h
       obtain ⟨rfl,rfl⟩:=h
       exact ⟨mem,rfl,still (by simp) rfl⟩
      ·simp [Tree.sel] at h
     ·refine pure_case _ h ?_
      split at hT <;> simp at hT <;> subst hT <;> simp
    ·rename_i h1 h2 h2' h2c h3
     have:t = []:=by
      split at hT
      ·rename_i hcal; exact (h2 hcal).elim
      ·rename_i hcal; exact (h3 hcal).elim
      ·rename_i hcal; exact (h2c hcal).elim
      ·split at hT
       ·simpa using hT.symm
       ·simp [readsOp] at hT
     exact pure_case _ h (by subst this; simp)
  | _ =>
    simp only [touchOf,quietOp,if_true,Option.some.injEq] at hT
    simp only [evOp] at h ⊢
    exact pure_case _ h (by subst hT; simp)
structure StepOk (P:Program) (H:Hd) (call:CallH) (all:List Oper) (s s1:St) (o:Oper) (T:Touch) (K:List (Nat × Bool)) (r:AV):Prop where
 touch:T = touchOf H (lim o s K) s.mem.length o.op
 put:s1.tmps = (s.put0 o.dst K r).tmps
 step:(o.guard = none ∧ K = [] ∧ (evOp P H call s.mem (fun K' => lim o s K') o.op).sel = some (r,s1.mem)) ∨
  (∃ j b m',o.guard = some (j,b) ∧ keysOf all s j b = some K ∧ stillOp H (lim o s K) o.op = true ∧ (∀ p ∈ K,some p.1 ≠ o.dst) ∧ s1.mem = s.mem ∧ ((evOp P H call s.mem (fun K' => lim o s (K' ++ K)) o.op).toNeed dGu (gterm s K)).sel = some (r,m'))
theorem put0_mem (s:St) (d:Option Tmp) (K:List (Nat × Bool)) (v:AV):(s.put0 d K v).mem = s.mem:=by
 cases d <;> rfl
theorem evDraw_runs {H : Hd} {call : CallH} {all : List Oper} : ∀ (l : List Oper) (s : St) {s' : St} {is : List Info}, (evDraw P H call all l s).sel = some (s', is) →
  ∃ (st:Nat → St) (rs:Nat → AV),st 0 = s ∧ st l.length = s' ∧ is.length = l.length ∧ ∀ i o,l[i]? = some o → ∃ T K,is[i]? = some (T,K) ∧ StepOk P H call all (st i) (st (i + 1)) o T K (rs i)
 | [], s, s', is, h => by
   simp only [evDraw,Tree.sel,Option.some.injEq,Prod.mk.injEq] at h
   obtain ⟨rfl,rfl⟩:=h
   exact ⟨fun _ => s,fun _ => .any,rfl,rfl,rfl,fun i o h => by simp at h⟩
 | o :: r, s, s', is, h => by
   have key : ∀ (s1 : St) (T : Touch) (K : List (Nat × Bool)) (v : AV) (is' : List Info), (evDraw P H call all r s1).sel = some (s', is') → is = (T, K) :: is' → StepOk P H call all s s1 o T K v →
     ∃ (st:Nat → St) (rs:Nat → AV),st 0 = s ∧ st (o :: r).length = s' ∧ is.length = (o :: r).length ∧ ∀ i o',(o :: r)[i]? = some o' → ∃ T K,is[i]? = some (T,K) ∧ StepOk P H call all (st i) (st (i + 1)) o' T K (rs i):=by
    intro s1 T K v is' h1 hi hs
    obtain ⟨st,rs,h0,hn,hl,hstep⟩:=evDraw_runs r s1 h1
    subst hi
    refine ⟨fun i => match i with | 0 => s | i + 1 => st i,fun i => match i with | 0 => v | i + 1 => rs i,rfl,hn,by simp [hl],fun i o' hi => ?_⟩
    cases i with
    | zero =>
      simp at hi; subst hi
      exact ⟨T,K,rfl,by simpa [h0] using hs⟩
    | succ i =>
      simp at hi
      obtain ⟨T',K',h1,h2⟩:=hstep i o' hi
      exact ⟨T',K',by simpa using h1,h2⟩
   simp only [evDraw] at h
   split at h
   ·rename_i hg
    obtain ⟨⟨rv,mem'⟩,h1,h2⟩:=sel_bind h
    obtain ⟨⟨s2,is'⟩,h3,h4⟩:=sel_bind h2
    simp only [Tree.sel,Option.some.injEq,Prod.mk.injEq] at h4
    obtain ⟨rfl,rfl⟩:=h4
    refine key _ _ _ rv _ h3 rfl ⟨rfl,?_,.inl ⟨hg,rfl,?_⟩⟩
    ·cases o.dst <;> rfl
    ·rw [put0_mem]; exact h1
   ·rename_i j b hg
    split at h
    ·rename_i K hK
     split at h
     ·simp [Tree.sel] at h
     ·rename_i hcond
      simp only [Bool.or_eq_true,Bool.not_eq_true',not_or,Bool.not_eq_false,Bool.not_eq_true] at hcond
      obtain ⟨hq,hdst⟩:=hcond
      obtain ⟨⟨rv,mem'⟩,h1,h2⟩:=sel_bind h
      obtain ⟨⟨s2,is'⟩,h3,h4⟩:=sel_bind h2
      simp only [Tree.sel,Option.some.injEq,Prod.mk.injEq] at h4
      obtain ⟨rfl,rfl⟩:=h4
      have hkd:∀ p ∈ K,some p.1 ≠ o.dst:=by
       intro p hp e
       rw [List.any_eq_false] at hdst
       exact hdst p hp (by simp [e])
      exact key _ _ _ rv _ h3 rfl ⟨rfl,rfl,.inr ⟨j,b,mem',hg,hK,hq,hkd,put0_mem _ _ _ _,h1⟩⟩
    ·simp [Tree.sel] at h
theorem edges_spec:∀ {k:Nat} {l:List Oper},edgesOk k l = true → ∀ i o,l[i]? = some o → ∀ e ∈ o.after,Region.binds .any e = true → e.on < k + i
 | k, o :: r, h, 0, o', hi, e, he, hb => by
   simp at hi; subst hi
   simp only [edgesOk,Bool.and_eq_true,List.all_eq_true] at h
   have:=h.1 e (by simpa using he)
   rw [hb] at this
   simpa using this
 | k, o :: r, h, i + 1, o', hi, e, he, hb => by
   simp only [edgesOk,Bool.and_eq_true] at h
   have:=edges_spec h.2 i o' (by simpa using hi) e he hb
   omega
 | k,[],_,i,o',hi,_,_,_ => by simp at hi
theorem dsts_spec:∀ {l:List Oper},dstsOk l = true → ∀ (i j:Nat) (o o':Oper) (d:Tmp),l[i]? = some o → l[j]? = some o' → o.dst = some d → o'.dst = some d → i = j
 | [],_,i,_,_,_,_,hi,_,_,_ => by simp at hi
 | x :: r,h,0,0,_,_,_,_,_,_,_ => rfl
 | x :: r, h, 0, j + 1, o, o', d, hi, hj, hd, hd' => by
   simp at hi hj; subst hi
   simp only [dstsOk,hd,Bool.and_eq_true,List.all_eq_true] at h
   have:=h.1 o' (List.mem_of_getElem? hj)
   simp [hd'] at this
 | x :: r, h, i + 1, 0, o, o', d, hi, hj, hd, hd' => by
   simp at hi hj; subst hj
   simp only [dstsOk,hd',Bool.and_eq_true,List.all_eq_true] at h
   have:=h.1 o (List.mem_of_getElem? hi)
   simp [hd] at this
 | x :: r, h, i + 1, j + 1, o, o', d, hi, hj, hd, hd' => by
   simp only [dstsOk,Bool.and_eq_true] at h
   rw [dsts_spec h.2 i j o o' d (by simpa using hi) (by simpa using hj) hd hd']
theorem writer_some {t:Nat}:∀ {k:Nat} {l:List Oper} {i:Nat},writerOf t k l = some i → ∃ j o,i = k + j ∧ l[j]? = some o ∧ o.dst = some t
 | k,[],i,h => by simp [writerOf] at h
 | k, o :: r, i, h => by
   simp only [writerOf] at h
   split at h
   ·rename_i hd
    simp at h; subst h
    exact ⟨0,o,rfl,rfl,by simpa using hd⟩
   ·obtain ⟨j,o',h1,h2,h3⟩:=writer_some h
    exact ⟨j + 1,o',by omega,by simpa using h2,h3⟩
theorem writer_none {t:Nat}:∀ {k:Nat} {l:List Oper},writerOf t k l = none → ∀ (i:Nat) (o:Oper),l[i]? = some o → o.dst ≠ some t
 | k,[],_,i,o,hi => by simp at hi
 | k, x :: r, h, i, o, hi => by
   simp only [writerOf] at h
   split at h
   ·simp at h
   ·rename_i hd
    cases i with
    | zero => simp at hi; subst hi; simpa using hd
    | succ i => exact writer_none h i o (by simpa using hi)
theorem ops_spec {all : List Oper} {masks : List Nat} : ∀ {k : Nat} {l : List Oper} {is : List Info}, opsOk all masks k l is = true → ∀ j o T K, l[j]? = some o → is[j]? = some (T, K) →
  (∀ t ∈ tmpsIn o.op.operands.toList,tmpOk all masks (k + j) t = true) ∧ (∀ g b,o.guard = some (g,b) → isAnc masks g (k + j) = true) ∧ (∀ p ∈ K,keyOk all masks (k + j) p.1 = true)
 | k,[],_,_,j,o,_,_,hj,_ => by simp at hj
 | k,_ :: _,[],_,j,_,_,_,_,hi => by simp at hi
 | k, x :: r, (T0, K0) :: q, h, 0, o, T, K, hj, hi => by
   simp at hj hi
   obtain ⟨rfl,rfl⟩:=hi
   subst hj
   simp only [opsOk,Bool.and_eq_true,List.all_eq_true] at h
   obtain ⟨⟨⟨h1,h2⟩,h3⟩,_⟩:=h
   refine ⟨fun t ht => by simpa using h1 t ht,fun g b hg => ?_,fun p hp => by simpa using h3 p hp⟩
   rw [hg] at h2
   simpa using h2
 | k, x :: r, (T0, K0) :: q, h, j + 1, o, T, K, hj, hi => by
   simp only [opsOk,Bool.and_eq_true] at h
   have:=ops_spec h.2 j o T K (by simpa using hj) (by simpa using hi)
   rwa [show k + 1 + j = k + (j + 1) by omega] at this
theorem clash_spec {masks:List Nat} {i j:Nat} {T U:Touch} (h:clash masks i j T U = true) {l:Nat} (hl:T.wr l ∧ U.at l ∨ T.at l ∧ U.wr l):isAnc masks i j = true:=by
 cases T with
 | none => cases U with
  | none => exact h
  | some u =>
    simp only [clash,Bool.or_eq_true] at h
    rcases h with h | h
    ·rcases hl with ⟨_,x,hx⟩ | ⟨_,hx⟩
     ·simp at h; subst h; simp at hx
     ·simp at h; subst h; simp [Touch.wr] at hx
    ·exact h
 | some t => cases U with
  | none =>
    simp only [clash,Bool.or_eq_true] at h
    rcases h with h | h
    ·rcases hl with ⟨hx,_⟩ | ⟨⟨x,hx⟩,_⟩
     ·simp at h; subst h; simp [Touch.wr] at hx
     ·simp at h; subst h; simp at hx
    ·exact h
  | some u =>
    simp only [clash,List.all_eq_true] at h
    rcases hl with ⟨h1,x,h2⟩ | ⟨⟨x,h1⟩,h2⟩
    ·have:=h _ h1 _ h2
     simpa using this
    ·have:=h _ h1 _ h2
     simpa using this
theorem row_spec {masks:List Nat} {i:Nat} {t:Touch}:∀ {k:Nat} {l:List Info},touchRow masks i t k l = true → ∀ j T K,l[j]? = some (T,K) → clash masks i (k + j) t T = true
 | k,[],_,j,_,_,hj => by simp at hj
 | k, x :: r, h, 0, T, K, hj => by
   simp at hj; subst hj
   simp only [touchRow,Bool.and_eq_true] at h
   exact h.1
 | k, x :: r, h, j + 1, T, K, hj => by
   simp only [touchRow,Bool.and_eq_true] at h
   have:=row_spec h.2 j T K (by simpa using hj)
   rwa [show k + 1 + j = k + (j + 1) by omega] at this
theorem touches_spec {masks:List Nat}:∀ {k:Nat} {l:List Info},touchesOk masks k l = true → ∀ i j T K T' K',i < j → l[i]? = some (T,K) → l[j]? = some (T',K') → clash masks (k + i) (k + j) T T' = true
 | k,[],_,i,_,_,_,_,_,_,hi,_ => by simp at hi
 | k, x :: r, h, 0, j + 1, T, K, T', K', _, hi, hj => by
   simp at hi; subst hi
   simp only [touchesOk,Bool.and_eq_true] at h
   have:=row_spec h.1 j T' K' (by simpa using hj)
   rwa [show k + 1 + j = k + (j + 1) by omega] at this
 | k,x :: r,h,0,0,_,_,_,_,hij,_,_ => by omega
 | k,x :: r,h,i + 1,0,_,_,_,_,hij,_,_ => by omega
 | k, x :: r, h, i + 1, j + 1, T, K, T', K', hij, hi, hj => by
   simp only [touchesOk,Bool.and_eq_true] at h
   have:=touches_spec h.2 i j T K T' K' (by omega) (by simpa using hi) (by simpa using hj)
   rwa [show k + 1 + i = k + (i + 1) by omega,show k + 1 + j = k + (j + 1) by omega] at this
theorem ancMask_spec {masks:List Nat} {i:Nat}:∀ {l:List Edge},(ancMask masks l).testBit i = true → ∃ e ∈ l,Region.binds .any e = true ∧ ∃ m,nth masks e.on = some m ∧ (i = e.on ∨ m.testBit i = true)
 | [],h => by simp [ancMask] at h
 | e :: r, h => by
   simp only [ancMask,Nat.testBit_or,Bool.or_eq_true] at h
   rcases h with h | h
   ·split at h
    ·rename_i m hm
     split at h
     ·rename_i hb
      rw [Nat.testBit_or,Bool.or_eq_true,Nat.testBit_two_pow] at h
      refine ⟨e,by simp,hb,m,hm,h.imp (fun h => ?_) id⟩
      have:=of_decide_eq_true h
      exact this.symm
     ·simp at h
    ·simp at h
   ·obtain ⟨e',he,h2⟩:=ancMask_spec h
    exact ⟨e',by simp [he],h2⟩
theorem anc_listed {all : List Oper} {L N : Nat → Prop} (hd : ∀ j o, all[j]? = some o → N j → ∀ e ∈ o.after, Region.binds .any e = true → L e.on) (hLN : ∀ j, L j → N j) :
  ∀ (l:List Oper) (acc:List Nat),(∀ k,l[k]? = all[acc.length + k]?) → (∀ j m,nth acc j = some m → ∀ i,m.testBit i = true → N j → L i) → ∀ j m,nth (ancMasks l acc) j = some m → ∀ i,m.testBit i = true → N j → L i
 | [],acc,_,hacc => hacc
 | o :: r, acc, hl, hacc => by
   simp only [ancMasks]
   refine anc_listed hd hLN r _ (fun k => ?_) (fun j m hj i hi hN => ?_)
   ·have:=hl (k + 1)
    simp only [List.getElem?_cons_succ] at this
    rw [this]
    simp [Nat.add_assoc,Nat.add_comm 1]
   ·rcases nth_append_split hj with h | ⟨h1,h2⟩
    ·exact hacc j m h i hi hN
    ·subst h2
     have ho:all[j]? = some o:=by
      have:=hl 0
      simpa [h1] using this.symm
     obtain ⟨e,he,hb,m,hm,h⟩:=ancMask_spec hi
     have hLe:=hd j o ho hN e (by simpa using he) hb
     rcases h with rfl | h
     ·exact hLe
     ·exact hacc _ m hm i h (hLN _ hLe)
structure Plan (P:Program) (H:Hd) (call:CallH) (all:List Oper) where
 st:Nat → St
 rs:Nat → AV
 T:Nat → Touch
 K:Nat → List (Nat × Bool)
 anc:Nat → Nat → Prop
 step:∀ i o,all[i]? = some o → StepOk P H call all (st i) (st (i + 1)) o (T i) (K i) (rs i)
 start:∀ sl ∈ (st 0).tmps,sl.keys = []
 edges:∀ i o,all[i]? = some o → ∀ e ∈ o.after,Region.binds .any e = true → e.on < i
 dsts:∀ (i j:Nat) (o o':Oper) (d:Tmp),all[i]? = some o → all[j]? = some o' → o.dst = some d → o'.dst = some d → i = j
 tmps:∀ (j:Nat) (o:Oper) (t:Tmp),all[j]? = some o → t ∈ tmpsIn o.op.operands.toList → (∃ (i:Nat) (oi:Oper),all[i]? = some oi ∧ oi.dst = some t ∧ (anc i j ∨ anc j i ∨ i = j)) ∨ (∀ (i:Nat) (oi:Oper),all[i]? = some oi → oi.dst ≠ some t)
 guards:∀ (j:Nat) (o:Oper) (g:Nat) (b:Bool),all[j]? = some o → o.guard = some (g,b) → anc g j
 keys:∀ (j:Nat) (o:Oper) p,all[j]? = some o → p ∈ K j → ∃ (i:Nat) (oi:Oper),all[i]? = some oi ∧ oi.dst = some p.1 ∧ anc i j
 touch:∀ i j l,i < j → j < all.length → (T i).wr l ∧ (T j).at l ∨ (T i).at l ∧ (T j).wr l → anc i j
 lt:∀ i j,anc i j → i < j
 down:∀ (L N:Nat → Prop),(∀ j o,all[j]? = some o → N j → ∀ e ∈ o.after,Region.binds .any e = true → L e.on) → (∀ j,L j → N j) → ∀ i j,anc i j → N j → L i
theorem plan_of {H : Hd} {call : CallH} {all : List Oper} {s s' : St} {is : List Info} (h : (evDraw P H call all all s).sel = some (s', is)) (hd : drawOk all is = true) (h0 : ∀ sl ∈ s.tmps, sl.keys = []) :
  ∃ p:Plan P H call all,p.st 0 = s ∧ p.st all.length = s':=by
 obtain ⟨st,rs,e0,en,hl,hstep⟩:=evDraw_runs all s h
 simp only [drawOk,Bool.and_eq_true] at hd
 obtain ⟨⟨⟨h1,h2⟩,h3⟩,h4⟩:=hd
 have hi:∀ i,i < all.length → is[i]? = some ((is[i]?.getD (none,[])).1,(is[i]?.getD (none,[])).2):=by
  intro i hi
  rw [List.getElem?_eq_getElem (by omega)]
  simp
 have hlt:∀ {i:Nat} {o:Oper},all[i]? = some o → i < all.length:=by
  intro i o h
  rcases Nat.lt_or_ge i all.length with h' | h'
  ·exact h'
  ·simp [List.getElem?_eq_none h'] at h
 refine ⟨{ st:=st,rs:=rs,T:=fun i => (is[i]?.getD (none,[])).1,K:=fun i => (is[i]?.getD (none,[])).2,anc:=fun i j => isAnc (ancMasks all []) i j = true,step:=?_,start:=?_,edges:=?_,dsts:=dsts_spec h2,tmps:=?_,guards:=?_,keys:=?_,touch:=?_,lt:=?_,down:=?_ },e0,en⟩
 ·intro i o ho
  obtain ⟨T,K,h1,h2⟩:=hstep i o ho
  simpa [h1] using h2
 ·rw [e0]; exact h0
 ·intro i o ho e he hb
  have:=edges_spec h1 i o ho e he hb
  omega
 ·intro j o t ho ht
  have:=(ops_spec h3 j o _ _ ho (hi j (hlt ho))).1 t ht
  rw [Nat.zero_add] at this
  unfold tmpOk at this
  split at this
  ·rename_i i hw
   obtain ⟨j',o',h1,h2,h3⟩:=writer_some hw
   left
   rw [Bool.or_eq_true,Bool.or_eq_true,beq_iff_eq] at this
   rw [show i = j' by omega] at this
   exact ⟨j',o',h2,h3,this.elim (fun h => h.elim .inl fun h => .inr (.inl h)) fun h => .inr (.inr h)⟩
  ·rename_i hw
   right
   exact writer_none hw
 ·intro j o g b ho hg
  have:=(ops_spec h3 j o _ _ ho (hi j (hlt ho))).2.1 g b hg
  rwa [Nat.zero_add] at this
 ·intro j o p ho hp
  have:=(ops_spec h3 j o _ _ ho (hi j (hlt ho))).2.2 p hp
  rw [Nat.zero_add] at this
  unfold keyOk at this
  split at this
  ·rename_i i hw
   obtain ⟨j',o',h1,h2,h3⟩:=writer_some hw
   exact ⟨j',o',h2,h3,by rw [show j' = i by omega]; exact this⟩
  ·simp at this
 ·intro i j l hij hj hl'
  have:=touches_spec h4 i j _ _ _ _ hij (hi i (by omega)) (hi j hj)
  rw [Nat.zero_add,Nat.zero_add] at this
  exact clash_spec this hl'
 ·intro i j h
  unfold isAnc at h
  rw [Bool.and_eq_true] at h
  simpa using h.1
 ·intro L N hd hLN i j h hN
  unfold isAnc at h
  rw [Bool.and_eq_true] at h
  obtain ⟨_,h⟩:=h
  split at h
  ·rename_i m hm
   exact anc_listed hd hLN all [] (by simp) (fun j m h => by simp [nth] at h) j m hm i h hN
  ·simp at h
end
end Go.Sx
