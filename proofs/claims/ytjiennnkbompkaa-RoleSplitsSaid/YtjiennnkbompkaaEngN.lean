/-
  The evaluator's soundness (part N): a drawn region, carried out in any order that its edges leave open.
-/
import Derived.Test.YtjiennnkbompkaaEngM
import Derived.Orders
namespace Go.Sx
open Go Go.RowKit

section
variable {P : Program}

theorem toNeed_sel {α : Type} {d : α} {g : Bool} {t : Tree α} {x : α} (h : (t.toNeed d g).sel = some x) (hg : g = true) : t.sel = some x := by
  subst hg
  induction t with
  | leaf a => exact h
  | br c t e _ _ => simp [Tree.toNeed, Tree.sel] at h
  | need c t ih =>
    simp only [Tree.toNeed, Tree.sel, Bool.not_true, Bool.false_or] at h ⊢
    cases c
    · simp at h
    · exact ih h
  | fail => simp [Tree.toNeed, Tree.sel] at h

theorem slot_bool {F w bs s} {a : Act} (hs : StRel F w bs s a) {d : Nat} {ks : List (Nat × Bool)} {v : AV} (hn : nth s.tmps d = some ⟨ks, v⟩) {b : Bool} (hb : a.tmps[d]? = some (.bool b)) : KH a ks ∧ v.Rel F w bs (.bool b) := by
  have := hs.slots d _ _ hn hb
  by_cases hk : KH a ks
  · exact ⟨hk, this.1 hk⟩
  · have h2 := this.2 hk
    simp [undef] at h2

theorem gterm_ok {F w bs s} {a : Act} (hs : StRel F w bs s a) : ∀ {K : List (Nat × Bool)}, KH a K → gterm s K = true
  | [], _ => rfl
  | (d, b) :: K, h => by
    have hd := h (d, b) (by simp)
    have ih := gterm_ok hs (K := K) (fun p hp => h p (by simp [hp]))
    simp only [gterm, ih, Bool.and_true]
    split
    · rename_i ks c hn
      have := (slot_bool hs hn hd).2
      cases this
      simp
    · rfl

theorem keys_ok {F w bs s} {a : Act} (hs : StRel F w bs s a) {ops : Array Oper} {j : Nat} {b : Bool} {K : List (Nat × Bool)} (h : keysOf ops.toList s j b = some K) : KH a K ↔ yielded ops a.tmps j = some b := by
  unfold keysOf at h
  split at h
  · rename_i o ho
    split at h
    · rename_i d hd
      split at h
      · rename_i ks t hn
        simp at h; subst h
        rw [nth_eq] at ho
        simp only [Array.getElem?_toList] at ho
        have hy : yielded ops a.tmps j = some b ↔ a.tmps[d]? = some (.bool b) := by
          unfold yielded
          simp only [ho, Option.bind_some, hd]
          cases hh : a.tmps[d]? with
          | none => simp
          | some v => cases v <;> simp
        rw [hy]
        constructor
        · intro hk; exact hk (d, b) (by simp)
        · intro hb p hp
          simp only [List.mem_cons] at hp
          rcases hp with rfl | hp
          · exact hb
          · exact (slot_bool hs hn hb).1 p hp
      · simp at h
    · simp at h
  · simp at h

theorem wanted_iff {o : Oper} {j : Nat} {b : Bool} (hg : o.guard = some (j, b)) (y : Nat → Option Bool) : Region.wanted o y = true ↔ y j = some b := by
  simp [Region.wanted, hg]

theorem StRel.below {F w bs s w'} {a : Act} (hs : StRel F w bs s a) (h : Below w.heap.size w w') : StRel F w' bs s a :=
  hs.ext (Ext.of_below h) (hs.mem.below h)

theorem nth_set_ne {α : Type} {l : List α} {i j : Nat} {x : α} (h : i ≠ j) : nth (setN l i x) j = nth l j := by
  rw [setN_eq, nth_eq, nth_eq, List.getElem?_set_ne h]

theorem Ext.le {K F w bs F' w' bs'} (h : Ext K F w bs F' w' bs') (hK : K ≤ bs.length := by exact Nat.le_refl _) : K ≤ bs'.length := by
  cases K with
  | zero => exact Nat.zero_le _
  | succ k =>
    have hk : k < bs.length := by omega
    exact nth_lt (h.pre k bs[k] (by omega) (by rw [nth_eq]; exact List.getElem?_eq_getElem hk))

theorem nth_set_congr {α : Type} {l m : List α} {i : Nat} {x : α} (h : l.length = m.length) : nth (setN l i x) i = nth (setN m i x) i := by
  rw [setN_eq, setN_eq, nth_eq, nth_eq, List.getElem?_set, List.getElem?_set]
  simp [h]

theorem put0_ne {s : St} {dst : Option Tmp} {K : List (Nat × Bool)} {v : AV} {d : Nat} (h : dst ≠ some d) : nth (s.put0 dst K v).tmps d = nth s.tmps d := by
  cases dst with
  | none => rfl
  | some e => exact nth_set_ne (fun he => h (by rw [he]))

variable {H : Hd} {call : CallH} {all : List Oper}

theorem lt_of_get {i : Nat} {o : Oper} (h : all[i]? = some o) : i < all.length := by
  rcases Nat.lt_or_ge i all.length with h' | h'
  · exact h'
  · simp [List.getElem?_eq_none h'] at h

/-- the state when the operations 'L' have been carried out -/
structure J (p : Plan P H call all) (L : Nat → Prop) (s : St) : Prop where
  len : s.tmps.length = (p.st 0).tmps.length
  slots : ∀ (i : Nat) (o : Oper) (d : Tmp), all[i]? = some o → o.dst = some d → (L i → nth s.tmps d = nth (setN (p.st 0).tmps d ⟨p.K i, p.rs i⟩) d) ∧ (¬ L i → nth s.tmps d = nth (p.st 0).tmps d)
  free : ∀ d : Nat, (∀ (i : Nat) (o : Oper), all[i]? = some o → o.dst ≠ some d) → nth s.tmps d = nth (p.st 0).tmps d
  mem : ∀ l, ∃ i, i ≤ all.length ∧ obs s.mem l = obs (p.st i).mem l ∧ ∀ k, k < all.length → (p.T k).wr l → (L k ↔ k < i)

theorem J.put {p : Plan P H call all} {L : Nat → Prop} {s s1 : St} (h : J p L s) {j : Nat} {o : Oper} (ho : all[j]? = some o) (ht : s1.tmps = (s.put0 o.dst (p.K j) (p.rs j)).tmps)
    (hm : ∀ l, ∃ i, i ≤ all.length ∧ obs s1.mem l = obs (p.st i).mem l ∧ ∀ k, k < all.length → (p.T k).wr l → ((L k ∨ k = j) ↔ k < i)) : J p (fun k => L k ∨ k = j) s1 := by
  refine ⟨?_, fun i oi d hi hd => ?_, fun d hd => ?_, hm⟩
  · rw [ht, ← h.len]
    cases o.dst <;> simp [St.put0, setN_eq]
  · by_cases hij : i = j
    · subst hij
      rw [ho] at hi
      simp at hi; subst hi
      refine ⟨fun _ => ?_, fun hn => (hn (.inr rfl)).elim⟩
      rw [ht, hd]
      exact nth_set_congr h.len
    · have hne : o.dst ≠ some d := fun e => hij (p.dsts i j oi o d hi ho hd e)
      rw [ht, put0_ne hne]
      exact ⟨fun hl => (h.slots i oi d hi hd).1 (hl.resolve_right hij), fun hn => (h.slots i oi d hi hd).2 fun hl => hn (.inl hl)⟩
  · rw [ht, put0_ne (hd j o ho)]
    exact h.free d hd

theorem J.congr {p : Plan P H call all} {L L' : Nat → Prop} {s : St} (h : J p L s) (hl : ∀ k, k < all.length → (L k ↔ L' k)) : J p L' s := by
  refine ⟨h.len, fun i o d hi hd => ?_, h.free, fun l => ?_⟩
  · have := hl i (lt_of_get hi)
    exact ⟨fun x => (h.slots i o d hi hd).1 (this.2 x), fun x => (h.slots i o d hi hd).2 fun y => x (this.1 y)⟩
  · obtain ⟨i, h1, h2, h3⟩ := h.mem l
    exact ⟨i, h1, h2, fun k hk hw => (hl k hk).symm.trans (h3 k hk hw)⟩

/-- an operation that doesn't write there leaves a place as it is -/
theorem same_step {p : Plan P H call all} {k l : Nat} (hk : k < all.length) (hn : ¬ (p.T k).wr l) : obs (p.st (k + 1)).mem l = obs (p.st k).mem l := by
  have ho : all[k]? = some all[k] := List.getElem?_eq_getElem hk
  have hs := p.step k _ ho
  rcases hs.step with ⟨hg, hK, h⟩ | ⟨j, b, m', hg, hK, hq, hkd, hm, h⟩
  · obtain ⟨m, h1, h2⟩ := evOp_mem (mem := (p.st k).mem) h (fun _ _ => rfl)
    have hT := hs.touch
    rw [hK] at hT
    rw [← hT] at h2
    exact ((h2 l).2 hn).2
  · rw [hm]

theorem same_between {p : Plan P H call all} {l i : Nat} : ∀ (d : Nat), i + d ≤ all.length → (∀ k, i ≤ k → k < i + d → ¬ (p.T k).wr l) → obs (p.st (i + d)).mem l = obs (p.st i).mem l
  | 0, _, _ => rfl
  | d + 1, hd, h => by
    rw [← Nat.add_assoc, same_step (by omega) (h (i + d) (by omega) (by omega))]
    exact same_between d (by omega) fun k h1 h2 => h k h1 (by omega)

theorem text_J (p : Plan P H call all) : ∀ j, j ≤ all.length → J p (fun k => k < j) (p.st j)
  | 0, _ => ⟨rfl, fun i o d _ _ => ⟨fun h => by omega, fun _ => rfl⟩, fun _ _ => rfl, fun l => ⟨0, by omega, rfl, fun k _ _ => by simp⟩⟩
  | j + 1, hj => by
    have ho : all[j]? = some all[j] := List.getElem?_eq_getElem (by omega)
    have hs := p.step j _ ho
    have h := text_J p j (by omega)
    have := h.put ho (s1 := p.st (j + 1)) hs.put fun l => ⟨j + 1, hj, rfl, fun k _ _ => by omega⟩
    exact this.congr fun k hk => by omega

/-- all that an operation sees is as it was in the order of the text -/
theorem J.same {p : Plan P H call all} {L : Nat → Prop} {s : St} (h : J p L s) {j : Nat} {o : Oper} (ho : all[j]? = some o) (hd : ∀ i, p.anc i j → L i) (hL : ∀ i k, p.anc i k → L k → L i) (hj : ¬ L j) :
    (∀ t ∈ tmpsIn o.op.operands.toList, nth s.tmps t = nth (p.st j).tmps t) ∧ (∀ (i : Nat) (oi : Oper) (d : Tmp), all[i]? = some oi → oi.dst = some d → p.anc i j → nth s.tmps d = nth (p.st j).tmps d) ∧
    (∀ l, (p.T j).at l → obs s.mem l = obs (p.st j).mem l) := by
  have hjl := lt_of_get ho
  have ht := text_J p j (by omega)
  have hs : ∀ (i : Nat) (oi : Oper) (d : Tmp), all[i]? = some oi → oi.dst = some d → p.anc i j → nth s.tmps d = nth (p.st j).tmps d := by
    intro i oi d hi hdd ha
    rw [(h.slots i oi d hi hdd).1 (hd i ha), (ht.slots i oi d hi hdd).1 (p.lt i j ha)]
  refine ⟨fun t htt => ?_, hs, fun l hl => ?_⟩
  · rcases p.tmps j o t ho htt with ⟨i, oi, hi, hdd, ha | ha | rfl⟩ | hf
    · exact hs i oi t hi hdd ha
    · rw [(h.slots i oi t hi hdd).2 (fun hl => hj (hL _ _ ha hl)), (ht.slots i oi t hi hdd).2 (by have := p.lt j i ha; omega)]
    · rw [(h.slots i oi t hi hdd).2 hj, (ht.slots i oi t hi hdd).2 (by omega)]
    · rw [h.free t hf, ht.free t hf]
  · obtain ⟨i, hi, hob, hth⟩ := h.mem l
    rw [hob]
    rcases Nat.le_total i j with hij | hij
    · have := same_between (p := p) (l := l) (i := i) (j - i) (by omega) fun k h1 h2 hw => by
        have hk : k < j := by omega
        have ha := p.touch k j l hk hjl (.inl ⟨hw, hl⟩)
        have := (hth k (by omega) hw).1 (hd k ha)
        omega
      rw [show i + (j - i) = j by omega] at this
      exact this.symm
    · have := same_between (p := p) (l := l) (i := j) (i - j) (by omega) fun k h1 h2 hw => by
        have hlk := (hth k (by omega) hw).2 (by omega)
        rcases Nat.lt_or_eq_of_le h1 with hlt | rfl
        · exact hj (hL j k (p.touch j k l hlt (by omega) (.inr ⟨hl, hw⟩)) hlk)
        · exact hj hlk
      rw [show j + (i - j) = i by omega] at this
      exact this

theorem J.eq {p : Plan P H call all} {L : Nat → Prop} {s : St} (h : J p L s) (hall : ∀ k, k < all.length → L k) : s = p.st all.length := by
  have ht := (text_J p all.length (Nat.le_refl _)).congr (L' := L) fun k hk => ⟨fun _ => hall k hk, fun _ => hk⟩
  have h1 : s.tmps = (p.st all.length).tmps := by
    apply List.ext_getElem?
    intro d
    rw [← nth_eq, ← nth_eq]
    by_cases hf : ∀ (i : Nat) (o : Oper), all[i]? = some o → o.dst ≠ some d
    · rw [h.free d hf, ht.free d hf]
    · have : ∃ (i : Nat) (o : Oper), all[i]? = some o ∧ o.dst = some d := by
        apply Classical.byContradiction
        intro hn
        exact hf fun i o hi hd => hn ⟨i, o, hi, hd⟩
      obtain ⟨i, o, hi, hd⟩ := this
      rw [(h.slots i o d hi hd).1 (hall i (lt_of_get hi)), (ht.slots i o d hi hd).1 (hall i (lt_of_get hi))]
  have h2 : s.mem = (p.st all.length).mem := by
    refine obs_ext fun l => ?_
    obtain ⟨i, hi, hob, hth⟩ := h.mem l
    rw [hob]
    have := same_between (p := p) (l := l) (i := i) (all.length - i) (by omega) fun k h1 h2 hw => by
      have := (hth k (by omega) hw).1 (hall k (by omega))
      omega
    rw [show i + (all.length - i) = all.length by omega] at this
    exact this.symm
  cases s
  cases hh : p.st all.length
  simp_all

/-- no slot that is there hangs on the one that is written -/
theorem J.put_eq {p : Plan P H call all} {L : Nat → Prop} {s : St} (h : J p L s) {j : Nat} {o : Oper} (ho : all[j]? = some o) (hL : ∀ i k, p.anc i k → L k → L i) (hj : ¬ L j) (K : List (Nat × Bool)) (v : AV) :
    s.put o.dst K v = s.put0 o.dst K v := by
  cases hd : o.dst with
  | none => rfl
  | some d =>
    have : s.tmps.map (dropKey d) = s.tmps := by
      refine (List.map_congr_left fun sl hsl => ?_).trans (List.map_id _)
      simp only [id, dropKey]
      rw [if_neg]
      intro hany
      obtain ⟨q, hq, hqd⟩ := List.any_eq_true.1 hany
      obtain ⟨t, hn⟩ := mem_nth hsl
      have hstart : nth (p.st 0).tmps t = some sl → False := fun hx => by
        have := p.start sl (nth_mem hx)
        rw [this] at hq
        cases hq
      by_cases hf : ∀ (i : Nat) (o : Oper), all[i]? = some o → o.dst ≠ some t
      · exact hstart (by rw [← h.free t hf]; exact hn)
      · have : ∃ (i : Nat) (o : Oper), all[i]? = some o ∧ o.dst = some t := by
          apply Classical.byContradiction
          intro hn
          exact hf fun i o hi hd => hn ⟨i, o, hi, hd⟩
        obtain ⟨i, oi, hi, hdi⟩ := this
        by_cases hl : L i
        · rw [(h.slots i oi t hi hdi).1 hl, setN_eq, nth_eq, List.getElem?_set_self'] at hn
          cases hx : (p.st 0).tmps[t]? with
          | none => rw [hx] at hn; simp at hn
          | some y =>
            rw [hx] at hn
            simp at hn
            subst hn
            obtain ⟨i', oi', hi', hdi', ha⟩ := p.keys i oi q hi hq
            have : q.1 = d := by simpa using hqd
            rw [this] at hdi'
            have := p.dsts i' j oi' o d hi' ho hdi' hd
            subst this
            exact hj (hL _ _ ha hl)
        · exact hstart (by rw [← (h.slots i oi t hi hdi).2 hl]; exact hn)
    simp only [St.put, St.put0, this]

theorem gterm_congr {s s' : St} : ∀ {K : List (Nat × Bool)}, (∀ q ∈ K, nth s.tmps q.1 = nth s'.tmps q.1) → gterm s K = gterm s' K
  | [], _ => rfl
  | (d, b) :: K, h => by
    simp only [gterm]
    rw [h (d, b) (by simp), gterm_congr fun q hq => h q (by simp [hq])]

/-- the memory behind a further operation -/
theorem J.mem_step {p : Plan P H call all} {L : Nat → Prop} {s : St} (h : J p L s) {j : Nat} {o : Oper} (ho : all[j]? = some o) (hd : ∀ i, p.anc i j → L i) (hL : ∀ i k, p.anc i k → L k → L i) (hj : ¬ L j) {mem' : Mem}
    (hm : ∀ l, ((p.T j).wr l → obs mem' l = obs (p.st (j + 1)).mem l) ∧ (¬ (p.T j).wr l → obs mem' l = obs s.mem l)) :
    ∀ l, ∃ i, i ≤ all.length ∧ obs mem' l = obs (p.st i).mem l ∧ ∀ k, k < all.length → (p.T k).wr l → ((L k ∨ k = j) ↔ k < i) := by
  intro l
  have hjl := lt_of_get ho
  by_cases hw : (p.T j).wr l
  · refine ⟨j + 1, by omega, (hm l).1 hw, fun k hk hwk => ⟨fun hx => ?_, fun hx => ?_⟩⟩
    · rcases hx with hx | rfl
      · rcases Nat.lt_or_ge j k with hjk | hjk
        · exact (hj (hL j k (p.touch j k l hjk hk (.inl ⟨hw, (Touch.wr_at hwk)⟩)) hx)).elim
        · omega
      · omega
    · rcases Nat.lt_or_eq_of_le (Nat.le_of_lt_succ hx) with hlt | rfl
      · exact .inl (hd k (p.touch k j l hlt hjl (.inl ⟨hwk, (Touch.wr_at hw)⟩)))
      · exact .inr rfl
  · obtain ⟨i, hi, hob, hth⟩ := h.mem l
    refine ⟨i, hi, by rw [(hm l).2 hw, hob], fun k hk hwk => ?_⟩
    have : k ≠ j := fun e => hw (e ▸ hwk)
    rw [← hth k hk hwk]
    simp [this]

def Lof (listed : Array Bool) (i : Nat) : Prop := listed.getD i false = true

theorem Lof_set {listed : Array Bool} {i : Nat} (hi : i < listed.size) (k : Nat) : Lof (listed.setIfInBounds i true) k ↔ (Lof listed k ∨ k = i) := by
  unfold Lof
  by_cases h : i = k
  · subst h; simp [hi]
  · rw [getD_set_ne false h]
    simp [Ne.symm h]

/-- a drawn region -/
theorem draw_any (hpc : SumOk P H) (hcall : CallOk P call) {ops : Array Oper} (hops : ops.toList = all) (p : Plan P H call all) {Q : Exit → Act → World → Prop} {F0 : Nat → Prop} {w0 : World} {bs0 : List BI}
    (hQ : ∀ F' w' bs' a', Ext bs0.length F0 w0 bs0 F' w' bs' → StRel F' w' bs' (p.st all.length) a' → Q .normal a' w') :
    ∀ (fuel : Nat) (listed : Array Bool) (a : Act) (w : World) (s : St) (F : Nat → Prop) (bs : List BI), listed.size = all.length → listed.toList.countP (fun b => !b) ≤ fuel →
      (∀ j o, all[j]? = some o → Lof listed j → ∀ e ∈ o.after, Region.binds .any e = true → Lof listed e.on) → J p (Lof listed) s → Ext bs0.length F0 w0 bs0 F w bs → StRel F w bs s a → wpAny P .any ops Q fuel listed a w := by
  have hget : ∀ i, ops[i]? = all[i]? := fun i => by rw [← hops, Array.getElem?_toList]
  have hready : ∀ listed : Array Bool, listed.size = all.length → Region.ready .any ops listed = [] → ∀ k, k < all.length → Lof listed k := by
    intro listed hsz hr k
    induction k using Nat.strongRecOn with
    | ind k ih =>
      intro hk
      apply Classical.byContradiction
      intro hn
      have : k ∈ Region.ready .any ops listed := by
        rw [mem_ready]
        refine ⟨?_, all[k], by rw [hget]; exact List.getElem?_eq_getElem hk, fun e he hb => ?_⟩
        · unfold Lof at hn
          have hk' : k < listed.size := by omega
          simp only [Array.getD_eq_getD_getElem?, Array.getElem?_eq_getElem hk', Option.getD_some] at hn ⊢
          simpa using hn
        · have hlt := p.edges k _ (List.getElem?_eq_getElem hk) e he hb
          exact ih e.on hlt (by omega)
      rw [hr] at this
      cases this
  intro fuel
  induction fuel with
  | zero =>
    intro listed a w s F bs hsz hc hdn hJ hext hs
    have hnil : Region.ready .any ops listed = [] := by
      rw [List.eq_nil_iff_forall_not_mem]
      intro j hj
      obtain ⟨h0, o, ho, _⟩ := mem_ready.1 hj
      rw [hget] at ho
      have hjl := lt_of_get ho
      have hj' : j < listed.size := by omega
      have := List.countP_eq_zero.1 (Nat.le_zero.1 hc) listed[j] (by simp)
      simp only [Array.getD_eq_getD_getElem?, Array.getElem?_eq_getElem hj', Option.getD_some] at h0
      simp [h0] at this
    have := hJ.eq (hready listed hsz hnil)
    subst this
    exact ⟨hnil, hQ F w bs a hext hs⟩
  | succ fuel ih =>
    intro listed a w s F bs hsz hc hdn hJ hext hs
    refine ⟨fun hnil => ?_, fun j hj => ?_⟩
    · have := hJ.eq (hready listed hsz hnil)
      subst this
      exact hQ F w bs a hext hs
    · obtain ⟨h0, o, ho, hed⟩ := mem_ready.1 hj
      have ho' := ho
      rw [hget] at ho'
      have hjl := lt_of_get ho'
      have hj' : j < listed.size := by omega
      have hjf : listed[j] = false := by simpa only [Array.getD_eq_getD_getElem?, Array.getElem?_eq_getElem hj', Option.getD_some] using h0
      have hnl : ¬ Lof listed j := by
        unfold Lof
        simp [Array.getElem?_eq_getElem hj', hjf]
      have hL : ∀ i k, p.anc i k → Lof listed k → Lof listed i := p.down _ _ hdn fun _ h => h
      have hd : ∀ i, p.anc i j → Lof listed i := fun i hi => p.down (Lof listed) (fun k => Lof listed k ∨ k = j) (fun k ok hk hN e he hb => by
        rcases hN with hN | rfl
        · exact hdn k ok hk hN e he hb
        · rw [ho'] at hk
          simp at hk; subst hk
          exact hed e he hb) (fun _ h => .inl h) i j hi (.inr rfl)
      obtain ⟨hsame, hkeys, hmem⟩ := hJ.same ho' hd hL hnl
      have hset : ∀ k, Lof (listed.setIfInBounds j true) k ↔ (Lof listed k ∨ k = j) := Lof_set hj'
      -- the rest, behind this operation
      have next : ∀ (a' : Act) (w' : World) (s' : St) (F' : Nat → Prop) (bs' : List BI), J p (fun k => Lof listed k ∨ k = j) s' → Ext bs.length F w bs F' w' bs' → StRel F' w' bs' s' a' → wpAny P .any ops Q fuel (listed.setIfInBounds j true) a' w' := by
        intro a' w' s' F' bs' hJ' he hs'
        refine ih _ a' w' s' F' bs' (by simpa using hsz) ?_ (fun k ok hk hl e hee hb => ?_) (hJ'.congr fun k _ => (hset k).symm) (hext.trans he hext.le) hs'
        · simp only [Array.toList_setIfInBounds]
          rw [List.countP_set (by simpa using hj')]
          have : 0 < listed.toList.countP (fun b => !b) := List.countP_pos_iff.2 ⟨listed[j], by simp, by simp [hjf]⟩
          have e1 : ((!listed.toList[j]) = true) = True := by simp [hjf]
          simp only [e1, if_true, Bool.not_true, Bool.false_eq_true, if_false]
          omega
        · rw [hset] at hl ⊢
          rcases hl with hl | rfl
          · exact .inl (hdn k ok hk hl e hee hb)
          · rw [ho'] at hk
            simp at hk; subst hk
            exact .inl (hed e hee hb)
      have hst := p.step j o ho'
      have hlim : ∀ K, lim o s K = lim o (p.st j) K := fun K => lim_congr hsame
      unfold wpOp
      simp only [ho]
      rcases hst.step with ⟨hg, hK, h⟩ | ⟨g, b, m', hg, hK, hq, hkd, hm, h⟩
      · simp only [Region.wanted, hg, if_true]
        left
        have hT := hst.touch
        rw [hK] at hT
        obtain ⟨mem', h1, h2⟩ := evOp_mem (mem := s.mem) h (fun l hl => hmem l (by rw [hT]; exact hl))
        rw [← hT] at h2
        have e1 : (fun K' => lim o (p.st j) K') = fun K' => lim o s K' := funext fun K => (hlim K).symm
        rw [e1] at h1
        refine evOp_at hpc hcall hs.mem (fun K x av hk hh => opnd_ok hs hk (limit_le hh)) h1 fun F' w' bs' v he hm' hr => ?_
        refine next _ w' ({ s with mem := mem' }.put o.dst [] (p.rs j)) F' bs' ?_ he (StRel.put (hs.ext he hm') (fun _ hp => by cases hp) (fun _ => hr) (fun h => (h KH_nil).elim))
        have hmem' := hJ.mem_step ho' hd hL hnl (mem' := mem') fun l => ⟨(h2 l).1, fun hn => ((h2 l).2 hn).1⟩
        refine hJ.put ho' ?_ ?_
        · have := hJ.put_eq ho' hL hnl [] (p.rs j)
          rw [hK, ← this]
          cases o.dst <;> rfl
        · intro l
          have : ({ s with mem := mem' }.put o.dst [] (p.rs j)).mem = mem' := by cases o.dst <;> rfl
          rw [this]
          exact hmem' l
      · have hga := p.guards j o g b ho' hg
        have hgs : nth s.tmps = nth s.tmps := rfl
        have hkeq : keysOf ops.toList s g b = some (p.K j) := by
          rw [hops, ← hK]
          unfold keysOf
          split
          · rename_i og hog
            split
            · rename_i d hdg
              rw [nth_eq] at hog
              rw [hkeys g og d hog hdg hga]
            · rfl
          · rfl
        have hiff := keys_ok hs hkeq
        have hgt : gterm s (p.K j) = gterm (p.st j) (p.K j) := gterm_congr fun q hq => by
          obtain ⟨i, oi, hi, hdi, ha⟩ := p.keys j o q ho' hq
          exact hkeys i oi q.1 hi hdi ha
        have hnowr : ∀ l, ¬ (p.T j).wr l ∨ True := fun _ => .inr trivial
        have hmem' : ∀ l, ∃ i, i ≤ all.length ∧ obs s.mem l = obs (p.st i).mem l ∧ ∀ k, k < all.length → (p.T k).wr l → ((Lof listed k ∨ k = j) ↔ k < i) :=
          hJ.mem_step ho' hd hL hnl (mem' := s.mem) fun l => ⟨fun hw => by rw [hm]; exact hmem l (Touch.wr_at hw), fun _ => rfl⟩
        have hput : ∀ w' : World, J p (fun k => Lof listed k ∨ k = j) (s.put o.dst (p.K j) (p.rs j)) := fun _ => by
          refine hJ.put ho' ?_ ?_
          · rw [hJ.put_eq ho' hL hnl]
          · have : (s.put o.dst (p.K j) (p.rs j)).mem = s.mem := by cases o.dst <;> rfl
            rw [this]
            exact hmem'
        by_cases hk : KH a (p.K j)
        · have hw : Region.wanted o (yielded ops a.tmps) = true := (wanted_iff hg _).2 (hiff.1 hk)
          rw [if_pos hw]
          left
          have h1 := toNeed_sel h (by rw [← hgt]; exact gterm_ok hs hk)
          have e1 : (fun K' => lim o (p.st j) (K' ++ p.K j)) = fun K' => lim o s (K' ++ p.K j) := funext fun K => (hlim _).symm
          rw [e1] at h1
          have e2 : lim o (p.st j) (p.K j) = lim o s (p.K j) := (hlim _).symm
          rw [e2] at hq
          have hT := hst.touch
          obtain ⟨m2, h3, _⟩ := evOp_mem (mem := s.mem) h1 (fun l hl => by
            refine (hmem l ?_).trans rfl
            rw [hT, e2]; exact hl)
          have hρ : ∀ K' x av, KH a K' → lim o s (K' ++ p.K j) x = some av → av.Rel F w bs (a.eval x) := fun K' x av hk' hh => opnd_ok hs (fun q hq => (List.mem_append.1 hq).elim (hk' q) (hk q)) (limit_le hh)
          have hme := still_mem (ρ := fun K' => lim o s (K' ++ p.K j)) hpc hs.mem hρ hq h3
          subst hme
          refine evOp_at hpc hcall hs.mem hρ h3 fun F' w' bs' v he hm' hr => ?_
          exact next _ w' _ F' bs' (hput w') he (StRel.put (hs.ext he hm') hkd (fun _ => hr) (fun h => (h hk).elim))
        · have hw : ¬ Region.wanted o (yielded ops a.tmps) = true := fun h => hk (hiff.2 ((wanted_iff hg _).1 h))
          rw [if_neg hw]
          exact next _ w _ F bs (hput w) Ext.refl (StRel.put hs hkd (fun h => (hk h).elim) (fun _ => rfl))

theorem draw_ok (hpc : SumOk P H) (hcall : CallOk P call) {id : Nat} {ops : Array Oper} (hm : P.follows .mixedOrders = true) {s s' : St} {is : List Info} (h : (evDraw P H call ops.toList ops.toList s).sel = some (s', is)) (hd : drawOk ops.toList is = true)
    (h0 : ∀ sl ∈ s.tmps, sl.keys = []) {F : Nat → Prop} {w : World} {bs : List BI} {a : Act} (hs : StRel F w bs s a) {Q : Exit → Act → World → Prop}
    (hQ : ∀ F' w' bs' a', Ext bs.length F w bs F' w' bs' → StRel F' w' bs' s' a' → Q .normal a' w') : (Code.region id ops true).wp P Q a w := by
  obtain ⟨p, e0, en⟩ := plan_of h hd h0
  have hb : Below w.heap.size w { w with drawn := w.drawn + 1 } := Below.drew (Below.refl _ _)
  refine wp_region_any hm (draw_any (F0 := F) (w0 := w) (bs0 := bs) hpc hcall rfl p (fun F' w' bs' a' he hs' => hQ F' w' bs' a' he (en ▸ hs')) _ _ _ _ s F bs (by simp) ?_ ?_ ?_ (Ext.of_below hb) (hs.below hb))
  · simpa using List.countP_le_length (p := fun b => !b) (l := List.replicate ops.size false)
  · intro j o _ hl
    unfold Lof at hl
    simp [Array.getElem?_replicate] at hl
    split at hl <;> simp at hl
  · have := text_J p 0 (Nat.zero_le _)
    rw [e0] at this
    refine this.congr fun k hk => ⟨fun h => by omega, fun hl => ?_⟩
    unfold Lof at hl
    simp [Array.getElem?_replicate] at hl
    split at hl <;> simp at hl

end
end Go.Sx
