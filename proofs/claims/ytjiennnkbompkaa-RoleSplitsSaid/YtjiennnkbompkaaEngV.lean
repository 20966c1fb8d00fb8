/-
  The evaluator in use (part V): a nil slice as an empty row of one's own, or as plain data without elements, where a loop begins.
-/
import Derived.Test.YtjiennnkbompkaaEngL
namespace Go.Sx
open Go Go.RowKit

/-- an empty row -/
def rowZ (T : TypeId) (es : List Sh) : Option (TypeId × List CV) := some (T, [.row false es 0 Val.zero])

def St.own (t : Nat) (T : TypeId) (es : List Sh) (s : St) : St :=
  match nth s.tmps t with
  | some ⟨[], .one (.c .nils)⟩ => ⟨setN s.tmps t ⟨[], .one (.c (.os s.mem.length es.length))⟩, s.mem ++ [rowZ T es]⟩
  | _ => s

def St.flat (t : Nat) (es : List Sh) (s : St) : St :=
  match nth s.tmps t with
  | some ⟨[], .one (.c .nils)⟩ => ⟨setN s.tmps t ⟨[], .one (.c (.sl es 0 Val.zero))⟩, s.mem⟩
  | _ => s

/-- a cell of a block -/
def St.ownM (b o : Nat) (T : TypeId) (es : List Sh) (s : St) : St :=
  match nth s.mem b with
  | some (some (T', cs)) => match nth cs o with
    | some .nils => ⟨s.tmps, setN s.mem b (some (T', setN cs o (.os s.mem.length es.length))) ++ [rowZ T es]⟩
    | _ => s
  | _ => s

inductive Place where
  | own (t : Nat) (T : TypeId) (es : List Sh)
  | flat (t : Nat) (es : List Sh)
  | ownM (b o : Nat) (T : TypeId) (es : List Sh)

def St.place (s : St) : Place → St
  | .own t T es => s.own t T es
  | .flat t es => s.flat t es
  | .ownM b o T es => s.ownM b o T es

def St.places (s : St) : List Place → St
  | [] => s
  | p :: r => (s.place p).places r

theorem Ext.row0 {K F w bs} (_ : K ≤ bs.length) : Ext K F w bs F w (bs ++ [⟨w.heap.size, 0, 0⟩]) :=
  (Ext.refl (K := K)).push (.inr (Nat.le_refl _))

theorem MemRel.row0 {F w bs mem} (hm : MemRel F w bs mem) (T : TypeId) (es : List Sh) : MemRel F w (bs ++ [⟨w.heap.size, 0, 0⟩]) (mem ++ [rowZ T es]) := by
  refine hm.push _ (fun h => ?_) (fun h => ?_) (fun h => ?_) (fun fz es' n ρ h => ?_)
  · simp [liveL] at h
  · simp [liveL] at h
  · simp [isRowL] at h
  · simp only [List.cons.injEq, CV.row.injEq, and_true] at h
    obtain ⟨rfl, rfl, rfl, rfl⟩ := h
    exact ⟨rfl, fun _ => rfl, fun h => by omega, fun h => by omega, fun h => by omega⟩

theorem nils_os {F w bs} {v : Value} {sz : Nat} {k : Nat} {x : BI} (hx : nth bs k = some x) (h0 : x.n = 0) (h1 : x.cap = 0) (h : CV.Rel F w bs .nils v) : CV.Rel F w bs (.os k sz) v := by
  cases h
  have := CV.Rel.os (F := F) (w := w) (sz := sz) (base := none) hx (fun h => by omega)
  rwa [h0, h1] at this

theorem StRel.place {F w bs s} {a : Act} (hs : StRel F w bs s a) (p : Place) {K : Nat} (hK : K ≤ bs.length) : ∃ bs', Ext K F w bs F w bs' ∧ K ≤ bs'.length ∧ StRel F w bs' (s.place p) a := by
  have triv : ∃ bs', Ext K F w bs F w bs' ∧ K ≤ bs'.length ∧ StRel F w bs' s a := ⟨bs, Ext.refl, hK, hs⟩
  have put : ∀ (t : Nat) (v : AV) (m : Mem) (bs' : List BI), Ext bs.length F w bs F w bs' → MemRel F w bs' m → nth s.tmps t = some ⟨[], .one (.c .nils)⟩ → (∀ u, CV.Rel F w bs' .nils u → v.Rel F w bs' u) →
      StRel F w bs' ⟨setN s.tmps t ⟨[], v⟩, m⟩ a := by
    intro t v m bs' he hm ht hv
    refine ⟨hs.defers, by simp only [setN_length]; exact hs.len, fun i sl x h1 h2 => ?_, hm⟩
    simp only at h1
    rcases nth_setN h1 with ⟨rfl, rfl⟩ | ⟨_, h1⟩
    · have := (hs.slots i _ x ht h2).1 KH_nil
      exact ⟨fun _ => hv _ (CV.Rel.grow he.grow this), fun h => (h KH_nil).elim⟩
    · have := hs.slots i sl x h1 h2
      exact ⟨fun hk => AV.Rel.grow he.grow (this.1 hk), this.2⟩
  have hnew : nth (bs ++ [(⟨w.heap.size, 0, 0⟩ : BI)]) s.mem.length = some ⟨w.heap.size, 0, 0⟩ := by rw [← hs.mem.len]; exact nth_append_last _ _
  cases p with
  | own t T es =>
    simp only [St.place, St.own]
    split
    · rename_i ht
      refine ⟨_, Ext.row0 hK, by simp; omega, put t _ _ _ (Ext.row0 (Nat.le_refl _)) (hs.mem.row0 T es) ht fun u hu => ?_⟩
      exact nils_os (x := ⟨w.heap.size, 0, 0⟩) hnew rfl rfl hu
    · exact triv
  | flat t es =>
    simp only [St.place, St.flat]
    split
    · rename_i ht
      refine ⟨bs, Ext.refl, hK, put t _ _ _ Ext.refl hs.mem ht fun u hu => ?_⟩
      cases hu
      exact CV.Rel.slnil
    · exact triv
  | ownM b o T es =>
    simp only [St.place, St.ownM]
    split
    · rename_i T' cs hb
      split
      · rename_i ho
        have he := Ext.row0 (K := bs.length) (F := F) (w := w) (bs := bs) (Nat.le_refl _)
        refine ⟨_, Ext.row0 hK, by simp; omega, hs.defers, hs.len, fun i sl x h1 h2 => ?_, ?_⟩
        · have := hs.slots i sl x h1 h2
          exact ⟨fun hk => AV.Rel.grow he.grow (this.1 hk), this.2⟩
        · have hrow : isRowL cs = false := by
            unfold isRowL
            split
            · cases o with
              | zero => simp [nth] at ho
              | succ o => simp [nth] at ho
            · rfl
          have hrow' : ∀ y, isRowL (setN cs o (.os y es.length)) = false := fun y => by
            unfold isRowL
            split
            · rename_i fz es' n ρ h
              cases o with
              | zero => cases cs with
                | nil => simp [nth] at ho
                | cons c r => simp [setN] at h
              | succ o => cases cs with
                | nil => simp [nth] at ho
                | cons c r =>
                  simp only [setN, List.cons.injEq] at h
                  obtain ⟨rfl, h⟩ := h
                  cases r with
                  | nil => simp [nth] at ho
                  | cons c' r' => cases o <;> simp [setN] at h
            · rfl
          have hm := hs.mem.row0 T es
          have hblt := nth_lt hb
          have hbn : ∃ x, nth bs b = some x := by
            rw [← hs.mem.len] at hblt
            exact ⟨bs[b], by rw [nth_eq]; exact List.getElem?_eq_getElem hblt⟩
          obtain ⟨x, hx⟩ := hbn
          have hx' : nth (bs ++ [(⟨w.heap.size, 0, 0⟩ : BI)]) b = some x := nth_append hx
          have hb' : nth (s.mem ++ [rowZ T es]) b = some (some (T', cs)) := nth_append hb
          obtain ⟨vs, hv, hr⟩ := hm.cont b T' cs x hb' hrow hx'
          have hl := hm.loc b x T' cs hx' hb' (liveL_of hrow)
          have e : setN s.mem b (some (T', setN cs o (.os s.mem.length es.length))) ++ [rowZ T es] = setN (setN (s.mem ++ [rowZ T es]) b none) b (some (T', setN cs o (.os s.mem.length es.length))) := by
            rw [setN_setN, setN_eq s.mem, setN_eq (s.mem ++ _), List.set_append_left _ _ hblt]
          simp only [e]
          refine (hm.kill b).put hx' (fun T cs h => ?_) (fun _ => hl) (fun _ k y T2 cs2 hk hc h2 hp => ?_) (fun _ => ⟨vs, hv, ?_⟩) (fun fz es' n ρ h => ?_)
          · rcases nth_setN h with ⟨_, h⟩ | ⟨h, _⟩
            · cases h
            · exact h rfl
          · rcases nth_setN hc with ⟨_, h⟩ | ⟨hne, hc⟩
            · cases h
            · exact hne (hm.inj k b y x T2 cs2 T' cs hk hx' hc hb' h2 (liveL_of hrow) hp)
          · refine All2.of_nth (by rw [setN_length]; exact hr.length) fun i c v hc hv => ?_
            rcases nth_setN hc with ⟨rfl, rfl⟩ | ⟨_, hc⟩
            · obtain ⟨v', hv', hrel⟩ := hr.nth ho
              rw [nth_eq, hv'] at hv
              simp at hv; subst hv
              exact nils_os (x := ⟨w.heap.size, 0, 0⟩) hnew rfl rfl hrel
            · obtain ⟨v', hv', hrel⟩ := hr.nth hc
              rw [nth_eq, hv'] at hv
              simp at hv; subst hv
              exact hrel
          · have := hrow' s.mem.length
            rw [h] at this
            simp [isRowL] at this
      · exact triv
    · exact triv

theorem StRel.places {F w a} : ∀ (ps : List Place) {bs s} (_ : StRel F w bs s a) {K : Nat} (_ : K ≤ bs.length), ∃ bs', Ext K F w bs F w bs' ∧ K ≤ bs'.length ∧ StRel F w bs' (s.places ps) a
  | [], bs, _, hs, _, hK => ⟨bs, Ext.refl, hK, hs⟩
  | p :: r, _, _, hs, _, hK => by
    obtain ⟨bs1, e1, k1, h1⟩ := hs.place p hK
    obtain ⟨bs2, e2, k2, h2⟩ := StRel.places r h1 k1
    exact ⟨bs2, e1.trans e2 (Nat.le_refl _), k2, h2⟩

/-- a loop that begins so -/
def ownH (ps : List Place) (h : Nat → St → Tree (XE × St)) (K : Nat) (s : St) : Tree (XE × St) := h K (s.places ps)

theorem ownH_ok {P : Program} {b : Code} {h : Nat → St → Tree (XE × St)} (ps : List Place) (hh : LoopOk P b h) : LoopOk P b (ownH ps h) := by
  intro K s x hx F w bs a hK hs Q hQ
  obtain ⟨bs', he, hK', hs'⟩ := hs.places ps hK
  exact hh K (s.places ps) x hx F w bs' a hK' hs' Q fun F' w' bs2 a' he' hs2 => hQ F' w' bs2 a' (he.trans he' (Nat.le_refl _)) hs2

/-- a summary of a function at closed arguments -/
theorem pcOne_of_sel {P : Program} {H : Hd} (hH : HdOk P H) (n f : Nat) {G : List A1 → Option AV}
    (h : ∀ args r, G args = some r → (denA r).isSome = true ∧ (evFn P H n f args []).sel.map Prod.fst = some r) : PcOne P f G := by
  intro args r hG hcl F w vs hargs
  obtain ⟨hd, ha⟩ := h args r hG
  obtain ⟨v, hv⟩ := Option.isSome_iff_exists.1 hd
  refine ⟨v, denA_mk hv, fun w1 hw1 => ?_⟩
  obtain ⟨⟨r', m⟩, hsel, hr⟩ := Option.map_eq_some_iff.1 ha
  simp only at hr
  subst hr
  have hargs1 : All2 (A1.Rel F w1 []) args vs := hargs.imp fun _ _ hx => A1.Rel.grow (F := F) (F' := F) (bs := []) (bs' := []) ⟨hw1.size, fun _ _ h => h, fun p hp _ => hw1.block p hp, fun _ _ h => h⟩ hx
  refine (evFn_ok hH n f args [] r' m hsel F w1 [] vs MemRel.nil hargs1).mono fun e w2 ⟨u, F', bs', he, hext, hm, hu⟩ => ?_
  have := denA_ok hv hu
  subst this
  exact ⟨he, hext.below⟩

end Go.Sx
