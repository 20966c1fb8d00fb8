/-
  The roles of sites: Synced of the program.
-/
import Derived.Test.YtjiennnkbompkaaRolR
namespace Go.Proofs.Ytjiennnkbompkaa
open Go Go.Sx Go.RowKit Classical

set_option maxRecDepth 100000

def setS (x : Sit) (nu : Int) (l : Ln) : Sit := ⟨x.a, 2, x.e, nu, l.n, l.ρ, x.s, x.l, x.c⟩
def finT (x : Sit) (nu k : Int) (l : Ln) : Tree AV := .br (k != 0) (.leaf (Zr k)) (.leaf (Sok (setS x nu l)))
def extT (x : Sit) (nu k : Int) (l : Ln) : Tree AV :=
  .need (!((lt 0 (toInt64 l.n) == true) && true) || inRange (IntKind.i64.wrap (toInt64 l.n - 1)) l.n) (.br (lt 0 (toInt64 l.n) && (spn l.ρ (lastI l.n)).e == x.e)
    (.need (inRange (IntKind.i64.wrap (toInt64 l.n - 1)) l.n) (finT x nu k ⟨l.n, l.ρ.upds (lastI l.n) 2 [I nu]⟩))
    (.need (Nat.ble (((l.n + 1).mul 23).add l.n) 140737488355327) (finT x nu k ⟨l.n + 1, Val.cat l.n l.ρ (Val.ofFlat 3 [I x.e, I (IntKind.i64.wrap ((hd l).t + 1)), I nu])⟩)))
noncomputable def tailT (x : Sit) (nu k : Int) (l : Ln) : Tree AV := .need (dec (fewN l.n)) (.br (lt (hd l).t nu) (extT x nu k l) (finT x nu k l))
def minL (nu : Int) (l : Ln) : Ln := ⟨l.n, l.ρ.upds (lastI l.n) 2 [I (imin (spn l.ρ (lastI l.n)).t nu)]⟩
noncomputable def minT (x : Sit) (nu k : Int) (l : Ln) : Tree AV := .br (lt 0 (toInt64 l.n)) (.need (inRange (IntKind.i64.wrap (toInt64 l.n - 1)) l.n) (.need (inRange (IntKind.i64.wrap (toInt64 l.n - 1)) l.n) (tailT x nu k (minL nu l)))) (tailT x nu k l)
def c18 (x : Sit) (nu k : Int) : C18 := ⟨x, nu, ⟨x.a, x.r, x.e, x.p, x.s, x.l, x.c⟩, x.n, ⟨x.a, x.r, x.e, x.p, x.s, x.l, x.c⟩, k⟩
def clrL (m : Nat) (σ : Val) : Ln := ⟨m, Val.cat m σ (.byFst fun _ => Val.ofCs [I 0, I 0, I 0])⟩
noncomputable def delT (x : Sit) (nu k r : Int) : Tree AV :=
  let c := c18 x nu k
  let v : V48 := ⟨r, IntKind.i64.wrap (r + 1), x.ρ⟩
  let R := run48 c v
  .need (inv48 c v) (.need (eqXE R.1 (.exit 0)) (.need (le 0 R.2.i && lt R.2.i (toInt64 x.n)) (.need (lt 0 R.2.i && le R.2.i (toInt64 x.n)) (minT x nu k (clrL R.2.i.toNat R.2.σ)))))
noncomputable def idxT (x : Sit) (nu k r : Int) : Tree AV := .br (r == -1) (minT x nu k x.ln) (delT x nu k r)
def synE (x : Sit) (nu : Int) : Int := chain (chkS x) [(x.r == 4, 18), (le 1 nu && le nu 1073741824, 2)]
noncomputable def tree18 (x : Sit) (nu : Int) : Tree AV :=
  let k := synE x nu
  let c : C64 := ⟨c18 x nu k, x.ρ, toInt64 x.n⟩
  let R := run64 c ⟨0, 0⟩
  .need (Nat.ble ((0 + x.n) * 24) 140737488355328) (.need (dec (fewN x.n)) (.br (k != 0) (.br (k != 0) (.leaf (Zr k)) (.leaf (Sok x)))
    (.need (inv64 c ⟨0, 0⟩) (.br (eqXE R.1 .ret) (idxT x nu k R.2.r) (.need (eqXE R.1 (.exit 0)) (idxT x nu k (-1)))))))

theorem t18 (x : Sit) (nu : Int) : hcTree Try.prog H17 12 18 [x.cv, .c (I nu)] = tree18 x nu := by kernel_rfl

/-- the lineage behind Synced, out of the spans that stay -/
def tailL (x : Sit) (nu : Int) (l : Ln) : Ln := bif lt (hd l).t nu then extL l x.e (hd l).t nu else l
def resL (x : Sit) (nu : Int) (l : Ln) : Ln := tailL x nu (bif lt 0 (toInt64 l.n) then minL nu l else l)
/-- how many spans stay -/
def cutN (nu : Int) (l : Ln) : Nat := bif anyB (beh nu l.ρ) l.n then firstB (beh nu l.ρ) l.n else l.n
def syn (x : Sit) (nu : Int) : Sit := setS x nu (resL x nu ⟨cutN nu x.ln, x.ρ⟩)

theorem finT_all (x : Sit) (nu : Int) (l : Ln) : (finT x nu 0 l).All (fun z => z = Sok (setS x nu l)) := ⟨(fun h => by cases h), fun _ => rfl⟩

theorem tailT_all (x : Sit) (nu : Int) {l : Ln} (hs : small l.n) : (tailT x nu 0 l).All (fun z => z = Sok (setS x nu (tailL x nu l))) := by
  have hf := dec_iff.1 (small_few hs)
  refine ⟨small_few hs, fun h1 => ⟨?_, fun h2 => ⟨?_, ?_⟩, fun h2 => ⟨small_app hs, ?_⟩⟩, fun h1 => ?_⟩
  · cases hn : lt 0 (toInt64 l.n)
    · rfl
    · rw [lastR hf (pos_iff.1 hn), Bool.or_true]
  · rw [Bool.and_eq_true] at h2
    exact lastR hf (pos_iff.1 h2.1)
  · have e : tailL x nu l = ⟨l.n, l.ρ.upds (lastI l.n) 2 [I nu]⟩ := by
      unfold tailL extL
      rw [h1, h2]; rfl
    rw [e]
    exact finT_all x nu _
  · have e : tailL x nu l = ⟨l.n + 1, Val.cat l.n l.ρ (Val.ofFlat 3 [I x.e, I (IntKind.i64.wrap ((hd l).t + 1)), I nu])⟩ := by
      unfold tailL extL
      rw [h1, h2]; rfl
    rw [e]
    exact finT_all x nu _
  · have e : tailL x nu l = l := by unfold tailL; rw [h1]; rfl
    rw [e]
    exact finT_all x nu _

theorem minT_all (x : Sit) (nu : Int) {l : Ln} (hs : small l.n) : (minT x nu 0 l).All (fun z => z = Sok (setS x nu (resL x nu l))) := by
  have hf := dec_iff.1 (small_few hs)
  refine ⟨fun h => ⟨lastR hf (pos_iff.1 h), lastR hf (pos_iff.1 h), ?_⟩, fun h => ?_⟩
  · have e : resL x nu l = tailL x nu (minL nu l) := by unfold resL; rw [h]; rfl
    rw [e]
    exact tailT_all x nu hs
  · have e : resL x nu l = tailL x nu l := by unfold resL; rw [h]; rfl
    rw [e]
    exact tailT_all x nu hs

/-- lineages of the same spans -/
def LEq (l m : Ln) : Prop := l.n = m.n ∧ ∀ i, i < l.n → spn l.ρ i = spn m.ρ i

theorem LEq.hd {l m : Ln} (h : LEq l m) : hd l = hd m := by
  obtain ⟨h1, h2⟩ := h
  unfold Proofs.Ytjiennnkbompkaa.hd
  rw [← h1]
  rcases Nat.eq_zero_or_pos l.n with h0 | h0
  · rw [h0]; rfl
  · obtain ⟨k, hk⟩ : ∃ k, l.n = k + 1 := ⟨l.n - 1, by omega⟩
    rw [hk]
    exact h2 k (by omega)

theorem LEq.upds {l m : Ln} (h : LEq l m) (k : Nat) (y : Int) : LEq ⟨l.n, l.ρ.upds k 2 [I y]⟩ ⟨m.n, m.ρ.upds k 2 [I y]⟩ := ⟨h.1, fun i hi => by
  show spn _ i = spn _ i
  rw [spn_upds, spn_upds, h.2 i hi]⟩

theorem LEq.min {l m : Ln} (h : LEq l m) (hf : fewN l.n) (h0 : 0 < l.n) (nu : Int) : LEq (minL nu l) (minL nu m) := by
  obtain ⟨n, ρ⟩ := l
  obtain ⟨n', σ⟩ := m
  obtain ⟨h1, h2⟩ := h
  have h1 : n = n' := h1
  subst h1
  unfold minL
  have e : spn ρ (lastI n) = spn σ (lastI n) := h2 (lastI n) (by rw [lastI_eq hf h0]; show n - 1 < n; have : 0 < n := h0; omega)
  simp only [e]
  exact LEq.upds (l := ⟨n, ρ⟩) (m := ⟨n, σ⟩) ⟨rfl, h2⟩ _ _

theorem LEq.ext {l m : Ln} (h : LEq l m) (hf : fewN l.n) (ep b nu : Int) : LEq (extL l ep b nu) (extL m ep b nu) := by
  have hc : (lt 0 (toInt64 l.n) && (spn l.ρ (lastI l.n)).e == ep) = (lt 0 (toInt64 m.n) && (spn m.ρ (lastI m.n)).e == ep) := by
    rw [← h.1]
    cases h0 : lt 0 (toInt64 l.n)
    · rfl
    · rw [h.2 (lastI l.n) (by have := pos_iff.1 h0; rw [lastI_eq hf this]; omega)]
  unfold extL
  rw [← hc, ← h.1]
  cases (lt 0 (toInt64 l.n) && (spn l.ρ (lastI l.n)).e == ep)
  · simp only [cond_false]
    refine ⟨rfl, fun i hi => ?_⟩
    show spn _ i = spn _ i
    rw [spn_cat, spn_cat]
    split
    · rename_i hlt; exact h.2 i hlt
    · rfl
  · simp only [cond_true]
    have := h.upds (lastI l.n) nu
    rw [← h.1] at this
    exact this

theorem LEq.tail {l m : Ln} (h : LEq l m) (hf : fewN l.n) (x : Sit) (nu : Int) : LEq (tailL x nu l) (tailL x nu m) := by
  unfold tailL
  rw [h.hd]
  cases lt (Proofs.Ytjiennnkbompkaa.hd m).t nu
  · exact h
  · exact h.ext hf _ _ _

theorem LEq.res {l m : Ln} (h : LEq l m) (hf : fewN l.n) (x : Sit) (nu : Int) : LEq (resL x nu l) (resL x nu m) := by
  unfold resL
  rw [← h.1]
  cases h0 : lt 0 (toInt64 l.n)
  · exact h.tail hf x nu
  · exact (h.min hf (pos_iff.1 h0) nu).tail hf x nu

theorem le_LEq {x : Sit} {nu : Int} {l m : Ln} (h : LEq l m) : leA (Sok (setS x nu l)) (okOr 0 (setS x nu m)) := by
  obtain ⟨n, ρ⟩ := l
  obtain ⟨n', σ⟩ := m
  obtain ⟨h1, h2⟩ := h
  have h1 : n = n' := h1
  subst h1
  refine leA_tup (.cons (.agg ?_) (.cons le1.refl .nil))
  exact .cons leC.refl (.cons leC.refl (.cons leC.refl (.cons leC.refl (.cons (leC_spn h2) (.cons leC.refl (.cons leC.refl (.cons leC.refl .nil)))))))

theorem clr_LEq (m : Nat) (σ : Val) : LEq (clrL m σ) ⟨m, σ⟩ := ⟨rfl, fun i hi => by
  have hi : i < m := hi
  show spn (Val.cat m σ _) i = spn σ i
  rw [spn_cat, if_pos hi]⟩

noncomputable def Gsyn : List A1 → Option (Bool × AV)
  | [.agg [.int .i64 a, .int .i64 r, .int .i64 e, .int .i64 p, .sl [.int .i64, .int .i64, .int .i64] n ρ, .int .i64 s, .bool l, .bool c], .c (.int .i64 nu)] => some (dec (small n), okOr (synE ⟨a, r, e, p, n, ρ, s, l, c⟩ nu) (syn ⟨a, r, e, p, n, ρ, s, l, c⟩ nu))
  | _ => none

theorem tree18_all (x : Sit) (nu : Int) (hs : small x.n) : (tree18 x nu).All (fun z => leA z (okOr (synE x nu) (syn x nu))) := by
  have hf := dec_iff.1 (small_few hs)
  refine ⟨small_ble hs, small_few hs, fun h => ⟨fun _ => le_Zr rfl (by simpa [bne] using h), fun h' => by rw [h] at h'; cases h'⟩, fun h => ?_⟩
  have hk : synE x nu = 0 := by simpa [bne] using h
  rw [hk]
  obtain ⟨hc0, hok⟩ := le_chain0 (by simp) hk
  have hz := chk_zero hc0
  have hnu : (le 1 nu && le nu 1073741824) = true := hok (le 1 nu && le nu 1073741824, 2) (by simp)
  rw [Bool.and_eq_true, le_iff, le_iff] at hnu
  have hsq := sq64 ⟨c18 x nu 0, x.ρ, toInt64 x.n⟩ rfl hf
  have hi : inv64 ⟨c18 x nu 0, x.ρ, toInt64 x.n⟩ ⟨0, 0⟩ = true := dec_iff.2 ⟨⟨rfl, hf⟩, 0, Nat.zero_le _, rfl⟩
  have hfin : run64 ⟨c18 x nu 0, x.ρ, toInt64 x.n⟩ ⟨0, 0⟩ = bif anyB (beh nu x.ρ) x.n then (.ret, sb64 (firstB (beh nu x.ρ) x.n)) else (.exit 0, st64 x.n) := hsq.fin0
  refine ⟨hi, ?_⟩
  rw [hfin]
  cases hb : anyB (beh nu x.ρ) x.n
  · have e : cutN nu x.ln = x.n := by unfold cutN; rw [show anyB (beh nu x.ln.ρ) x.ln.n = false from hb]; rfl
    refine ⟨(fun h => by cases h), fun _ => ⟨rfl, fun _ => ?_, (fun h => by cases h)⟩⟩
    refine All.imp (fun z hz => ?_) (minT_all x nu (l := x.ln) hs)
    subst hz
    refine le_Sok rfl ?_
    unfold syn
    rw [e]; rfl
  · obtain ⟨f1, f2, f3⟩ := firstB_ok hb
    have e : cutN nu x.ln = firstB (beh nu x.ρ) x.n := by unfold cutN; rw [show anyB (beh nu x.ln.ρ) x.ln.n = true from hb]; rfl
    generalize hm : firstB (beh nu x.ρ) x.n = m at *
    -- the first span stays
    have hm0 : 0 < m := by
      rcases Nat.eq_zero_or_pos m with h0 | h0
      · exfalso
        subst h0
        unfold beh at f2
        rw [lt_iff] at f2
        have := (corr_sp (l := x.ln) hz.1 (i := 0) f1).f
        have this : (spn x.ρ 0).f = 0 + 1 := this
        omega
      · exact h0
    have hbeh : Beh nu x.ρ m x.n := ⟨f1, fun j h1 h2 => by
      unfold beh at f2 ⊢
      rw [lt_iff] at f2 ⊢
      have h3 := sp_lt (l := x.ln) hz.1 h1 h2
      have h4 := (corr_sp (l := x.ln) hz.1 (i := m) f1).ft
      have h3 : (spn x.ρ m).t < (spn x.ρ j).f := h3
      have h4 : (spn x.ρ m).f ≤ (spn x.ρ m).t := h4
      omega⟩
    have hs48 := sq48 (c18 x nu 0) m x.ρ hf hbeh
    have hw : IntKind.i64.wrap ((m : Int) + 1) = ((m + 1 : Nat) : Int) := by unfold fewN at hf; rw [w64_id (by omega) (by omega)]; omega
    have hv : (⟨(m : Int), IntKind.i64.wrap ((m : Int) + 1), x.ρ⟩ : V48) = st48 m x.ρ 0 := by rw [hw]; rfl
    have hr : run48 (c18 x nu 0) (st48 m x.ρ 0) = (.exit 0, st48 m x.ρ (x.n - (m + 1))) := by
      have := hs48.fin0
      rw [anyB_none fun _ _ => rfl] at this
      exact this
    refine ⟨fun _ => ⟨fun h => ?_, fun _ => ?_⟩, (fun h => by cases h)⟩
    · have h : ((m : Int) == -1) = true := h
      have : (m : Int) = -1 := eq_of_beq h
      omega
    · show (delT x nu 0 (m : Int)).All _
      unfold delT
      simp only [hv, hr]
      refine ⟨dec_iff.2 ⟨hf, m, 0, x.ρ, hbeh, Nat.zero_le _, rfl⟩, rfl, ?_, ?_, ?_⟩
      · rw [Bool.and_eq_true, le_iff, lt_iff]
        exact ⟨Int.natCast_nonneg m, show (m : Int) < (x.n : Int) by omega⟩
      · rw [Bool.and_eq_true, lt_iff, le_iff]
        exact ⟨show (0 : Int) < (m : Int) by omega, show (m : Int) ≤ (x.n : Int) by omega⟩
      · have hsm : small m := by unfold small at hs ⊢; omega
        refine All.imp (fun z hz => ?_) (minT_all x nu (l := clrL m x.ρ) hsm)
        subst hz
        unfold syn
        rw [e]
        exact le_LEq ((clr_LEq m x.ρ).res (dec_iff.1 (small_few hsm)) x nu)

theorem u18 : UcOne Try.prog 18 (nG Gsyn) := ucOne_of_tree h17 12 18 fun args r h => by
  unfold Gsyn at h; split at h
  · rename_i a ro e p n ρ s l c nu
    obtain ⟨hp, rfl⟩ := Prod.mk.inj (Option.some.inj h)
    exact ⟨_, t18 ⟨a, ro, e, p, n, ρ, s, l, c⟩ nu, tree18_all ⟨a, ro, e, p, n, ρ, s, l, c⟩ nu (dec_iff.1 hp)⟩
  · cases h

end Go.Proofs.Ytjiennnkbompkaa
