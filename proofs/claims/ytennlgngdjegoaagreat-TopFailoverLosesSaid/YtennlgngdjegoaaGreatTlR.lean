/-
  Part TlR of the proof: EngPe EngPg EngQa EngQb EngNc FaiK FaiL FaiLa EngFo.
-/
import Derived.Test.YtennlgngdjegoaaGreatTlQ
import Derived.Recover
import Derived.Test.YtennlgngdjegoaaGreatTlN
namespace Go.Sx
open Go Go.RowKit
variable {P : Program}
def recV : FrameMode → Value × FrameMode
  | .panicking ({ v, recovered := false, goexit := false } :: older) => (v, .panicking ({ v, recovered := true } :: older))
  | m => (.nilIface, m)
theorem recoverD_eq (c : Frame) (cs : List Frame) : (match recoverD (c :: cs) with | some p => p | none => (.nilIface, c :: cs)) = ((recV c.mode).1, { c with mode := (recV c.mode).2 } :: cs) := by
  obtain ⟨fn, kind, mode, d⟩ := c
  unfold recoverD recV
  simp only
  split
  · rename_i p h
    split at h
    · rename_i e; simp at h; subst h; rfl
    · cases h
  · rename_i h
    split at h
    · cases h
    · rename_i hne
      split
      · rename_i e
        exact (hne _ _ rfl).elim
      · rfl
theorem wpS_rec {id : Nat} {ops : Array Oper} {o : Oper} {r : List Oper} {c : Go.Call} (ho : ops.toList = o :: r) (hg : o.guard = none) (hop : o.op = .call c) (hcal : c.callee = .builtin .recover) {Q : Exit → Act → List Frame → World → Prop} {a : Act} {c0 : Frame} {cs : List Frame} {w : World}
    (h : wpList P ops (fun e a' w' => Q e a' ({ c0 with mode := (recV c0.mode).2 } :: cs) w') r (a.put o.dst (recV c0.mode).1) w) : (Code.region id ops false).wpS P Q a (c0 :: cs) w := by
  intro b k hb hro
  have hsz : ops.size = r.length + 1 := by rw [← Array.length_toList, ho]; rfl
  have h0 : ops[0]? = some o := by rw [← Array.getElem?_toList, ho]; rfl
  have hlist : List.range ops.size = 0 :: List.range' 1 r.length := by
    rw [hsz, List.range_eq_range', List.range'_succ]
  have hs0 : step P (lone (b.at a (.code (.region id ops false) :: k)) (c0 :: cs) w) = .next (lone (b.at a (.inRegion ops (0 :: List.range' 1 r.length) :: k)) (c0 :: cs) w) := by
    rw [← hlist]; exact step_region
  have hw : Region.wanted o (yielded ops a.tmps) = true := by simp [Region.wanted, hg]
  have hrun : (execOp a.eval o).run P w = .ok .recover w := by
    unfold execOp
    rw [hop]
    simp only [resolve, hcal, Sem.run_bind, Sem.run_pure, Result.andThen_ok, invoke, builtin]
  have hgg := stepG_op (P := P) (b := b) (k := k) (cs := c0 :: cs) (w := w) (rest := List.range' 1 r.length) h0 hw
  have hfin : ∀ v, (b.at a (.inRegion ops (0 :: List.range' 1 r.length) :: k)).finish v = b.at (a.put o.dst v) (.inRegion ops (List.range' 1 r.length) :: k) := by
    intro v; rw [Frame.finish_at, h0]; rfl
  have hk : (b.at a (.inRegion ops (0 :: List.range' 1 r.length) :: k)).kind = .deferred := hb
  have htr := tryRecover_deferred hk (c0 :: cs)
  have hre := recoverD_eq c0 cs
  have hs1 : step P (lone (b.at a (.inRegion ops (0 :: List.range' 1 r.length) :: k)) (c0 :: cs) w) = .next (lone (b.at (a.put o.dst (recV c0.mode).1) (.inRegion ops (List.range' 1 r.length) :: k)) ({ c0 with mode := (recV c0.mode).2 } :: cs) w) := by
    refine step_lone_go ?_
    rw [hgg, ← hfin]
    simp only [Frame.at] at htr ⊢
    cases hrec : recoverD (c0 :: cs) with
    | some p =>
      rw [hrec] at hre
      simp only at hre
      subst hre
      simp [stepG.apply, hrun, htr, hrec]
    | none =>
      rw [hrec] at hre
      simp only at hre
      rw [Prod.mk.injEq] at hre
      rw [← hre.1, ← hre.2]
      simp [stepG.apply, hrun, htr, hrec]
  have hwp : wpOps P ops (fun e a' w' => Q e a' ({ c0 with mode := (recV c0.mode).2 } :: cs) w') (List.range' 1 r.length) (a.put o.dst (recV c0.mode).1) w := by
    rw [wpOps_eq_wpList r 1 (fun j => by rw [← Array.getElem?_toList, ho, Nat.add_comm]; rfl)]
    exact h
  obtain ⟨e, a', w', q, harr⟩ := wp_ops _ _ _ hwp b k ({ c0 with mode := (recV c0.mode).2 } :: cs)
  exact ⟨e, a', _, w', q, .of_steps (.head hs0 (.one hs1)) harr⟩
def UMode (F : Nat → Prop) (w : World) (bs : List BI) : Option CV → FrameMode → Prop
  | none, u => u = .returning
  | some y, u => ∃ v, u = .panicking [{ v, recovered := false }] ∧ y.Rel F w bs v
theorem UMode.rec {F w bs pan u} (h : UMode F w bs pan u) : settle (recV u).2 = .returning ∧ (recC pan).Rel F w bs (recV u).1 ∧ u ≠ .run := by
  cases pan with
  | none => cases h; exact ⟨rfl, .nili, by simp⟩
  | some y => obtain ⟨v, rfl, hv⟩ := h; exact ⟨rfl, hv, by simp⟩
theorem evDef_ok {H : Hd} (hH : HdOk P H) {X : HdP} (hrx : RxOk P X.rx) (hnc : NcsOk P X.nc) {call : CallH} (hcall : CallOk P call) {callP : CallP} (hcallP : CallPOk P callP) {g : Nat} {cap : List CV} {pan : Option CV} {mem : Mem} {res : Option CV} {mem2 : Mem}
    (h : (evDef P H X call callP g cap pan mem).sel = some (res, mem2)) {F : Nat → Prop} {w : World} {bs : List BI} (hm : MemRel P F w bs mem) {vs : List Value} (hcap : All2 (CV.Rel F w bs) cap vs) {u : FrameMode} (hu : UMode F w bs pan u) :
    callable P g = true ∧ CallsD P g vs.toArray u w (fun e u' w' => ∃ v, e = .returned v ∧ settle u' = .returning ∧ res = none ∧ ∃ F' bs', Ext bs.length F w bs F' w' bs' ∧ MemRel P F' w' bs' mem2) := by
  obtain ⟨hset, hrv, hrun⟩ := hu.rec
  unfold evDef at h
  split at h
  rotate_left
  · simp [Tree.sel] at h
  rename_i fn hfn
  split at h
  rotate_left
  · simp [Tree.sel] at h
  rename_i c hb
  split at h
  rotate_left
  · simp [Tree.sel] at h
  rename_i o' r x hrh
  split at h
  rotate_left
  · simp [Tree.sel] at h
  rename_i hle
  rw [Bool.and_eq_true] at hle
  obtain ⟨hle, hcb⟩ := hle
  refine ⟨hcb, ?_⟩
  rw [nth_eq, Array.getElem?_toList] at hfn
  obtain ⟨y, h1, h2⟩ := sel_bind h
  refine callsD_of_wpS hfn hb fun c0 cs hc0 => ?_
  unfold recHead at hrh
  split at hrh
  rotate_left
  · simp at hrh
  rename_i id ops x0
  split at hrh
  rotate_left
  · simp at hrh
  rename_i o r0 hops
  split at hrh
  rotate_left
  · simp at hrh
  rename_i c1 hg hop
  split at hrh
  rotate_left
  · simp at hrh
  rename_i hcal
  simp only [Option.some.injEq, Prod.mk.injEq] at hrh
  obtain ⟨rfl, rfl, rfl⟩ := hrh
  have hargs : All2 (A1.Rel F w bs) (cap.map .c) vs := hcap.map_left fun _ _ h => h
  have hst := init_ok (nt := fn.ntmps) hm hargs (by simpa using hle)
  simp only [List.length_map, List.map_map] at hst
  subst hc0
  have hst1 := StRel.put (dst := o.dst) (ks := []) (v := .one (.c (recC pan))) (x := (recV c0.mode).1) hst (fun _ hp => by cases hp) (fun _ => hrv) (fun h => (h KH_nil).elim)
  refine wpS_seq (wpS_rec hops hg hop hcal ?_)
  rw [← hops] at h1
  refine evOpsP_ok hH.pc hrx hcall hcallP (x := y.1) (s' := y.2) _ _ h1 (hst1.toP .nil) fun F1 w1 bs1 a1 e1 he1 hs1 hx1 => ?_
  obtain ⟨xp, s1⟩ := y
  cases xp with
  | normal =>
    cases hx1
    simp only at h2
    obtain ⟨z, h3, h4⟩ := sel_bind h2
    refine wpS_of_wp (evCodeP_ok hH.pc hrx hnc hcall hcallP g mem.length _ 0 _ h3 (fun i b hh hi hk => hH.lh g fn _ i b hh hfn hb (by simpa [nthLoop, nloops] using hi) (by simpa using hk)) (by have := he1.le; have := hm.len; omega) hs1.unkey fun F2 w2 bs2 a2 e2 he2 hs2 hx2 => ?_)
    obtain ⟨zx, zs, zd⟩ := z
    have fin : zd = [] → (evResults P zs fn.results.toList).isSome = true → res = none → mem2 = zs.mem → a2.defers = [] ∧ ∃ u', ({ c0 with mode := (recV c0.mode).2 } :: cs : List Frame) = { c0 with mode := u' } :: cs ∧ ∃ v, (results fn a2.tmps).run P w2 = .ok v w2 ∧
        ∃ v', Ending.returned v = Ending.returned v' ∧ settle u' = .returning ∧ res = none ∧ ∃ F' bs', Ext bs.length F w bs F' w2 bs' ∧ MemRel P F' w2 bs' mem2 := by
      intro hz hr hres hmm
      subst hz
      have hd0 : a2.defers = [] := by
        have := hs2.ds
        cases hD : a2.defers with
        | nil => rfl
        | cons d r => rw [hD] at this; cases this
      obtain ⟨l, hl⟩ := Option.isSome_iff_exists.1 hr
      obtain ⟨v, _, hrun⟩ := run_results hs2.st hl
      refine ⟨hd0, _, rfl, v, hrun, v, rfl, hset, hres, F2, bs2, ?_, hmm ▸ hs2.st.mem⟩
      have e3 := he1.trans he2 (Nat.le_of_eq hm.len)
      exact e3
    cases zx with
    | normal =>
      cases hx2
      simp only at h4
      split at h4
      · rename_i hz; cases hz
        split at h4
        · rename_i hr
          simp only [Tree.sel, Option.some.injEq, Prod.mk.injEq] at h4
          exact fin rfl hr h4.1.symm h4.2.symm
        · simp [Tree.sel] at h4
      · rename_i hz; cases hz
      · simp [Tree.sel] at h4
    | ret =>
      cases hx2
      simp only at h4
      split at h4
      · rename_i hz; cases hz
      · rename_i hz; cases hz
        split at h4
        · rename_i hr
          simp only [Tree.sel, Option.some.injEq, Prod.mk.injEq] at h4
          exact fin rfl hr h4.1.symm h4.2.symm
        · simp [Tree.sel] at h4
      · simp [Tree.sel] at h4
    | exit k => simp [Tree.sel] at h4
    | pan q => simp [Tree.sel] at h4
  | exit k => simp [Tree.sel] at h2
  | ret => simp [Tree.sel] at h2
  | pan q => simp [Tree.sel] at h2
theorem invoke_func {g : Nat} {vs : List Value} (hc : callable P g = true) (w : World) : (invoke (.fn (.func g) vs.toArray) #[]).run P w = .ok (.enter g vs.toArray) w := by
  unfold callable at hc
  split at hc
  · rename_i fn hfn
    simp only [Bool.and_eq_true, bne_iff_ne, ne_eq] at hc
    obtain ⟨⟨hn, hb⟩, _⟩ := hc
    rw [nth_eq] at hfn
    simp only [Array.getElem?_toList] at hfn
    have hb' : fn.body.isNone = false := by cases hh : fn.body <;> simp [hh] at hb ⊢
    have hn' : (fn.name == "runtime.NumGoroutine") = false := by simpa using hn
    simp only [invoke, callFunc, Sem.run_bind, run_program, Result.andThen_ok, hfn, hn', Bool.false_eq_true, if_false, hb', Sem.run_pure]
    congr 2
    apply Array.ext'
    simp
  · simp at hc
theorem leaveP_ok {H : Hd} (hH : HdOk P H) {X : HdP} (hrx : RxOk P X.rx) (hnc : NcsOk P X.nc) {call : CallH} (hcall : CallOk P call) {callP : CallP} (hcallP : CallPOk P callP) {fn : Func} {s : St} : ∀ (dl : List CV) (pan : Option CV) (mem : Mem) {out : Out} {mem2 : Mem} {D : List Deferred} {D0 : List Deferred} {F : Nat → Prop} {w : World} {bs : List BI} {a : Act} {u : FrameMode},
    (leaveP P H X call callP fn s dl pan mem).sel = some (out, mem2) → StRel P D0 F w bs { s with mem := mem } a → DsRel F w bs dl D → UMode F w bs pan u →
    Leaves P fn a.tmps (fun e w' => ∃ F' bs', Ext bs.length F w bs F' w' bs' ∧ MemRel P F' w' bs' mem2 ∧ out.Ends F' w' bs' e) D u w
  | [], none, mem, out, mem2, D, D0, F, w, bs, a, u, h, hs, hd, hu => by
    cases hd
    cases hu
    simp only [leaveP] at h
    split at h
    · rename_i l hl
      simp only [Tree.sel, Option.some.injEq, Prod.mk.injEq] at h
      obtain ⟨rfl, rfl⟩ := h
      obtain ⟨v, hv, hrun⟩ := run_results hs hl
      exact ⟨v, hrun, F, bs, Ext.refl, hs.mem, v, rfl, hv⟩
    · simp [Tree.sel] at h
  | [], some y, mem, out, mem2, D, D0, F, w, bs, a, u, h, hs, hd, hu => by
    cases hd
    obtain ⟨v, rfl, hv⟩ := hu
    simp only [leaveP, Tree.sel, Option.some.injEq, Prod.mk.injEq] at h
    obtain ⟨rfl, rfl⟩ := h
    exact ⟨F, bs, Ext.refl, hs.mem, v, rfl, hv⟩
  | d :: dl, pan, mem, out, mem2, D, D0, F, w, bs, a, u, h, hs, hd, hu => by
    cases hd with
    | cons hd1 hdr =>
      rename_i d0 D1
      obtain ⟨g, cap, vs, rfl, rfl, hcap⟩ := hd1
      simp only [leaveP] at h
      obtain ⟨⟨res, m1⟩, h1, h2⟩ := sel_bind h
      obtain ⟨hcb, hcd⟩ := evDef_ok hH hrx hnc hcall hcallP h1 hs.mem hcap hu
      refine leaves_cons hu.rec.2.2 (invoke_func hcb w) (hcd.mono fun e u' w' ⟨v, he, hset, hres, F', bs', hext, hm'⟩ => ?_)
      subst he
      subst hres
      simp only
      rw [hset]
      have hs' : StRel P D0 F' w' bs' { s with mem := m1 } a := hs.ext hext hm'
      have := leaveP_ok hH hrx hnc hcall hcallP dl none m1 h2 hs' (DsRel.grow hext.grow hdr) rfl
      refine leaves_mono (fun e w2 ⟨F2, bs2, he2, hm2, hr2⟩ => ⟨F2, bs2, hext.trans he2 hext.le, hm2, hr2⟩) _ _ _ this
 where
  leaves_mono {fn : Func} {tmps : Array Value} {R R' : Ending → World → Prop} (hr : ∀ e w, R e w → R' e w) : ∀ (D : List Deferred) (u : FrameMode) (w : World), Leaves P fn tmps R D u w → Leaves P fn tmps R' D u w
    | [], .returning, _, h => let ⟨v, h1, h2⟩ := h; ⟨v, h1, hr _ _ h2⟩
    | [], .panicking _, _, h => hr _ _ h
    | [], .run, _, h => h
    | d :: ds, u, w, h => by
      obtain ⟨h1, fv, cap, f, args, h2, h3, h4⟩ := h
      refine ⟨h1, fv, cap, f, args, h2, h3, h4.mono fun e u' w' he => ?_⟩
      cases e with
      | returned v => exact leaves_mono hr ds _ _ he
      | panicked c => exact leaves_mono hr ds _ _ he
      | outgrown => exact hr _ _ he
def PxOk (P : Program) (px : List (Nat × (List A1 → Mem → Tree (Out × Mem)))) : Prop :=
  ∀ f G, lookPx px f = some G → ∀ args mem r mem', (G args mem).sel = some (r, mem') → ∀ F w bs vs, MemRel P F w bs mem → All2 (A1.Rel F w bs) args vs →
    Calls P f vs.toArray w (fun e w' => ∃ F' bs', Ext bs.length F w bs F' w' bs' ∧ MemRel P F' w' bs' mem' ∧ r.Ends F' w' bs' e)
structure XOk (P : Program) (X : HdP) : Prop where
  px : PxOk P X.px
  rx : RxOk P X.rx
  nc : NcsOk P X.nc
theorem evFnP_ok {H : Hd} (hH : HdOk P H) {X : HdP} (hX : XOk P X) : ∀ n, CallPOk P (evFnP P H X n)
  | 0 => by intro f args mem r mem' h; simp [evFnP, Tree.sel] at h
  | n + 1 => by
    intro f args mem r mem' h F w bs vs hm hargs
    simp only [evFnP] at h
    split at h
    · rename_i G hG
      exact hX.px f G hG args mem r mem' h F w bs vs hm hargs
    · split at h
      rotate_left
      · simp [Tree.sel] at h
      rename_i fn hfn
      split at h
      rotate_left
      · simp [Tree.sel] at h
      rename_i c hb
      split at h
      rotate_left
      · simp [Tree.sel] at h
      rename_i hle
      obtain ⟨⟨x, s1⟩, h1, h2⟩ := sel_bind h
      rw [nth_eq, Array.getElem?_toList] at hfn
      have hst := init_ok (nt := fn.ntmps) hm hargs (by simpa using hle)
      refine calls_of_wp_defers hfn hb (evCodeP_ok hH.pc hX.rx hX.nc (evFn_ok hH n) (evFnP_ok hH hX n) f mem.length c 0 _ h1 (fun i b hh hi hk => hH.lh f fn c i b hh hfn hb hi (by simpa using hk)) (Nat.le_of_eq hm.len.symm) (hst.toP .nil) fun F' w' bs' a' e he hs' hx => ?_)
      have hext : Ext bs.length F w bs F' w' bs' := he.weak (Nat.le_of_eq hm.len)
      have key : ∀ (pan : Option CV) (u : FrameMode), (leaveP P H X (evFn P H n) (evFnP P H X n) fn s1.s s1.dl pan s1.s.mem).sel = some (r, mem') → UMode F' w' bs' pan u → Leaves P fn a'.tmps (fun e w' => ∃ F' bs', Ext bs.length F w bs F' w' bs' ∧ MemRel P F' w' bs' mem' ∧ r.Ends F' w' bs' e) a'.defers u w' := by
        intro pan u hl hu
        have := leaveP_ok hH hX.rx hX.nc (evFn_ok hH n) (evFnP_ok hH hX n) s1.dl pan s1.s.mem hl hs'.st hs'.ds hu
        exact leaveP_ok.leaves_mono (fun e w2 ⟨F2, bs2, he2, hm2, hr2⟩ => ⟨F2, bs2, hext.trans he2 hext.le, hm2, hr2⟩) _ _ _ this
      cases x with
      | normal => cases hx; exact key none .returning h2 rfl
      | ret => cases hx; exact key none .returning h2 rfl
      | pan y => obtain ⟨v, rfl, hv⟩ := hx; exact key (some y) _ h2 ⟨v, rfl, hv⟩
      | exit k => simp [Tree.sel] at h2
theorem XOk.nil : XOk P ⟨[], [], []⟩ := ⟨fun f G h => by simp [lookPx] at h, fun f G h => by simp [lookRx] at h, fun f G h => by simp [lookNc] at h⟩
theorem XOk.ncCons {px rx nc} {f : Nat} {G : List A1 → Tree (AV × Mem)} (h : XOk P ⟨px, rx, nc⟩) (h1 : NcOne P f G) : XOk P ⟨px, rx, (f, G) :: nc⟩ := by
  refine ⟨h.px, h.rx, fun g G' hl => ?_⟩
  simp only [lookNc] at hl
  split at hl
  · rename_i e
    simp at hl; subst hl
    rw [← eq_of_beq e]; exact h1
  · exact h.nc g G' hl
theorem XOk.rxCons {px rx nc} {f : Nat} {G : List A1 → List A1 → Tree Out} (h : XOk P ⟨px, rx, nc⟩) (h1 : RxOne P f G) : XOk P ⟨px, (f, G) :: rx, nc⟩ := by
  refine ⟨h.px, fun g G' hl => ?_, h.nc⟩
  simp only [lookRx] at hl
  split at hl
  · rename_i e
    simp at hl; subst hl
    rw [← eq_of_beq e]; exact h1
  · exact h.rx g G' hl
def PxOne (P : Program) (f : Nat) (G : List A1 → Mem → Tree (Out × Mem)) : Prop :=
  ∀ args mem r mem', (G args mem).sel = some (r, mem') → ∀ F w bs vs, MemRel P F w bs mem → All2 (A1.Rel F w bs) args vs →
    Calls P f vs.toArray w (fun e w' => ∃ F' bs', Ext bs.length F w bs F' w' bs' ∧ MemRel P F' w' bs' mem' ∧ r.Ends F' w' bs' e)
theorem XOk.pxCons {px rx nc} {f : Nat} {G : List A1 → Mem → Tree (Out × Mem)} (h : XOk P ⟨px, rx, nc⟩) (h1 : PxOne P f G) : XOk P ⟨(f, G) :: px, rx, nc⟩ := by
  refine ⟨fun g G' hl => ?_, h.rx, h.nc⟩
  simp only [lookPx] at hl
  split at hl
  · rename_i e
    simp at hl; subst hl
    rw [← eq_of_beq e]; exact h1
  · exact h.px g G' hl
theorem HdOk.pF {pc hc lh mc} (h : HdOk P ⟨pc, hc, lh, mc⟩) (f : Nat) : HdOk P ⟨Sx.pF f :: pc, hc, lh, mc⟩ := h.tcCons (fun _ _ h => by simp [Tree.sel] at h)
def hcTreeP (P : Program) (H : Hd) (X : HdP) (n f : Nat) (args : List A1) : Tree AV := (evFnP P H X n f args []).bind fun y => match y.1 with
  | .ret a => Tree.ofOpt (outA y.2 a)
  | .pan _ => .fail
theorem ucOneP_of_all {H : Hd} (hH : HdOk P H) {X : HdP} (hX : XOk P X) (n f : Nat) {G : List A1 → Option (Bool × AV)}
    (h : ∀ args r, G args = some (true, r) → (hcTreeP P H X n f args).All (fun x => leA x r)) : UcOne P f (nG G) := by
  intro args r hG hcl F w vs hargs
  have hG := nG_sel hG
  obtain ⟨x, hsel, hle⟩ := all_sel (h args r hG)
  obtain ⟨⟨r', m⟩, h1, h2⟩ := sel_bind hsel
  cases r' with
  | pan _ => simp [Tree.sel] at h2
  | ret a =>
    have ho : outA m a = some x := by
      cases hx : outA m a with
      | none => simp only at h2; rw [hx] at h2; simp [Tree.ofOpt, Tree.sel] at h2
      | some y => simp only at h2; rw [hx] at h2; simpa [Tree.ofOpt, Tree.sel] using h2
    have hargs1 : All2 (A1.Rel (fun p => F p ∧ p < w.heap.size) w []) args vs := hargs.imp fun _ _ hx => A1.Rel.grow (bs := []) (bs' := []) ⟨Nat.le_refl _, fun _ _ h => h.1, fun _ _ _ => rfl, fun _ _ h => h⟩ hx
    refine (evFnP_ok hH hX n f args [] _ m h1 _ w [] vs MemRel.nil hargs1).mono fun e w2 ⟨F', bs', hext, hm, u, he, hu⟩ => ?_
    refine ⟨u, he, hext.below, hle _ _ _ (AV.Rel.grow (bs := []) (bs' := []) ⟨Nat.le_refl _, fun p _ hp => ?_, fun _ _ _ => rfl, fun _ _ h => h⟩ (outA_ok hm hu ho))⟩
    refine ⟨hext.F2 p hp hp.2 (by simp), fun y hy e => ?_⟩
    rcases hext.mem y hy with ⟨z, hz, _⟩ | hs
    · cases hz
    · have := hp.2; omega
theorem ucOneP_of_tree {H : Hd} (hH : HdOk P H) {X : HdP} (hX : XOk P X) (n f : Nat) {G : List A1 → Option (Bool × AV)}
    (h : ∀ args r, G args = some (true, r) → ∃ u, hcTreeP P H X n f args = u ∧ u.All (fun z => leA z r)) : UcOne P f (nG G) :=
  ucOneP_of_all hH hX n f fun args r hG => by
    obtain ⟨u, h2, h3⟩ := h args r hG
    exact h2 ▸ h3
def shO (k : Nat) : Out → Out
  | .ret a => .ret (shA k a)
  | .pan c => .pan (shC k c)
theorem shO_ok {F : Nat → Prop} {w : World} {bs bs' : List BI} {x : Out} {e : Ending} (h : x.Ends F w bs' e) : (shO bs.length x).Ends F w (bs ++ bs') e := by
  cases x with
  | ret a => obtain ⟨v, he, h⟩ := h; exact ⟨v, he, shA_ok h⟩
  | pan c => obtain ⟨v, he, h⟩ := h; exact ⟨v, he, shC_ok h⟩
theorem Out.Ends.grow {F F' bs bs' w w'} {x : Out} {e : Ending} (g : Grow F F' bs bs' w w') (h : x.Ends F w bs e) : x.Ends F' w' bs' e := by
  cases x with
  | ret a => obtain ⟨v, he, h⟩ := h; exact ⟨v, he, AV.Rel.grow g h⟩
  | pan c => obtain ⟨v, he, h⟩ := h; exact ⟨v, he, CV.Rel.grow g h⟩
def NcPOne (P : Program) (f : Nat) (G : List A1 → Tree (Out × Mem)) : Prop :=
  ∀ args r m, (G args).sel = some (r, m) → args.all closedA = true → ∀ F w vs, All2 (A1.Rel F w []) args vs →
    Calls P f vs.toArray w (fun e w2 => ∃ F' bs', Ext 0 F w [] F' w2 bs' ∧ MemRel P F' w2 bs' m ∧ r.Ends F' w2 bs' e)
def ncPG (G : List A1 → Tree (Out × Mem)) (args : List A1) (mem : Mem) : Tree (Out × Mem) :=
  let y := frz1s mem args
  if y.2.all closedA then (G y.2).bind fun z => .leaf (shO y.1.length z.1, y.1 ++ z.2.map (shE y.1.length)) else .fail
theorem NcPOne.px {f : Nat} {G : List A1 → Tree (Out × Mem)} (h : NcPOne P f G) : PxOne P f (ncPG G) := by
  intro args mem r mem' hs F w bs vs hm hargs
  unfold ncPG at hs
  simp only at hs
  split at hs
  · rename_i hcl
    obtain ⟨⟨r0, m0⟩, h1, h2⟩ := sel_bind hs
    simp only [Tree.sel, Option.some.injEq, Prod.mk.injEq] at h2
    obtain ⟨rfl, rfl⟩ := h2
    obtain ⟨F1, e1, m1, r1⟩ := frz1s_ok hm hargs
    have hvs' : All2 (A1.Rel F1 w []) (frz1s mem args).2 vs := by
      clear h1 hargs
      generalize (frz1s mem args).2 = l at r1 hcl
      induction r1 with
      | nil => exact .nil
      | cons ha _ ih =>
        simp only [List.all_cons, Bool.and_eq_true] at hcl
        exact .cons (ha.closed hcl.1) (ih hcl.2)
    refine (h _ _ _ h1 hcl F1 w vs hvs').mono fun e w2 ⟨F', bs', hx, hmm, hr⟩ => ?_
    have hlen : bs.length = (frz1s mem args).1.length := m1.len
    rw [← hlen]
    refine ⟨fun p => (p < w.heap.size ∧ F1 p) ∨ (w.heap.size ≤ p ∧ F' p), bs ++ bs', ?_, ?_, ?_⟩
    · have e2 : Ext bs.length F1 w bs (fun p => (p < w.heap.size ∧ F1 p) ∨ (w.heap.size ≤ p ∧ F' p)) w2 (bs ++ bs') :=
        ⟨hx.size, fun p hp h => h.elim (fun h => h.2) (fun h => by omega), fun p h hp _ => .inl ⟨hp, h⟩, fun p hp _ => hx.same p hp (.inr fun x hx => by cases hx), hx.os, hx.tape, hx.output, fun k x _ h => nth_append h, fun x hx' => by
          rcases List.mem_append.1 hx' with h | h
          · exact .inl ⟨x, h, rfl⟩
          · rcases hx.mem x h with ⟨y, hy, _⟩ | h
            · cases hy
            · exact .inr h⟩
      exact e1.trans e2 (Nat.le_refl _)
    · have hge : ∀ x ∈ bs', w.heap.size ≤ x.p := fun x h => by
        rcases hx.mem x h with ⟨y, hy, _⟩ | h
        · cases hy
        · exact h
      have hmA : MemRel P (fun p => (p < w.heap.size ∧ F1 p) ∨ (w.heap.size ≤ p ∧ F' p)) w2 bs (frz1s mem args).1 := by
        refine m1.move (F' := fun p => (p < w.heap.size ∧ F1 p) ∨ (w.heap.size ≤ p ∧ F' p)) ⟨hx.size, fun p hp h => h.elim (fun h => h.2) (fun h => by omega), fun p h hp _ => .inl ⟨hp, h⟩, fun p hp _ => hx.same p hp (.inr fun x hx => by cases hx), hx.os, hx.tape, hx.output, fun _ _ _ h => h, fun x h => .inl ⟨x, h, rfl⟩⟩ fun k x T cs hk hc hv => ?_
        have hl := m1.loc k x T cs hk hc hv
        exact ⟨.inl ⟨hl.2, hl.1⟩, hx.same _ hl.2 (.inr fun x hx => by cases hx)⟩
      have hmB : MemRel P (fun p => (p < w.heap.size ∧ F1 p) ∨ (w.heap.size ≤ p ∧ F' p)) w2 bs' m0 :=
        hmm.less (fun p h => h.elim (fun h => hx.F2 p h.2 h.1 (fun x hx => by cases hx)) (fun h => h.2)) fun x h hf => .inr ⟨hge x h, hf⟩
      refine hmA.join hmB fun k x T cs hk hc hv y hy e => ?_
      have hy' := hge y hy
      have := (m1.loc k x T cs hk hc hv).2
      omega
    · exact shO_ok (hr.grow ⟨Nat.le_refl _, fun p _ h => h.elim (fun h => hx.F2 p h.2 h.1 (fun x hx => by cases hx)) (fun h => h.2), fun _ _ _ => rfl, fun _ _ h => h⟩)
  · simp [Tree.sel] at hs
def WkO (x y : Out × Mem) : Prop := ∀ (P : Program) F w bs e, MemRel P F w bs x.2 → x.1.Ends F w bs e → ∃ F' bs', Ext 0 F w bs F' w bs' ∧ MemRel P F' w bs' y.2 ∧ y.1.Ends F' w bs' e
theorem WkO.refl {x : Out × Mem} : WkO x x := fun _ F _ bs _ hm he => ⟨F, bs, Ext.refl, hm, he⟩
theorem ncPOne_of_all {H : Hd} (hH : HdOk P H) {X : HdP} (hX : XOk P X) (n f : Nat) {G : List A1 → Tree (Out × Mem)}
    (h : ∀ args r m, (G args).sel = some (r, m) → (evFnP P H X n f args []).All (fun y => WkO y (r, m))) : NcPOne P f G := by
  intro args r m hG _ F w vs hargs
  obtain ⟨y, hsel, hw⟩ := all_sel (h args r m hG)
  refine (evFnP_ok hH hX n f args [] y.1 y.2 hsel F w [] vs MemRel.nil hargs).mono fun e w2 ⟨F', bs', hext, hm', he⟩ => ?_
  obtain ⟨F2, bs2, e2, m2, r2⟩ := hw P F' w2 bs' e hm' he
  exact ⟨F2, bs2, hext.trans e2 (Nat.le_refl _), m2, r2⟩
theorem ncPOne_of_tree {H : Hd} (hH : HdOk P H) {X : HdP} (hX : XOk P X) (n f : Nat) {G : List A1 → Tree (Out × Mem)}
    (h : ∀ args r m, (G args).sel = some (r, m) → ∃ u, evFnP P H X n f args [] = u ∧ u.All (fun y => WkO y (r, m))) : NcPOne P f G :=
  ncPOne_of_all hH hX n f fun args r m hG => by
    obtain ⟨u, h2, h3⟩ := h args r m hG
    exact h2 ▸ h3
theorem MemRel.row1 {F w bs T es n} {ρ σ : Val} (h : MemRel P F w bs [some (T, [.row false es n ρ])]) (he : ∀ i f s, i < n → nth es f = some s → cellOf s ((ρ.at i).at f) = cellOf s ((σ.at i).at f)) : MemRel P F w bs [some (T, [.row false es n σ])] := by
  have key : ∀ k T' cs, nth [some (T, [CV.row false es n σ])] k = some (some (T', cs)) → k = 0 ∧ T' = T ∧ cs = [.row false es n σ] := by
    intro k T' cs hk
    match k, hk with
    | 0, hk => simp [nth] at hk; exact ⟨rfl, hk.1.symm, hk.2.symm⟩
    | k + 1, hk => simp [nth] at hk
  have old : nth [some (T, [CV.row false es n ρ])] 0 = some (some (T, [CV.row false es n ρ])) := rfl
  refine ⟨h.len, fun k x T' cs hk hc hv => ?_, fun k k' x x' T1 cs1 T2 cs2 _ _ h3 h4 _ _ _ => ?_, fun k T' cs x hc hr _ => ?_, fun k T' fz es' n' ρ' x hc hk => ?_, fun k T' f i st cs x hc _ => by have := (key k T' _ hc).2.2; simp at this⟩
  · obtain ⟨rfl, rfl, rfl⟩ := key k T' cs hc
    exact h.loc 0 x T' _ hk old hv
  · rw [(key k T1 cs1 h3).1, (key k' T2 cs2 h4).1]
  · obtain ⟨rfl, rfl, rfl⟩ := key k T' cs hc
    simp [isRowL] at hr
  · obtain ⟨rfl, rfl, hcs⟩ := key k T' _ hc
    simp only [List.cons.injEq, CV.row.injEq, and_true] at hcs
    obtain ⟨rfl, rfl, rfl, rfl⟩ := hcs
    have := h.row 0 T' false _ _ ρ x old hk
    refine ⟨this.len, this.le, this.mx, fun h0 => ?_, this.frz⟩
    obtain ⟨arr, a1, a2, val, a3, a4⟩ := this.blk h0
    exact ⟨arr, a1, a2, val, a3, fun i f s hi hs => he i f s hi hs ▸ a4 i f s hi hs⟩
theorem WkO.row {mem : Mem} {b sz : Nat} {T : TypeId} {es : List Sh} {n : Nat} {ρ σ : Val} (hb : nth mem b = some (some (T, [.row false es n ρ]))) (he : ∀ i f s, i < n → nth es f = some s → cellOf s ((ρ.at i).at f) = cellOf s ((σ.at i).at f)) :
    WkO (.ret (.one (.c (.os b sz))), mem) (.ret (.one (.c (.os 0 sz))), [some (T, [.row false es n σ])]) := by
  intro P F w bs e hm hr
  obtain ⟨v, rfl, hv⟩ := hr
  have hbl : b < mem.length := nth_lt hb
  have hm1 := hm.ren (pm := [b]) rfl (fun x hx => by simp at hx; subst hx; exact hbl)
  have e1 : [b].map (renE [b] mem) = [some (T, [.row false es n ρ])] := by
    simp only [List.map_cons, List.map_nil, renE, hb, renC]
  rw [e1] at hm1
  refine ⟨F, renB [b] bs, ⟨Nat.le_refl _, fun _ _ h => h, fun p h _ _ => h, fun _ _ _ => rfl, rfl, rfl, rfl, fun k x hk _ => (by omega), fun x hx => ?_⟩, hm1.row1 he, v, rfl, ?_⟩
  · have : b < bs.length := by rw [hm.len]; exact hbl
    obtain ⟨y, hy⟩ : ∃ y, nth bs b = some y := ⟨bs[b], by rw [nth_eq]; exact List.getElem?_eq_getElem this⟩
    simp only [renB, List.map_cons, List.map_nil, List.mem_cons, List.not_mem_nil, or_false, hy] at hx
    subst hx
    exact .inl ⟨_, nth_mem hy, rfl⟩
  · have hv : CV.Rel F w bs (.os b sz) v := hv
    have := renC_ok (pm := [b]) hv
    show CV.Rel F w (renB [b] bs) (.os 0 sz) v
    simpa [renC, idx] using this
theorem MemRel.rowEq {F w bs mem} (h : MemRel P F w bs mem) {b : Nat} {T : TypeId} {fz : Bool} {es : List Sh} {n : Nat} {ρ σ : Val} (hb : nth mem b = some (some (T, [.row fz es n ρ])))
    (he : ∀ i f s, i < n → nth es f = some s → cellOf s ((ρ.at i).at f) = cellOf s ((σ.at i).at f)) : MemRel P F w bs (setN mem b (some (T, [.row fz es n σ]))) := by
  have key : ∀ k T' cs, nth (setN mem b (some (T, [CV.row fz es n σ]))) k = some (some (T', cs)) → (k = b ∧ T' = T ∧ cs = [.row fz es n σ]) ∨ (k ≠ b ∧ nth mem k = some (some (T', cs))) := by
    intro k T' cs hk
    rcases nth_setN hk with ⟨rfl, e⟩ | ⟨hne, hk⟩
    · simp at e; exact .inl ⟨rfl, e.1, e.2⟩
    · exact .inr ⟨hne, hk⟩
  have live : ∀ k T' cs, nth (setN mem b (some (T, [CV.row fz es n σ]))) k = some (some (T', cs)) → ∀ x : BI, liveL x cs → ∃ T1 cs1, nth mem k = some (some (T1, cs1)) ∧ liveL x cs1 ∧ T' = T1 := by
    intro k T' cs hk x hv
    rcases key k T' cs hk with ⟨rfl, rfl, rfl⟩ | ⟨hne, hk⟩
    · exact ⟨_, _, hb, hv, rfl⟩
    · exact ⟨_, _, hk, hv, rfl⟩
  refine ⟨by rw [setN_length]; exact h.len, fun k x T' cs hk hc hv => ?_, fun k k' x x' T1 cs1 T2 cs2 h1 h2 h3 h4 h5 h6 h7 => ?_, fun k T' cs x hc hr hk => ?_, fun k T' fz' es' n' ρ' x hc hk => ?_, fun k T' f i st cs x hc hk => ?_⟩
  · obtain ⟨T1, cs1, g1, g2, rfl⟩ := live k T' cs hc x hv
    exact h.loc k x _ cs1 hk g1 g2
  · obtain ⟨_, _, g1, g2, _⟩ := live k T1 cs1 h3 x h5
    obtain ⟨_, _, g3, g4, _⟩ := live k' T2 cs2 h4 x' h6
    exact h.inj k k' x x' _ _ _ _ h1 h2 g1 g3 g2 g4 h7
  · rcases key k T' cs hc with ⟨rfl, rfl, rfl⟩ | ⟨_, hk'⟩
    · simp [isRowL] at hr
    · exact h.cont k T' cs x hk' hr hk
  · rcases key k T' _ hc with ⟨rfl, rfl, hcs⟩ | ⟨_, hk'⟩
    · simp only [List.cons.injEq, CV.row.injEq, and_true] at hcs
      obtain ⟨rfl, rfl, rfl, rfl⟩ := hcs
      have := h.row k T' fz' _ _ ρ x hb hk
      refine ⟨this.len, this.le, this.mx, fun h0 => ?_, this.frz⟩
      obtain ⟨arr, a1, a2, val, a3, a4⟩ := this.blk h0
      exact ⟨arr, a1, a2, val, a3, fun i f s hi hs => he i f s hi hs ▸ a4 i f s hi hs⟩
    · exact h.row k T' fz' es' n' ρ' x hk' hk
  · rcases key k T' _ hc with ⟨_, _, hcs⟩ | ⟨_, hk'⟩
    · simp at hcs
    · exact h.lp k T' f i st cs x hk' hk
def StWk (s1 s2 : St) : Prop := ∀ (P : Program) D F w bs a, StRel P D F w bs s1 a → StRel P D F w bs s2 a
theorem StWk.refl {s : St} : StWk s s := fun _ _ _ _ _ _ h => h
theorem StWk.row {tmps : List Slot} {mem : Mem} {b : Nat} {T : TypeId} {fz : Bool} {es : List Sh} {n : Nat} {ρ σ : Val} (hb : nth mem b = some (some (T, [.row fz es n ρ])))
    (he : ∀ i f s, i < n → nth es f = some s → cellOf s ((ρ.at i).at f) = cellOf s ((σ.at i).at f)) : StWk ⟨tmps, mem⟩ ⟨tmps, setN mem b (some (T, [.row fz es n σ]))⟩ :=
  fun _ _ _ _ _ _ h => ⟨h.defers, h.len, h.slots, h.mem.rowEq hb he⟩
theorem LoopOk.wk {b : Code} {h h' : Nat → St → Tree (XE × St)} (hh : LoopOk P b h) (hw : ∀ K s x, (h' K s).sel = some x → ∃ s1, (h K s).sel = some (x.1, s1) ∧ StWk s1 x.2) : LoopOk P b h' := by
  intro K s x hx lr nn D F w bs a hK hs Q hQ
  obtain ⟨s1, h1, h2⟩ := hw K s x hx
  exact hh K s (x.1, s1) h1 lr nn D F w bs a hK hs Q fun F' w' bs' a' he hs' => hQ F' w' bs' a' he (h2 _ _ _ _ _ _ hs')
end Go.Sx
namespace Go.Sx
open Go Go.RowKit Classical
variable {P : Program}
theorem outT_mem {X : Type} {S : X → St} {y : XE × X} : ∀ {es : List XE}, y.1 ∈ es → (outT S y es).sel = some (y.1, S y.2)
  | [], h => by cases h
  | [e], h => by
    have h : y.1 = e := by simpa using h
    simp only [outT, Tree.sel, h]
    rw [eqXE_iff.2 rfl]; rfl
  | e :: e' :: r, h => by
    simp only [outT, Tree.sel]
    cases he : eqXE y.1 e
    · simp only [cond_false]
      refine outT_mem ?_
      rcases List.mem_cons.1 h with h | h
      · rw [eqXE_iff.2 h] at he; cases he
      · exact h
    · simp only [cond_true]
      rw [eqXE_iff.1 he]
noncomputable def lqT {V : Type} (S : V → St) (ok : Prop) (b : Bool) (e1 e0 : XE) (v1 v0 : V) : Tree (XE × St) := .need (dec ok) (.br b (.leaf (e1, S v1)) (.leaf (e0, S v0)))
noncomputable def lq1 {V : Type} (S : V → St) (ok : Prop) (e0 : XE) (v0 : V) : Tree (XE × St) := .need (dec ok) (.leaf (e0, S v0))
def lqH {C V : Type} (keep : List Nat) (k0 nt : Nat) (get : List (Nat × AV) → Mem → Option (C × V)) (T : C → V → Tree (XE × St)) (K : Nat) (s : St) : Tree (XE × St) :=
  if s.tmps.length == nt && Nat.ble K k0 then
    match s.gc keep k0 with
    | some s' => match getKept s' keep with
      | some l => match get l s'.mem with
        | some (c, v) => T c v
        | none => .fail
      | none => .fail
    | none => .fail
  else .fail
theorem lq_gen {H : Hd} (hH : HdOk P H) (d f i : Nat) {fn : Func} {c b : Code} (hf : P.funcs[f]? = some fn) (hc : fn.body = some c) (hb : nthLoop c i = some b) {C V : Type} (keep : List Nat) (k0 nt : Nat) (S : C → V → St) (TX : C → V → Tree (XE × V))
    (hT : ∀ c v, ((evCode P H (evFn P H d) f k0 (i + 1) (loopBody P f i) (S c v)).bind fun y => gcT keep k0 y) = (TX c v).bind fun y => .leaf (y.1, S c y.2))
    (get : List (Nat × AV) → Mem → Option (C × V)) (hget : ∀ l m c v, get l m = some (c, v) → mkS nt l m = S c v)
    (good : C → Prop) (μ : C → V → Nat) (st sb : C → Nat → V) (n : C → Nat) (bad : C → Nat → Bool) (e1 e0 : XE)
    (hsq : ∀ c, good c → Sq (TX c) (μ c) (st c) (sb c) (n c) (bad c) e1 e0) (T : C → V → Tree (XE × St))
    (hw : ∀ c v x, (T c v).sel = some x → good c ∧ v = st c 0 ∧ ∃ s1, (x.1, s1) = (bif anyB (bad c) (n c) then (e1, S c (sb c (firstB (bad c) (n c)))) else (e0, S c (st c (n c)))) ∧ StWk s1 x.2) :
    LoopOk P b (lqH keep k0 nt get T) := by
  have hl := loopOk_of hH d f i hf hc hb keep k0 nt S TX hT get (fun c v => dec (good c ∧ ∃ i, i ≤ n c ∧ v = st c i)) μ [e1, e0] (Q := fun c y => (∃ i, i < n c ∧ bad c i = true ∧ y = (e1, sb c i)) ∨ y = (e0, st c (n c))) hget
    (fun c v hv => by
      have hg := (dec_iff.1 hv).1
      exact (hsq c hg).rounds (inv := fun v => dec (good c ∧ ∃ i, i ≤ n c ∧ v = st c i) = true) (fun x => by rw [dec_iff]; exact ⟨fun h => h.2, fun k => ⟨hg, k⟩⟩) v hv)
  refine hl.wk fun K s x hx => ?_
  unfold lqH at hx
  unfold loopH
  split at hx
  · rename_i hlen
    rw [if_pos hlen]
    cases hg : s.gc keep k0 with
    | none => rw [hg] at hx; simp [Tree.sel] at hx
    | some s' =>
      rw [hg] at hx
      simp only at hx ⊢
      cases hl : getKept s' keep with
      | none => rw [hl] at hx; simp [Tree.sel] at hx
      | some l =>
        rw [hl] at hx
        simp only at hx ⊢
        cases hgt : get l s'.mem with
        | none => rw [hgt] at hx; simp [Tree.sel] at hx
        | some p =>
          obtain ⟨cc, v⟩ := p
          rw [hgt] at hx
          simp only at hx ⊢
          obtain ⟨hgood, rfl, s1, h1, h2⟩ := hw cc v x hx
          have hfin := (hsq cc hgood).fin0
          refine ⟨s1, ?_, h2⟩
          simp only [Tree.sel, dec_iff.2 (show good cc ∧ ∃ i, i ≤ n cc ∧ st cc 0 = st cc i from ⟨hgood, 0, Nat.zero_le _, rfl⟩), cond_true]
          rw [hfin]
          cases hany : anyB (bad cc) (n cc)
          · rw [hany] at h1
            simp only [cond_false, Prod.mk.injEq] at h1 ⊢
            rw [outT_mem (by simp), h1.1, h1.2]
          · rw [hany] at h1
            simp only [cond_true, Prod.mk.injEq] at h1 ⊢
            rw [outT_mem (by simp), h1.1, h1.2]
  · simp [Tree.sel] at hx
theorem lq_ok {H : Hd} (hH : HdOk P H) (d f i : Nat) {fn : Func} {c b : Code} (hf : P.funcs[f]? = some fn) (hc : fn.body = some c) (hb : nthLoop c i = some b) {C V : Type} (keep : List Nat) (k0 nt : Nat) (S : C → V → St) (TX : C → V → Tree (XE × V))
    (hT : ∀ c v, ((evCode P H (evFn P H d) f k0 (i + 1) (loopBody P f i) (S c v)).bind fun y => gcT keep k0 y) = (TX c v).bind fun y => .leaf (y.1, S c y.2))
    (get : List (Nat × AV) → Mem → Option (C × V)) (hget : ∀ l m c v, get l m = some (c, v) → mkS nt l m = S c v)
    (good : C → Prop) (μ : C → V → Nat) (st sb : C → Nat → V) (n : C → Nat) (bad : C → Nat → Bool) (e1 e0 : XE)
    (hsq : ∀ c, good c → Sq (TX c) (μ c) (st c) (sb c) (n c) (bad c) e1 e0) (v1 v0 : C → V)
    (h1 : ∀ c, good c → anyB (bad c) (n c) = true → StWk (S c (sb c (firstB (bad c) (n c)))) (S c (v1 c))) (h0 : ∀ c, good c → anyB (bad c) (n c) = false → StWk (S c (st c (n c))) (S c (v0 c))) :
    LoopOk P b (lqH keep k0 nt get fun c v => lqT (S c) (good c ∧ v = st c 0) (anyB (bad c) (n c)) e1 e0 (v1 c) (v0 c)) :=
  lq_gen hH d f i hf hc hb keep k0 nt S TX hT get hget good μ st sb n bad e1 e0 hsq _ fun c v x hx => by
    unfold lqT at hx
    simp only [Tree.sel] at hx
    cases hd : dec (good c ∧ v = st c 0)
    · rw [hd] at hx; simp at hx
    · rw [hd] at hx
      obtain ⟨hg, hv⟩ := dec_iff.1 hd
      refine ⟨hg, hv, ?_⟩
      cases hany : anyB (bad c) (n c)
      · rw [hany] at hx
        simp only [cond_true, cond_false, Option.some.injEq] at hx
        subst hx
        exact ⟨_, rfl, h0 c hg hany⟩
      · rw [hany] at hx
        simp only [cond_true, Option.some.injEq] at hx
        subst hx
        exact ⟨_, rfl, h1 c hg hany⟩
theorem lq1_ok {H : Hd} (hH : HdOk P H) (d f i : Nat) {fn : Func} {c b : Code} (hf : P.funcs[f]? = some fn) (hc : fn.body = some c) (hb : nthLoop c i = some b) {C V : Type} (keep : List Nat) (k0 nt : Nat) (S : C → V → St) (TX : C → V → Tree (XE × V))
    (hT : ∀ c v, ((evCode P H (evFn P H d) f k0 (i + 1) (loopBody P f i) (S c v)).bind fun y => gcT keep k0 y) = (TX c v).bind fun y => .leaf (y.1, S c y.2))
    (get : List (Nat × AV) → Mem → Option (C × V)) (hget : ∀ l m c v, get l m = some (c, v) → mkS nt l m = S c v)
    (good : C → Prop) (μ : C → V → Nat) (st : C → Nat → V) (n : C → Nat) (e0 : XE)
    (hsq : ∀ c, good c → Sq (TX c) (μ c) (st c) (st c) (n c) (fun _ => false) .ret e0) (v0 : C → V)
    (h0 : ∀ c, good c → StWk (S c (st c (n c))) (S c (v0 c))) :
    LoopOk P b (lqH keep k0 nt get fun c v => lq1 (S c) (good c ∧ v = st c 0) e0 (v0 c)) :=
  lq_gen hH d f i hf hc hb keep k0 nt S TX hT get hget good μ st st n (fun _ _ => false) .ret e0 hsq _ fun c v x hx => by
    unfold lq1 at hx
    simp only [Tree.sel] at hx
    cases hd : dec (good c ∧ v = st c 0)
    · rw [hd] at hx; simp at hx
    · rw [hd] at hx
      obtain ⟨hg, hv⟩ := dec_iff.1 hd
      simp only [cond_true, Option.some.injEq] at hx
      subst hx
      have hno : anyB (fun _ => false) (n c) = false := anyB_none fun _ _ => rfl
      exact ⟨hg, hv, _, by rw [hno]; rfl, h0 c hg⟩
end Go.Sx
namespace Go.Sx
open Go Go.RowKit
variable {P : Program}
theorem MemRel.alone {F w bs mem} (hm : MemRel P F w bs mem) {b : Nat} {T : TypeId} {fz : Bool} {es : List Sh} {n : Nat} {ρ : Val} (hb : nth mem b = some (some (T, [.row fz es n ρ]))) {x : BI} (hx : nth bs b = some x) :
    MemRel P (fun p => F p ∧ p ≠ x.p) w [x] [some (T, [.row true es n ρ])] := by
  have key : ∀ k T' cs, nth [some (T, [CV.row true es n ρ])] k = some (some (T', cs)) → k = 0 ∧ T' = T ∧ cs = [.row true es n ρ] := by
    intro k T' cs hk
    match k, hk with
    | 0, hk => simp [nth] at hk; exact ⟨rfl, hk.1.symm, hk.2.symm⟩
    | k + 1, hk => simp [nth] at hk
  have hr := hm.row b T fz es n ρ x hb hx
  refine ⟨rfl, fun k y T' cs hk hc hv => ?_, fun k k' y y' T1 cs1 T2 cs2 _ _ h3 h4 _ _ _ => ?_, fun k T' cs y hc hrr _ => ?_, fun k T' fz' es' n' ρ' y hc hk => ?_, fun k T' f i st cs y hc _ => by have := (key k T' _ hc).2.2; simp at this⟩
  · obtain ⟨rfl, rfl, rfl⟩ := key k T' cs hc
    exact (by cases hv.1)
  · rw [(key k T1 cs1 h3).1, (key k' T2 cs2 h4).1]
  · obtain ⟨rfl, rfl, rfl⟩ := key k T' cs hc
    simp [isRowL] at hrr
  · obtain ⟨rfl, rfl, hcs⟩ := key k T' _ hc
    simp only [List.cons.injEq, CV.row.injEq, and_true] at hcs
    obtain ⟨rfl, rfl, rfl, rfl⟩ := hcs
    simp only [nth, Option.some.injEq] at hk
    subst hk
    refine ⟨hr.len, hr.le, hr.mx, fun h0 => ?_, fun h0 _ => ⟨fun h => h.2 rfl, ?_⟩⟩
    · obtain ⟨arr, a1, a2, val, a3, a4⟩ := hr.blk h0
      exact ⟨arr, a1, a2, val, a3, fun i f s hi hs => (a4 i f s hi hs).grow ⟨Nat.le_refl _, fun p _ h => h.1, fun _ _ _ => rfl, fun _ _ h => h⟩⟩
    · obtain ⟨arr, a1, _⟩ := hr.blk h0
      rcases Nat.lt_or_ge x.p w.heap.size with h | h
      · exact h
      · rw [Array.getElem?_eq_none h] at a1; cases a1
theorem rx_calls {H : Hd} (hH : HdOk P H) {X : HdP} (hX : XOk P X) (k f : Nat) {F w bs mem} (hm : MemRel P F w bs mem) {b sz : Nat} {T : TypeId} {fz : Bool} {es : List Sh} {n : Nat} {ρ : Val} (hb : nth mem b = some (some (T, [.row fz es n ρ])))
    {rest : List A1} (hrest : rest.all closedA = true) {v0 : Value} {vs : List Value} (hv : CV.Rel F w bs (.os b sz) v0) (hvs : All2 (A1.Rel F w bs) rest vs) {r : Out} {m : Mem}
    (h : (evFnP P H X k f (.c (.os 0 sz) :: rest) [some (T, [.row true es n ρ])]).sel = some (r, m)) :
    Calls P f (v0 :: vs).toArray w (fun e w' => Below w.heap.size w w' ∧ ∃ F' bs' x, nth bs b = some x ∧ x.n = n ∧ nth bs' 0 = some x ∧ r.Ends F' w' bs' e) := by
  cases hv with
  | os hx hbase =>
    rename_i x base
    have hm1 := hm.alone hb hx
    have hn : x.n = n := (hm.row b T fz es n ρ x hb hx).len
    have g : Grow F (fun p => F p ∧ p ≠ x.p) bs bs w w := ⟨Nat.le_refl _, fun p _ h => h.1, fun _ _ _ => rfl, fun _ _ h => h⟩
    have hargs : All2 (A1.Rel (fun p => F p ∧ p ≠ x.p) w [x]) (.c (.os 0 sz) :: rest) (.slice base x.n x.cap :: vs) := by
      refine .cons (CV.Rel.os (b := 0) rfl hbase) ?_
      clear h
      induction hvs with
      | nil => exact .nil
      | cons ha _ ih =>
        simp only [List.all_cons, Bool.and_eq_true] at hrest
        exact .cons ((ha.grow g).closed hrest.1) (ih hrest.2)
    refine (evFnP_ok hH hX k f _ _ r m h _ w [x] _ hm1 hargs).mono fun e w' ⟨F', bs', hext, _, hr⟩ => ⟨⟨hext.os, hext.tape, hext.output, hext.size, fun p hp => hext.same p hp ?_⟩, F', bs', x, hx, hn, hext.pre 0 x (by simp) rfl, hr⟩
    by_cases hpx : p = x.p
    · exact .inl fun h => h.2 hpx
    · exact .inr fun y hy e => by
        simp only [List.mem_cons, List.not_mem_nil, or_false] at hy
        subst hy
        exact hpx e.symm
theorem ncOne_of_tree {H : Hd} (hH : HdOk P H) (n f : Nat) {G : List A1 → Tree (AV × Mem)}
    (h : ∀ args r m, (G args).sel = some (r, m) → ∃ u, evFn P H n f args [] = u ∧ u.All (fun y => WkO (.ret y.1, y.2) (.ret r, m))) : NcOne P f G := by
  intro args r m hG _ F w vs hargs
  obtain ⟨u, hu, ha⟩ := h args r m hG
  rw [← hu] at ha
  obtain ⟨y, hsel, hw⟩ := all_sel ha
  refine (evFn_ok0 hH n f args y.1 y.2 hsel F w [] vs MemRel.nil hargs).mono fun e w2 ⟨v, F', bs', he, hext, hm', hr⟩ => ?_
  obtain ⟨F2, bs2, e2, m2, v2, hv2, r2⟩ := hw P F' w2 bs' (.returned v) hm' ⟨v, rfl, hr⟩
  simp only [Ending.returned.injEq] at hv2
  subst hv2
  exact ⟨v, F2, bs2, he, hext.trans e2 (Nat.le_refl _), m2, r2⟩
end Go.Sx
namespace Go.Proofs.YtennlgngdjegoaaGreat
open Go Go.Sx Go.RowKit Classical
set_option maxRecDepth 100000
set_option maxHeartbeats 4000000
namespace Fo
def cl1 (E : TypeId) (es : List Sh) (sz bt : Nat) : List A1 → Tree (AV × Mem)
  | [.c .nils] => .leaf (.one (.c (.os 0 sz)), [some (E, [.row false es 0 Val.zero])])
  | [.c (.sl es' n ρ)] => if shEq.shsEq es' es then .need (Nat.ble ((0 + n) * bt) 140737488355328) (.leaf (.one (.c (.os 0 sz)), [some (E, [.row false es n ρ])])) else .fail
  | _ => .fail
theorem nils_own {E : TypeId} {es : List Sh} {sz : Nat} {ρ : Val} : WkO (.ret (.one (.c .nils)), []) (.ret (.one (.c (.os 0 sz))), [some (E, [.row false es 0 ρ])]) := by
  intro P F w bs e hm he
  obtain ⟨v, rfl, hv⟩ := he
  have hbs : bs = [] := by
    have := hm.len
    cases bs with
    | nil => rfl
    | cons _ _ => simp at this
  subst hbs
  refine ⟨F, [] ++ [⟨w.heap.size, 0, 0⟩], (Ext.refl (K := 0)).push (.inr (Nat.le_refl _)), hm.row0' E es ρ, v, rfl, ?_⟩
  have hv : CV.Rel F w [] .nils v := hv
  cases hv
  exact CV.Rel.os (F := F) (w := w) (b := 0) (sz := sz) (base := none) (x := ⟨w.heap.size, 0, 0⟩) rfl (fun h => by simp at h)
theorem cl1_ok {f : Nat} {E : TypeId} {es : List Sh} {sz bt : Nat} (h : NcOne Tryz.prog f (cloneG E es sz bt)) (h0 : (evFn Tryz.prog HN 5 f [.c .nils] []).sel = some (.one (.c .nils), [])) : NcOne Tryz.prog f (cl1 E es sz bt) := by
  intro args r m hG hcl F w vs hargs
  unfold cl1 at hG
  split at hG
  · simp only [Tree.sel, Option.some.injEq, Prod.mk.injEq] at hG
    obtain ⟨rfl, rfl⟩ := hG
    refine (evFn_ok0 hn 5 f [.c .nils] (.one (.c .nils)) [] h0 F w [] vs MemRel.nil hargs).mono fun e w2 ⟨v, F', bs', he, hext, hm', hr⟩ => ?_
    subst he
    obtain ⟨F2, bs2, e2, m2, v2, hv2, r2⟩ := nils_own (E := E) (es := es) (sz := sz) (ρ := Val.zero) Tryz.prog F' w2 bs' (.returned v) hm' ⟨v, rfl, hr⟩
    simp only [Ending.returned.injEq] at hv2
    subst hv2
    exact ⟨v, F2, bs2, rfl, hext.trans e2 (Nat.le_refl _), m2, r2⟩
  · rename_i es' n ρ
    split at hG
    · rename_i hs
      simp only [Tree.sel] at hG
      cases hb : Nat.ble ((0 + n) * bt) 140737488355328
      · rw [hb] at hG; simp at hG
      · rw [hb] at hG
        simp only [cond_true, Option.some.injEq, Prod.mk.injEq] at hG
        obtain ⟨rfl, rfl⟩ := hG
        have := h [.c (.sl es' n ρ)] (.one (.c (.os 1 sz))) [none, some (E, [.row false es n ρ])] (by simp only [cloneG, hs, if_true, Tree.sel, hb, cond_true]) hcl F w vs hargs
        refine this.mono fun e w2 ⟨v, F', bs', he, hext, hm', hr⟩ => ?_
        subst he
        obtain ⟨F2, bs2, e2, m2, v2, hv2, r2⟩ := WkO.row (b := 1) (sz := sz) (σ := ρ) rfl (fun _ _ _ _ _ => rfl) Tryz.prog F' w2 bs' (.returned v) hm' ⟨v, rfl, hr⟩
        simp only [Ending.returned.injEq] at hv2
        subst hv2
        exact ⟨v, F2, bs2, rfl, hext.trans e2 (Nat.le_refl _), m2, r2⟩
    · simp [Tree.sel] at hG
  · simp [Tree.sel] at hG
abbrev inSh : List Sh := [.int .i64]
abbrev scSh : List Sh := [.int .u8, .int .u8, .int .u8, .int .u8, .int .u8, .int .u8, .int .u8, .int .u8]
abbrev evSh : List Sh := [.int .i64, .int .i64]
theorem c92 : NcOne Tryz.prog 92 (cloneG 3 inSh 1 8) := clone_nc Tryz.func92 rfl rfl rfl rfl rfl rfl rfl rfl (by kernel_rfl) rfl (fun n ρ => by kernel_rfl)
  (fun n ρ => stC inSh n ρ true) (fun n ρ => mkS 8 [(0, .one (.c (.sl inSh n ρ))), (2, .one (.c (.os 1 1))), (3, .one (.c (.sl inSh n ρ))), (4, .one (.c (.bool false))), (5, .one (.c (.os 0 1))), (6, .one (.c (.sl inSh n ρ))), (7, .one (.c (.os 1 1)))] [none, some (3, [.row false inSh (0 + n) (Val.cat 0 (Val.ofFlat 1 []) ρ)])])
  (fun n ρ => by kernel_rfl) (fun n ρ => by kernel_rfl) (fun n ρ => rfl) (fun n ρ => by kernel_rfl) (fun n ρ => by kernel_rfl) (fun n ρ => rfl)
theorem n92 : NcOne Tryz.prog 92 (cl1 3 inSh 1 8) := cl1_ok c92 (by kernel_rfl)
theorem c94 : NcOne Tryz.prog 94 (cloneG 93 scSh 8 8) := clone_nc Tryz.func94 rfl rfl rfl rfl rfl rfl rfl rfl (by kernel_rfl) rfl (fun n ρ => by kernel_rfl)
  (fun n ρ => stC scSh n ρ true) (fun n ρ => mkS 8 [(0, .one (.c (.sl scSh n ρ))), (2, .one (.c (.os 1 8))), (3, .one (.c (.sl scSh n ρ))), (4, .one (.c (.bool false))), (5, .one (.c (.os 0 8))), (6, .one (.c (.sl scSh n ρ))), (7, .one (.c (.os 1 8)))] [none, some (93, [.row false scSh (0 + n) (Val.cat 0 (Val.ofFlat 8 []) ρ)])])
  (fun n ρ => by kernel_rfl) (fun n ρ => by kernel_rfl) (fun n ρ => rfl) (fun n ρ => by kernel_rfl) (fun n ρ => by kernel_rfl) (fun n ρ => rfl)
theorem n94 : NcOne Tryz.prog 94 (cl1 93 scSh 8 8) := cl1_ok c94 (by kernel_rfl)
theorem c130 : NcOne Tryz.prog 130 (cloneG 135 evSh 2 16) := clone_nc Tryz.func130 rfl rfl rfl rfl rfl rfl rfl rfl (by kernel_rfl) rfl (fun n ρ => by kernel_rfl)
  (fun n ρ => stC evSh n ρ true) (fun n ρ => mkS 8 [(0, .one (.c (.sl evSh n ρ))), (2, .one (.c (.os 1 2))), (3, .one (.c (.sl evSh n ρ))), (4, .one (.c (.bool false))), (5, .one (.c (.os 0 2))), (6, .one (.c (.sl evSh n ρ))), (7, .one (.c (.os 1 2)))] [none, some (135, [.row false evSh (0 + n) (Val.cat 0 (Val.ofFlat 2 []) ρ)])])
  (fun n ρ => by kernel_rfl) (fun n ρ => by kernel_rfl) (fun n ρ => rfl) (fun n ρ => by kernel_rfl) (fun n ρ => by kernel_rfl) (fun n ρ => rfl)
theorem n130 : NcOne Tryz.prog 130 (cl1 135 evSh 2 16) := cl1_ok c130 (by kernel_rfl)
def lhsOf (P : Program) (H : Hd) (n : Nat) : List (Nat × Nat) → List ((Nat × Nat) × (Nat → St → Tree (XE × St)))
  | [] => []
  | p :: r => ((p.1, p.2), unrollH P H 30 p.1 p.2 n) :: lhsOf P H n r
theorem lhs_ok {P : Program} {pc hc mc} (hb : HdOk P ⟨pc, hc, [], mc⟩) {H : Hd} (hH : HdOk P H) (n : Nat) : ∀ fs : List (Nat × Nat), HdOk P ⟨pc, hc, lhsOf P H n fs, mc⟩
  | [] => hb
  | p :: r => HdOk.lhCons (lhs_ok hb hH n r) fun _ _ _ hf hc hb => unroll_ok hH 30 p.1 p.2 hf hc hb n
noncomputable abbrev mcA : List (Nat × (List A1 → Mem → Tree (AV × Mem))) := [(92, ncG (cl1 3 inSh 1 8)), (94, ncG (cl1 93 scSh 8 8)), (130, ncG (cl1 135 evSh 2 16))]
theorem hA0 : HdOk Tryz.prog ⟨[], [], [], mcA⟩ := ((HdOk.nil.mcCons n130.mc).mcCons n94.mc).mcCons n92.mc
noncomputable abbrev XA : HdP := ⟨[], [], [(92, cl1 3 inSh 1 8), (130, cl1 135 evSh 2 16)]⟩
theorem xA : XOk Tryz.prog XA := (XOk.nil.ncCons n130).ncCons n92
def litK : Nat × (List A1 → Tree AV) := (4294967292, fun _ => .fail)
def headK : Nat × (List A1 → Tree AV) := (4294967291, fun _ => .fail)
def allB (p : Nat → Bool) : Nat → Bool
  | 0 => true
  | n + 1 => allB p n && p n
theorem allB_ok {p : Nat → Bool} : ∀ {n : Nat}, allB p n = true → ∀ i, i < n → p i = true
  | n + 1, h, i, hi => by
    simp only [allB, Bool.and_eq_true] at h
    rcases Nat.lt_or_eq_of_le (Nat.le_of_lt_succ hi) with h' | rfl
    · exact allB_ok h.1 i h'
    · exact h.2
def sameC : Nat → CV → CV → Bool
  | 0, _, _ => false
  | _ + 1, .bool a, .bool b => a == b
  | _ + 1, .int k a, .int k' b => k == k' && a == b
  | _ + 1, .nils, .nils => true
  | _ + 1, .nils, .sl _ 0 _ => true
  | m + 1, .sl es n ρ, .sl es' n' σ => shEq.shsEq es es' && n == n' && allB (fun i => allB (fun f => match nth es f with
      | some s => sameC m (cellOf s ((ρ.at i).at f)) (cellOf s ((σ.at i).at f))
      | none => true) es.length) n
  | _, _, _ => false
theorem sameC_le : ∀ {m : Nat} {x y : CV} (_ : sameC m x y = true) {F : Nat → Prop} {w : World} {bs : List BI} {v : Value} (_ : CV.Rel F w bs x v), CV.Rel F w bs y v
  | m + 1, x, y, h, F, w, bs, v, hv => by
    unfold sameC at h
    split at h
    · cases h
    · rename_i e1 e2 e3; have := eq_of_beq h; subst this; exact hv
    · simp only [Bool.and_eq_true, beq_iff_eq] at h
      obtain ⟨rfl, rfl⟩ := h
      exact hv
    · exact hv
    · cases hv; exact .slnil
    · rename_i es n ρ es' n' σ _ _
      simp only [Bool.and_eq_true, beq_iff_eq] at h
      obtain ⟨⟨h1, rfl⟩, h2⟩ := h
      have h1 := shsEq_eq h1
      subst h1
      cases hv with
      | slnil => exact .slnil
      | sl val hn h0 hc hr =>
        refine .sl val hn h0 hc fun i f s hi hf => ?_
        have h3 := allB_ok (allB_ok h2 i hi) f (nth_lt hf)
        simp only [hf] at h3
        exact sameC_le h3 (hr i f s hi hf)
    · cases h
def same1 : A1 → A1 → Bool
  | .c x, .c y => sameC 6 x y
  | .agg l, .agg r => sameL l r
  | _, _ => false
 where sameL : List CV → List CV → Bool
  | [], [] => true
  | x :: l, y :: r => sameC 6 x y && sameL l r
  | _, _ => false
theorem sameL_le {F w bs} : ∀ {l r : List CV} {vs : List Value}, same1.sameL l r = true → All2 (CV.Rel F w bs) l vs → All2 (CV.Rel F w bs) r vs
  | [], [], _, _, h => h
  | _ :: _, _ :: _, _, h, .cons a b => by
    simp only [same1.sameL, Bool.and_eq_true] at h
    exact .cons (sameC_le h.1 a) (sameL_le h.2 b)
  | [], _ :: _, _, h, _ => by simp [same1.sameL] at h
  | _ :: _, [], _, h, _ => by simp [same1.sameL] at h
theorem same1_le {F w bs} {x y : A1} {v : Value} (h : same1 x y = true) (hv : A1.Rel F w bs x v) : A1.Rel F w bs y v := by
  cases x with
  | c x => cases y with
    | c y => exact sameC_le (m := 6) h hv
    | agg _ => cases h
  | agg l => cases y with
    | c _ => cases h
    | agg r => obtain ⟨vs, rfl, hv⟩ := hv; exact ⟨vs, rfl, sameL_le h hv⟩
def sames : List A1 → List A1 → Bool
  | [], [] => true
  | x :: l, y :: r => same1 x y && sames l r
  | _, _ => false
theorem sames_le {F w bs} : ∀ {l r : List A1} {vs : List Value}, sames l r = true → All2 (A1.Rel F w bs) l vs → All2 (A1.Rel F w bs) r vs
  | [], [], _, _, h => h
  | _ :: _, _ :: _, _, h, .cons a b => by
    simp only [sames, Bool.and_eq_true] at h
    exact .cons (same1_le h.1 a) (sames_le h.2 b)
  | [], _ :: _, _, h, _ => by simp [sames] at h
  | _ :: _, [], _, h, _ => by simp [sames] at h
def sameA : AV → AV → Bool
  | .one x, .one y => same1 x y
  | .tup l, .tup r => sames l r
  | _, _ => false
theorem sameA_le {x y : AV} (h : sameA x y = true) : leA x y := by
  intro F w v hv
  cases x with
  | any => cases h
  | one x => cases y with
    | one y => exact same1_le (x := x) (y := y) h hv
    | _ => cases h
  | tup l => cases y with
    | tup r => obtain ⟨vs, rfl, hv⟩ := hv; exact ⟨vs, rfl, sames_le h hv⟩
    | _ => cases h
def canG (canon : List A1) (r : AV) (args : List A1) : Tree AV := .need (sames args canon) (.leaf r)
theorem canG_ok {P : Program} {H : Hd} (hH : HdOk P H) (n f : Nat) {canon : List A1} {r : AV} (h : (match (hcTree P H n f canon).sel with | some x => sameA x r | none => false) = true) : UcOne P f (canG canon r) := by
  intro args r' hr _ F w vs ha
  unfold canG at hr
  simp only [Tree.sel] at hr
  cases hs : sames args canon
  · rw [hs] at hr; simp at hr
  · rw [hs] at hr
    simp only [cond_true, Option.some.injEq] at hr
    subst hr
    have hargs := sames_le hs ha
    split at h
    · rename_i x hsel
      obtain ⟨⟨r', m⟩, h1, h2⟩ := sel_bind hsel
      have ho : outA m r' = some x := by
        cases hx : outA m r' with
        | none => rw [hx] at h2; simp [Tree.ofOpt, Tree.sel] at h2
        | some y => rw [hx] at h2; simpa [Tree.ofOpt, Tree.sel] using h2
      have hargs1 : All2 (A1.Rel (fun p => F p ∧ p < w.heap.size) w []) canon vs := hargs.imp fun _ _ hx => A1.Rel.grow (bs := []) (bs' := []) ⟨Nat.le_refl _, fun _ _ h => h.1, fun _ _ _ => rfl, fun _ _ h => h⟩ hx
      refine (evFn_ok0 hH n f canon r' m h1 _ w [] vs MemRel.nil hargs1).mono fun e w2 ⟨u, F', bs', he, hext, hm, hu⟩ => ?_
      refine ⟨u, he, hext.below, sameA_le h _ _ _ (AV.Rel.grow (bs := []) (bs' := []) ⟨Nat.le_refl _, fun p _ hp => ?_, fun _ _ _ => rfl, fun _ _ h => h⟩ (outA_ok hm hu ho))⟩
      refine ⟨hext.F2 p hp hp.2 (by simp), fun y hy e => ?_⟩
      rcases hext.mem y hy with ⟨z, hz, _⟩ | hs
      · cases hz
      · have := hp.2; omega
    · cases h
def pcH : List (Nat × (List A1 → Tree AV)) := [tailK, litK, headK]
def datV : Val := .byFst fun _ => Val.ofCs [.int .u8 1, .int .u8 0, .int .u8 0, .int .u8 0, .int .u8 0, .int .u8 0, .int .u8 0, .int .u8 0]
def roots : CV := .sl inSh 1 (.byFst fun _ => .byFst fun _ => Val.ofC (I 4))
def wrt (i : Int) : List CV := [I 0, I i, .sl scSh 1 datV]
def his : Nat → A1
  | 0 => .agg [roots, .nils, .nils]
  | k + 1 => .agg [roots, .sl [.int .i64, .int .i64, .sl scSh] (k + 1) (.byFst fun i => Val.ofCs (wrt i)), .sl evSh (k + 1) (.byFst fun i => Val.ofCs [I 0, I i])]
end Fo
end Go.Proofs.YtennlgngdjegoaaGreat
namespace Go.Sx
open Go Go.RowKit
def Tree.follow {α : Type} : List Bool → Tree α → Option (List (Bool × Bool) × α)
  | [], .leaf a => some ([], a)
  | p, .need c t => match t.follow p with
    | some y => some ((c, true) :: y.1, y.2)
    | none => none
  | d :: p, .br c t e => match (bif d then t.follow p else e.follow p) with
    | some y => some ((c, d) :: y.1, y.2)
    | none => none
  | _, _ => none
theorem follow_sel {α : Type} : ∀ {t : Tree α} {p : List Bool} {cs : List (Bool × Bool)} {a : α}, t.follow p = some (cs, a) → (∀ x ∈ cs, x.1 = x.2) → t.sel = some a
  | .leaf b, p, cs, a, h, _ => by
    cases p with
    | nil =>
      simp only [Tree.follow, Option.some.injEq, Prod.mk.injEq] at h
      simp only [Tree.sel, h.2]
    | cons d p => simp [Tree.follow] at h
  | .need c t, p, cs, a, h, hc => by
    have h' : (match t.follow p with | some y => some ((c, true) :: y.1, y.2) | none => none) = some (cs, a) := by
      cases p <;> exact h
    split at h'
    · rename_i y hy
      simp only [Option.some.injEq, Prod.mk.injEq] at h'
      obtain ⟨rfl, rfl⟩ := h'
      have h1 : c = true := hc (c, true) (by simp)
      subst h1
      simp only [Tree.sel, cond_true]
      exact follow_sel (cs := y.1) hy (fun x hx => hc x (by simp [hx]))
    · cases h'
  | .br c t e, p, cs, a, h, hc => by
    cases p with
    | nil => simp [Tree.follow] at h
    | cons d p =>
      simp only [Tree.follow] at h
      split at h
      · rename_i y hy
        simp only [Option.some.injEq, Prod.mk.injEq] at h
        obtain ⟨rfl, rfl⟩ := h
        have h1 : c = d := hc (c, d) (by simp)
        subst h1
        simp only [Tree.sel]
        cases c
        · exact follow_sel (cs := y.1) hy (fun x hx => hc x (by simp [hx]))
        · exact follow_sel (cs := y.1) hy (fun x hx => hc x (by simp [hx]))
      · cases h
  | .fail, p, cs, a, h, _ => by cases p <;> simp [Tree.follow] at h
def okB (cs : List (Bool × Bool)) : Bool := cs.all fun x => x.1 == x.2
theorem okB_ok {cs : List (Bool × Bool)} (h : okB cs = true) : ∀ x ∈ cs, x.1 = x.2 := fun x hx => by
  have := List.all_eq_true.1 h x hx
  simpa using this
theorem follow_all {α : Type} {t : Tree α} {p : List Bool} {cs : List (Bool × Bool)} {a : α} (h : t.follow p = some (cs, a)) (hc : okB cs = true) {Q : α → Prop} (hq : Q a) : t.All Q := by
  have hs := follow_sel h (okB_ok hc)
  have key : ∀ {t : Tree α}, t.sel = some a → t.All Q := by
    intro t
    induction t with
    | leaf b =>
      intro h
      simp only [Tree.sel, Option.some.injEq] at h
      subst h
      exact hq
    | br c t e iht ihe =>
      intro h
      exact ⟨fun hc => iht (by simpa [Tree.sel, hc] using h), fun hc => ihe (by simpa [Tree.sel, hc] using h)⟩
    | need c t ih =>
      intro h
      cases c
      · simp [Tree.sel] at h
      · exact ⟨rfl, ih (by simpa [Tree.sel] using h)⟩
    | fail => intro h; simp [Tree.sel] at h
  exact key hs
theorem ucOne_of_follow {P : Program} {H : Hd} (hH : HdOk P H) (n f : Nat) {G : List A1 → Option (Bool × AV)} (h : ∀ args r, G args = some (true, r) → ∃ p cs a, (hcTree P H n f args).follow p = some (cs, a) ∧ okB cs = true ∧ leA a r) : UcOne P f (nG G) :=
  ucOne_of_tree hH n f fun args r hr => by
    obtain ⟨p, cs, a, h1, h2, h3⟩ := h args r hr
    exact ⟨hcTree P H n f args, rfl, follow_all h1 h2 h3⟩
theorem tcOne_of_follow {P : Program} {H : Hd} (hH : HdOk P H) (n f : Nat) {G : List A1 → Option (Bool × AV)} (h : ∀ args r, G args = some (true, r) → (denA r).isSome = true ∧ ∃ p cs a, (evFn P H n f args []).vals.follow p = some (cs, a) ∧ okB cs = true ∧ a = r) : TcOne P f (nG G) :=
  tcOne_of_tree hH n f fun args r hr => by
    obtain ⟨h0, p, cs, a, h1, h2, h3⟩ := h args r hr
    exact ⟨h0, (evFn P H n f args []).vals, rfl, follow_all h1 h2 h3⟩
theorem law_of_follow {P : Program} {H : Hd} (hH : HdOk P H) (n f : Nat) {args : List A1} {p : List Bool} {cs : List (Bool × Bool)} {b : Bool} (hu : (evFn P H n f args []).vals.follow p = some (cs, .one (.c (.bool b)))) (hc : okB cs = true) (hb : b = true) {F : Nat → Prop} {W : World} {vs : List Value}
    (hargs : All2 (A1.Rel F W []) args vs) : Calls P f vs.toArray W (fun e W' => e = .returned (.bool true) ∧ Below W.heap.size W W') :=
  law_of_tree hH n f (u := (evFn P H n f args []).vals) rfl (follow_all hu hc (by rw [hb])) hargs
end Go.Sx
