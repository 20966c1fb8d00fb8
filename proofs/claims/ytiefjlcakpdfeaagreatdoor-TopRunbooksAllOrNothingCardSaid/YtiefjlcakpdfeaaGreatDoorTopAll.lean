/-
  Proved: whatever the steps, the fleet and the choices, a runbook whose steps can be undone is carried out wholly or leaves the fleet as it was (TopRunbooksAllOrNothing returns true for every input). The table of powers of ten lies as the program's text lays it (the card ties it). No other condition.
-/
import Derived.Test.YtiefjlcakpdfeaaGreatDoorTaZJ
import Derived.Test.YtiefjlcakpdfeaaGreatDoorTaN
import Derived.Test.YtiefjlcakpdfeaaGreatDoorCards
import Derived.Test.YtiefjlcakpdfeaaGreatDoorTie
import Derived.ProofKit
import Derived.OpenShut
import Derived.ChangeOld
import Derived.Below
import Derived.Deep.DeepHandedRow
import Derived.Lib.LaidTab
import Derived.Stop.LaidErr
namespace Go.Proofs.YtiefjlcakpdfeaaGreatDoor.topRunbooksAllOrNothing
open Go Go.Sx Go.ChangeShapes Go.WideShapes Go.ChangeAt Go.RowKit
set_option maxRecDepth 100000 in
theorem walk (ρ0 : Val) (w0 : wfL [.sl [.int .u8], .int .u8, .sl [.int .i64]] 0 ρ0) (W : World) (ht : Tab (fun _ => False) W) (vs : List Value)
    (h : All2 (A1.Rel (fun _=>False) W []) [GX Tryz.prog 36 [.sl [.int .u8], .int .u8, .sl [.int .i64]] ρ0] vs) :
    Calls Tryz.prog 4 vs.toArray W (fun e W'=>e=.returned (.bool true)∧Below W.heap.size W W') :=
  jht w0 ht h
theorem own : ownKnob Tryz.prog.godebug=none := by kernel_rfl
theorem laidOut : laidOutB Tryz.prog=true := by kernel_rfl
theorem gTab : Tryz.prog.globalNamed "internal/strconv.uint64pow10" = some 1 := by kernel_rfl
theorem gTabType : (Tryz.prog.globals[1]?).map (·.type)=some 237 := by kernel_rfl
theorem cellsT : Tryz.prog.cellsOf 237=20 := by kernel_rfl
theorem cellsE : Tryz.prog.cellsOf 179=1 := by kernel_rfl
/-- what the row's list gives: the table of powers of ten -/
theorem table {W : World} (h : laidMetH Tryz.prog Rows.topRunbooksAllOrNothingRow.laid W) : Lib.TabIs Tryz.prog W "internal/strconv.uint64pow10" .u64 tabZ :=
  Lib.tabIs_of_head (rest := []) gTab gTabType Tryz.underlying237 Tryz.underlying179 cellsE cellsT (laidMet.tail (laidMet.tail (h)))
theorem tab {W : World} (h : laidMetH Tryz.prog Rows.topRunbooksAllOrNothingRow.laid W) : Tab (fun _ => False) W := by
  have h1 := table h;unfold Lib.TabIs World.var? at h1;rw [gTab] at h1;simp only [Option.bind] at h1;split at h1
  · rename_i cs T m hc
    have e := Option.some.inj h1;subst e;exact ⟨fun h=>h, (Array.getElem?_eq_some_iff.1 hc).1, T, m, hc⟩
  · cases h1
set_option maxRecDepth 100000 in
theorem contract (H : Type) (enc : TypeId × Value → H) (W : World) (base : Nat) (args : Array Value) (ds gs : List (DataW H)) (before : List MemPlace)
    (hval0 : ∀ (j : Nat) t v, Tryz.f4.params[j]? = some t→args[j]? = some v→Value.okWide Tryz.prog W .any base t v)
    (hW : DataW.Whole enc Tryz.prog Tryz.f4.params.toList Rows.topRunbooksAllOrNothingSpec.vars false W args.toList ds gs before) (hL : laidMetH Tryz.prog Rows.topRunbooksAllOrNothingRow.laid W)
    (hsz : (DataW.weightsEach Tryz.prog (Tryz.f4.params.toList++(OpenSpec.ofChange Rows.topRunbooksAllOrNothingSpec).bare.plain.varTypes Tryz.prog) (ds++gs)).all (· ≤ reachBytes)=true) :
    Calls Tryz.prog 4 args W fun e W'=>∃ v, e=.returned v∧Rows.topRunbooksAllOrNothingSpec.post enc Tryz.prog Tryz.f4 false true false false W args v W' := by
  have hval : ∀ (j : Nat) t v, Tryz.f4.params[j]? = some t→args[j]? = some v→Value.okWide Tryz.prog W .any base t v := hval0;have hW' := hW;obtain ⟨p, q, hA0, hV, rfl, _, _⟩ := hW;have hA : DataW.TrodAll enc Tryz.prog W 0 (fun _=>true) true Tryz.f4.params.toList args.toList ds p := hA0;rw [Tryz.params4] at hA hval;obtain ⟨v0, vs0, d0, ds0, p0, q0, hargs, rfl, rfl, h0, r0⟩ := trodAll_cons hA;obtain ⟨rfl, rfl, rfl⟩ := trodAll_nil r0;obtain rfl : args = #[v0] := by cases args;simp_all
  obtain ⟨rfl, rfl⟩ := trodVars_none hV;obtain ⟨ρ0, rel0, wf0⟩ := jfF (m := 12) (es := [.sl [.int .u8], .int .u8, .sl [.int .i64]]) (hval 0 36 v0 rfl rfl) h0 (by kernel_rfl)
  clear hA0 hval0;refine (walk ρ0 wf0 W (tab hL) [v0] (.cons rel0 (.nil))).mono fun e W' ⟨he, bel⟩ => ?_;subst he;exact ⟨_, rfl, _, _, _, [], _, [], hW', trodAll_mk1 (shut_bool Tryz.underlying4 _), (trodAll_cons_mk (jcI laidOut (by kernel_rfl) (of_decide_eq_true (by kernel_rfl)) h0 bel) trodAll_mk0), rfl, bel.frame _, fun h=>by cases h⟩
/-! ### a world for the witness -/
def lay (h : Array Obj) (g : Nat) (vs : List Value) : Array Obj := h.modify g fun
  | .cells _ t frozen=>.cells vs.toArray t frozen
  | o=>o
noncomputable def laidWorld (os : Os) : World :=
  { World.holding Tryz.prog os ⟨#[], #[], []⟩ with heap := lay (lay (lay ((World.holding Tryz.prog os ⟨#[], #[], []⟩).heap) 2 ([0, 1, 28, 2, 29, 14, 24, 3, 30, 22, 20, 15, 25, 17, 4, 8, 31, 27, 13, 23, 21, 19, 16, 7, 26, 12, 18, 6, 11, 5, 10, 9].map fun z=>Value.int .u8 z)) 3 ([0, 1, 56, 2, 57, 49, 28, 3, 61, 58, 42, 50, 38, 29, 17, 4, 62, 47, 59, 36, 45, 43, 51, 22, 53, 39, 33, 30, 24, 18, 12, 5, 63, 55, 48, 27, 60, 41, 37, 16, 46, 35, 44, 21, 52, 32, 23, 11, 54, 26, 40, 15, 34, 20, 31, 10, 25, 14, 19, 9, 13, 8, 7, 6].map fun z=>Value.int .u8 z)) 1 ([1, 10, 100, 1000, 10000, 100000, 1000000, 10000000, 100000000, 1000000000, 10000000000, 100000000000, 1000000000000, 10000000000000, 100000000000000, 1000000000000000, 10000000000000000, 100000000000000000, 1000000000000000000, 10000000000000000000].map fun z=>Value.int .u64 z) }
set_option maxRecDepth 100000 in
theorem laid_met (os : Os) : laidMet Tryz.prog Rows.topRunbooksAllOrNothingRow.laid ((laidWorld os).forCall (fun _ _ => 0) ⟨#[], #[.agg #[.slice none 0 0, .int .u8 0, .slice none 0 0]], []⟩).memory :=
  laidMet_of_run' 8 (by kernel_rfl) (by kernel_rfl)
set_option maxRecDepth 100000 in
theorem reads (os : Os) {H : Type} (enc : TypeId × Value → H) : ∃ places, DataW.whole enc Tryz.prog ((laidWorld os).forCall (fun _ _ => 0) ⟨#[], #[.agg #[.slice none 0 0, .int .u8 0, .slice none 0 0]], []⟩).memory Tryz.f4.params.toList Rows.topRunbooksAllOrNothingSpec.vars false (#[.agg #[.slice none 0 0, .int .u8 0, .slice none 0 0]] : Array Value).toList 8 = some ([.agg [.nil, .lit (.int .u8 0), .nil]], [], places) :=
  ⟨[], by kernel_rfl⟩
set_option maxRecDepth 100000 in
theorem lifted (os : Os) (started : os.Started) (H : Type) (enc : TypeId × Value → H) (F : Stop.Interp) :
    ReturnsInHanded {} Tryz.checked os 4 .any ((OpenSpec.ofChange Rows.topRunbooksAllOrNothingSpec).preRow enc Tryz.prog Tryz.f4 Rows.topRunbooksAllOrNothingRow.domain false Rows.topRunbooksAllOrNothingRow.laid) (((OpenSpec.ofChange Rows.topRunbooksAllOrNothingSpec).at F).post enc Tryz.prog Tryz.f4 false true false false) := by
  obtain ⟨places, hx⟩ := reads os enc
  refine returnsInHanded_of_row (C := Tryz.checked) (s := OpenSpec.ofChange Rows.topRunbooksAllOrNothingSpec) own started (by kernel_rfl) Tryz.func4
    (witness_row_at (enc := enc) (C := Tryz.checked) false (laidWorld os) #[.agg #[.slice none 0 0, .int .u8 0, .slice none 0 0]] rfl (by kernel_rfl) (by kernel_rfl) (by kernel_rfl)
      (OpenSpec.preRow_of_cond 8 hx (by kernel_rfl) (fun k hk=>by cases hk) (by kernel_rfl) (laid_met os))) ?_
  intro W base args ds gs before hval hW _ _ hsz hL _ _;exact contract H enc W base args ds gs before hval hW hL hsz
theorem said : Rows.TopRunbooksAllOrNothingSaid :=
  OpenClaim.holds_of_cond 4 Tryz.f4 rfl rfl rfl rfl rfl rfl rfl ⟨rfl, rfl, rfl, rfl, rfl⟩ rfl rfl rfl rfl rfl (by kernel_rfl) Tryz.func4 (by kernel_rfl)
    (of_decide_eq_true (by kernel_rfl)) (by unfold Func.isWrapper;rw [if_neg (of_decide_eq_false (by kernel_rfl))];exact ⟨rfl, rfl⟩)
    (fun os started H enc _ F=>by rw [OpenClaim.pre_eq_preRow];exact lifted os started H enc F)
theorem plain (f : FuncId) (fn : Func) (hf : Tryz.pinned.checked.prog.funcNamed "standby/standbytop.TopRunbooksAllOrNothing" = some f) (hfn : Tryz.pinned.checked.prog.funcs[f]? = some fn) :
    true=Tryz.pinned.checked.prog.looks []∧∀ (j : Nat) t, fn.params[j]? = some t→Tryz.pinned.checked.prog.wantsStandIn t=false := by
  obtain rfl : f=4 := Option.some.inj ((show Tryz.prog.funcNamed "standby/standbytop.TopRunbooksAllOrNothing" = some 4 by kernel_rfl).symm.trans hf) |>.symm
  obtain rfl : fn=Tryz.f4 := (Option.some.inj (Tryz.func4.symm.trans hfn)).symm;refine ⟨by kernel_rfl, fun j t ht => ?_⟩
  rw [Tryz.params4] at ht;obtain rfl : t=36 := by simpa using Array.mem_of_getElem? ht
  exact (show Tryz.prog.wantsStandIn 36=false by kernel_rfl)
/-- The given statement. -/
theorem proved : Rows.TopRunbooksAllOrNothingCardSaid :=
  Claim7.holds_tied_plain_at .later [] _ _ _ _ said (fun _ h=>by cases h) (by kernel_rfl) (fun _ h=>by cases h) topRunbooksAllOrNothing_row_tie rfl ⟨rfl, rfl⟩ (by kernel_rfl) rfl plain (by kernel_rfl)
#print axioms proved
end Go.Proofs.YtiefjlcakpdfeaaGreatDoor.topRunbooksAllOrNothing
