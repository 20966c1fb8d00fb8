/-
 Proved: for every text, Parse returns the tree, or the offset and the error, of the reference (RunbookParses returns true for every input). No condition.
-/
import Derived.Test.YtiefjlcakpdfeaaGreatPaZI
import Derived.Test.YtiefjlcakpdfeaaGreatRows
import Derived.ProofKit
import Derived.OpenShut
import Derived.ChangeOld
import Derived.Below
namespace Go.Proofs.YtiefjlcakpdfeaaGreat.runbookParses
open Go Go.Sx Go.ChangeShapes Go.WideShapes Go.ChangeAt Go.RowKit
set_option maxRecDepth 100000 in
theorem walk (ρ0 : Val) (_ : wfL [.str] 0 ρ0) (W : World) (vs : List Value)
  (h:All2 (A1.Rel (fun _=>False) W []) [O5 Tryz.prog 9 [.str] ρ0] vs) :
  Calls Tryz.prog 3 vs.toArray W (fun e W'=>e=.returned (.bool true)∧Below W.heap.size W W'):=by
 rw [jc4] at h;exact jqB h
theorem own:ownKnob Tryz.prog.godebug=none:=by kernel_rfl
theorem laidOut:laidOutB Tryz.prog=true:=by kernel_rfl
set_option maxRecDepth 100000 in
theorem lifted (os : Os) (started : os.Started) (H : Type) (enc : TypeId × Value → H) :
  ReturnsInHanded {} Tryz.checked os 3 .any (Rows.runbookParsesSpec.pre6 enc Tryz.prog Tryz.f3 Rows.runbookParsesRow.domain false) (Rows.runbookParsesSpec.post enc Tryz.prog Tryz.f3 false true false false):=by
 refine returnsInHanded_of_change (C:=Tryz.checked) own started (by kernel_rfl) Tryz.func3
  (ChangeSpec.witness6 (enc:=enc) (C:=Tryz.checked) false ⟨#[],#[.string ByteArray.empty],[]⟩ 8 (by kernel_rfl) (by kernel_rfl) (by kernel_rfl) (by kernel_rfl)) ?_
 intro W base args ds gs before hval0 hW _ _;have hval:∀ (j:Nat) t v,Tryz.f3.params[j]? = some t→args[j]? = some v→Value.okWide Tryz.prog W .any base t v:=hval0;have hW':=hW;obtain ⟨p,q,hA0,hV,rfl,_,_⟩:=hW;have hA:DataW.TrodAll enc Tryz.prog W 0 (fun _=>true) true Tryz.f3.params.toList args.toList ds p:=hA0;rw [Tryz.params3] at hA hval;obtain ⟨v0,vs0,d0,ds0,p0,q0,hargs,rfl,rfl,h0,r0⟩:=trodAll_cons hA;obtain ⟨rfl,rfl,rfl⟩:=trodAll_nil r0;obtain rfl:args = #[v0]:=by cases args;simp_all
 obtain ⟨rfl,rfl⟩:=trodVars_none hV;obtain ⟨ρ0,rel0,wf0⟩:=jhR (m:=12) (es:=[.str]) (hval 0 9 v0 rfl rfl) h0 (by kernel_rfl)
 clear hA0 hval0;refine (walk ρ0 wf0 W [v0] (.cons rel0 (.nil))).mono fun e W' ⟨he,bel⟩ => ?_;subst he;exact ⟨_,rfl,_,_,_,[],_,[],hW',trodAll_mk1 (shut_bool Tryz.underlying4 _),(trodAll_cons_mk (jdM laidOut (by kernel_rfl) (of_decide_eq_true (by kernel_rfl)) h0 bel) trodAll_mk0),rfl,bel.frame _,fun h=>by cases h⟩
/-- The given statement. -/
theorem proved:Rows.RunbookParsesSaid :=
 OpenClaim.holds_of_wide 3 Tryz.f3 rfl rfl rfl rfl rfl rfl rfl ⟨rfl,rfl,rfl,rfl,rfl⟩ rfl rfl rfl rfl rfl (by kernel_rfl) Tryz.func3 (by kernel_rfl)
  (of_decide_eq_true (by kernel_rfl)) (by unfold Func.isWrapper;rw [if_neg (of_decide_eq_false (by kernel_rfl))];exact ⟨rfl,rfl⟩)
  (fun os started H enc _=>lifted os started H enc)

#print axioms proved
end Go.Proofs.YtiefjlcakpdfeaaGreat.runbookParses
