/-
 Proved: for every text and place, spaces and comments between the words of a text do not change its tree, nor whether it has one (RunbookSpaces returns true for every input). No condition.
-/
import Derived.Test.YtiefjlcakpdfeaaGreatSpZF
import Derived.Test.YtiefjlcakpdfeaaGreatRows
import Derived.ProofKit
import Derived.OpenShut
import Derived.ChangeOld
import Derived.Below
namespace Go.Proofs.YtiefjlcakpdfeaaGreat.runbookSpaces
open Go Go.Sx Go.ChangeShapes Go.WideShapes Go.ChangeAt Go.RowKit
set_option maxRecDepth 100000 in
theorem walk (ρ0 : Val) (_ : wfL [.str] 0 ρ0) (ρ1 : Val) (w1 : wfL [.int .u16] 0 ρ1) (W : World) (vs : List Value)
  (h:All2 (A1.Rel (fun _ => False) W []) [argOf Tryz.prog 9 [.str] ρ0,argOf Tryz.prog 59 [.int .u16] ρ1] vs) :
  Calls Tryz.prog 5 vs.toArray W (fun e W' => e = .returned (.bool true) ∧ Below W.heap.size W W'):=by
 rw [argStr_eq,argU16_eq] at h
 obtain ⟨h1,h2⟩:=u16_two w1.1
 exact law5 p22 (fun t _ h => iAny_sp t h) h1 h2 h
theorem own:ownKnob Tryz.prog.godebug = none:=by kernel_rfl
theorem laidOut:laidOutB Tryz.prog = true:=by kernel_rfl
set_option maxRecDepth 100000 in
theorem lifted (os : Os) (started : os.Started) (H : Type) (enc : TypeId × Value → H) :
  ReturnsInHanded {} Tryz.checked os 5 .any (Rows.runbookSpacesSpec.pre6 enc Tryz.prog Tryz.f5 Rows.runbookSpacesRow.domain false) (Rows.runbookSpacesSpec.post enc Tryz.prog Tryz.f5 false true false false):=by
 refine returnsInHanded_of_change (C:=Tryz.checked) own started (by kernel_rfl) Tryz.func5
  (ChangeSpec.witness6 (enc:=enc) (C:=Tryz.checked) false ⟨#[],#[.string ByteArray.empty,.int .u16 0],[]⟩ 8 (by kernel_rfl) (by kernel_rfl) (by kernel_rfl) (by kernel_rfl)) ?_
 intro W base args ds gs before hval0 hW _ _
 have hval:∀ (j:Nat) t v,Tryz.f5.params[j]? = some t → args[j]? = some v → Value.okWide Tryz.prog W .any base t v:=hval0
 have hW':=hW
 obtain ⟨p,q,hA0,hV,rfl,_,_⟩:=hW
 have hA:DataW.TrodAll enc Tryz.prog W 0 (fun _ => true) true Tryz.f5.params.toList args.toList ds p:=hA0
 rw [Tryz.params5] at hA hval
 obtain ⟨v0,vs0,d0,ds0,p0,q0,hargs,rfl,rfl,h0,r0⟩:=trodAll_cons hA
 obtain ⟨v1,vs1,d1,ds1,p1,q1,rfl,rfl,rfl,h1,r1⟩:=trodAll_cons r0
 obtain ⟨rfl,rfl,rfl⟩:=trodAll_nil r1
 obtain rfl:args = #[v0,v1]:=by cases args; simp_all
 obtain ⟨rfl,rfl⟩:=trodVars_none hV
 obtain ⟨ρ0,rel0,wf0⟩:=read_arg (m:=12) (es:=[.str]) (hval 0 9 v0 rfl rfl) h0 (by kernel_rfl)
 obtain ⟨ρ1,rel1,wf1⟩:=read_arg (m:=12) (es:=[.int .u16]) (hval 1 59 v1 rfl rfl) h1 (by kernel_rfl)
 clear hA0 hval0
 refine (walk ρ0 wf0 ρ1 wf1 W [v0,v1] (.cons rel0 ( .cons rel1 (.nil)))).mono fun e W' ⟨he,bel⟩ => ?_
 subst he
 exact ⟨_,rfl,_,_,_,[],_,[],hW',trodAll_mk1 (shut_bool Tryz.underlying4 _),(trodAll_cons_mk (trod_keep laidOut (by kernel_rfl) (of_decide_eq_true (by kernel_rfl)) h0 bel) (trodAll_cons_mk (trod_keep laidOut (by kernel_rfl) (of_decide_eq_true (by kernel_rfl)) h1 bel) trodAll_mk0)),rfl,bel.frame _,fun h => by cases h⟩
/-- The given statement. -/
theorem proved:Rows.RunbookSpacesSaid :=
 OpenClaim.holds_of_wide 5 Tryz.f5 rfl rfl rfl rfl rfl rfl rfl ⟨rfl,rfl,rfl,rfl,rfl⟩ rfl rfl rfl rfl rfl (by kernel_rfl) Tryz.func5 (by kernel_rfl)
  (of_decide_eq_true (by kernel_rfl)) (by unfold Func.isWrapper; rw [if_neg (of_decide_eq_false (by kernel_rfl))]; exact ⟨rfl,rfl⟩)
  (fun os started H enc _ => lifted os started H enc)

#print axioms proved
end Go.Proofs.YtiefjlcakpdfeaaGreat.runbookSpaces
