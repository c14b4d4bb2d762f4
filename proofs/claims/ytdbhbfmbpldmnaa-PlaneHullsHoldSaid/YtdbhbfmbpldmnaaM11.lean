/- For every list of at most 40 points with a hull, its corners are among the points, each corner turns left, no point lies to the right of an edge, and the hull of the hull is the hull: PlaneHullsHold returns true at every input, and leaves its arguments as they were. No condition. -/
import Derived.Test.YtdbhbfmbpldmnaaE
import Derived.Test.YtdbhbfmbpldmnaaE2
import Derived.Test.YtdbhbfmbpldmnaaL11
namespace Go.Proofs.Ytdbhbfmbpldmnaa
open Go.ChangeShapes Go.WideShapes Go.ChangeAt Go.RowKit
set_option maxRecDepth 100000 in
set_option maxHeartbeats 8000000 in
theorem lifted11 (os : Os) (started : os.Started) (H : Type) (enc : TypeId × Value → H) :
    ReturnsInHanded {} Try.checked os 11 .any (Rows.planeHullsHoldSpec.pre6 enc Try.prog Try.f11 Rows.planeHullsHoldRow.domain false) (Rows.planeHullsHoldSpec.post enc Try.prog Try.f11 false true false false) := by
  refine returnsInHanded_of_change (C := Try.checked) own started (by kernel_rfl) Try.func11
    (ChangeSpec.witness6 (enc := enc) (C := Try.checked) false ⟨#[], #[.slice none 0 0], []⟩ 8 (by kernel_rfl) (by kernel_rfl) (by kernel_rfl) (by kernel_rfl)) ?_
  intro W base args ds gs before hval0 hW _ _
  have hval : ∀ (j : Nat) t v, Try.f11.params[j]? = some t → args[j]? = some v → Value.okWide Try.prog W .any base t v := hval0
  have hW' := hW
  obtain ⟨p, q, hA0, hV, rfl, _, _⟩ := hW
  have hA : DataW.TrodAll enc Try.prog W 0 (fun _ => true) true Try.f11.params.toList args.toList ds p := hA0
  rw [Try.params11] at hA hval
  obtain ⟨v0, vs0, d0, ds0, p0, q0, hargs, rfl, rfl, h0, r0⟩ := trodAll_cons hA
  obtain ⟨rfl, rfl, rfl⟩ := trodAll_nil r0
  obtain rfl : args = #[v0] := by cases args; simp_all
  obtain ⟨rfl, rfl⟩ := trodVars_none hV
  obtain ⟨l0, hl0⟩ := open_pts (hval 0 39 v0 rfl rfl) h0
  refine (law11_any W _ l0 W (Ext.refl _) hl0).mono fun e W' ⟨he, hg⟩ => ?_
  subst he
  exact ⟨_, rfl, law_post hW' hg rfl rfl (by kernel_rfl) rfl⟩
set_option maxRecDepth 100000 in
set_option maxHeartbeats 8000000 in
theorem closed11 : joinedFacts Try.pinned.checked.prog 11 Try.f11 Rows.planeHullsHoldSpec Rows.planeHullsHoldRow = true := by
  unfold joinedFacts
  simp only [Bool.and_eq_true]
  repeat' apply And.intro
  all_goals first | with_reducible exact laid0 | with_reducible exact maps0 | with_reducible exact heard0 | with_reducible exact enter0 | as_aux_lemma => kernel_rfl
set_option maxHeartbeats 8000000 in
theorem hullsHold_holds : Rows.PlaneHullsHoldSaid :=
  OpenClaim.holds_of_wide 11 Try.f11 rfl rfl rfl rfl rfl rfl rfl ⟨rfl, rfl, rfl, rfl, rfl⟩ rfl rfl rfl rfl rfl (by as_aux_lemma => kernel_rfl) Try.func11 closed11
    (of_decide_eq_true (by kernel_rfl)) (by unfold Func.isWrapper; first | (rw [if_pos (by decide +kernel)]; kernel_rfl) | (rw [if_neg (by decide +kernel)]; exact ⟨rfl, rfl⟩))
    (fun os started H enc _ => lifted11 os started H enc)
#print axioms hullsHold_holds
end Go.Proofs.Ytdbhbfmbpldmnaa
