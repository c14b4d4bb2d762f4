/- For all boxes and a point, Meet and Cover do not depend on the order, a point is in Meet exactly if it is in both and in Cover if it is in one, and a point of a box is in just one of its halves: PlaneCutsDivide returns true at every input, and leaves its arguments as they were. No condition. -/
import Derived.Test.YtdbhbfmbpldmnaaE
import Derived.Test.YtdbhbfmbpldmnaaL9
namespace Go.Proofs.Ytdbhbfmbpldmnaa
open Go.ChangeShapes Go.WideShapes Go.ChangeAt Go.RowKit
set_option maxRecDepth 100000 in
set_option maxHeartbeats 8000000 in
theorem lifted14 (os : Os) (started : os.Started) (H : Type) (enc : TypeId × Value → H) :
    ReturnsInHanded {} Try.checked os 14 .any (Rows.planeCutsDivideSpec.pre6 enc Try.prog Try.f14 Rows.planeCutsDivideRow.domain false) (Rows.planeCutsDivideSpec.post enc Try.prog Try.f14 false true false false) := by
  refine returnsInHanded_of_change (C := Try.checked) own started (by kernel_rfl) Try.func14
    (ChangeSpec.witness6 (enc := enc) (C := Try.checked) false ⟨#[], #[.agg #[.int .i64 0, .int .i64 0, .int .i64 0, .int .i64 0], .agg #[.int .i64 0, .int .i64 0, .int .i64 0, .int .i64 0], .agg #[.int .i64 0, .int .i64 0]], []⟩ 8 (by kernel_rfl) (by kernel_rfl) (by kernel_rfl) (by kernel_rfl)) ?_
  intro W base args ds gs before hval0 hW _ _
  have hval : ∀ (j : Nat) t v, Try.f14.params[j]? = some t → args[j]? = some v → Value.okWide Try.prog W .any base t v := hval0
  have hW' := hW
  obtain ⟨p, q, hA0, hV, rfl, _, _⟩ := hW
  have hA : DataW.TrodAll enc Try.prog W 0 (fun _ => true) true Try.f14.params.toList args.toList ds p := hA0
  rw [Try.params14] at hA hval
  obtain ⟨v0, vs0, d0, ds0, p0, q0, hargs, rfl, rfl, _, r0⟩ := trodAll_cons hA
  obtain ⟨v1, vs1, d1, ds1, p1, q1, rfl, rfl, rfl, _, r1⟩ := trodAll_cons r0
  obtain ⟨v2, vs2, d2, ds2, p2, q2, rfl, rfl, rfl, _, r2⟩ := trodAll_cons r1
  obtain ⟨rfl, rfl, rfl⟩ := trodAll_nil r2
  obtain rfl : args = #[v0, v1, v2] := by cases args; simp_all
  obtain ⟨rfl, rfl⟩ := trodVars_none hV
  obtain ⟨x0, y0, z0, u0, rfl, hb0⟩ := open_box (hval 0 52 v0 rfl rfl)
  obtain ⟨x1, y1, z1, u1, rfl, hb1⟩ := open_box (hval 1 52 v1 rfl rfl)
  obtain ⟨x2, y2, rfl, bx2, b_y2⟩ := open_pt (hval 2 23 v2 rfl rfl)
  refine (law14_any W x0 y0 z0 u0 x1 y1 z1 u1 x2 y2 W (Ext.refl _)).mono fun e W' ⟨he, hg⟩ => ?_
  subst he
  exact ⟨_, rfl, law_post hW' hg rfl rfl (by kernel_rfl) rfl⟩
set_option maxRecDepth 100000 in
set_option maxHeartbeats 8000000 in
theorem closed14 : joinedFacts Try.pinned.checked.prog 14 Try.f14 Rows.planeCutsDivideSpec Rows.planeCutsDivideRow = true := by
  unfold joinedFacts
  simp only [Bool.and_eq_true]
  repeat' apply And.intro
  all_goals first | with_reducible exact laid0 | with_reducible exact maps0 | with_reducible exact heard0 | with_reducible exact enter0 | as_aux_lemma => kernel_rfl
set_option maxHeartbeats 8000000 in
theorem cutsDivide_holds : Rows.PlaneCutsDivideSaid :=
  OpenClaim.holds_of_wide 14 Try.f14 rfl rfl rfl rfl rfl rfl rfl ⟨rfl, rfl, rfl, rfl, rfl⟩ rfl rfl rfl rfl rfl (by as_aux_lemma => kernel_rfl) Try.func14 closed14
    (of_decide_eq_true (by kernel_rfl)) (by unfold Func.isWrapper; first | (rw [if_pos (by decide +kernel)]; kernel_rfl) | (rw [if_neg (by decide +kernel)]; exact ⟨rfl, rfl⟩))
    (fun os started H enc _ => lifted14 os started H enc)
#print axioms cutsDivide_holds
end Go.Proofs.Ytdbhbfmbpldmnaa
