/- For all points, shifts and numbers, Turn, Dist and Root are fair: PlaneTurnsFair returns true at every input, and leaves its arguments as they were. No condition. -/
import Derived.Test.YtdbhbfmbpldmnaaE
import Derived.Test.YtdbhbfmbpldmnaaL2
namespace Go.Proofs.Ytdbhbfmbpldmnaa
open Go.ChangeShapes Go.WideShapes Go.ChangeAt Go.RowKit
set_option maxRecDepth 100000 in
set_option maxHeartbeats 8000000 in
theorem lifted4 (os : Os) (started : os.Started) (H : Type) (enc : TypeId × Value → H) :
    ReturnsInHanded {} Try.checked os 4 .any (Rows.planeTurnsFairSpec.pre6 enc Try.prog Try.f4 Rows.planeTurnsFairRow.domain false) (Rows.planeTurnsFairSpec.post enc Try.prog Try.f4 false true false false) := by
  refine returnsInHanded_of_change (C := Try.checked) own started (by kernel_rfl) Try.func4
    (ChangeSpec.witness6 (enc := enc) (C := Try.checked) false ⟨#[], #[.agg #[.int .i64 0, .int .i64 0], .agg #[.int .i64 0, .int .i64 0], .agg #[.int .i64 0, .int .i64 0], .int .i64 0, .int .i64 0, .int .u32 0], []⟩ 8 (by kernel_rfl) (by kernel_rfl) (by kernel_rfl) (by kernel_rfl)) ?_
  intro W base args ds gs before hval0 hW _ _
  have hval : ∀ (j : Nat) t v, Try.f4.params[j]? = some t → args[j]? = some v → Value.okWide Try.prog W .any base t v := hval0
  have hW' := hW
  obtain ⟨p, q, hA0, hV, rfl, _, _⟩ := hW
  have hA : DataW.TrodAll enc Try.prog W 0 (fun _ => true) true Try.f4.params.toList args.toList ds p := hA0
  rw [Try.params4] at hA hval
  obtain ⟨v0, vs0, d0, ds0, p0, q0, hargs, rfl, rfl, _, r0⟩ := trodAll_cons hA
  obtain ⟨v1, vs1, d1, ds1, p1, q1, rfl, rfl, rfl, _, r1⟩ := trodAll_cons r0
  obtain ⟨v2, vs2, d2, ds2, p2, q2, rfl, rfl, rfl, _, r2⟩ := trodAll_cons r1
  obtain ⟨v3, vs3, d3, ds3, p3, q3, rfl, rfl, rfl, _, r3⟩ := trodAll_cons r2
  obtain ⟨v4, vs4, d4, ds4, p4, q4, rfl, rfl, rfl, _, r4⟩ := trodAll_cons r3
  obtain ⟨v5, vs5, d5, ds5, p5, q5, rfl, rfl, rfl, _, r5⟩ := trodAll_cons r4
  obtain ⟨rfl, rfl, rfl⟩ := trodAll_nil r5
  obtain rfl : args = #[v0, v1, v2, v3, v4, v5] := by cases args; simp_all
  obtain ⟨rfl, rfl⟩ := trodVars_none hV
  obtain ⟨x0, y0, rfl, bx0, b_y0⟩ := open_pt (hval 0 23 v0 rfl rfl)
  obtain ⟨x1, y1, rfl, bx1, b_y1⟩ := open_pt (hval 1 23 v1 rfl rfl)
  obtain ⟨x2, y2, rfl, bx2, b_y2⟩ := open_pt (hval 2 23 v2 rfl rfl)
  obtain ⟨n3, rfl, hn3⟩ := open_i64 (hval 3 3 v3 rfl rfl)
  obtain ⟨n4, rfl, hn4⟩ := open_i64 (hval 4 3 v4 rfl rfl)
  obtain ⟨n5, rfl, hn5⟩ := open_u32 (hval 5 30 v5 rfl rfl)
  refine (law4_any W x0 y0 x1 y1 x2 y2 n3 n4 n5 (turnZ x0 y0 x1 y1 x2 y2) (-turnZ x0 y0 x1 y1 x2 y2) W (Ext.refl _) hn5.1 hn5.2 rfl (by rcases turnZ_range x0 y0 x1 y1 x2 y2 with h | h | h <;> rw [h] <;> simp)).mono fun e W' ⟨he, hg⟩ => ?_
  subst he
  exact ⟨_, rfl, law_post hW' hg rfl rfl (by kernel_rfl) rfl⟩
set_option maxRecDepth 100000 in
set_option maxHeartbeats 8000000 in
theorem closed4 : joinedFacts Try.pinned.checked.prog 4 Try.f4 Rows.planeTurnsFairSpec Rows.planeTurnsFairRow = true := by
  unfold joinedFacts
  simp only [Bool.and_eq_true]
  repeat' apply And.intro
  all_goals first | with_reducible exact laid0 | with_reducible exact maps0 | with_reducible exact heard0 | with_reducible exact enter0 | as_aux_lemma => kernel_rfl
set_option maxHeartbeats 8000000 in
theorem turnsFair_holds : Rows.PlaneTurnsFairSaid :=
  OpenClaim.holds_of_wide 4 Try.f4 rfl rfl rfl rfl rfl rfl rfl ⟨rfl, rfl, rfl, rfl, rfl⟩ rfl rfl rfl rfl rfl (by as_aux_lemma => kernel_rfl) Try.func4 closed4
    (of_decide_eq_true (by kernel_rfl)) (by unfold Func.isWrapper; first | (rw [if_pos (by decide +kernel)]; kernel_rfl) | (rw [if_neg (by decide +kernel)]; exact ⟨rfl, rfl⟩))
    (fun os started H enc _ => lifted4 os started H enc)
#print axioms turnsFair_holds
end Go.Proofs.Ytdbhbfmbpldmnaa
