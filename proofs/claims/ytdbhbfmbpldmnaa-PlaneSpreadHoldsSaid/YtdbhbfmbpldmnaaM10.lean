/- For all proper boxes and points of them, twice the area of their triangle lies in Spread, the square of their distance in Dists, Turns tells the sign, both ends are attained by points of the boxes, and no halves have a wider Spread or Dists: PlaneSpreadHolds returns true at every input, and leaves its arguments as they were. No condition. -/
import Derived.Test.YtdbhbfmbpldmnaaE
import Derived.Test.YtdbhbfmbpldmnaaL10
namespace Go.Proofs.Ytdbhbfmbpldmnaa
open Go.ChangeShapes Go.WideShapes Go.ChangeAt Go.RowKit
set_option maxRecDepth 100000 in
set_option maxHeartbeats 8000000 in
theorem lifted15 (os : Os) (started : os.Started) (H : Type) (enc : TypeId × Value → H) :
    ReturnsInHanded {} Try.checked os 15 .any (Rows.planeSpreadHoldsSpec.pre6 enc Try.prog Try.f15 Rows.planeSpreadHoldsRow.domain false) (Rows.planeSpreadHoldsSpec.post enc Try.prog Try.f15 false true false false) := by
  refine returnsInHanded_of_change (C := Try.checked) own started (by kernel_rfl) Try.func15
    (ChangeSpec.witness6 (enc := enc) (C := Try.checked) false ⟨#[], #[.agg #[.int .i64 0, .int .i64 0, .int .i64 0, .int .i64 0], .agg #[.int .i64 0, .int .i64 0, .int .i64 0, .int .i64 0], .agg #[.int .i64 0, .int .i64 0, .int .i64 0, .int .i64 0], .agg #[.int .u32 0, .int .u32 0], .agg #[.int .u32 0, .int .u32 0], .agg #[.int .u32 0, .int .u32 0]], []⟩ 8 (by kernel_rfl) (by kernel_rfl) (by kernel_rfl) (by kernel_rfl)) ?_
  intro W base args ds gs before hval0 hW _ _
  have hval : ∀ (j : Nat) t v, Try.f15.params[j]? = some t → args[j]? = some v → Value.okWide Try.prog W .any base t v := hval0
  have hW' := hW
  obtain ⟨p, q, hA0, hV, rfl, _, _⟩ := hW
  have hA : DataW.TrodAll enc Try.prog W 0 (fun _ => true) true Try.f15.params.toList args.toList ds p := hA0
  rw [Try.params15] at hA hval
  obtain ⟨v0, vs0, d0, ds0, p0, q0, hargs, rfl, rfl, _, r0⟩ := trodAll_cons hA
  obtain ⟨v1, vs1, d1, ds1, p1, q1, rfl, rfl, rfl, _, r1⟩ := trodAll_cons r0
  obtain ⟨v2, vs2, d2, ds2, p2, q2, rfl, rfl, rfl, _, r2⟩ := trodAll_cons r1
  obtain ⟨v3, vs3, d3, ds3, p3, q3, rfl, rfl, rfl, _, r3⟩ := trodAll_cons r2
  obtain ⟨v4, vs4, d4, ds4, p4, q4, rfl, rfl, rfl, _, r4⟩ := trodAll_cons r3
  obtain ⟨v5, vs5, d5, ds5, p5, q5, rfl, rfl, rfl, _, r5⟩ := trodAll_cons r4
  obtain ⟨rfl, rfl, rfl⟩ := trodAll_nil r5
  obtain rfl : args = #[v0, v1, v2, v3, v4, v5] := by cases args; simp_all
  obtain ⟨rfl, rfl⟩ := trodVars_none hV
  obtain ⟨x0, y0, z0, u0, rfl, hb0⟩ := open_box (hval 0 52 v0 rfl rfl)
  obtain ⟨x1, y1, z1, u1, rfl, hb1⟩ := open_box (hval 1 52 v1 rfl rfl)
  obtain ⟨x2, y2, z2, u2, rfl, hb2⟩ := open_box (hval 2 52 v2 rfl rfl)
  obtain ⟨x3, y3, rfl, hb3⟩ := open_u2 (hval 3 86 v3 rfl rfl)
  obtain ⟨x4, y4, rfl, hb4⟩ := open_u2 (hval 4 86 v4 rfl rfl)
  obtain ⟨x5, y5, rfl, hb5⟩ := open_u2 (hval 5 86 v5 rfl rfl)
  refine (law15_any W x0 y0 z0 u0 x1 y1 z1 u1 x2 y2 z2 u2 x3 y3 x4 y4 x5 y5 W (Ext.refl _) hb3.1 hb3.2 hb4.1 hb4.2 hb5.1 hb5.2).mono fun e W' ⟨he, hg⟩ => ?_
  subst he
  exact ⟨_, rfl, law_post hW' hg rfl rfl (by kernel_rfl) rfl⟩
set_option maxRecDepth 100000 in
set_option maxHeartbeats 8000000 in
theorem closed15 : joinedFacts Try.pinned.checked.prog 15 Try.f15 Rows.planeSpreadHoldsSpec Rows.planeSpreadHoldsRow = true := by
  unfold joinedFacts
  simp only [Bool.and_eq_true]
  repeat' apply And.intro
  all_goals first | with_reducible exact laid0 | with_reducible exact maps0 | with_reducible exact heard0 | with_reducible exact enter0 | as_aux_lemma => kernel_rfl
set_option maxHeartbeats 8000000 in
theorem spreadHolds_holds : Rows.PlaneSpreadHoldsSaid :=
  OpenClaim.holds_of_wide 15 Try.f15 rfl rfl rfl rfl rfl rfl rfl ⟨rfl, rfl, rfl, rfl, rfl⟩ rfl rfl rfl rfl rfl (by as_aux_lemma => kernel_rfl) Try.func15 closed15
    (of_decide_eq_true (by kernel_rfl)) (by unfold Func.isWrapper; first | (rw [if_pos (by decide +kernel)]; kernel_rfl) | (rw [if_neg (by decide +kernel)]; exact ⟨rfl, rfl⟩))
    (fun os started H enc _ => lifted15 os started H enc)
#print axioms spreadHolds_holds
end Go.Proofs.Ytdbhbfmbpldmnaa
