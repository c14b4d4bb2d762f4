/- For all works and two lists of measures: Distance of the first measure, Total and Closes return what the specification returns, for works of at most 40 chains and 30 proofs and repairs, and lists of at most 30 measures or more than 100: ChainageMeasures returns true at every input, and leaves its arguments as they were. No condition. -/
import Derived.Test.YtaggjclaehigjaaFF
import Derived.Test.YtaggjclaehigjaaY3
namespace Go.Proofs.Ytaggjclaehigjaa
open Go.ChangeShapes Go.WideShapes Go.ChangeAt Go.RowKit
set_option maxRecDepth 100000 in
set_option maxHeartbeats 8000000 in
theorem lifted9 (os : Os) (started : os.Started) (H : Type) (enc : TypeId × Value → H) :
    ReturnsInHanded {} Try.checked os 9 .any (Rows.chainageMeasuresSpec.pre6 enc Try.prog Try.f9 Rows.chainageMeasuresRow.domain false) (Rows.chainageMeasuresSpec.post enc Try.prog Try.f9 false true false false) := by
  refine returnsInHanded_of_change_sized (C := Try.checked) own started (by kernel_rfl) Try.func9
    (ChangeSpec.witness6 (enc := enc) (C := Try.checked) false ⟨#[], #[.agg #[.slice none 0 0, .slice none 0 0, .slice none 0 0], .slice none 0 0, .slice none 0 0], []⟩ 8 (by kernel_rfl) (by kernel_rfl) (by kernel_rfl) (by kernel_rfl)) ?_
  intro W base args ds gs before hval0 hW _ hsz0 _
  have hval : ∀ (j : Nat) t v, Try.f9.params[j]? = some t → args[j]? = some v → Value.okWide Try.prog W .any base t v := hval0
  have hsz : (DataW.weightsEach Try.prog (Try.f9.params.toList ++ Rows.chainageMeasuresSpec.plain.varTypes Try.prog) (ds ++ gs)).all (· ≤ reachBytes) = true := hsz0
  have hW' := hW
  obtain ⟨p, q, hA0, hV, rfl, _, _⟩ := hW
  have hA : DataW.TrodAll enc Try.prog W 0 (fun _ => true) true Try.f9.params.toList args.toList ds p := hA0
  rw [Try.params9] at hA hval hsz
  obtain ⟨v0, vs0, d0, ds0, p0, q0, hargs, rfl, rfl, h0, r0⟩ := trodAll_cons hA
  obtain ⟨v1, vs1, d1, ds1, p1, q1, rfl, rfl, rfl, h1, r1⟩ := trodAll_cons r0
  obtain ⟨v2, vs2, d2, ds2, p2, q2, rfl, rfl, rfl, h2, r2⟩ := trodAll_cons r1
  obtain ⟨rfl, rfl, rfl⟩ := trodAll_nil r2
  obtain rfl : args = #[v0, v1, v2] := by cases args; simp_all
  obtain ⟨rfl, rfl⟩ := trodVars_none hV
  obtain ⟨C0, P0, R0, hw0⟩ := open_works (hval 0 26 v0 rfl rfl) h0 (fun k hk => of_decide_eq_true (List.all_eq_true.1 hsz k (DataW.weights_mem_each (j := 0) rfl rfl k hk)))
  obtain ⟨l1, hl1⟩ := open_ms (hval 1 38 v1 rfl rfl) h1 (fun k hk => of_decide_eq_true (List.all_eq_true.1 hsz k (DataW.weights_mem_each (j := 1) rfl rfl k hk)))
  obtain ⟨l2, hl2⟩ := open_ms (hval 2 38 v2 rfl rfl) h2 (fun k hk => of_decide_eq_true (List.all_eq_true.1 hsz k (DataW.weights_mem_each (j := 2) rfl rfl k hk)))
  refine (lawMeasures W C0 P0 R0 v0 l1 l2 v1 v2 W (Ext.refl _) hw0.wk hl1.1 hl2.1).mono fun e W' ⟨he, hg⟩ => ?_
  subst he
  exact ⟨_, rfl, law_post hW' hg rfl rfl (by kernel_rfl) rfl⟩
set_option maxRecDepth 100000 in
set_option maxHeartbeats 8000000 in
theorem closed9 : joinedFacts Try.pinned.checked.prog 9 Try.f9 Rows.chainageMeasuresSpec Rows.chainageMeasuresRow = true := by
  unfold joinedFacts
  simp only [Bool.and_eq_true]
  repeat' apply And.intro
  all_goals first | with_reducible exact laid0 | with_reducible exact maps0 | with_reducible exact heard0 | with_reducible exact enter0 | as_aux_lemma => kernel_rfl
set_option maxHeartbeats 8000000 in
theorem measures_holds : Rows.ChainageMeasuresSaid :=
  OpenClaim.holds_of_wide 9 Try.f9 rfl rfl rfl rfl rfl rfl rfl ⟨rfl, rfl, rfl, rfl, rfl⟩ rfl rfl rfl rfl rfl (by as_aux_lemma => kernel_rfl) Try.func9 closed9
    (of_decide_eq_true (by kernel_rfl)) (by unfold Func.isWrapper; first | (rw [if_pos (by decide +kernel)]; kernel_rfl) | (rw [if_neg (by decide +kernel)]; exact ⟨rfl, rfl⟩))
    (fun os started H enc _ => lifted9 os started H enc)
#print axioms measures_holds
end Go.Proofs.Ytaggjclaehigjaa
