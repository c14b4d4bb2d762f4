/- For all works whose proofs of the first chain show its true lengths in at most 60 years, and a measure: the works do not contradict themselves, the true lengths fit, each one lies in Long of its year, and a true distance that the measure can have lies in Distance, for works of at most 30 proofs and repairs: ChainageIsTrue returns true at every input, and leaves its arguments as they were. No condition. -/
import Derived.Test.YtaggjclaehigjaaFF
import Derived.Test.YtaggjclaehigjaaY8
namespace Go.Proofs.Ytaggjclaehigjaa
open Go.ChangeShapes Go.WideShapes Go.ChangeAt Go.RowKit
set_option maxRecDepth 100000 in
set_option maxHeartbeats 8000000 in
theorem lifted7 (os : Os) (started : os.Started) (H : Type) (enc : TypeId × Value → H) :
    ReturnsInHanded {} Try.checked os 7 .any (Rows.chainageIsTrueSpec.pre6 enc Try.prog Try.f7 Rows.chainageIsTrueRow.domain false) (Rows.chainageIsTrueSpec.post enc Try.prog Try.f7 false true false false) := by
  refine returnsInHanded_of_change_sized (C := Try.checked) own started (by kernel_rfl) Try.func7
    (ChangeSpec.witness6 (enc := enc) (C := Try.checked) false ⟨#[], #[.agg #[.slice none 0 0, .slice none 0 0, .slice none 0 0], .int .i64 0, .slice none 0 0, .slice none 0 0, .agg #[.int .i64 0, .int .i64 0, .int .i64 0, .int .i64 0, .int .i64 0], .int .i64 0], []⟩ 8 (by kernel_rfl) (by kernel_rfl) (by kernel_rfl) (by kernel_rfl)) ?_
  intro W base args ds gs before hval0 hW _ hsz0 _
  have hval : ∀ (j : Nat) t v, Try.f7.params[j]? = some t → args[j]? = some v → Value.okWide Try.prog W .any base t v := hval0
  have hsz : (DataW.weightsEach Try.prog (Try.f7.params.toList ++ Rows.chainageIsTrueSpec.plain.varTypes Try.prog) (ds ++ gs)).all (· ≤ reachBytes) = true := hsz0
  have hW' := hW
  obtain ⟨p, q, hA0, hV, rfl, _, _⟩ := hW
  have hA : DataW.TrodAll enc Try.prog W 0 (fun _ => true) true Try.f7.params.toList args.toList ds p := hA0
  rw [Try.params7] at hA hval hsz
  obtain ⟨v0, vs0, d0, ds0, p0, q0, hargs, rfl, rfl, h0, r0⟩ := trodAll_cons hA
  obtain ⟨v1, vs1, d1, ds1, p1, q1, rfl, rfl, rfl, _, r1⟩ := trodAll_cons r0
  obtain ⟨v2, vs2, d2, ds2, p2, q2, rfl, rfl, rfl, h2, r2⟩ := trodAll_cons r1
  obtain ⟨v3, vs3, d3, ds3, p3, q3, rfl, rfl, rfl, h3, r3⟩ := trodAll_cons r2
  obtain ⟨v4, vs4, d4, ds4, p4, q4, rfl, rfl, rfl, h4, r4⟩ := trodAll_cons r3
  obtain ⟨v5, vs5, d5, ds5, p5, q5, rfl, rfl, rfl, _, r5⟩ := trodAll_cons r4
  obtain ⟨rfl, rfl, rfl⟩ := trodAll_nil r5
  obtain rfl : args = #[v0, v1, v2, v3, v4, v5] := by cases args; simp_all
  obtain ⟨rfl, rfl⟩ := trodVars_none hV
  obtain ⟨C0, P0, R0, hw0⟩ := open_works (hval 0 26 v0 rfl rfl) h0 (fun k hk => of_decide_eq_true (List.all_eq_true.1 hsz k (DataW.weights_mem_each (j := 0) rfl rfl k hk)))
  obtain ⟨n1, rfl, hn1⟩ := open_i64 (hval 1 3 v1 rfl rfl)
  obtain ⟨l2, hl2⟩ := open_ints (hval 2 44 v2 rfl rfl) h2 (fun k hk => of_decide_eq_true (List.all_eq_true.1 hsz k (DataW.weights_mem_each (j := 2) rfl rfl k hk)))
  obtain ⟨l3, hl3⟩ := open_ints (hval 3 44 v3 rfl rfl) h3 (fun k hk => of_decide_eq_true (List.all_eq_true.1 hsz k (DataW.weights_mem_each (j := 3) rfl rfl k hk)))
  obtain ⟨x4, rfl, hb4⟩ := open_measure (hval 4 41 v4 rfl rfl) h4
  obtain ⟨n5, rfl, hn5⟩ := open_i64 (hval 5 3 v5 rfl rfl)
  refine (lawTrue W C0 P0 R0 v0 n1 l2 l3 v2 v3 x4.a x4.b x4.c x4.d x4.e n5 W (Ext.refl _) hw0.wk hl2.1 hl3.1).mono fun e W' ⟨he, hg⟩ => ?_
  subst he
  exact ⟨_, rfl, law_post hW' hg rfl rfl (by kernel_rfl) rfl⟩
set_option maxRecDepth 100000 in
set_option maxHeartbeats 8000000 in
theorem closed7 : joinedFacts Try.pinned.checked.prog 7 Try.f7 Rows.chainageIsTrueSpec Rows.chainageIsTrueRow = true := by
  unfold joinedFacts
  simp only [Bool.and_eq_true]
  repeat' apply And.intro
  all_goals first | with_reducible exact laid0 | with_reducible exact maps0 | with_reducible exact heard0 | with_reducible exact enter0 | as_aux_lemma => kernel_rfl
set_option maxHeartbeats 8000000 in
theorem isTrue_holds : Rows.ChainageIsTrueSaid :=
  OpenClaim.holds_of_wide 7 Try.f7 rfl rfl rfl rfl rfl rfl rfl ⟨rfl, rfl, rfl, rfl, rfl⟩ rfl rfl rfl rfl rfl (by as_aux_lemma => kernel_rfl) Try.func7 closed7
    (of_decide_eq_true (by kernel_rfl)) (by unfold Func.isWrapper; first | (rw [if_pos (by decide +kernel)]; kernel_rfl) | (rw [if_neg (by decide +kernel)]; exact ⟨rfl, rfl⟩))
    (fun os started H enc _ => lifted7 os started H enc)
#print axioms isTrue_holds
end Go.Proofs.Ytaggjclaehigjaa
