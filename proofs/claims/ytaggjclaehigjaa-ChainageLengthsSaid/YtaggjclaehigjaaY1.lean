/- The walk of the law ChainageChecks. -/
import Derived.Test.YtaggjclaehigjaaWW
import Derived.Test.YtaggjclaehigjaaR6
namespace Go.Proofs.Ytaggjclaehigjaa
open Go.RowKit
theorem eql_sp : ∀ (a b : Int) (w : World), (binOp .eql 30 (.agg #[.int .i64 a, .int .i64 b]) (.agg #[.int .i64 a, .int .i64 b])).run Try.prog w = .ok (.bool true) w := by
  intro a b w
  have h1 : (a == a) = true := by simp
  have h2 : (b == b) = true := by simp
  go_simp
set_option maxRecDepth 100000 in
set_option maxHeartbeats 4000000 in
theorem lawChecks (W : World) (C P R : List Five) (v : Value) (id y : Int) (w : World) (hX : Ext W w) (hv : Wk w v C P R) :
    Calls Try.prog 3 #[v, .int .i64 id, .int .i64 y] w fun e w' => e = .returned (.bool true) ∧ Ext W w' := by
  have HF := Lib.hid (fun w' (q : Ext w w') => few_any w' C P R v w' (Ext.refl _) (hv.ext q))
  have HA := Lib.hid (fun w' (q : Ext w w') => Spell_any w' C P R v id y w' (Ext.refl _) (hv.ext q))
  have HB := Lib.hid (fun w' (q : Ext w w') => rSpell w' C P R v id y w' (Ext.refl _) (hv.ext q))
  have HC := Lib.hid (fun w' (q : Ext w w') => Check_any w' C P R v w' (Ext.refl _) (hv.ext q))
  have HD := Lib.hid (fun w' (q : Ext w w') => rCheck w' C P R v w' (Ext.refl _) (hv.ext q))
  obtain ⟨vC, vP, vR, rfl, -⟩ := hv
  obtain ⟨⟨⟨a, b⟩, n⟩, hr⟩ : ∃ r, spellR C P R id y = r := ⟨_, rfl⟩
  rw [hr] at HA HB
  clear hr
  generalize chk C P R = m at HC HD
  generalize fewB C P R = f at HF
  have hX0 : Ext w (w.alloc (.cells #[vC, vP, vR] 26)) := (Ext.refl w).alloc _
  have hb0 := heap_alloc_new w (.cells #[vC, vP, vR] 26)
  obtain ⟨B, hBB⟩ : ∃ B, w.heap.size = B := ⟨_, rfl⟩
  go_enter Try.func3, Try.ntmps3
  go_wp2_with fail
  rw [hBB] at hb0
  with_reducible refine (HF.out _ hX0).mono ?_
  rintro e w1 ⟨rfl, hX1⟩
  have hE1 := hX0.trans hX1
  have hb1 := hX1.block hb0
  clear hX1 hX0 hb0
  obtain ⟨c0, c1, c2⟩ := box3' hb1
  cases f
  · go_wp2_with fail
    with_reducible refine (sanity_any _ _ (Ext.refl _)).mono ?_
    rintro e w2 ⟨rfl, hX2⟩
    go_wp2_with fail
    go_ret
    exact ⟨rfl, hX.trans (hE1.trans hX2)⟩
  · go_wp2_with fail
    with_reducible refine (HA.out _ hE1).mono ?_
    rintro e w2 ⟨rfl, hX2⟩
    have hE2 := hE1.trans hX2
    have hb2 := hX2.block hb1
    obtain ⟨c0, c1, c2⟩ := box3' hb2
    have zB := lt_of_cell c0
    have hb2' := ((Ext.refl w2).alloc (.cells #[.int .i64 a, .int .i64 b] 30)).block hb2
    have ha := heap_alloc_new w2 (.cells #[.int .i64 a, .int .i64 b] 30)
    have hE2' := hE2.alloc (.cells #[.int .i64 a, .int .i64 b] 30)
    go_wp2_with fail
    obtain ⟨w3, hw3⟩ : ∃ w3, w2.alloc (.cells #[.int .i64 a, .int .i64 b] 30) = w3 := ⟨_, rfl⟩
    rw [hw3] at hb2' ha hE2' ⊢
    clear hw3 c0 c1 c2 hE2 hb2 hb1 hE1 hX2
    generalize w2.heap.size = A at ha ⊢
    with_reducible refine (HB.out _ hE2').mono ?_
    rintro e w4 ⟨rfl, hX4⟩
    have hE4 := hE2'.trans hX4
    have hb4 := hX4.block hb2'
    have ha4 := hX4.block ha
    have hb5 := ((Ext.refl w4).alloc (.cells #[.int .i64 a, .int .i64 b] 30)).block hb4
    have ha5 := ((Ext.refl w4).alloc (.cells #[.int .i64 a, .int .i64 b] 30)).block ha4
    have hz5 := heap_alloc_new w4 (.cells #[.int .i64 a, .int .i64 b] 30)
    have hE5 := hE4.alloc (.cells #[.int .i64 a, .int .i64 b] 30)
    go_wp2_with fail
    obtain ⟨w5, hw5⟩ : ∃ w5, w4.alloc (.cells #[.int .i64 a, .int .i64 b] 30) = w5 := ⟨_, rfl⟩
    rw [hw5] at hb5 ha5 hz5 hE5 ⊢
    generalize w4.heap.size = Z at hz5 ⊢
    clear hw5 hE4 hb4 ha4 hX4 hb2' ha hE2'
    obtain ⟨c0, c1, c2⟩ := box3' hb5
    obtain ⟨a0, a1⟩ := box2 ha5
    obtain ⟨z0, z1⟩ := box2 hz5
    have c0 := cell_regrown c0
    have c1 := cell_regrown c1
    have c2 := cell_regrown c2
    have a0 := cell_regrown a0
    have a1 := cell_regrown a1
    have z0 := cell_regrown z0
    have z1 := cell_regrown z1
    have cS := regrow (w := w5) (fun w' _ => sanity_any w' w' (Ext.refl _))
    have cC := regrow (w := w5) (fun w' q => HC.out w' (hE5.trans q))
    have cD := regrow (w := w5) (fun w' q => HD.out w' (hE5.trans q))
    have qS := eql_sp
    refine wp_region_quiet_below (by kernel_rfl) (by kernel_rfl) ?_
    repeat (with_reducible refine wpQuiet_step (fun K hK => ?_); go_simp; first | (with_reducible refine hK _ ?_; clear hK K) | (rw [if_neg (by simp [undef])]; with_reducible refine hK _ ?_; clear hK K) | (apply Exists.intro; with_reducible refine ⟨fun _ => ?_, hK _ ?_⟩; (first | with_reducible exact cS _ _ | with_reducible exact cC _ _ | with_reducible exact cD _ _); clear hK K))
    refine wpQuiet_nil ?_
    intro _ hw'
    obtain ⟨⟨dq, osq⟩, hw''⟩ := hw'
    subst hw''
    have hXq : Ext w5 (Go.Sort.grow (redrawn w5 dq) osq) := below_regrown w5 dq osq
    go_wp2_with fail
    go_ret
    exact ⟨rfl, hX.trans (hE5.trans hXq)⟩
end Go.Proofs.Ytaggjclaehigjaa
