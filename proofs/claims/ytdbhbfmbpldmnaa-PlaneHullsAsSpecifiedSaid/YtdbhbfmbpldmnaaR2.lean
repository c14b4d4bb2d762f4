/- Contracts of the specification's functions of segments. -/
import Derived.Test.YtdbhbfmbpldmnaaR1
namespace Go.Proofs.Ytdbhbfmbpldmnaa
open Go.RowKit
set_option maxHeartbeats 400000 in
theorem rBetween (W : World) (ax ay bx b_y cx cy : Int) (w : World) (hX : Ext W w) :
    Calls Try.prog 130 #[.agg #[.int .i64 ax, .int .i64 ay], .agg #[.int .i64 bx, .int .i64 b_y], .agg #[.int .i64 cx, .int .i64 cy]] w fun e w' => e = .returned (.bool (betB ax ay bx b_y cx cy)) ∧ Ext W w' := by
  have hmin := ite_min
  have hmax := ite_max
  go_enter Try.func130, Try.ntmps130
  go_wp2_with (first | (go_at_call 77; refine (rWithin _ _ _ _ _ (by first | assumption | exact Ext.refl _)).mono ?_; rintro e w' ⟨rfl, hX1⟩; have hr := hX1.rule))
  · have h : winB cx (min ax bx) (max ax bx) = true := by assumption
    go_ret
    exact ⟨ret_bool (by simp [betB, h]), hX.b3 (by assumption)⟩
  · have h : ¬ winB cx (min ax bx) (max ax bx) = true := by assumption
    go_ret
    exact ⟨ret_bool (by simp [betB, h]), hX.b3 (by assumption)⟩
set_option maxHeartbeats 400000 in
theorem rOn0 (W : World) (ax ay bx b_y cx cy : Int) (w : World) (hX : Ext W w) (h1 : okc ax) (h2 : okc ay) (h3 : okc bx) (h4 : okc b_y) (h5 : okc cx) (h6 : okc cy) :
    Calls Try.prog 90 #[.agg #[.int .i64 ax, .int .i64 ay], .agg #[.int .i64 bx, .int .i64 b_y], .agg #[.int .i64 cx, .int .i64 cy]] w fun e w' => e = .returned (.bool (onB ax ay bx b_y cx cy)) ∧ Ext W w' := by
  go_enter Try.func90, Try.ntmps90
  go_wp2_with (first | (go_at_call 83; refine (rTwice _ _ _ _ _ _ _ _ (by assumption) h1 h2 h3 h4 h5 h6).mono ?_; rintro e w' ⟨rfl, hX1⟩) | (go_at_call 130; refine (rBetween _ _ _ _ _ _ _ _ (Ext.refl _)).mono ?_; rintro e w' ⟨rfl, hX2⟩; have hr := hX2.rule))
  all_goals
    go_ret
    exact ⟨ret_bool (by first | (simp [onB, *]; done) | (simp [onB, *]; rw [Bool.eq_iff_iff]; simp)), hX.b3 (by assumption)⟩
set_option maxHeartbeats 400000 in
theorem rProper (W : World) (ax ay bx b_y : Int) (w : World) (hX : Ext W w) :
    Calls Try.prog 89 #[.agg #[.int .i64 ax, .int .i64 ay, .int .i64 bx, .int .i64 b_y]] w fun e w' => e = .returned (.bool (propB ax ay bx b_y)) ∧ Ext W w' := by
  by_cases hv : [(ax, ay), (bx, b_y)].all okp = true
  · have HV := Lib.hid hv
    have hP : propB ax ay bx b_y = decide (¬ (ax = bx ∧ ay = b_y)) := by
      simp at hv
      simp [propB, hv]
    have HP := Lib.hid hP
    clear hv hP
    go_enter Try.func89, Try.ntmps89
    go_wp2_with (first | (go_at_call 81; refine (rvalid _ _ [(ax, ay), (bx, b_y)] _ (Ext.refl _) (Pts_mk (by simp) rfl rfl (by simp [maxLen]))).mono ?_; rintro e w' ⟨rfl, hX1⟩; rw [HV.out]; have hr := hX1.rule))
    all_goals
      go_ret
      exact ⟨ret_bool (by rw [HP.out]; simp [*]), hX.b2 hX1⟩
  · have HV := Lib.hid (Bool.eq_false_iff.2 hv)
    have hP : propB ax ay bx b_y = false := by
      simp at hv
      simp [propB]
      intro h1 h2
      simp [hv h1] at h2
    have HP := Lib.hid hP
    clear hv hP
    go_enter Try.func89, Try.ntmps89
    go_wp2_with (first | (go_at_call 81; refine (rvalid _ _ [(ax, ay), (bx, b_y)] _ (Ext.refl _) (Pts_mk (by simp) rfl rfl (by simp [maxLen]))).mono ?_; rintro e w' ⟨rfl, hX1⟩; rw [HV.out]; have hr := hX1.rule))
    go_ret
    exact ⟨ret_bool HP.out.symm, hX.b2 hX1⟩
set_option maxHeartbeats 400000 in
theorem rOn (W : World) (ax ay bx b_y px py : Int) (w : World) (hX : Ext W w) :
    Calls Try.prog 27 #[.agg #[.int .i64 ax, .int .i64 ay, .int .i64 bx, .int .i64 b_y], .agg #[.int .i64 px, .int .i64 py]] w fun e w' => e = .returned (.bool (OnB ax ay bx b_y px py)) ∧ Ext W w' := by
  go_enter Try.func27, Try.ntmps27
  go_wp2_with (first | (go_at_call 89; refine (rProper _ _ _ _ _ _ (Ext.refl _)).mono ?_; rintro e w' ⟨rfl, hX1⟩; have hr := hX1.rule) | (go_at_call 18; refine (rValid _ _ _ _ (by assumption)).mono ?_; rintro e w' ⟨rfl, hX1⟩; have hr := hX1.rule) | (go_at_call 90; have hp : propB ax ay bx b_y = true := (by assumption); have hq : okp (px, py) = true := (by assumption); obtain ⟨h1, h2, h3, h4⟩ := propB_ok hp; simp only [okp, Bool.and_eq_true] at hq; refine (rOn0 _ _ _ _ _ _ _ _ (by assumption) h1 h2 h3 h4 hq.1 hq.2).mono ?_; rintro e w' ⟨rfl, hX2⟩))
  all_goals
    go_ret
    exact ⟨ret_bool (by simp [OnB, *]), hX.b2 (by assumption)⟩
end Go.Proofs.Ytdbhbfmbpldmnaa
