import Derived.Test.YtdbhbfmbpldmnaaC2
namespace Go.Proofs.Ytdbhbfmbpldmnaa
open Go.RowKit
def propB (ax ay bx b_y : Int) : Bool := okp (ax, ay) && okp (bx, b_y) && decide ((ax, ay) ≠ (bx, b_y))
set_option maxHeartbeats 400000 in
theorem proper_any (W : World) (ax ay bx b_y : Int) (w : World) (hX : Ext W w) :
    Calls Try.prog 87 #[.agg #[.int .i64 ax, .int .i64 ay, .int .i64 bx, .int .i64 b_y]] w fun e w' => e = .returned (.bool (propB ax ay bx b_y)) ∧ Ext W w' := by
  by_cases hv : [(ax, ay), (bx, b_y)].all okp = true
  · have HV := Lib.hid hv
    have hP : propB ax ay bx b_y = decide (¬ (ax = bx ∧ ay = b_y)) := by
      simp at hv
      simp [propB, hv]
    have HP := Lib.hid hP
    clear hv hP
    go_enter Try.func87, Try.ntmps87
    go_wp2_with (first | (go_at_call 78; refine (valid_any _ _ [(ax, ay), (bx, b_y)] _ (Ext.refl _) (Pts_mk (by simp) rfl rfl (by simp [maxLen]))).mono ?_; rintro e w' ⟨rfl, hX1⟩; rw [HV.out]; have hr := hX1.rule))
    all_goals
      go_ret
      exact ⟨ret_bool (by rw [HP.out]; simp [*]), hX.b2 hX1⟩
  · have HV := Lib.hid (Bool.eq_false_iff.2 hv)
    have hP : propB ax ay bx b_y = false := by
      simp at hv
      simp [propB]
      intro h1 h2
      simp [hv h1] at h2
    have HP := Lib.hid hP
    clear hv hP
    go_enter Try.func87, Try.ntmps87
    go_wp2_with (first | (go_at_call 78; refine (valid_any _ _ [(ax, ay), (bx, b_y)] _ (Ext.refl _) (Pts_mk (by simp) rfl rfl (by simp [maxLen]))).mono ?_; rintro e w' ⟨rfl, hX1⟩; rw [HV.out]; have hr := hX1.rule))
    go_ret
    exact ⟨ret_bool HP.out.symm, hX.b2 hX1⟩
theorem propB_ok {ax ay bx b_y : Int} (h : propB ax ay bx b_y = true) : okc ax = true ∧ okc ay = true ∧ okc bx = true ∧ okc b_y = true := by
  simp [propB, okp] at h
  exact ⟨h.1.1.1, h.1.1.2, h.1.2.1, h.1.2.2⟩
def OnB (ax ay bx b_y px py : Int) : Bool := propB ax ay bx b_y && okp (px, py) && onB ax ay bx b_y px py
set_option maxHeartbeats 400000 in
theorem On_any (W : World) (ax ay bx b_y px py : Int) (w : World) (hX : Ext W w) :
    Calls Try.prog 26 #[.agg #[.int .i64 ax, .int .i64 ay, .int .i64 bx, .int .i64 b_y], .agg #[.int .i64 px, .int .i64 py]] w fun e w' => e = .returned (.bool (OnB ax ay bx b_y px py)) ∧ Ext W w' := by
  go_enter Try.func26, Try.ntmps26
  go_wp2_with (first | (go_at_call 87; refine (proper_any _ _ _ _ _ _ (Ext.refl _)).mono ?_; rintro e w' ⟨rfl, hX1⟩; have hr := hX1.rule) | (go_at_call 17; refine (Valid_any _ _ _ _ (by assumption)).mono ?_; rintro e w' ⟨rfl, hX1⟩; have hr := hX1.rule) | (go_at_call 88; have hp : propB ax ay bx b_y = true := (by assumption); have hq : okp (px, py) = true := (by assumption); obtain ⟨h1, h2, h3, h4⟩ := propB_ok hp; simp only [okp, Bool.and_eq_true] at hq; refine (on_any _ _ _ _ _ _ _ _ (by assumption) h1 h2 h3 h4 hq.1 hq.2).mono ?_; rintro e w' ⟨rfl, hX2⟩))
  all_goals
    go_ret
    exact ⟨ret_bool (by simp [OnB, *]), hX.b2 (by assumption)⟩
end Go.Proofs.Ytdbhbfmbpldmnaa
