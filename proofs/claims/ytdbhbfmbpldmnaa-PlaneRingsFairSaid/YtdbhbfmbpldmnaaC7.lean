import Derived.Test.YtdbhbfmbpldmnaaC6
namespace Go.Proofs.Ytdbhbfmbpldmnaa
open Go.RowKit
set_option maxRecDepth 100000 in
set_option maxHeartbeats 800000 in
theorem Meeting_any (W : World) (ax ay bx b_y cx cy dx dy : Int) (w : World) (hX : Ext W w) :
    Calls Try.prog 28 #[.agg #[.int .i64 ax, .int .i64 ay, .int .i64 bx, .int .i64 b_y], .agg #[.int .i64 cx, .int .i64 cy, .int .i64 dx, .int .i64 dy]] w fun e w' => e = .returned (.int .i64 (mtZ ax ay bx b_y cx cy dx dy)) ∧ Ext W w' := by
  cases p1 : propB ax ay bx b_y
  · have HZ : Hid (mtZ ax ay bx b_y cx cy dx dy = 0) := by unfold Hid mtZ; rw [if_neg (by simp [p1])]
    go_enter Try.func28, Try.ntmps28
    go_wp2_with (first | (go_at_call 87; refine (proper_any _ _ _ _ _ _ (by first | assumption | exact Ext.refl _)).mono ?_; rintro e w1 ⟨rfl, hX1⟩; have hr := hX1.rule))
    go_ret
    exact ⟨ret_int HZ.out.symm, hX.b2 (by assumption)⟩
  · cases p2 : propB cx cy dx dy
    · have HZ : Hid (mtZ ax ay bx b_y cx cy dx dy = 0) := by unfold Hid mtZ; rw [if_neg (by simp [p2])]
      go_enter Try.func28, Try.ntmps28
      go_wp2_with (first | (go_at_call 87; refine (proper_any _ _ _ _ _ _ (by first | assumption | exact Ext.refl _)).mono ?_; rintro e w1 ⟨rfl, hX1⟩; have hr := hX1.rule))
      go_ret
      exact ⟨ret_int HZ.out.symm, hX.b2 (by assumption)⟩
    · exact Meeting_ok W ax ay bx b_y cx cy dx dy w hX p1 p2
end Go.Proofs.Ytdbhbfmbpldmnaa
