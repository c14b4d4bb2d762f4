/- The walk of PlaneMeetsAsSpecified: it returns true. -/
import Derived.Test.YtdbhbfmbpldmnaaD8
import Derived.Test.YtdbhbfmbpldmnaaR3
namespace Go.Proofs.Ytdbhbfmbpldmnaa
open Go.RowKit
set_option maxRecDepth 100000 in
set_option maxHeartbeats 1600000 in
theorem law5_any (W : World) (ax ay bx b_y cx cy dx dy px py : Int) (w : World) (hX : Ext W w) :
    Calls Try.prog 5 #[.agg #[.int .i64 ax, .int .i64 ay, .int .i64 bx, .int .i64 b_y], .agg #[.int .i64 cx, .int .i64 cy, .int .i64 dx, .int .i64 dy], .agg #[.int .i64 px, .int .i64 py]] w fun e w' => e = .returned (.bool true) ∧ Ext W w' := by
  go_enter Try.func5, Try.ntmps5
  go_wp2_with fail
  go_region_held3 (fun w' => Ext (((w.alloc (.cells #[.int .i64 ax, .int .i64 ay, .int .i64 bx, .int .i64 b_y] 34)).alloc (.cells #[.int .i64 cx, .int .i64 cy, .int .i64 dx, .int .i64 dy] 34)).alloc (.cells #[.int .i64 px, .int .i64 py] 23)) w' ∧ (∀ b o, b < (((w.alloc (.cells #[.int .i64 ax, .int .i64 ay, .int .i64 bx, .int .i64 b_y] 34)).alloc (.cells #[.int .i64 cx, .int .i64 cy, .int .i64 dx, .int .i64 dy] 34)).alloc (.cells #[.int .i64 px, .int .i64 py] 23)).heap.size → w'.cell? ⟨b, o, none⟩ = (((w.alloc (.cells #[.int .i64 ax, .int .i64 ay, .int .i64 bx, .int .i64 b_y] 34)).alloc (.cells #[.int .i64 cx, .int .i64 cy, .int .i64 dx, .int .i64 dy] 34)).alloc (.cells #[.int .i64 px, .int .i64 py] 23)).cell? ⟨b, o, none⟩)) (first | exact extS (by assumption) | exact extS (Ext.drew (by assumption)) | exact extS (Ext.refl _) | exact extS (Ext.drew (Ext.refl _)))
    (first | (go_at_call 16; refine (sanity_any _ _ (by first | assumption | exact And.left (by assumption) | exact Ext.refl _ | exact Ext.drew (Ext.refl _))).mono ?_; rintro e w' ⟨rfl, hX1⟩) | (go_at_call 26; refine (On_any _ _ _ _ _ _ _ _ (by first | assumption | exact And.left (by assumption) | exact Ext.refl _ | exact Ext.drew (Ext.refl _))).mono ?_; rintro e w' ⟨rfl, hX1⟩) | (go_at_call 27; refine (rOn _ _ _ _ _ _ _ _ (by first | assumption | exact And.left (by assumption) | exact Ext.refl _ | exact Ext.drew (Ext.refl _))).mono ?_; rintro e w' ⟨rfl, hX1⟩) | (go_at_call 28; refine (Meeting_any _ _ _ _ _ _ _ _ _ _ (by first | assumption | exact And.left (by assumption) | exact Ext.refl _ | exact Ext.drew (Ext.refl _))).mono ?_; rintro e w' ⟨rfl, hX1⟩) | (go_at_call 29; refine (rMeeting _ _ _ _ _ _ _ _ _ _ (by first | assumption | exact And.left (by assumption) | exact Ext.refl _ | exact Ext.drew (Ext.refl _))).mono ?_; rintro e w' ⟨rfl, hX1⟩))
  go_wp2_with fail
  go_ret
  exact ⟨rfl, hX.b3 hX1⟩
end Go.Proofs.Ytdbhbfmbpldmnaa
