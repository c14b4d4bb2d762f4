/- The walk of PlaneTurnsAsSpecified: it returns true. -/
import Derived.Test.YtdbhbfmbpldmnaaD8
import Derived.Test.YtdbhbfmbpldmnaaR1
namespace Go.Proofs.Ytdbhbfmbpldmnaa
open Go.RowKit
set_option maxRecDepth 100000 in
set_option maxHeartbeats 1600000 in
theorem law3_any (W : World) (ax ay bx b_y cx cy n : Int) (w : World) (hX : Ext W w) (hn : n ≤ 9223372036854775807) :
    Calls Try.prog 3 #[.agg #[.int .i64 ax, .int .i64 ay], .agg #[.int .i64 bx, .int .i64 b_y], .agg #[.int .i64 cx, .int .i64 cy], .int .i64 n] w fun e w' => e = .returned (.bool true) ∧ Ext W w' := by
  have HN := Lib.hid hn
  clear hn
  go_enter Try.func3, Try.ntmps3
  go_wp2_with fail
  go_region_held3 (fun w' => Ext (((w.alloc (.cells #[.int .i64 ax, .int .i64 ay] 23)).alloc (.cells #[.int .i64 bx, .int .i64 b_y] 23)).alloc (.cells #[.int .i64 cx, .int .i64 cy] 23)) w' ∧ (∀ b o, b < (((w.alloc (.cells #[.int .i64 ax, .int .i64 ay] 23)).alloc (.cells #[.int .i64 bx, .int .i64 b_y] 23)).alloc (.cells #[.int .i64 cx, .int .i64 cy] 23)).heap.size → w'.cell? ⟨b, o, none⟩ = (((w.alloc (.cells #[.int .i64 ax, .int .i64 ay] 23)).alloc (.cells #[.int .i64 bx, .int .i64 b_y] 23)).alloc (.cells #[.int .i64 cx, .int .i64 cy] 23)).cell? ⟨b, o, none⟩)) (first | exact extS (by assumption) | exact extS (Ext.drew (by assumption)) | exact extS (Ext.refl _) | exact extS (Ext.drew (Ext.refl _)))
    (first | (go_at_call 16; refine (sanity_any _ _ (by first | assumption | exact And.left (by assumption) | exact Ext.refl _ | exact Ext.drew (Ext.refl _))).mono ?_; rintro e w' ⟨rfl, hX1⟩) | (go_at_call 17; refine (Valid_any _ _ _ _ (by first | assumption | exact And.left (by assumption))).mono ?_; rintro e w' ⟨rfl, hX1⟩) | (go_at_call 18; refine (rValid _ _ _ _ (by first | assumption | exact And.left (by assumption))).mono ?_; rintro e w' ⟨rfl, hX1⟩) | (go_at_call 19; refine (Turn_any _ _ _ _ _ _ _ _ (by first | assumption | exact And.left (by assumption))).mono ?_; rintro e w' ⟨rfl, hX1⟩) | (go_at_call 20; refine (rTurn _ _ _ _ _ _ _ _ (by first | assumption | exact And.left (by assumption))).mono ?_; rintro e w' ⟨rfl, hX1⟩) | (go_at_call 21; refine (Dist_any _ _ _ _ _ _ (by first | assumption | exact And.left (by assumption))).mono ?_; rintro e w' ⟨rfl, hX1⟩) | (go_at_call 22; refine (rDist _ _ _ _ _ _ (by first | assumption | exact And.left (by assumption))).mono ?_; rintro e w' ⟨rfl, hX1⟩) | (go_at_call 23; refine (Root_any _ _ _ (by first | assumption | exact And.left (by assumption)) HN.out).mono ?_; rintro e w' ⟨rfl, hX1⟩) | (go_at_call 24; refine (refRoot_any _ _ _ (by first | assumption | exact And.left (by assumption)) HN.out).mono ?_; rintro e w' ⟨rfl, hX1⟩))
  go_wp2_with fail
  go_ret
  exact ⟨rfl, hX.b3 hX1⟩
end Go.Proofs.Ytdbhbfmbpldmnaa
