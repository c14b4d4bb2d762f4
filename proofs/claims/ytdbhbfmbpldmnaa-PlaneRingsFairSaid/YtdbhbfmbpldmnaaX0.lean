/- Contract of Holds. -/
import Derived.Test.YtdbhbfmbpldmnaaD9
namespace Go.Proofs.Ytdbhbfmbpldmnaa
open Go.RowKit
abbrev spV (a b : Int) : Value := .agg #[.int .i64 a, .int .i64 b]
abbrev bxV (a b c d : Int) : Value := .agg #[.int .i64 a, .int .i64 b, .int .i64 c, .int .i64 d]
def holdB (x0 x1 y0 y1 px py : Int) : Bool := boxB x0 x1 y0 y1 && winB px x0 x1 && winB py y0 y1
set_option maxHeartbeats 800000 in
theorem Holds_any (W : World) (x0 x1 y0 y1 px py : Int) (w : World) (hX : Ext W w) :
    Calls Try.prog 66 #[bxV x0 x1 y0 y1, spV px py] w fun e w' => e = .returned (.bool (holdB x0 x1 y0 y1 px py)) ∧ Ext W w' := by
  go_enter Try.func66, Try.ntmps66
  go_wp2_with (first | (go_at_call 64; refine (Proper_any _ _ _ _ _ _ (by first | assumption | exact Ext.refl _)).mono ?_; rintro e w' ⟨rfl, hX1⟩; have hr := hX1.rule) | (go_at_call 76; refine (within_any _ _ _ _ _ (by first | assumption | exact Ext.refl _)).mono ?_; rintro e w' ⟨rfl, hX1⟩; have hr := hX1.rule))
  all_goals
    go_ret
    exact ⟨ret_bool (by simp [holdB, *]), hX.b2 (by assumption)⟩
end Go.Proofs.Ytdbhbfmbpldmnaa
