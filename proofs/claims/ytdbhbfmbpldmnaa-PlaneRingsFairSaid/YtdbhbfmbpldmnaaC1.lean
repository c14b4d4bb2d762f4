import Derived.Test.YtdbhbfmbpldmnaaB
namespace Go.Proofs.Ytdbhbfmbpldmnaa
open Go.RowKit
abbrev vI (n : Int) : Value := .int .i64 n
theorem ret_bool {a b : Bool} (h : a = b) : Ending.returned (.bool a) = .returned (.bool b) := by rw [h]
theorem ret_int {k : IntKind} {a b : Int} (h : a = b) : Ending.returned (.int k a) = .returned (.int k b) := by rw [h]
def winB (n lo hi : Int) : Bool := decide (lo ≤ n) && decide (n ≤ hi)

set_option maxHeartbeats 400000 in
theorem within_any (W n lo hi) (w : World) (hX : Ext W w) :
    Calls Try.prog 76 #[.int .i64 n, .int .i64 lo, .int .i64 hi] w fun e w' => e = .returned (.bool (winB n lo hi)) ∧ Ext W w' := by
  go_enter Try.func76, Try.ntmps76
  go_wp2
  all_goals
    go_ret
    exact ⟨ret_bool (by simp [winB]; omega), hX⟩
set_option maxHeartbeats 400000 in
theorem sign_any (W : World) (n : Int) (w : World) (hX : Ext W w) :
    Calls Try.prog 79 #[.int .i64 n] w fun e w' => e = .returned (.int .i64 (sgz n)) ∧ Ext W w' := by
  go_enter Try.func79, Try.ntmps79
  go_wp2
  all_goals
    go_ret
    exact ⟨ret_int (by unfold sgz; (repeat' split) <;> omega), hX⟩
theorem twz_bd (ax ay bx b_y cx cy : Int) (h1 : okc ax) (h2 : okc ay) (h3 : okc bx) (h4 : okc b_y) (h5 : okc cx) (h6 : okc cy) :
    wrap64 (wrap64 ((bx - ax) * (cy - ay)) - wrap64 ((b_y - ay) * (cx - ax))) = twz ax ay bx b_y cx cy := by
  rw [okc_iff] at *
  have a := mul_bd (a := bx - ax) (b := cy - ay) (A := 2097152) (B := 2097152) (by omega) (by omega) (by omega) (by omega)
  have b := mul_bd (a := b_y - ay) (b := cx - ax) (A := 2097152) (B := 2097152) (by omega) (by omega) (by omega) (by omega)
  rw [IntWalk.wrap64_in ((bx - ax) * (cy - ay)) (by omega), IntWalk.wrap64_in ((b_y - ay) * (cx - ax)) (by omega), IntWalk.wrap64_in _ (by omega)]
  rfl
set_option maxHeartbeats 400000 in
theorem twice_any (W : World) (ax ay bx b_y cx cy : Int) (w : World) (hX : Ext W w) (h1 : okc ax) (h2 : okc ay) (h3 : okc bx) (h4 : okc b_y) (h5 : okc cx) (h6 : okc cy) :
    Calls Try.prog 80 #[.agg #[.int .i64 ax, .int .i64 ay], .agg #[.int .i64 bx, .int .i64 b_y], .agg #[.int .i64 cx, .int .i64 cy]] w fun e w' => e = .returned (.int .i64 (twz ax ay bx b_y cx cy)) ∧ Ext W w' := by
  have H := twz_bd ax ay bx b_y cx cy h1 h2 h3 h4 h5 h6
  have H := Lib.hid H
  rw [okc_iff] at h1 h2 h3 h4 h5 h6
  obtain ⟨a1, b1⟩ := h1
  obtain ⟨a2, b2⟩ := h2
  obtain ⟨a3, b3⟩ := h3
  obtain ⟨a4, b4⟩ := h4
  obtain ⟨a5, b5⟩ := h5
  obtain ⟨a6, b6⟩ := h6
  go_enter Try.func80, Try.ntmps80
  go_wp2
  go_ret
  exact ⟨ret_int H.out, ((hX.alloc _).alloc _).alloc _⟩
set_option maxHeartbeats 400000 in
theorem Valid_any (W : World) (x y : Int) (w : World) (hX : Ext W w) :
    Calls Try.prog 17 #[.agg #[.int .i64 x, .int .i64 y]] w fun e w' => e = .returned (.bool (okp (x, y))) ∧ Ext W w' := by
  go_enter Try.func17, Try.ntmps17
  go_wp2
  all_goals
    go_ret
    refine ⟨ret_bool ?_, hX.alloc _⟩
    rw [Bool.eq_iff_iff, okp_iff]
    simp
    omega
theorem dsz_bd (ax ay bx b_y : Int) (h1 : okc ax) (h2 : okc ay) (h3 : okc bx) (h4 : okc b_y) :
    wrap64 (wrap64 ((ax - bx) * (ax - bx)) + wrap64 ((ay - b_y) * (ay - b_y))) = dsz ax ay bx b_y := by
  rw [okc_iff] at *
  have a := mul_bd (a := ax - bx) (b := ax - bx) (A := 2097152) (B := 2097152) (by omega) (by omega) (by omega) (by omega)
  have b := mul_bd (a := ay - b_y) (b := ay - b_y) (A := 2097152) (B := 2097152) (by omega) (by omega) (by omega) (by omega)
  rw [IntWalk.wrap64_in ((ax - bx) * (ax - bx)) (by omega), IntWalk.wrap64_in ((ay - b_y) * (ay - b_y)) (by omega), IntWalk.wrap64_in _ (by omega)]
  rfl
set_option maxHeartbeats 400000 in
theorem dist_any (W : World) (ax ay bx b_y : Int) (w : World) (hX : Ext W w) (h1 : okc ax) (h2 : okc ay) (h3 : okc bx) (h4 : okc b_y) :
    Calls Try.prog 84 #[.agg #[.int .i64 ax, .int .i64 ay], .agg #[.int .i64 bx, .int .i64 b_y]] w fun e w' => e = .returned (.int .i64 (dsz ax ay bx b_y)) ∧ Ext W w' := by
  have H := dsz_bd ax ay bx b_y h1 h2 h3 h4
  have H := Lib.hid H
  rw [okc_iff] at h1 h2 h3 h4
  obtain ⟨a1, b1⟩ := h1
  obtain ⟨a2, b2⟩ := h2
  obtain ⟨a3, b3⟩ := h3
  obtain ⟨a4, b4⟩ := h4
  go_enter Try.func84, Try.ntmps84
  go_wp2
  go_ret
  exact ⟨ret_int H.out, (hX.alloc _).alloc _⟩
/-- valid's closure. -/
theorem validC_any (W : World) (x y : Int) (w : World) (hX : Ext W w) :
    Calls Try.prog 127 #[.agg #[.int .i64 x, .int .i64 y]] w fun e w' => e = .returned (.bool (!okp (x, y))) ∧ Ext W w' := by
  go_enter Try.func127, Try.ntmps127
  go_wp2_with (first | (go_at_call 17; refine (Valid_any W _ _ _ (hX.alloc _)).mono ?_; rintro e w' ⟨rfl, hX⟩))
  go_ret
  exact ⟨rfl, hX⟩
def betB (ax ay bx b_y px py : Int) : Bool := winB px (min ax bx) (max ax bx) && winB py (min ay b_y) (max ay b_y)
set_option maxHeartbeats 400000 in
theorem between_any (W : World) (ax ay bx b_y cx cy : Int) (w : World) (hX : Ext W w) :
    Calls Try.prog 129 #[.agg #[.int .i64 ax, .int .i64 ay], .agg #[.int .i64 bx, .int .i64 b_y], .agg #[.int .i64 cx, .int .i64 cy]] w fun e w' => e = .returned (.bool (betB ax ay bx b_y cx cy)) ∧ Ext W w' := by
  have hmin := ite_min
  have hmax := ite_max
  go_enter Try.func129, Try.ntmps129
  go_wp2_with (first | (go_at_call 76; refine (within_any _ _ _ _ _ (by first | assumption | exact Ext.refl _)).mono ?_; rintro e w' ⟨rfl, hX1⟩; have hr := hX1.rule))
  · have h : winB cx (min ax bx) (max ax bx) = true := by assumption
    go_ret
    exact ⟨ret_bool (by simp [betB, h]), hX.b3 hX1⟩
  · have h : ¬ winB cx (min ax bx) (max ax bx) = true := by assumption
    go_ret
    exact ⟨ret_bool (by simp [betB, h]), hX.b3 hX1⟩
def onB (ax ay bx b_y px py : Int) : Bool := decide (twz ax ay bx b_y px py = 0) && betB ax ay bx b_y px py
set_option maxHeartbeats 400000 in
theorem on_any (W : World) (ax ay bx b_y cx cy : Int) (w : World) (hX : Ext W w) (h1 : okc ax) (h2 : okc ay) (h3 : okc bx) (h4 : okc b_y) (h5 : okc cx) (h6 : okc cy) :
    Calls Try.prog 88 #[.agg #[.int .i64 ax, .int .i64 ay], .agg #[.int .i64 bx, .int .i64 b_y], .agg #[.int .i64 cx, .int .i64 cy]] w fun e w' => e = .returned (.bool (onB ax ay bx b_y cx cy)) ∧ Ext W w' := by
  go_enter Try.func88, Try.ntmps88
  go_wp2_with (first | (go_at_call 80; refine (twice_any _ _ _ _ _ _ _ _ (Ext.refl _) h1 h2 h3 h4 h5 h6).mono ?_; rintro e w' ⟨rfl, hX1⟩; have hr := hX1.rule) | (go_at_call 129; refine (between_any _ _ _ _ _ _ _ _ (by assumption)).mono ?_; rintro e w' ⟨rfl, hX2⟩))
  all_goals
    go_ret
    exact ⟨ret_bool (by simp [onB, *]), hX.b3 (by assumption)⟩
end Go.Proofs.Ytdbhbfmbpldmnaa
