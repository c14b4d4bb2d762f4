import Derived.Test.YtdbhbfmbpldmnaaC5
namespace Go.Proofs.Ytdbhbfmbpldmnaa
open Go.RowKit
def mtG (a b c d : Int) (al : Int) (o : Bool) : Int := if a = 0 ∧ b = 0 then al else if wrap64 (a * b) < 0 ∧ wrap64 (c * d) < 0 then 2 else if o = true then 1 else 0
def mtZ (ax ay bx b_y cx cy dx dy : Int) : Int :=
  if propB ax ay bx b_y = true ∧ propB cx cy dx dy = true then
    mtG (sgz (twz ax ay bx b_y cx cy)) (sgz (twz ax ay bx b_y dx dy)) (sgz (twz cx cy dx dy ax ay)) (sgz (twz cx cy dx dy bx b_y)) (alZ ax ay bx b_y cx cy dx dy)
      (onB ax ay bx b_y cx cy || onB ax ay bx b_y dx dy || onB cx cy dx dy ax ay || onB cx cy dx dy bx b_y)
  else 0
set_option maxRecDepth 100000 in
set_option maxHeartbeats 1600000 in
theorem Meeting_ok (W : World) (ax ay bx b_y cx cy dx dy : Int) (w : World) (hX : Ext W w) (p1 : propB ax ay bx b_y = true) (p2 : propB cx cy dx dy = true) :
    Calls Try.prog 28 #[.agg #[.int .i64 ax, .int .i64 ay, .int .i64 bx, .int .i64 b_y], .agg #[.int .i64 cx, .int .i64 cy, .int .i64 dx, .int .i64 dy]] w fun e w' => e = .returned (.int .i64 (mtZ ax ay bx b_y cx cy dx dy)) ∧ Ext W w' := by
  have HZ : Hid (mtZ ax ay bx b_y cx cy dx dy = mtG (sgz (twz ax ay bx b_y cx cy)) (sgz (twz ax ay bx b_y dx dy)) (sgz (twz cx cy dx dy ax ay)) (sgz (twz cx cy dx dy bx b_y)) (alZ ax ay bx b_y cx cy dx dy)
      (onB ax ay bx b_y cx cy || onB ax ay bx b_y dx dy || onB cx cy dx dy ax ay || onB cx cy dx dy bx b_y)) := by
    unfold Hid mtZ
    rw [if_pos ⟨p1, p2⟩]
  obtain ⟨h1, h2, h3, h4⟩ := propB_ok p1
  obtain ⟨h5, h6, h7, h8⟩ := propB_ok p2
  go_enter Try.func28, Try.ntmps28
  go_wp2_with (first | (go_at_call 87; refine (proper_any _ _ _ _ _ _ (by first | assumption | exact Ext.refl _)).mono ?_; rintro e w1 ⟨rfl, hX1⟩; have hr := hX1.rule))
  go_region_held3 (fun w' => Ext ((w.alloc (.cells #[.int .i64 ax, .int .i64 ay, .int .i64 bx, .int .i64 b_y] 34)).alloc (.cells #[.int .i64 cx, .int .i64 cy, .int .i64 dx, .int .i64 dy] 34)) w' ∧ (∀ b o, b < ((w.alloc (.cells #[.int .i64 ax, .int .i64 ay, .int .i64 bx, .int .i64 b_y] 34)).alloc (.cells #[.int .i64 cx, .int .i64 cy, .int .i64 dx, .int .i64 dy] 34)).heap.size → w'.cell? ⟨b, o, none⟩ = ((w.alloc (.cells #[.int .i64 ax, .int .i64 ay, .int .i64 bx, .int .i64 b_y] 34)).alloc (.cells #[.int .i64 cx, .int .i64 cy, .int .i64 dx, .int .i64 dy] 34)).cell? ⟨b, o, none⟩)) (first | exact extS (by assumption) | exact extS (Ext.drew (by assumption)))
    (first | (go_at_call 80; refine (twice_any _ _ _ _ _ _ _ _ (by first | assumption | exact And.left (by assumption)) (by assumption) (by assumption) (by assumption) (by assumption) (by assumption) (by assumption)).mono ?_; rintro e w' ⟨rfl, hX1⟩) | (go_at_call 79; refine (sign_any _ _ _ (by first | assumption | exact And.left (by assumption))).mono ?_; rintro e w' ⟨rfl, hX1⟩; have hr := hX1.rule))
  go_wp2_with fail
  go_region_held3 (fun w' => Ext ((w.alloc (.cells #[.int .i64 ax, .int .i64 ay, .int .i64 bx, .int .i64 b_y] 34)).alloc (.cells #[.int .i64 cx, .int .i64 cy, .int .i64 dx, .int .i64 dy] 34)) w' ∧ (∀ b o, b < ((w.alloc (.cells #[.int .i64 ax, .int .i64 ay, .int .i64 bx, .int .i64 b_y] 34)).alloc (.cells #[.int .i64 cx, .int .i64 cy, .int .i64 dx, .int .i64 dy] 34)).heap.size → w'.cell? ⟨b, o, none⟩ = ((w.alloc (.cells #[.int .i64 ax, .int .i64 ay, .int .i64 bx, .int .i64 b_y] 34)).alloc (.cells #[.int .i64 cx, .int .i64 cy, .int .i64 dx, .int .i64 dy] 34)).cell? ⟨b, o, none⟩)) (first | exact extS (by assumption) | exact extS (Ext.drew (by assumption)))
    (first | (go_at_call 80; refine (twice_any _ _ _ _ _ _ _ _ (by first | assumption | exact And.left (by assumption)) (by assumption) (by assumption) (by assumption) (by assumption) (by assumption) (by assumption)).mono ?_; rintro e w' ⟨rfl, hX1⟩) | (go_at_call 79; refine (sign_any _ _ _ (by first | assumption | exact And.left (by assumption))).mono ?_; rintro e w' ⟨rfl, hX1⟩; have hr := hX1.rule))
  go_wp2_with (first | (go_at_call 91; refine (along_any _ _ _ _ _ _ _ _ _ _ (by assumption) (by assumption) (by assumption) (by assumption) (by assumption) (by assumption) (by assumption) (by assumption) (by assumption)).mono ?_; rintro e w1 ⟨rfl, hX1⟩) | (go_at_call 88; refine (on_any _ _ _ _ _ _ _ _ (by assumption) (by assumption) (by assumption) (by assumption) (by assumption) (by assumption) (by assumption)).mono ?_; rintro e w1 ⟨rfl, hX1⟩; have hr := hX1.rule))
  all_goals
    go_ret
    refine ⟨ret_int ?_, hX.b2 (by assumption)⟩
    rw [HZ.out]
    have hw0 : wrap64 0 = 0 := IntWalk.wrap64_in 0 (by omega)
    try simp only [beq_iff_eq, beq_eq_false_iff_ne, ne_eq] at *
    (first | (simp [mtG, *]; done) | (simp [mtG, *]; omega) | (exfalso; simp_all; done) | (simp_all [mtG]; done) | (simp_all [mtG]; omega))
end Go.Proofs.Ytdbhbfmbpldmnaa
