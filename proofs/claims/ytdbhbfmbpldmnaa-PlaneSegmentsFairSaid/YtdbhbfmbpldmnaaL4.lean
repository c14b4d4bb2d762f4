/- The walk of PlaneSegmentsFair: it returns true. -/
import Derived.Test.YtdbhbfmbpldmnaaD8
import Derived.Test.YtdbhbfmbpldmnaaR3
import Derived.Test.YtdbhbfmbpldmnaaP3
namespace Go.Proofs.Ytdbhbfmbpldmnaa
open Go.RowKit
set_option maxRecDepth 100000 in
set_option maxHeartbeats 8000000 in
theorem law6_no (W : World) (ax ay bx b_y cx cy dx dy : Int) (b1 b2 : Bool) (w : World) (hX : Ext W w) (hm : mtZ ax ay bx b_y cx cy dx dy = 0) (h1 : OnB ax ay bx b_y ax ay = b1) (h2 : OnB cx cy dx dy cx cy = b2) (hb : (b1 && b2) = false) :
    Calls Try.prog 6 #[.agg #[.int .i64 ax, .int .i64 ay, .int .i64 bx, .int .i64 b_y], .agg #[.int .i64 cx, .int .i64 cy, .int .i64 dx, .int .i64 dy]] w fun e w' => e = .returned (.bool true) ∧ Ext W w' := by
  have M1 := Lib.hid hm
  have M2 := Lib.hid ((mtZ_swap ax ay bx b_y cx cy dx dy).trans hm)
  have M3 := Lib.hid ((mtZ_back ax ay bx b_y cx cy dx dy).trans hm)
  have B1 := Lib.hid h1
  have B2 := Lib.hid h2
  clear hm h1 h2
  cases b1 <;> cases b2 <;> first | (cases hb; done) | skip
  all_goals
    clear hb
    go_enter Try.func6, Try.ntmps6
    go_wp2_with fail
    have hS := segs_new w ax ay bx b_y cx cy dx dy
    have hXb : Ext W (Two34 w ax ay bx b_y cx cy dx dy) := (hX.alloc _).alloc _
    change Calls _ _ _ (Two34 w ax ay bx b_y cx cy dx dy) _
    obtain ⟨wb, hwb⟩ : ∃ wb, Two34 w ax ay bx b_y cx cy dx dy = wb := ⟨_, rfl⟩
    rw [hwb] at hS hXb ⊢
    clear hwb hX
    generalize w.heap.size = A at hS ⊢
    generalize A + 1 = B at hS ⊢
    refine (Meeting_any wb _ _ _ _ _ _ _ _ _ (Ext.refl _)).mono ?_
    rintro e w1 ⟨rfl, hX1⟩
    rw [M1.out]
    obtain ⟨⟨s0, s1, s2, s3⟩, t0, t1, t2, t3⟩ := hS.ext hX1
    have zA := hS.ltA hX1
    have zB := hS.ltB hX1
    go_wp2_with fail
    have hG := fun i => cell_new w1 [.int .i64 bx, .int .i64 b_y, .int .i64 ax, .int .i64 ay] 34 i
    have g0 := hG 0
    have g1 := hG 1
    have g2 := hG 2
    have g3 := hG 3
    simp only [List.getElem?_cons_zero, List.getElem?_cons_succ] at g0 g1 g2 g3
    have hX2 := hX1.alloc (.cells #[.int .i64 bx, .int .i64 b_y, .int .i64 ax, .int .i64 ay] 34)
    obtain ⟨w2, hw2⟩ : ∃ w2, w1.alloc (.cells #[.int .i64 bx, .int .i64 b_y, .int .i64 ax, .int .i64 ay] 34) = w2 := ⟨_, rfl⟩
    change w1.alloc (.cells [Value.int .i64 bx, .int .i64 b_y, .int .i64 ax, .int .i64 ay].toArray 34) = w2 at hw2
    rw [hw2] at g0 g1 g2 g3
    change w1.alloc (.cells #[.int .i64 bx, .int .i64 b_y, .int .i64 ax, .int .i64 ay] 34) = w2 at hw2
    rw [hw2] at hX2 ⊢
    clear hG hw2 hX1 s0 s1 s2 s3 t0 t1 t2 t3 zA zB
    generalize w1.heap.size = G at g0 g1 g2 g3 ⊢
    refine (Meeting_any w2 _ _ _ _ _ _ _ _ _ (Ext.refl _)).mono ?_
    rintro e w3 ⟨rfl, hX3⟩
    rw [M2.out]
    obtain ⟨⟨s0, s1, s2, s3⟩, t0, t1, t2, t3⟩ := hS.ext (hX2.trans hX3)
    replace g0 := hX3.cell g0
    replace g1 := hX3.cell g1
    replace g2 := hX3.cell g2
    replace g3 := hX3.cell g3
    replace hX2 := hX2.trans hX3
    clear hX3
    go_wp2_with fail
    clear s0 s1 s2 s3 t0 t1 t2 t3 g0 g1 g2 g3
    refine (Meeting_any w3 _ _ _ _ _ _ _ _ _ (Ext.refl _)).mono ?_
    rintro e w4 ⟨rfl, hX3⟩
    rw [M3.out]
    replace hX2 := hX2.trans hX3
    clear hX3
    obtain ⟨⟨s0, s1, s2, s3⟩, t0, t1, t2, t3⟩ := hS.ext hX2
    go_wp2_with fail
    go_quiet (fail)
    go_wp2_with (first | (go_at_call 26; refine (On_any wb _ _ _ _ _ _ _ (by first | assumption | exact Ext.drewN (by assumption) _ | exact Ext.drew (by assumption) | exact And.left (by assumption))).mono ?_; rintro e w' ⟨rfl, hX5⟩; obtain ⟨⟨s0, s1, s2, s3⟩, t0, t1, t2, t3⟩ := hS.ext hX5; first | rw [B1.out] | rw [B2.out] | skip) | (go_at_call 16; refine (sanity_any wb _ (by assumption)).mono ?_; rintro e w' ⟨rfl, hX6⟩))
    all_goals
      go_ret
      exact ⟨rfl, hXb.trans hX6⟩
set_option maxRecDepth 100000 in
set_option maxHeartbeats 16000000 in
theorem law6_yes (W : World) (ax ay bx b_y cx cy dx dy m : Int) (e1 e2 e3 e4 : Bool) (w : World) (hX : Ext W w) (hm : mtZ ax ay bx b_y cx cy dx dy = m) (h1 : OnB ax ay bx b_y ax ay = true) (h2 : OnB cx cy dx dy cx cy = true)
    (h3 : OnB ax ay bx b_y cx cy = e1) (h4 : OnB ax ay bx b_y dx dy = e2) (h5 : OnB cx cy dx dy ax ay = e3) (h6 : OnB cx cy dx dy bx b_y = e4)
    (hs1 : IntKind.i64.wrap (turnZ ax ay bx b_y cx cy * turnZ ax ay bx b_y dx dy) = turnZ ax ay bx b_y cx cy * turnZ ax ay bx b_y dx dy) (hs2 : IntKind.i64.wrap (turnZ cx cy dx dy ax ay * turnZ cx cy dx dy bx b_y) = turnZ cx cy dx dy ax ay * turnZ cx cy dx dy bx b_y)
    (hp : m = 0 ∨ (¬ 0 < turnZ ax ay bx b_y cx cy * turnZ ax ay bx b_y dx dy ∧ ¬ 0 < turnZ cx cy dx dy ax ay * turnZ cx cy dx dy bx b_y))
    (hcase : (m = 0 ∧ (e1 || e2 || e3 || e4) = false) ∨ (m = 2 ∧ (e1 || e2 || e3 || e4) = false) ∨ (m = 1 ∧ (e1 || e2 || e3 || e4) = true) ∨ (m = 3 ∧ (e1 || e2 || e3 || e4) = true)) :
    Calls Try.prog 6 #[.agg #[.int .i64 ax, .int .i64 ay, .int .i64 bx, .int .i64 b_y], .agg #[.int .i64 cx, .int .i64 cy, .int .i64 dx, .int .i64 dy]] w fun e w' => e = .returned (.bool true) ∧ Ext W w' := by
  have M1 := Lib.hid hm
  have M2 := Lib.hid ((mtZ_swap ax ay bx b_y cx cy dx dy).trans hm)
  have M3 := Lib.hid ((mtZ_back ax ay bx b_y cx cy dx dy).trans hm)
  have B1 := Lib.hid h1
  have B2 := Lib.hid h2
  have E1 := Lib.hid h3
  have E2 := Lib.hid h4
  have E3 := Lib.hid h5
  have E4 := Lib.hid h6
  clear hm h1 h2 h3 h4 h5 h6
  have key : (m = 0 ∧ e1 = false ∧ e2 = false ∧ e3 = false ∧ e4 = false) ∨ (m = 2 ∧ e1 = false ∧ e2 = false ∧ e3 = false ∧ e4 = false) ∨
      (m = 1 ∧ e1 = true) ∨ (m = 1 ∧ e1 = false ∧ e2 = true) ∨ (m = 1 ∧ e1 = false ∧ e2 = false ∧ e3 = true) ∨ (m = 1 ∧ e1 = false ∧ e2 = false ∧ e3 = false ∧ e4 = true) ∨
      (m = 3 ∧ e1 = true) ∨ (m = 3 ∧ e1 = false ∧ e2 = true) ∨ (m = 3 ∧ e1 = false ∧ e2 = false ∧ e3 = true) ∨ (m = 3 ∧ e1 = false ∧ e2 = false ∧ e3 = false ∧ e4 = true) := by
    rcases hcase with ⟨rfl, h⟩ | ⟨rfl, h⟩ | ⟨rfl, h⟩ | ⟨rfl, h⟩ <;> cases e1 <;> cases e2 <;> cases e3 <;> cases e4 <;> simp_all
  clear hcase
  rcases key with ⟨rfl, rfl, rfl, rfl, rfl⟩ | ⟨rfl, rfl, rfl, rfl, rfl⟩ | ⟨rfl, rfl⟩ | ⟨rfl, rfl, rfl⟩ | ⟨rfl, rfl, rfl, rfl⟩ | ⟨rfl, rfl, rfl, rfl, rfl⟩ | ⟨rfl, rfl⟩ | ⟨rfl, rfl, rfl⟩ | ⟨rfl, rfl, rfl, rfl⟩ | ⟨rfl, rfl, rfl, rfl, rfl⟩
  · clear hp
    go_enter Try.func6, Try.ntmps6
    go_wp2_with fail
    have hS := segs_new w ax ay bx b_y cx cy dx dy
    have hXb : Ext W (Two34 w ax ay bx b_y cx cy dx dy) := (hX.alloc _).alloc _
    change Calls _ _ _ (Two34 w ax ay bx b_y cx cy dx dy) _
    obtain ⟨wb, hwb⟩ : ∃ wb, Two34 w ax ay bx b_y cx cy dx dy = wb := ⟨_, rfl⟩
    rw [hwb] at hS hXb ⊢
    clear hwb hX
    generalize w.heap.size = A at hS ⊢
    generalize A + 1 = B at hS ⊢
    refine (Meeting_any wb _ _ _ _ _ _ _ _ _ (Ext.refl _)).mono ?_
    rintro e w1 ⟨rfl, hX1⟩
    rw [M1.out]
    obtain ⟨⟨s0, s1, s2, s3⟩, t0, t1, t2, t3⟩ := hS.ext hX1
    have zA := hS.ltA hX1
    have zB := hS.ltB hX1
    go_wp2_with fail
    have hG := fun i => cell_new w1 [.int .i64 bx, .int .i64 b_y, .int .i64 ax, .int .i64 ay] 34 i
    have g0 := hG 0
    have g1 := hG 1
    have g2 := hG 2
    have g3 := hG 3
    simp only [List.getElem?_cons_zero, List.getElem?_cons_succ] at g0 g1 g2 g3
    have hX2 := hX1.alloc (.cells #[.int .i64 bx, .int .i64 b_y, .int .i64 ax, .int .i64 ay] 34)
    obtain ⟨w2, hw2⟩ : ∃ w2, w1.alloc (.cells #[.int .i64 bx, .int .i64 b_y, .int .i64 ax, .int .i64 ay] 34) = w2 := ⟨_, rfl⟩
    change w1.alloc (.cells [Value.int .i64 bx, .int .i64 b_y, .int .i64 ax, .int .i64 ay].toArray 34) = w2 at hw2
    rw [hw2] at g0 g1 g2 g3
    change w1.alloc (.cells #[.int .i64 bx, .int .i64 b_y, .int .i64 ax, .int .i64 ay] 34) = w2 at hw2
    rw [hw2] at hX2 ⊢
    clear hG hw2 hX1 s0 s1 s2 s3 t0 t1 t2 t3 zA zB
    generalize w1.heap.size = G at g0 g1 g2 g3 ⊢
    refine (Meeting_any w2 _ _ _ _ _ _ _ _ _ (Ext.refl _)).mono ?_
    rintro e w3 ⟨rfl, hX3⟩
    rw [M2.out]
    obtain ⟨⟨s0, s1, s2, s3⟩, t0, t1, t2, t3⟩ := hS.ext (hX2.trans hX3)
    replace g0 := hX3.cell g0
    replace g1 := hX3.cell g1
    replace g2 := hX3.cell g2
    replace g3 := hX3.cell g3
    replace hX2 := hX2.trans hX3
    clear hX3
    go_wp2_with fail
    clear s0 s1 s2 s3 t0 t1 t2 t3 g0 g1 g2 g3
    refine (Meeting_any w3 _ _ _ _ _ _ _ _ _ (Ext.refl _)).mono ?_
    rintro e w4 ⟨rfl, hX3⟩
    rw [M3.out]
    replace hX2 := hX2.trans hX3
    clear hX3
    obtain ⟨⟨s0, s1, s2, s3⟩, t0, t1, t2, t3⟩ := hS.ext hX2
    go_wp2_with fail
    go_quiet (fail)
    go_wp2_with (first | (go_at_call 26; refine (On_any wb _ _ _ _ _ _ _ (by first | assumption | exact Ext.drewN (by assumption) _ | exact Ext.drew (by assumption) | exact And.left (by assumption))).mono ?_; rintro e w' ⟨rfl, hX5⟩; obtain ⟨⟨s0, s1, s2, s3⟩, t0, t1, t2, t3⟩ := hS.ext hX5; first | rw [B1.out] | rw [B2.out] | rw [E1.out] | rw [E2.out] | rw [E3.out] | rw [E4.out]) | (go_at_call 16; refine (sanity_any wb _ (by assumption)).mono ?_; rintro e w' ⟨rfl, hX6⟩))
    all_goals
      go_ret
      exact ⟨rfl, hXb.trans hX6⟩
  all_goals
    have hp2 := hp.resolve_left (by decide)
    obtain ⟨hp3, hp4⟩ := hp2
    have hp5 := decide_eq_false hp3
    have hp6 := decide_eq_false hp4
    clear hp
    go_enter Try.func6, Try.ntmps6
    go_wp2_with fail
    have hS := segs_new w ax ay bx b_y cx cy dx dy
    have hXb : Ext W (Two34 w ax ay bx b_y cx cy dx dy) := (hX.alloc _).alloc _
    change Calls _ _ _ (Two34 w ax ay bx b_y cx cy dx dy) _
    obtain ⟨wb, hwb⟩ : ∃ wb, Two34 w ax ay bx b_y cx cy dx dy = wb := ⟨_, rfl⟩
    rw [hwb] at hS hXb ⊢
    clear hwb hX
    generalize w.heap.size = A at hS ⊢
    generalize A + 1 = B at hS ⊢
    refine (Meeting_any wb _ _ _ _ _ _ _ _ _ (Ext.refl _)).mono ?_
    rintro e w1 ⟨rfl, hX1⟩
    rw [M1.out]
    obtain ⟨⟨s0, s1, s2, s3⟩, t0, t1, t2, t3⟩ := hS.ext hX1
    have zA := hS.ltA hX1
    have zB := hS.ltB hX1
    go_wp2_with fail
    have hG := fun i => cell_new w1 [.int .i64 bx, .int .i64 b_y, .int .i64 ax, .int .i64 ay] 34 i
    have g0 := hG 0
    have g1 := hG 1
    have g2 := hG 2
    have g3 := hG 3
    simp only [List.getElem?_cons_zero, List.getElem?_cons_succ] at g0 g1 g2 g3
    have hX2 := hX1.alloc (.cells #[.int .i64 bx, .int .i64 b_y, .int .i64 ax, .int .i64 ay] 34)
    obtain ⟨w2, hw2⟩ : ∃ w2, w1.alloc (.cells #[.int .i64 bx, .int .i64 b_y, .int .i64 ax, .int .i64 ay] 34) = w2 := ⟨_, rfl⟩
    change w1.alloc (.cells [Value.int .i64 bx, .int .i64 b_y, .int .i64 ax, .int .i64 ay].toArray 34) = w2 at hw2
    rw [hw2] at g0 g1 g2 g3
    change w1.alloc (.cells #[.int .i64 bx, .int .i64 b_y, .int .i64 ax, .int .i64 ay] 34) = w2 at hw2
    rw [hw2] at hX2 ⊢
    clear hG hw2 hX1 s0 s1 s2 s3 t0 t1 t2 t3 zA zB
    generalize w1.heap.size = G at g0 g1 g2 g3 ⊢
    refine (Meeting_any w2 _ _ _ _ _ _ _ _ _ (Ext.refl _)).mono ?_
    rintro e w3 ⟨rfl, hX3⟩
    rw [M2.out]
    obtain ⟨⟨s0, s1, s2, s3⟩, t0, t1, t2, t3⟩ := hS.ext (hX2.trans hX3)
    replace g0 := hX3.cell g0
    replace g1 := hX3.cell g1
    replace g2 := hX3.cell g2
    replace g3 := hX3.cell g3
    replace hX2 := hX2.trans hX3
    clear hX3
    go_wp2_with fail
    clear s0 s1 s2 s3 t0 t1 t2 t3 g0 g1 g2 g3
    refine (Meeting_any w3 _ _ _ _ _ _ _ _ _ (Ext.refl _)).mono ?_
    rintro e w4 ⟨rfl, hX3⟩
    rw [M3.out]
    replace hX2 := hX2.trans hX3
    clear hX3
    obtain ⟨⟨s0, s1, s2, s3⟩, t0, t1, t2, t3⟩ := hS.ext hX2
    go_wp2_with fail
    go_region_held3 (fun w'' => Ext wb w'' ∧ (w''.cell? ⟨A, 0, none⟩ = some (.int .i64 ax) ∧ w''.cell? ⟨A, 1, none⟩ = some (.int .i64 ay) ∧ w''.cell? ⟨A, 2, none⟩ = some (.int .i64 bx) ∧ w''.cell? ⟨A, 3, none⟩ = some (.int .i64 b_y)) ∧ w''.cell? ⟨B, 0, none⟩ = some (.int .i64 cx) ∧ w''.cell? ⟨B, 1, none⟩ = some (.int .i64 cy) ∧ w''.cell? ⟨B, 2, none⟩ = some (.int .i64 dx) ∧ w''.cell? ⟨B, 3, none⟩ = some (.int .i64 dy)) (first | exact hS.keep (by assumption) | exact hS.keep (Ext.drew (by assumption)))
      ((go_at_call 19; refine (Turn_any _ _ _ _ _ _ _ _ (by first | assumption | exact And.left (by assumption))).mono ?_; rintro e w' ⟨rfl, hX5⟩))
    go_wp2_with (first | (go_at_call 26; refine (On_any wb _ _ _ _ _ _ _ (by first | assumption | exact Ext.drewN (by assumption) _ | exact Ext.drew (by assumption) | exact And.left (by assumption))).mono ?_; rintro e w' ⟨rfl, hX5⟩; obtain ⟨⟨s0, s1, s2, s3⟩, t0, t1, t2, t3⟩ := hS.ext hX5; first | rw [B1.out] | rw [B2.out] | rw [E1.out] | rw [E2.out] | rw [E3.out] | rw [E4.out]) | (go_at_call 16; refine (sanity_any wb _ (by assumption)).mono ?_; rintro e w' ⟨rfl, hX6⟩))
    all_goals
      go_ret
      exact ⟨rfl, hXb.trans hX6⟩
theorem turn_wrap (a b c d e f g h i j k l : Int) : IntKind.i64.wrap (turnZ a b c d e f * turnZ g h i j k l) = turnZ a b c d e f * turnZ g h i j k l := by
  apply IntWalk.i64_in
  rcases turnZ_range a b c d e f with x | x | x <;> rcases turnZ_range g h i j k l with y | y | y <;> rw [x, y] <;> decide
theorem law6_any (W : World) (ax ay bx b_y cx cy dx dy : Int) (w : World) (hX : Ext W w) :
    Calls Try.prog 6 #[.agg #[.int .i64 ax, .int .i64 ay, .int .i64 bx, .int .i64 b_y], .agg #[.int .i64 cx, .int .i64 cy, .int .i64 dx, .int .i64 dy]] w fun e w' => e = .returned (.bool true) ∧ Ext W w' := by
  cases p1 : propB ax ay bx b_y
  · have hm : mtZ ax ay bx b_y cx cy dx dy = 0 := by unfold mtZ; rw [if_neg (by simp [p1])]
    exact law6_no W ax ay bx b_y cx cy dx dy _ _ w hX hm rfl rfl (by rw [OnB_own, p1]; rfl)
  · cases p2 : propB cx cy dx dy
    · have hm : mtZ ax ay bx b_y cx cy dx dy = 0 := by unfold mtZ; rw [if_neg (by simp [p2])]
      exact law6_no W ax ay bx b_y cx cy dx dy _ _ w hX hm rfl rfl (by rw [OnB_own cx, p2, Bool.and_false])
    · have o1 := OnB_eq p1 p2
      have o2 := OnB_eq p2 p1
      have t1 := turnZ_eq p1 p2
      have t2 := turnZ_eq p2 p1
      have hE := mtR_ends p1 p2
      rw [← o1.1, ← o1.2, ← o2.1, ← o2.2, ← mt_eq] at hE
      refine law6_yes W ax ay bx b_y cx cy dx dy (mtZ ax ay bx b_y cx cy dx dy) _ _ _ _ w hX rfl ((OnB_own _ _ _ _).trans p1) ((OnB_own _ _ _ _).trans p2) rfl rfl rfl rfl (turn_wrap _ _ _ _ _ _ _ _ _ _ _ _) (turn_wrap _ _ _ _ _ _ _ _ _ _ _ _) ?_ ?_
      · by_cases h0 : mtZ ax ay bx b_y cx cy dx dy = 0
        · exact .inl h0
        · rw [mt_eq] at h0
          have := (mtR_sides h0).2
          rw [t1.1, t1.2, t2.1, t2.2]
          exact .inr ⟨by omega, by omega⟩
      · rw [hE]
        have := mtR_cases ax ay bx b_y cx cy dx dy
        rw [← mt_eq] at this
        rcases this with h | h | h | h <;> rw [h] <;> simp
end Go.Proofs.Ytdbhbfmbpldmnaa
