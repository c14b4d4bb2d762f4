/- The walk of PlaneTurnsFair: it returns true. -/
import Derived.Test.YtdbhbfmbpldmnaaD8
import Derived.Test.YtdbhbfmbpldmnaaP2
namespace Go.Proofs.Ytdbhbfmbpldmnaa
open Go.RowKit
theorem moved_any (W : World) (ax ay x y : Int) (w : World) (hX : Ext W w) (h1 : -1048576 ≤ ax ∧ ax ≤ 1048576) (h2 : -1048576 ≤ ay ∧ ay ≤ 1048576) (h3 : -1000 ≤ x ∧ x ≤ 1000) (h4 : -1000 ≤ y ∧ y ≤ 1000) :
    Calls Try.prog 25 #[.agg #[.int .i64 ax, .int .i64 ay], .int .i64 x, .int .i64 y] w fun e w' => e = .returned (ptV (ax + x) (ay + y)) ∧ Ext W w' := by
  go_enter Try.func25, Try.ntmps25
  go_wp2
  exact bodyPost_ret (v := ptV (ax + x) (ay + y)) (by simp [results, Try.f25, go_sem]) rfl ⟨rfl, (hX.alloc _).alloc _⟩
/-- three points in boxes of their own -/
def Tri (w : World) (A B C : Nat) (ax ay bx b_y cx cy : Int) : Prop := (w.cell? ⟨A, 0, none⟩ = some (.int .i64 ax) ∧ w.cell? ⟨A, 1, none⟩ = some (.int .i64 ay)) ∧ (w.cell? ⟨B, 0, none⟩ = some (.int .i64 bx) ∧ w.cell? ⟨B, 1, none⟩ = some (.int .i64 b_y)) ∧ w.cell? ⟨C, 0, none⟩ = some (.int .i64 cx) ∧ w.cell? ⟨C, 1, none⟩ = some (.int .i64 cy)
theorem cell2 (w : World) (x y : Int) (T : Nat) : (w.alloc (.cells #[.int .i64 x, .int .i64 y] T)).cell? ⟨w.heap.size, 0, none⟩ = some (.int .i64 x) ∧ (w.alloc (.cells #[.int .i64 x, .int .i64 y] T)).cell? ⟨w.heap.size, 1, none⟩ = some (.int .i64 y) :=
  ⟨cell_new w [.int .i64 x, .int .i64 y] T 0, cell_new w [.int .i64 x, .int .i64 y] T 1⟩
theorem tri_new (w : World) (ax ay bx b_y cx cy : Int) : Tri (((w.alloc (.cells #[.int .i64 ax, .int .i64 ay] 23)).alloc (.cells #[.int .i64 bx, .int .i64 b_y] 23)).alloc (.cells #[.int .i64 cx, .int .i64 cy] 23)) w.heap.size (w.heap.size + 1) (w.heap.size + 1 + 1) ax ay bx b_y cx cy := by
  have e1 := cell2 w ax ay 23
  have e2 := cell2 (w.alloc (.cells #[.int .i64 ax, .int .i64 ay] 23)) bx b_y 23
  have e3 := cell2 ((w.alloc (.cells #[.int .i64 ax, .int .i64 ay] 23)).alloc (.cells #[.int .i64 bx, .int .i64 b_y] 23)) cx cy 23
  simp only [World.size_alloc] at e2 e3
  have x1 := ((Ext.refl (w.alloc (.cells #[.int .i64 ax, .int .i64 ay] 23))).alloc (.cells #[.int .i64 bx, .int .i64 b_y] 23)).alloc (.cells #[.int .i64 cx, .int .i64 cy] 23)
  have x2 := (Ext.refl ((w.alloc (.cells #[.int .i64 ax, .int .i64 ay] 23)).alloc (.cells #[.int .i64 bx, .int .i64 b_y] 23))).alloc (.cells #[.int .i64 cx, .int .i64 cy] 23)
  exact ⟨⟨x1.cell e1.1, x1.cell e1.2⟩, ⟨x2.cell e2.1, x2.cell e2.2⟩, e3⟩
theorem Tri.ext {w w' : World} {A B C : Nat} {ax ay bx b_y cx cy : Int} (h : Tri w A B C ax ay bx b_y cx cy) (x : Ext w w') : Tri w' A B C ax ay bx b_y cx cy :=
  ⟨⟨x.cell h.1.1, x.cell h.1.2⟩, ⟨x.cell h.2.1.1, x.cell h.2.1.2⟩, x.cell h.2.2.1, x.cell h.2.2.2⟩
theorem Tri.keep {w w' : World} {A B C : Nat} {ax ay bx b_y cx cy : Int} (h : Tri w A B C ax ay bx b_y cx cy) (x : Ext w w') : Ext w w' ∧ (w'.cell? ⟨A, 0, none⟩ = some (.int .i64 ax) ∧ w'.cell? ⟨A, 1, none⟩ = some (.int .i64 ay)) ∧ (w'.cell? ⟨B, 0, none⟩ = some (.int .i64 bx) ∧ w'.cell? ⟨B, 1, none⟩ = some (.int .i64 b_y)) ∧ w'.cell? ⟨C, 0, none⟩ = some (.int .i64 cx) ∧ w'.cell? ⟨C, 1, none⟩ = some (.int .i64 cy) :=
  ⟨x, h.ext x⟩
set_option maxRecDepth 100000 in
set_option maxHeartbeats 8000000 in
theorem law4_any (W : World) (ax ay bx b_y cx cy x y n t s : Int) (w : World) (hX : Ext W w) (hn0 : 0 ≤ n) (hn1 : n ≤ 4294967295) (ht : turnZ ax ay bx b_y cx cy = t) (ht3 : (t = -1 ∧ s = 1) ∨ (t = 0 ∧ s = 0) ∨ (t = 1 ∧ s = -1)) :
    Calls Try.prog 4 #[.agg #[.int .i64 ax, .int .i64 ay], .agg #[.int .i64 bx, .int .i64 b_y], .agg #[.int .i64 cx, .int .i64 cy], .int .i64 x, .int .i64 y, .int .u32 n] w fun e w' => e = .returned (.bool true) ∧ Ext W w' := by
  have T1 := Lib.hid ht
  have T2 := Lib.hid ((turnZ_cyc ax ay bx b_y cx cy).trans ht)
  have T3 : Hid (turnZ bx b_y ax ay cx cy = s) := (turnZ_swap ax ay bx b_y cx cy).trans (by omega)
  have T4 : Hid (turnZ ax ay cx cy bx b_y = s) := (turnZ_swap2 ax ay bx b_y cx cy).trans (by omega)
  have D1 := Lib.hid (distZ_comm ax ay bx b_y)
  obtain ⟨⟨r0, r1⟩, ⟨r2, r3⟩, r4⟩ := rootZ_u32 hn0 hn1
  obtain ⟨r, hr⟩ : ∃ r, rootZ n = r := ⟨_, rfl⟩
  rw [hr] at r0 r1 r2 r3 r4
  have R := Lib.hid hr
  have q0 := sq_nonneg r
  have q1 := sq_nonneg (r + 1)
  have w1 : IntKind.i64.wrap (r * r) = r * r := IntWalk.i64_in _ (by omega)
  have w2 : IntKind.i64.wrap ((r + 1) * (r + 1)) = (r + 1) * (r + 1) := IntWalk.i64_in _ (by omega)
  have s1 : ¬ n < r * r := by omega
  have s2 : ¬ (r + 1) * (r + 1) ≤ n := by omega
  have W1 := Lib.hid w1
  have W2 := Lib.hid w2
  have S1 := Lib.hid s1
  have S2 := Lib.hid s2
  have HB : Hid ((0 ≤ n ∧ n ≤ 4294967295) ∧ 0 ≤ r ∧ r ≤ 65535) := ⟨⟨hn0, hn1⟩, r0, r1⟩
  clear ht hr w1 w2 s1 s2 q0 q1 r2 r3 r4 r0 r1 hn0 hn1
  have z0 : IntKind.i64.wrap 0 = 0 := IntWalk.i64_in _ (by omega)
  have z1 : IntKind.i64.wrap 1 = 1 := IntWalk.i64_in _ (by omega)
  have z2 : IntKind.i64.wrap (-1) = -1 := IntWalk.i64_in _ (by omega)
  rcases ht3 with ⟨rfl, rfl⟩ | ⟨rfl, rfl⟩ | ⟨rfl, rfl⟩
  all_goals
    go_enter Try.func4, Try.ntmps4
    go_wp2_with fail
    have hT := tri_new w ax ay bx b_y cx cy
    have hX0 := ((hX.alloc (.cells #[.int .i64 ax, .int .i64 ay] 23)).alloc (.cells #[.int .i64 bx, .int .i64 b_y] 23)).alloc (.cells #[.int .i64 cx, .int .i64 cy] 23)
    obtain ⟨wb, hwb⟩ : ∃ wb, ((w.alloc (.cells #[.int .i64 ax, .int .i64 ay] 23)).alloc (.cells #[.int .i64 bx, .int .i64 b_y] 23)).alloc (.cells #[.int .i64 cx, .int .i64 cy] 23) = wb := ⟨_, rfl⟩
    rw [hwb] at hT hX0 ⊢
    clear hwb hX
    generalize w.heap.size = A at hT ⊢
    generalize A + 1 + 1 = C at hT ⊢
    generalize A + 1 = B at hT ⊢
    refine (Turn_any _ _ _ _ _ _ _ _ (Ext.refl _)).mono ?_
    rintro e w1 ⟨rfl, hX1⟩
    rw [T1.out]
    replace hT := hT.ext hX1
    replace hX0 := hX0.trans hX1
    clear hX1
    go_wp2_with fail
    go_region_held3 (fun w'' => Ext w1 w'' ∧ (w''.cell? ⟨A, 0, none⟩ = some (.int .i64 ax) ∧ w''.cell? ⟨A, 1, none⟩ = some (.int .i64 ay)) ∧ (w''.cell? ⟨B, 0, none⟩ = some (.int .i64 bx) ∧ w''.cell? ⟨B, 1, none⟩ = some (.int .i64 b_y)) ∧ w''.cell? ⟨C, 0, none⟩ = some (.int .i64 cx) ∧ w''.cell? ⟨C, 1, none⟩ = some (.int .i64 cy)) (first | exact hT.keep (by assumption) | exact hT.keep (Ext.drew (by assumption)) | exact hT.keep (Ext.refl _) | exact hT.keep (Ext.drew (Ext.refl _)))
      (first | (go_at_call 19; refine (Turn_any _ _ _ _ _ _ _ _ (by first | assumption | exact And.left (by assumption) | exact Ext.refl _ | exact Ext.drew (Ext.refl _))).mono ?_; rintro e w' ⟨rfl, hX1⟩; first | rw [T2.out] | rw [T3.out] | rw [T4.out]) | (go_at_call 21; refine (Dist_any _ _ _ _ _ _ (by first | assumption | exact And.left (by assumption))).mono ?_; rintro e w' ⟨rfl, hX1⟩; try rw [D1.out]))
    obtain ⟨⟨hn0, hn1⟩, r0, r1⟩ := HB.out
    go_wp2_with fail
    refine (Root_any w1 n _ hX1 (by omega)).mono ?_
    rintro e w2 ⟨rfl, hX2⟩
    rw [R.out]
    have c1 := W1.out
    have c2 := W2.out
    have s1 : ¬ n < r * r := by have := S1.out; omega
    have s2 : ¬ (r + 1) * (r + 1) ≤ n := by have := S2.out; omega
    clear hX1
    obtain ⟨⟨e0, e1⟩, ⟨e2, e3⟩, e4, e5⟩ := hT.ext hX2
    go_wp2_with fail
    clear c1 c2 s1 s2 e0 e1 e2 e3 e4 e5
    replace hT := hT.ext hX2
    replace hX0 := hX0.trans hX2
    clear hX2
    go_wp2_with (first | (go_at_call 17; refine (Valid_any w2 _ _ _ (by first | assumption | exact Ext.refl _)).mono ?_; rintro e w' ⟨rfl, hX1⟩; obtain ⟨⟨e0, e1⟩, ⟨e2, e3⟩, e4, e5⟩ := hT.ext hX1) | (go_at_call 16; refine (sanity_any w2 _ (by assumption)).mono ?_; rintro e w' ⟨rfl, hX1⟩))
    all_goals try (go_ret; exact ⟨rfl, hX0.trans hX1⟩)
    have o1 : okp (ax, ay) = true := by assumption
    have o2 : okp (bx, b_y) = true := by assumption
    have o3 : okp (cx, cy) = true := by assumption
    have b4 : ((-1000 ≤ x ∧ x ≤ 1000) ∧ -1000 ≤ y) ∧ y ≤ 1000 := by assumption
    have b1 := (okp_iff _).1 o1
    have b2 := (okp_iff _).1 o2
    have b3 := (okp_iff _).1 o3
    have O1 := Lib.hid o1
    have O2 := Lib.hid o2
    have O3 := Lib.hid o3
    have heq := run_eql_pt
    clear e0 e1 e2 e3 e4 e5
    obtain ⟨d, hd1, hd2⟩ : ∃ d, (decide (ax = bx) && decide (ay = b_y)) = d ∧ (distZ ax ay bx b_y == 0) = d := ⟨_, rfl, by rw [Bool.eq_iff_iff]; simp [distZ_zero o1 o2]⟩
    clear o1 o2 o3
    cases d
    all_goals
      go_region_held3 (fun w'' => Ext w2 w'' ∧ (w''.cell? ⟨A, 0, none⟩ = some (.int .i64 ax) ∧ w''.cell? ⟨A, 1, none⟩ = some (.int .i64 ay)) ∧ (w''.cell? ⟨B, 0, none⟩ = some (.int .i64 bx) ∧ w''.cell? ⟨B, 1, none⟩ = some (.int .i64 b_y)) ∧ w''.cell? ⟨C, 0, none⟩ = some (.int .i64 cx) ∧ w''.cell? ⟨C, 1, none⟩ = some (.int .i64 cy)) (first | exact hT.keep (by assumption) | exact hT.keep (Ext.drew (by assumption)) | exact hT.keep (Ext.refl _) | exact hT.keep (Ext.drew (Ext.refl _)))
        ((go_at_call 21; refine (Dist_any _ _ _ _ _ _ (by first | assumption | exact And.left (by assumption))).mono ?_; rintro e w' ⟨rfl, hX1⟩))
      go_wp2_with fail
      refine (moved_any w2 ax ay x y _ hX1 b1.1 b1.2 ⟨by omega, by omega⟩ ⟨by omega, by omega⟩).mono ?_
      rintro e w4 ⟨rfl, hX5⟩
      replace hT := hT.ext hX5
      replace hX0 := hX0.trans hX5
      obtain ⟨⟨e0, e1⟩, ⟨e2, e3⟩, e4, e5⟩ := hT
      have hT : Tri w4 A B C ax ay bx b_y cx cy := ⟨⟨e0, e1⟩, ⟨e2, e3⟩, e4, e5⟩
      have zA : A < w4.heap.size := lt_of_cell e0
      have zB : B < w4.heap.size := lt_of_cell e2
      have zC : C < w4.heap.size := lt_of_cell e4
      go_wp2_with fail
      clear zA zB zC e0 e1 e2 e3 e4 e5 hX5
      have hp := cell2 w4 (ax + x) (ay + y) 23
      have hXn := (Ext.refl w4).alloc (.cells #[.int .i64 (ax + x), .int .i64 (ay + y)] 23)
      obtain ⟨wp, hw⟩ : ∃ wp, w4.alloc (.cells #[.int .i64 (ax + x), .int .i64 (ay + y)] 23) = wp := ⟨_, rfl⟩
      rw [hw] at hp hXn ⊢
      clear hw
      generalize w4.heap.size = P at hp ⊢
      replace hT := hT.ext hXn
      replace hX0 := hX0.trans hXn
      clear hXn
      refine (moved_any wp bx b_y x y _ (Ext.refl _) b2.1 b2.2 ⟨by omega, by omega⟩ ⟨by omega, by omega⟩).mono ?_
      rintro e w5 ⟨rfl, hX5⟩
      replace hp := And.intro (hX5.cell hp.1) (hX5.cell hp.2)
      replace hT := hT.ext hX5
      replace hX0 := hX0.trans hX5
      obtain ⟨⟨e0, e1⟩, ⟨e2, e3⟩, e4, e5⟩ := hT
      have hT : Tri w5 A B C ax ay bx b_y cx cy := ⟨⟨e0, e1⟩, ⟨e2, e3⟩, e4, e5⟩
      have zA : A < w5.heap.size := lt_of_cell e0
      have zB : B < w5.heap.size := lt_of_cell e2
      have zC : C < w5.heap.size := lt_of_cell e4
      go_wp2_with fail
      clear zA zB zC e0 e1 e2 e3 e4 e5 hX5
      have hq := cell2 w5 (bx + x) (b_y + y) 23
      have hXn := (Ext.refl w5).alloc (.cells #[.int .i64 (bx + x), .int .i64 (b_y + y)] 23)
      obtain ⟨wq, hw⟩ : ∃ wq, w5.alloc (.cells #[.int .i64 (bx + x), .int .i64 (b_y + y)] 23) = wq := ⟨_, rfl⟩
      rw [hw] at hq hXn ⊢
      clear hw
      generalize w5.heap.size = Q at hq ⊢
      replace hT := hT.ext hXn
      replace hX0 := hX0.trans hXn
      replace hp := And.intro (hXn.cell hp.1) (hXn.cell hp.2)
      clear hXn
      refine (moved_any wq cx cy x y _ (Ext.refl _) b3.1 b3.2 ⟨by omega, by omega⟩ ⟨by omega, by omega⟩).mono ?_
      rintro e w6 ⟨rfl, hX5⟩
      replace hp := And.intro (hX5.cell hp.1) (hX5.cell hp.2)
      replace hq := And.intro (hX5.cell hq.1) (hX5.cell hq.2)
      replace hT := hT.ext hX5
      replace hX0 := hX0.trans hX5
      obtain ⟨⟨e0, e1⟩, ⟨e2, e3⟩, e4, e5⟩ := hT
      have hT : Tri w6 A B C ax ay bx b_y cx cy := ⟨⟨e0, e1⟩, ⟨e2, e3⟩, e4, e5⟩
      have zA : A < w6.heap.size := lt_of_cell e0
      have zB : B < w6.heap.size := lt_of_cell e2
      have zC : C < w6.heap.size := lt_of_cell e4
      obtain ⟨p0, p1⟩ := hp
      obtain ⟨q0, q1⟩ := hq
      have zP : P < w6.heap.size := lt_of_cell p0
      have zQ : Q < w6.heap.size := lt_of_cell q0
      go_wp2_with fail
      clear zA zB zC zP zQ e0 e1 e2 e3 e4 e5 hX5
      have hr := cell2 w6 (cx + x) (cy + y) 23
      have hXn := (Ext.refl w6).alloc (.cells #[.int .i64 (cx + x), .int .i64 (cy + y)] 23)
      obtain ⟨wr, hw⟩ : ∃ wr, w6.alloc (.cells #[.int .i64 (cx + x), .int .i64 (cy + y)] 23) = wr := ⟨_, rfl⟩
      rw [hw] at hr hXn ⊢
      clear hw
      generalize w6.heap.size = R' at hr ⊢
      replace hT := hT.ext hXn
      replace hX0 := hX0.trans hXn
      have hK : ∀ w'', Ext wr w'' → Ext wr w'' ∧ (w''.cell? ⟨A, 0, none⟩ = some (.int .i64 ax) ∧ w''.cell? ⟨A, 1, none⟩ = some (.int .i64 ay)) ∧ (w''.cell? ⟨B, 0, none⟩ = some (.int .i64 bx) ∧ w''.cell? ⟨B, 1, none⟩ = some (.int .i64 b_y)) ∧ (w''.cell? ⟨P, 0, none⟩ = some (.int .i64 (ax + x)) ∧ w''.cell? ⟨P, 1, none⟩ = some (.int .i64 (ay + y))) ∧ (w''.cell? ⟨Q, 0, none⟩ = some (.int .i64 (bx + x)) ∧ w''.cell? ⟨Q, 1, none⟩ = some (.int .i64 (b_y + y))) ∧ w''.cell? ⟨R', 0, none⟩ = some (.int .i64 (cx + x)) ∧ w''.cell? ⟨R', 1, none⟩ = some (.int .i64 (cy + y)) := by
        have g0 := hXn.cell p0
        have g1 := hXn.cell p1
        have g2 := hXn.cell q0
        have g3 := hXn.cell q1
        exact fun w'' h => ⟨h, ⟨h.cell hT.1.1, h.cell hT.1.2⟩, ⟨h.cell hT.2.1.1, h.cell hT.2.1.2⟩, ⟨h.cell g0, h.cell g1⟩, ⟨h.cell g2, h.cell g3⟩, h.cell hr.1, h.cell hr.2⟩
      have HK := Lib.hid hK
      clear hXn hr p0 p1 q0 q1 hT hK
      have sP := Lib.hid (fun k1 k2 k3 => (turnZ_shift (x := x) (y := y) O1.out O2.out O3.out k1 k2 k3).trans T1.out)
      have sD := Lib.hid (fun k1 k2 => distZ_shift (x := x) (y := y) O1.out O2.out k1 k2)
      go_wp2_with (first | (go_at_call 17; refine (Valid_any wr _ _ _ (by first | assumption | exact Ext.refl _)).mono ?_; rintro e w' ⟨rfl, hX1⟩; obtain ⟨_, ⟨e0, e1⟩, ⟨e2, e3⟩, ⟨e4, e5⟩, ⟨e6, e7⟩, e8, e9⟩ := HK.out _ hX1) | (go_at_call 16; refine (sanity_any wr _ (by assumption)).mono ?_; rintro e w' ⟨rfl, hX1⟩))
      all_goals try (go_ret; exact ⟨rfl, hX0.trans hX1⟩)
      have k1 : okp (ax + x, ay + y) = true := by assumption
      have k2 : okp (bx + x, b_y + y) = true := by assumption
      have k3 : okp (cx + x, cy + y) = true := by have h : (!okp (cx + x, cy + y)) = false := by assumption
                                                  simpa using h
      have T5 := Lib.hid (sP.out k1 k2 k3)
      have D5 := Lib.hid (sD.out k1 k2)
      clear k1 k2 k3 e0 e1 e2 e3 e4 e5 e6 e7 e8 e9
      go_region_held3 (fun w'' => Ext wr w'' ∧ (w''.cell? ⟨A, 0, none⟩ = some (.int .i64 ax) ∧ w''.cell? ⟨A, 1, none⟩ = some (.int .i64 ay)) ∧ (w''.cell? ⟨B, 0, none⟩ = some (.int .i64 bx) ∧ w''.cell? ⟨B, 1, none⟩ = some (.int .i64 b_y)) ∧ (w''.cell? ⟨P, 0, none⟩ = some (.int .i64 (ax + x)) ∧ w''.cell? ⟨P, 1, none⟩ = some (.int .i64 (ay + y))) ∧ (w''.cell? ⟨Q, 0, none⟩ = some (.int .i64 (bx + x)) ∧ w''.cell? ⟨Q, 1, none⟩ = some (.int .i64 (b_y + y))) ∧ w''.cell? ⟨R', 0, none⟩ = some (.int .i64 (cx + x)) ∧ w''.cell? ⟨R', 1, none⟩ = some (.int .i64 (cy + y))) (first | exact HK.out _ (by assumption) | exact HK.out _ (Ext.drew (by assumption)))
        (first | (go_at_call 16; refine (sanity_any _ _ (by first | assumption | exact And.left (by assumption))).mono ?_; rintro e w' ⟨rfl, hX1⟩) | (go_at_call 19; refine (Turn_any _ _ _ _ _ _ _ _ (by first | assumption | exact And.left (by assumption))).mono ?_; rintro e w' ⟨rfl, hX1⟩; rw [T5.out]) | (go_at_call 21; refine (Dist_any _ _ _ _ _ _ (by first | assumption | exact And.left (by assumption))).mono ?_; rintro e w' ⟨rfl, hX1⟩; try rw [D5.out]))
      go_wp2_with fail
      go_ret
      exact ⟨rfl, hX0.trans hX1⟩
end Go.Proofs.Ytdbhbfmbpldmnaa
