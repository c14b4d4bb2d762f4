/- Contracts of the reference's boxes: gaps, Holds, Corners, Cover, Grow. -/
import Derived.Test.YtdbhbfmbpldmnaaX5
import Derived.Test.YtdbhbfmbpldmnaaX3
import Derived.Test.YtdbhbfmbpldmnaaR8
namespace Go.Proofs.Ytdbhbfmbpldmnaa
open Go.RowKit
set_option maxHeartbeats 800000 in
theorem rgaps (W : World) (a b c d : Int) (w : World) (hX : Ext W w) (ka : okc a = true) (kb : okc b = true) (kc : okc c = true) (kd : okc d = true) :
    Calls Try.prog 117 #[spV a b, spV c d] w fun e w' => e = .returned (spV (max 0 (max (a - d) (c - b))) (max (b - c) (d - a))) ∧ Ext W w' := by
  have h1 := (okc_iff a).1 ka
  have h2 := (okc_iff b).1 kb
  have h3 := (okc_iff c).1 kc
  have h4 := (okc_iff d).1 kd
  have hmin := ite_min
  have hmax := ite_max
  go_enter Try.func117, Try.ntmps117
  go_wp2
  all_goals
    refine bodyPost_ret (v := spV (max 0 (max (c - b) (a - d))) (max (d - a) (b - c))) (by simp [results, Try.f117, go_sem]) rfl ⟨?_, ((hX.alloc _).alloc _).alloc _⟩
    rw [show max 0 (max (a - d) (c - b)) = max 0 (max (c - b) (a - d)) from by omega, show max (b - c) (d - a) = max (d - a) (b - c) from by omega]
set_option maxHeartbeats 800000 in
theorem rHolds (W : World) (x0 x1 y0 y1 px py : Int) (w : World) (hX : Ext W w) :
    Calls Try.prog 67 #[bxV x0 x1 y0 y1, spV px py] w fun e w' => e = .returned (.bool (holdB x0 x1 y0 y1 px py)) ∧ Ext W w' := by
  go_enter Try.func67, Try.ntmps67
  go_wp2_with (first | (go_at_call 65; refine (rProperB _ _ _ _ _ _ (by first | assumption | exact Ext.refl _)).mono ?_; rintro e w' ⟨rfl, hX1⟩; have hr := hX1.rule) | (go_at_call 77; refine (rWithin _ _ _ _ _ (by first | assumption | exact Ext.refl _)).mono ?_; rintro e w' ⟨rfl, hX1⟩; have hr := hX1.rule))
  all_goals
    go_ret
    exact ⟨ret_bool (by simp [holdB, *]), hX.b2 (by assumption)⟩
set_option maxRecDepth 100000 in
set_option maxHeartbeats 4000000 in
theorem rCorners (W : World) (a b c d : Int) (w : World) (hX : Ext W w) :
    Calls Try.prog 69 #[bxV a b c d] w fun en w' => en = .returned (cnV (cnR a b c d)) ∧ Ext W w' := by
  obtain ⟨p1, hp1⟩ : ∃ p, boxB a b c d = p := ⟨_, rfl⟩
  have HZ : Hid (cnR a b c d = fun i => if p1 = true then cnr a b c d i else (0, 0)) := by unfold Hid; funext i; unfold cnR; rw [hp1]
  have P1 := Lib.hid hp1
  clear hp1
  go_enter Try.func69, Try.ntmps69
  go_wp2_with fail
  have hA := (BoxN.new w 52 (bxC a b c d)).ext ((Ext.refl _).alloc (.cells #[.int .i64 0, .int .i64 0, .int .i64 0, .int .i64 0, .int .i64 0, .int .i64 0, .int .i64 0, .int .i64 0] 82))
  have hR := BoxN.new (w.alloc (.cells (bxC a b c d) 52)) 82 #[.int .i64 0, .int .i64 0, .int .i64 0, .int .i64 0, .int .i64 0, .int .i64 0, .int .i64 0, .int .i64 0]
  have hX2 := ((Ext.refl w).alloc (.cells (bxC a b c d) 52)).alloc (.cells #[.int .i64 0, .int .i64 0, .int .i64 0, .int .i64 0, .int .i64 0, .int .i64 0, .int .i64 0, .int .i64 0] 82)
  rw [World.size_alloc] at hR
  have zA : w.heap.size ≤ w.heap.size := by omega
  have zR : w.heap.size ≤ w.heap.size + 1 := by omega
  have nAR : w.heap.size ≠ w.heap.size + 1 := by omega
  obtain ⟨w3, hw3⟩ : ∃ w3, ((w.alloc (.cells (bxC a b c d) 52)).alloc (.cells #[.int .i64 0, .int .i64 0, .int .i64 0, .int .i64 0, .int .i64 0, .int .i64 0, .int .i64 0, .int .i64 0] 82)) = w3 := ⟨_, rfl⟩
  change BoxN ((w.alloc (.cells (bxC a b c d) 52)).alloc (.cells #[.int .i64 0, .int .i64 0, .int .i64 0, .int .i64 0, .int .i64 0, .int .i64 0, .int .i64 0, .int .i64 0] 82)) _ _ _ at hR
  rw [hw3] at hA hR hX2 ⊢
  clear hw3
  have hW := hX
  generalize hqR : w.heap.size + 1 = R at hR zR nAR ⊢
  generalize hqA : w.heap.size = A at hA nAR ⊢
  clear hqR zA
  refine (rProperB _ _ _ _ _ _ (Ext.refl _)).mono ?_
  rintro en w' ⟨rfl, hY⟩
  obtain ⟨q0, q1, q2, q3, _⟩ := BoxN.box4 (hA.ext hY)
  obtain ⟨n0, n1, n2, n3, n4, n5, n6, n7, n8⟩ := BoxN.box8 (hR.ext hY)
  rw [P1.out]
  cases p1
  all_goals
    go_wp2_with fail
    exact bodyPost_ret (v := cnV (cnR a b c d)) (by rw [HZ.out]; simp [results, Try.f69, go_sem, cnr, n0, n1, n2, n3, n4, n5, n6, n7]) rfl ⟨rfl, hW.trans (ext_eight (hX2.trans hY) zR _ _ _ _ _ _ _ _)⟩
set_option maxRecDepth 100000 in
set_option maxHeartbeats 4000000 in
theorem rCover (W : World) (a b c d e f g h : Int) (w : World) (hX : Ext W w) :
    Calls Try.prog 59 #[bxV a b c d, bxV e f g h] w fun en w' => en = .returned (bxT (coverR a b c d e f g h)) ∧ Ext W w' := by
  obtain ⟨p1, hp1⟩ : ∃ p, boxB a b c d = p := ⟨_, rfl⟩
  obtain ⟨p2, hp2⟩ : ∃ p, boxB e f g h = p := ⟨_, rfl⟩
  have hmin := ite_min
  have hmax := ite_max
  have HZ : Hid (coverR a b c d e f g h = if (p1 && p2) = true then ((min a e, max b f, min c g, max d h), true) else ((0, 0, 0, 0), false)) := by unfold Hid coverR; rw [hp1, hp2]
  have P1 := Lib.hid hp1
  have P2 := Lib.hid hp2
  clear hp1 hp2
  go_enter Try.func59, Try.ntmps59
  go_wp2_with fail
  have hA := ((BoxN.new w 52 (bxC a b c d)).ext ((Ext.refl _).alloc (.cells (bxC e f g h) 52))).ext ((Ext.refl _).alloc (.cells #[.int .i64 0, .int .i64 0, .int .i64 0, .int .i64 0] 52))
  have hB := (BoxN.new (w.alloc (.cells (bxC a b c d) 52)) 52 (bxC e f g h)).ext ((Ext.refl _).alloc (.cells #[.int .i64 0, .int .i64 0, .int .i64 0, .int .i64 0] 52))
  have hR := BoxN.new ((w.alloc (.cells (bxC a b c d) 52)).alloc (.cells (bxC e f g h) 52)) 52 #[.int .i64 0, .int .i64 0, .int .i64 0, .int .i64 0]
  have hX2 := (((Ext.refl w).alloc (.cells (bxC a b c d) 52)).alloc (.cells (bxC e f g h) 52)).alloc (.cells #[.int .i64 0, .int .i64 0, .int .i64 0, .int .i64 0] 52)
  rw [World.size_alloc] at hB
  rw [World.size_alloc, World.size_alloc] at hR
  have zA : w.heap.size ≤ w.heap.size := by omega
  have zB : w.heap.size ≤ w.heap.size + 1 := by omega
  have zR : w.heap.size ≤ w.heap.size + 1 + 1 := by omega
  have nAB : w.heap.size ≠ w.heap.size + 1 := by omega
  have nAR : w.heap.size ≠ w.heap.size + 1 + 1 := by omega
  have nBR : w.heap.size + 1 ≠ w.heap.size + 1 + 1 := by omega
  obtain ⟨w3, hw3⟩ : ∃ w3, (((w.alloc (.cells (bxC a b c d) 52)).alloc (.cells (bxC e f g h) 52)).alloc (.cells #[.int .i64 0, .int .i64 0, .int .i64 0, .int .i64 0] 52)) = w3 := ⟨_, rfl⟩
  change BoxN (((w.alloc (.cells (bxC a b c d) 52)).alloc (.cells (bxC e f g h) 52)).alloc (.cells #[.int .i64 0, .int .i64 0, .int .i64 0, .int .i64 0] 52)) _ _ _ at hR
  rw [hw3] at hA hB hR hX2 ⊢
  clear hw3
  have hW := hX
  generalize hqR : w.heap.size + 1 + 1 = R at hR zR nAR nBR ⊢
  generalize hqB : w.heap.size + 1 = B at hB zB nAB nBR ⊢
  generalize hqA : w.heap.size = A at hA nAB nAR ⊢
  clear hqB hqR zA
  have hK : ∀ w', Ext w3 w' → Ext w3 w' ∧ Bx w' A a b c d ∧ Bx w' B e f g h := fun w' x => ⟨x, BoxN.bx (hA.ext x), BoxN.bx (hB.ext x)⟩
  have HK := Lib.hid hK
  clear hK
  obtain ⟨_, ⟨q0, q1, q2, q3⟩, q4, q5, q6, q7⟩ := HK.out _ (Ext.refl _)
  obtain ⟨n0, n1, n2, n3, n4⟩ := BoxN.box4 hR
  have hX7 := Ext.refl w3
  cases p1 <;> cases p2
  all_goals
    go_wp2_with (first | (go_at_call 65; refine (rProperB _ _ _ _ _ _ (Ext.refl _)).mono ?_; rintro en w' ⟨rfl, hY⟩; have hX7 := hX7.trans hY; obtain ⟨_, ⟨q0, q1, q2, q3⟩, q4, q5, q6, q7⟩ := HK.out _ hX7; obtain ⟨n0, n1, n2, n3, n4⟩ := BoxN.box4 (hR.ext hX7); (first | rw [P1.out] | rw [P2.out])))
  all_goals exact bodyPost_ret (v := bxT (coverR a b c d e f g h)) (by rw [HZ.out]; simp [results, Try.f59, go_sem, n0, n1, n2, n3]) rfl ⟨rfl, hW.trans (ext_four (hX2.trans hX7) zR _ _ _ _)⟩
set_option maxRecDepth 100000 in
set_option maxHeartbeats 4000000 in
theorem rGrow (W : World) (a b c d n : Int) (w : World) (hX : Ext W w) :
    Calls Try.prog 61 #[bxV a b c d, .int .i64 n] w fun en w' => en = .returned (bxT (growR a b c d n)) ∧ Ext W w' := by
  obtain ⟨p1, hp1⟩ : ∃ p, boxB a b c d = p := ⟨_, rfl⟩
  have hmin := ite_min
  have hmax := ite_max
  have HZ : Hid (growR a b c d n = if (p1 && decide (0 ≤ n)) = true then ((max (a - min n 2097152) (-1048576), min (b + min n 2097152) 1048576, max (c - min n 2097152) (-1048576), min (d + min n 2097152) 1048576), true) else ((0, 0, 0, 0), false)) := by unfold Hid growR; rw [hp1]
  have P1 := Lib.hid hp1
  clear hp1
  go_enter Try.func61, Try.ntmps61
  go_wp2_with fail
  have hA := (BoxN.new w 52 (bxC a b c d)).ext ((Ext.refl _).alloc (.cells #[.int .i64 0, .int .i64 0, .int .i64 0, .int .i64 0] 52))
  have hR := BoxN.new (w.alloc (.cells (bxC a b c d) 52)) 52 #[.int .i64 0, .int .i64 0, .int .i64 0, .int .i64 0]
  have hX2 := ((Ext.refl w).alloc (.cells (bxC a b c d) 52)).alloc (.cells #[.int .i64 0, .int .i64 0, .int .i64 0, .int .i64 0] 52)
  rw [World.size_alloc] at hR
  have zA : w.heap.size ≤ w.heap.size := by omega
  have zR : w.heap.size ≤ w.heap.size + 1 := by omega
  have nAR : w.heap.size ≠ w.heap.size + 1 := by omega
  obtain ⟨w3, hw3⟩ : ∃ w3, ((w.alloc (.cells (bxC a b c d) 52)).alloc (.cells #[.int .i64 0, .int .i64 0, .int .i64 0, .int .i64 0] 52)) = w3 := ⟨_, rfl⟩
  change BoxN ((w.alloc (.cells (bxC a b c d) 52)).alloc (.cells #[.int .i64 0, .int .i64 0, .int .i64 0, .int .i64 0] 52)) _ _ _ at hR
  rw [hw3] at hA hR hX2 ⊢
  clear hw3
  have hW := hX
  generalize hqR : w.heap.size + 1 = R at hR zR nAR ⊢
  generalize hqA : w.heap.size = A at hA nAR ⊢
  clear hqR zA
  refine (rProperB _ _ _ _ _ _ (Ext.refl _)).mono ?_
  rintro en w4 ⟨rfl, hY⟩
  rw [P1.out]
  have hX4 := hX2.trans hY
  obtain ⟨q0, q1, q2, q3, q4⟩ := BoxN.box4 (hA.ext hY)
  obtain ⟨n0, n1, n2, n3, n4⟩ := BoxN.box4 (hR.ext hY)
  cases p1
  · go_wp2_with fail
    exact bodyPost_ret (v := bxT (growR a b c d n)) (by rw [HZ.out]; simp [results, Try.f61, go_sem, n0, n1, n2, n3]) rfl ⟨rfl, hW.trans (ext_four hX4 zR _ _ _ _)⟩
  by_cases hn : n < 0
  · have hd : decide (0 ≤ n) = false := by simpa using hn
    go_wp2_with fail
    exact bodyPost_ret (v := bxT (growR a b c d n)) (by rw [HZ.out, hd]; simp [results, Try.f61, go_sem, n0, n1, n2, n3]) rfl ⟨rfl, hW.trans (ext_four hX4 zR _ _ _ _)⟩
  have hd : decide (0 ≤ n) = true := by simpa using hn
  have m1 : 0 ≤ min n 2097152 := by omega
  have m2 : min n 2097152 ≤ 2097152 := by omega
  obtain ⟨⟨⟨k1, k2⟩, k3⟩, ⟨k4, k5⟩, k6⟩ := boxB_ok P1.out
  obtain ⟨m, hm⟩ : ∃ m, min n 2097152 = m := ⟨_, rfl⟩
  rw [hm] at m1 m2 HZ
  have e1 : max (-1048576) (a - m) = max (a - m) (-1048576) := by omega
  have e2 : min 1048576 (b + m) = min (b + m) 1048576 := by omega
  have e3 : max (-1048576) (c - m) = max (c - m) (-1048576) := by omega
  have e4 : min 1048576 (d + m) = min (d + m) 1048576 := by omega
  go_wp2_with fail
  all_goals exact bodyPost_ret (v := bxT (growR a b c d n)) (by rw [HZ.out, hd]; simp [results, Try.f61, go_sem, n0, n1, n2, n3]) rfl ⟨rfl, hW.trans (ext_four hX4 zR _ _ _ _)⟩
end Go.Proofs.Ytdbhbfmbpldmnaa
