/- Contracts of the reference's boxes: Meet, Dists. -/
import Derived.Test.YtdbhbfmbpldmnaaX6
import Derived.Test.YtdbhbfmbpldmnaaY1
namespace Go.Proofs.Ytdbhbfmbpldmnaa
open Go.RowKit
set_option maxRecDepth 100000 in
set_option maxHeartbeats 8000000 in
theorem rMeet (W : World) (a b c d e f g h : Int) (w : World) (hX : Ext W w) :
    Calls Try.prog 57 #[bxV a b c d, bxV e f g h] w fun en w' => en = .returned (bxT (meetR a b c d e f g h)) ∧ Ext W w' := by
  obtain ⟨p1, hp1⟩ : ∃ p, boxB a b c d = p := ⟨_, rfl⟩
  obtain ⟨p2, hp2⟩ : ∃ p, boxB e f g h = p := ⟨_, rfl⟩
  obtain ⟨p3, hp3⟩ : ∃ p, boxB (max a e) (min b f) (max c g) (min d h) = p := ⟨_, rfl⟩
  have hmin := ite_min
  have hmax := ite_max
  have HZ : Hid (meetR a b c d e f g h = if (p1 && p2 && p3) = true then ((max a e, min b f, max c g, min d h), true) else ((0, 0, 0, 0), false)) := by unfold Hid meetR; rw [hp1, hp2, hp3]
  have P1 := Lib.hid hp1
  have P2 := Lib.hid hp2
  have P3 := Lib.hid hp3
  clear hp1 hp2 hp3
  go_enter Try.func57, Try.ntmps57
  go_wp2_with fail
  have hA := ((BoxN.new w 52 (bxC a b c d)).ext ((Ext.refl _).alloc (.cells (bxC e f g h) 52))).ext ((Ext.refl _).alloc (.cells #[.int .i64 0, .int .i64 0, .int .i64 0, .int .i64 0] 52))
  have hB := (BoxN.new (w.alloc (.cells (bxC a b c d) 52)) 52 (bxC e f g h)).ext ((Ext.refl _).alloc (.cells #[.int .i64 0, .int .i64 0, .int .i64 0, .int .i64 0] 52))
  have hR := BoxN.new ((w.alloc (.cells (bxC a b c d) 52)).alloc (.cells (bxC e f g h) 52)) 52 #[.int .i64 0, .int .i64 0, .int .i64 0, .int .i64 0]
  have hX2 := (((Ext.refl w).alloc (.cells (bxC a b c d) 52)).alloc (.cells (bxC e f g h) 52)).alloc (.cells #[.int .i64 0, .int .i64 0, .int .i64 0, .int .i64 0] 52)
  rw [World.size_alloc] at hB
  rw [World.size_alloc, World.size_alloc] at hR
  have zA : w.heap.size ≤ w.heap.size := by omega
  have zB : w.heap.size ≤ w.heap.size + 1 := by omega
  have zR : w.heap.size ≤ w.heap.size + 1 + 1 := by omega
  have nAB : w.heap.size ≠ w.heap.size + 1 := by omega
  have nAR : w.heap.size ≠ w.heap.size + 1 + 1 := by omega
  have nBR : w.heap.size + 1 ≠ w.heap.size + 1 + 1 := by omega
  obtain ⟨w3, hw3⟩ : ∃ w3, (((w.alloc (.cells (bxC a b c d) 52)).alloc (.cells (bxC e f g h) 52)).alloc (.cells #[.int .i64 0, .int .i64 0, .int .i64 0, .int .i64 0] 52)) = w3 := ⟨_, rfl⟩
  change BoxN (((w.alloc (.cells (bxC a b c d) 52)).alloc (.cells (bxC e f g h) 52)).alloc (.cells #[.int .i64 0, .int .i64 0, .int .i64 0, .int .i64 0] 52)) _ _ _ at hR
  rw [hw3] at hA hB hR hX2 ⊢
  clear hw3
  have hW := hX
  generalize hqR : w.heap.size + 1 + 1 = R at hR zR nAR nBR ⊢
  generalize hqB : w.heap.size + 1 = B at hB zB nAB nBR ⊢
  generalize hqA : w.heap.size = A at hA nAB nAR ⊢
  clear hqB hqR zA
  have hK : ∀ w', Ext w3 w' → Ext w3 w' ∧ Bx w' A a b c d ∧ Bx w' B e f g h := fun w' x => ⟨x, BoxN.bx (hA.ext x), BoxN.bx (hB.ext x)⟩
  have HK := Lib.hid hK
  clear hK
  refine (rProperB _ _ _ _ _ _ (Ext.refl _)).mono ?_
  rintro en w4 ⟨rfl, hX7⟩
  rw [P1.out]
  obtain ⟨_, ⟨q0, q1, q2, q3⟩, q4, q5, q6, q7⟩ := HK.out _ hX7
  go_wp2_with fail
  refine (rProperB _ _ _ _ _ _ (Ext.refl _)).mono ?_
  rintro en w5 ⟨rfl, hY⟩
  rw [P2.out]
  have hX7 := hX7.trans hY
  clear hY
  obtain ⟨_, ⟨q0, q1, q2, q3⟩, q4, q5, q6, q7⟩ := HK.out _ hX7
  have lA := (hA.ext hX7).lt
  have lB := (hB.ext hX7).lt
  go_wp2_with fail
  refine (rProperB _ _ _ _ _ _ (Ext.refl _)).mono ?_
  rintro en w6 ⟨rfl, hY⟩
  rw [P3.out]
  have hM := BoxN.newE hY
  have hX7 := (hX7.alloc _).trans hY
  clear hY q0 q1 q2 q3 q4 q5 q6 q7 lA lB
  obtain ⟨n0, n1, n2, n3, n4⟩ := BoxN.box4 (hR.ext hX7)
  generalize w5.heap.size = M at hM ⊢
  obtain ⟨m0, m1, m2, m3, m4⟩ := BoxN.box4 hM
  cases p1 <;> cases p2 <;> cases p3
  all_goals
    go_wp2_with fail
    exact bodyPost_ret (v := bxT (meetR a b c d e f g h)) (by rw [HZ.out]; simp [results, Try.f57, go_sem, n0, n1, n2, n3]) rfl ⟨rfl, hW.trans (ext_four (hX2.trans hX7) zR _ _ _ _)⟩
set_option maxRecDepth 100000 in
set_option maxHeartbeats 8000000 in
theorem rDists (W : World) (a b c d e f g h : Int) (w : World) (hX : Ext W w) :
    Calls Try.prog 53 #[bxV a b c d, bxV e f g h] w fun en w' => en = .returned (spT (distsR a b c d e f g h)) ∧ Ext W w' := by
  obtain ⟨p1, hp1⟩ : ∃ p, boxB a b c d = p := ⟨_, rfl⟩
  obtain ⟨p2, hp2⟩ : ∃ p, boxB e f g h = p := ⟨_, rfl⟩
  have HZ : Hid (distsR a b c d e f g h = if (p1 && p2) = true then ((apLo a b e f * apLo a b e f + apLo c d g h * apLo c d g h, apHi a b e f * apHi a b e f + apHi c d g h * apHi c d g h), true) else ((0, 0), false)) := by unfold Hid distsR; rw [hp1, hp2]
  have P1 := Lib.hid hp1
  have P2 := Lib.hid hp2
  clear hp1 hp2
  go_enter Try.func53, Try.ntmps53
  go_wp2_with fail
  have hA := ((BoxN.new w 52 (bxC a b c d)).ext ((Ext.refl _).alloc (.cells (bxC e f g h) 52))).ext ((Ext.refl _).alloc (.cells #[.int .i64 0, .int .i64 0] 50))
  have hB := (BoxN.new (w.alloc (.cells (bxC a b c d) 52)) 52 (bxC e f g h)).ext ((Ext.refl _).alloc (.cells #[.int .i64 0, .int .i64 0] 50))
  have hR := BoxN.new ((w.alloc (.cells (bxC a b c d) 52)).alloc (.cells (bxC e f g h) 52)) 50 #[.int .i64 0, .int .i64 0]
  have hX2 := (((Ext.refl w).alloc (.cells (bxC a b c d) 52)).alloc (.cells (bxC e f g h) 52)).alloc (.cells #[.int .i64 0, .int .i64 0] 50)
  rw [World.size_alloc] at hB
  rw [World.size_alloc, World.size_alloc] at hR
  have zA : w.heap.size ≤ w.heap.size := by omega
  have zB : w.heap.size ≤ w.heap.size + 1 := by omega
  have zR : w.heap.size ≤ w.heap.size + 1 + 1 := by omega
  have nAB : w.heap.size ≠ w.heap.size + 1 := by omega
  have nAR : w.heap.size ≠ w.heap.size + 1 + 1 := by omega
  have nBR : w.heap.size + 1 ≠ w.heap.size + 1 + 1 := by omega
  obtain ⟨w3, hw3⟩ : ∃ w3, (((w.alloc (.cells (bxC a b c d) 52)).alloc (.cells (bxC e f g h) 52)).alloc (.cells #[.int .i64 0, .int .i64 0] 50)) = w3 := ⟨_, rfl⟩
  change BoxN (((w.alloc (.cells (bxC a b c d) 52)).alloc (.cells (bxC e f g h) 52)).alloc (.cells #[.int .i64 0, .int .i64 0] 50)) _ _ _ at hR
  rw [hw3] at hA hB hR hX2 ⊢
  clear hw3
  have hW := hX
  generalize hqR : w.heap.size + 1 + 1 = R at hR zR nAR nBR ⊢
  generalize hqB : w.heap.size + 1 = B at hB zB nAB nBR ⊢
  generalize hqA : w.heap.size = A at hA nAB nAR ⊢
  clear hqB hqR zA
  have hK : ∀ w', Ext w3 w' → Ext w3 w' ∧ Bx w' A a b c d ∧ Bx w' B e f g h := fun w' x => ⟨x, BoxN.bx (hA.ext x), BoxN.bx (hB.ext x)⟩
  have HK := Lib.hid hK
  clear hK
  refine (rProperB _ _ _ _ _ _ (Ext.refl _)).mono ?_
  rintro en w4 ⟨rfl, hX7⟩
  rw [P1.out]
  obtain ⟨_, ⟨q0, q1, q2, q3⟩, q4, q5, q6, q7⟩ := HK.out _ hX7
  go_wp2_with fail
  refine (rProperB _ _ _ _ _ _ (Ext.refl _)).mono ?_
  rintro en w5 ⟨rfl, hY⟩
  rw [P2.out]
  have hX7 := hX7.trans hY
  clear hY
  obtain ⟨_, ⟨q0, q1, q2, q3⟩, q4, q5, q6, q7⟩ := HK.out _ hX7
  obtain ⟨n0, n1, n2⟩ := BoxN.box2 (hR.ext hX7)
  have lA := (hA.ext hX7).lt
  have lB := (hB.ext hX7).lt
  cases p1 <;> cases p2
  all_goals go_wp2_with fail
  all_goals (try exact bodyPost_ret (v := spT (distsR a b c d e f g h)) (by rw [HZ.out]; simp [results, Try.f53, go_sem, n0, n1]) rfl ⟨rfl, hW.trans (ext_two (hX2.trans hX7) zR _ _)⟩)
  obtain ⟨⟨⟨k1, k2⟩, k3⟩, ⟨k4, k5⟩, k6⟩ := boxB_ok P1.out
  obtain ⟨⟨⟨l1, l2⟩, l3⟩, ⟨l4, l5⟩, l6⟩ := boxB_ok P2.out
  have oa := (okc_iff a).2 (by omega)
  have ob := (okc_iff b).2 (by omega)
  have oc := (okc_iff c).2 (by omega)
  have od := (okc_iff d).2 (by omega)
  have oe := (okc_iff e).2 (by omega)
  have of := (okc_iff f).2 (by omega)
  have og := (okc_iff g).2 (by omega)
  have oh := (okc_iff h).2 (by omega)
  obtain ⟨⟨x1, x2⟩, x3, x4⟩ := ap_bd oa ob oe of (by omega) (by omega)
  obtain ⟨⟨y1, y2⟩, y3, y4⟩ := ap_bd oc od og oh (by omega) (by omega)
  obtain ⟨xl, hxl⟩ : ∃ v, apLo a b e f = v := ⟨_, rfl⟩
  obtain ⟨xh, hxh⟩ : ∃ v, apHi a b e f = v := ⟨_, rfl⟩
  obtain ⟨yl, hyl⟩ : ∃ v, apLo c d g h = v := ⟨_, rfl⟩
  obtain ⟨yh, hyh⟩ : ∃ v, apHi c d g h = v := ⟨_, rfl⟩
  rw [hxl] at x1 x2
  rw [hxh] at x3 x4
  rw [hyl] at y1 y2
  rw [hyh] at y3 y4
  have hV : Hid (spV (max 0 (max (a - f) (e - b))) (max (b - e) (f - a)) = spV xl xh) := by unfold Hid; rw [← hxl, ← hxh]; rfl
  have hV2 : Hid (spV (max 0 (max (c - h) (g - d))) (max (d - g) (h - c)) = spV yl yh) := by unfold Hid; rw [← hyl, ← hyh]; rfl
  rw [hxl, hxh, hyl, hyh] at HZ
  clear hxl hxh hyl hyh n0 n1 n2
  obtain ⟨s1, s2⟩ := sq_bd2 x1 x2
  obtain ⟨s3, s4⟩ := sq_bd2 x3 x4
  obtain ⟨s5, s6⟩ := sq_bd2 y1 y2
  obtain ⟨s7, s8⟩ := sq_bd2 y3 y4
  refine (rgaps _ _ _ _ _ _ (Ext.refl _) oa ob oe of).mono ?_
  rintro en w6 ⟨rfl, hY⟩
  rw [hV.out]
  have hX7 := hX7.trans hY
  clear hY
  obtain ⟨_, ⟨q0, q1, q2, q3⟩, q4, q5, q6, q7⟩ := HK.out _ hX7
  have lA := (hA.ext hX7).lt
  have lB := (hB.ext hX7).lt
  go_wp2_with fail
  refine (rgaps _ _ _ _ _ _ (Ext.refl _) oc od og oh).mono ?_
  rintro en w7 ⟨rfl, hY⟩
  rw [hV2.out]
  have hM := BoxN.newE hY
  have hX7 := (hX7.alloc _).trans hY
  clear hY q0 q1 q2 q3 q4 q5 q6 q7 lA lB
  generalize w6.heap.size = M at hM ⊢
  obtain ⟨m0, m1, m2⟩ := BoxN.box2 hM
  have lM := hM.lt
  obtain ⟨n0, n1, n2⟩ := BoxN.box2 (hR.ext hX7)
  have lR := (hR.ext hX7).lt
  go_wp2_with fail
  exact bodyPost_ret (v := spT (distsR a b c d e f g h)) (by rw [HZ.out]; simp [results, Try.f53, go_sem, n0, n1, lR]) rfl ⟨rfl, hW.trans ((ext_two (hX2.trans hX7) zR _ _).alloc _)⟩
end Go.Proofs.Ytdbhbfmbpldmnaa
