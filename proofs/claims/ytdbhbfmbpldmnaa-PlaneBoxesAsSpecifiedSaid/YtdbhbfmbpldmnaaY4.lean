/- Contract of the reference's Cut. -/
import Derived.Test.YtdbhbfmbpldmnaaY3
namespace Go.Proofs.Ytdbhbfmbpldmnaa
open Go.RowKit
theorem two_boxes' (w : World) (cs : Array Value) (T : TypeId) : BoxN ((w.alloc (.cells cs T)).alloc (.cells cs T)) w.heap.size cs T ∧ BoxN ((w.alloc (.cells cs T)).alloc (.cells cs T)) (w.heap.size + 1) cs T ∧ Ext w ((w.alloc (.cells cs T)).alloc (.cells cs T)) := by
  refine ⟨(BoxN.new w T cs).ext ((Ext.refl _).alloc _), ?_, (((Ext.refl w).alloc _).alloc _)⟩
  have := BoxN.new (w.alloc (.cells cs T)) T cs
  rwa [World.size_alloc] at this
set_option maxRecDepth 100000 in
set_option maxHeartbeats 16000000 in
theorem rCut (W : World) (a b c d : Int) (w : World) (hX : Ext W w) :
    Calls Try.prog 63 #[bxV a b c d] w fun en w' => en = .returned (bx2T (cutR a b c d)) ∧ Ext W w' := by
  obtain ⟨p1, hp1⟩ : ∃ p, boxB a b c d = p := ⟨_, rfl⟩
  have HZ : Hid (cutR a b c d = if (p1 && !(decide (a = b) && decide (c = d))) = true then (if d - c ≤ b - a then (((a, midZ a b, c, d), (midZ a b + 1, b, c, d)), true) else (((a, b, c, midZ c d), (a, b, midZ c d + 1, d)), true)) else (((0, 0, 0, 0), (0, 0, 0, 0)), false)) := by unfold Hid cutR; rw [hp1]
  have P1 := Lib.hid hp1
  clear hp1
  go_enter Try.func63, Try.ntmps63
  go_wp2_with fail
  have hA := ((BoxN.new w 52 (bxC a b c d)).ext ((Ext.refl _).alloc (.cells #[.int .i64 0, .int .i64 0, .int .i64 0, .int .i64 0] 52))).ext ((Ext.refl _).alloc (.cells #[.int .i64 0, .int .i64 0, .int .i64 0, .int .i64 0] 52))
  have hR := (BoxN.new (w.alloc (.cells (bxC a b c d) 52)) 52 #[.int .i64 0, .int .i64 0, .int .i64 0, .int .i64 0]).ext ((Ext.refl _).alloc (.cells #[.int .i64 0, .int .i64 0, .int .i64 0, .int .i64 0] 52))
  have hS := BoxN.new ((w.alloc (.cells (bxC a b c d) 52)).alloc (.cells #[.int .i64 0, .int .i64 0, .int .i64 0, .int .i64 0] 52)) 52 #[.int .i64 0, .int .i64 0, .int .i64 0, .int .i64 0]
  have hX2 := (((Ext.refl w).alloc (.cells (bxC a b c d) 52)).alloc (.cells #[.int .i64 0, .int .i64 0, .int .i64 0, .int .i64 0] 52)).alloc (.cells #[.int .i64 0, .int .i64 0, .int .i64 0, .int .i64 0] 52)
  rw [World.size_alloc] at hR
  rw [World.size_alloc, World.size_alloc] at hS
  have zA : w.heap.size ≤ w.heap.size := by omega
  have zR : w.heap.size ≤ w.heap.size + 1 := by omega
  have zS : w.heap.size ≤ w.heap.size + 1 + 1 := by omega
  have nAR : w.heap.size ≠ w.heap.size + 1 := by omega
  have nAS : w.heap.size ≠ w.heap.size + 1 + 1 := by omega
  have nRS : w.heap.size + 1 ≠ w.heap.size + 1 + 1 := by omega
  obtain ⟨w3, hw3⟩ : ∃ w3, (((w.alloc (.cells (bxC a b c d) 52)).alloc (.cells #[.int .i64 0, .int .i64 0, .int .i64 0, .int .i64 0] 52)).alloc (.cells #[.int .i64 0, .int .i64 0, .int .i64 0, .int .i64 0] 52)) = w3 := ⟨_, rfl⟩
  change BoxN (((w.alloc (.cells (bxC a b c d) 52)).alloc (.cells #[.int .i64 0, .int .i64 0, .int .i64 0, .int .i64 0] 52)).alloc (.cells #[.int .i64 0, .int .i64 0, .int .i64 0, .int .i64 0] 52)) _ _ _ at hS
  rw [hw3] at hA hR hS hX2 ⊢
  clear hw3
  have hW := hX
  generalize hqS : w.heap.size + 1 + 1 = S at hS zS nAS nRS ⊢
  generalize hqR : w.heap.size + 1 = R at hR zR nAR nRS ⊢
  generalize hqA : w.heap.size = A at hA nAR nAS ⊢
  clear hqR hqS zA
  refine (rProperB _ _ _ _ _ _ (Ext.refl _)).mono ?_
  rintro en w4 ⟨rfl, hY⟩
  rw [P1.out]
  have hX4 := hX2.trans hY
  have hA := hA.ext hY
  have hR := hR.ext hY
  have hS := hS.ext hY
  obtain ⟨q0, q1, q2, q3, _⟩ := BoxN.box4 hA
  obtain ⟨n0, n1, n2, n3, n4⟩ := BoxN.box4 hR
  obtain ⟨m0, m1, m2, m3, m4⟩ := BoxN.box4 hS
  have nRS' := nRS.symm
  have lA := hA.lt
  have lR := hR.lt
  have lS := hS.lt
  clear hX2 hY
  cases p1
  · go_wp2_with fail
    exact bodyPost_ret (v := bx2T (cutR a b c d)) (by rw [HZ.out]; simp [results, Try.f63, go_sem, n0, n1, n2, n3, m0, m1, m2, m3]) rfl ⟨rfl, hW.trans (ext_eight2 hX4 zR zS _ _ _ _ _ _ _ _)⟩
  obtain ⟨⟨⟨k1, k2⟩, k3⟩, ⟨k4, k5⟩, k6⟩ := boxB_ok P1.out
  have oa := (okc_iff a).2 (by omega)
  have ob := (okc_iff b).2 (by omega)
  have oc := (okc_iff c).2 (by omega)
  have od := (okc_iff d).2 (by omega)
  have key : ∀ hne : ¬ (a = b ∧ c = d), cutR a b c d = (if d - c ≤ b - a then (((a, midZ a b, c, d), (midZ a b + 1, b, c, d)), true) else (((a, b, c, midZ c d), (a, b, midZ c d + 1, d)), true)) := by
    intro hne
    rw [HZ.out, if_pos]
    by_cases k1 : a = b <;> by_cases k2 : c = d <;> simp_all
  have hbd : (-1048576 ≤ midZ a b ∧ midZ a b ≤ 1048576) ∧ (-1048576 ≤ midZ c d ∧ midZ c d ≤ 1048576) := by unfold midZ; omega
  have HKEY := Lib.hid key
  clear key
  obtain ⟨⟨g1, g2⟩, g3, g4⟩ := hbd
  obtain ⟨mx, hmx⟩ : ∃ m, midZ a b = m := ⟨_, rfl⟩
  obtain ⟨my, hmy⟩ : ∃ m, midZ c d = m := ⟨_, rfl⟩
  rw [hmx] at g1 g2 HKEY
  rw [hmy] at g3 g4 HKEY
  have HMX := Lib.hid hmx
  have HMY := Lib.hid hmy
  clear hmx hmy
  by_cases hnn : a = b ∧ c = d
  · have hab' : decide (a = b) = true := decide_eq_true hnn.1
    have hcd' : decide (c = d) = true := decide_eq_true hnn.2
    rw [hab', hcd'] at HZ
    obtain ⟨h1, h2⟩ := hnn
    go_wp2_with fail
    exact bodyPost_ret (v := bx2T (cutR a b c d)) (by rw [HZ.out]; simp [results, Try.f63, go_sem, n0, n1, n2, n3, m0, m1, m2, m3]) rfl ⟨rfl, hW.trans (ext_eight2 hX4 zR zS _ _ _ _ _ _ _ _)⟩
  have HZK := Lib.hid (HKEY.out hnn)
  clear HKEY HZ
  by_cases hab : a = b
  · have hcd : ¬ c = d := fun e => hnn ⟨hab, e⟩
    subst hab
    have hw : ¬ d - c ≤ a - a := by omega
    have hw2 : ¬ d - c ≤ 0 := by omega
    rw [if_neg hw] at HZK
    clear hnn
    go_wp2_with fail
    refine (rmiddle _ _ _ _ (Ext.refl _) oc od (by omega)).mono ?_
    rintro en w7 ⟨rfl, hY⟩
    rw [HMY.out]
    change Ext ((w4.alloc (.cells (bxC a a c d) 52)).alloc (.cells (bxC a a c d) 52)) w7 at hY
    obtain ⟨hM, hN, hE⟩ := two_boxes' w4 (bxC a a c d) 52
    have zM : w.heap.size ≤ w4.heap.size := hX4.le
    have zN : w.heap.size ≤ w4.heap.size + 1 := by omega
    have nMN : w4.heap.size ≠ w4.heap.size + 1 := by omega
    have nMA : w4.heap.size ≠ A := by omega
    have nMR : w4.heap.size ≠ R := by omega
    have nMS : w4.heap.size ≠ S := by omega
    have nNR : w4.heap.size + 1 ≠ R := by omega
    have nNS : w4.heap.size + 1 ≠ S := by omega
    have hM := hM.ext hY
    have hN := hN.ext hY
    have hY := hE.trans hY
    have hA6 := hA.ext hY
    have hR6 := hR.ext hY
    have hS6 := hS.ext hY
    have hX7 := hX4.trans hY
    clear hY hE q0 q1 q2 q3 n0 n1 n2 n3 n4 m0 m1 m2 m3 m4 lA lR lS
    generalize w4.heap.size + 1 = N at hN zN nMN nNR nNS ⊢
    generalize w4.heap.size = M at hM zM nMN nMA nMR nMS ⊢
    obtain ⟨q0, q1, q2, q3, _⟩ := BoxN.box4 hA6
    obtain ⟨r0, r1, r2, r3, r4⟩ := BoxN.box4 hM
    have nAM := nMA.symm
    go_wp2_with fail
    refine (rmiddle _ _ _ _ (Ext.refl _) oc od (by omega)).mono ?_
    rintro en w9 ⟨rfl, hY⟩
    rw [HMY.out]
    have hM := (hM.set 3 (.int .i64 my)).ext hY
    have hN := (hN.other ⟨M, 3, none⟩ (.int .i64 my) nMN.symm).ext hY
    have hR6 := (hR6.other ⟨M, 3, none⟩ (.int .i64 my) nMR.symm).ext hY
    have hS6 := (hS6.other ⟨M, 3, none⟩ (.int .i64 my) nMS.symm).ext hY
    have hX7 := (hX7.setCell (p := ⟨M, 3, none⟩) zM (.int .i64 my)).trans hY
    clear hY q0 q1 q2 q3 r0 r1 r2 r3 r4
    simp only [bxC, List.setIfInBounds_toArray, List.set_cons_zero, List.set_cons_succ] at hM
    obtain ⟨q0, q1, q2, q3, q4⟩ := BoxN.box4 hN
    go_wp2_with fail
    have hM := hM.other ⟨N, 2, none⟩ (.int .i64 (my + 1)) nMN
    have hN := hN.set 2 (.int .i64 (my + 1))
    have hR6 := hR6.other ⟨N, 2, none⟩ (.int .i64 (my + 1)) nNR.symm
    have hS6 := hS6.other ⟨N, 2, none⟩ (.int .i64 (my + 1)) nNS.symm
    have hX7 := hX7.setCell (p := ⟨N, 2, none⟩) zN (.int .i64 (my + 1))
    simp only [bxC, List.setIfInBounds_toArray, List.set_cons_zero, List.set_cons_succ] at hN
    clear q0 q1 q2 q3 q4
    obtain ⟨wx, hwx⟩ : ∃ wx, w9.setCell ⟨N, 2, none⟩ (.int .i64 (my + 1)) = wx := ⟨_, rfl⟩
    rw [hwx] at hM hN hR6 hS6 hX7 ⊢
    clear hwx
    obtain ⟨q0, q1, q2, q3, q4⟩ := BoxN.box4 hM
    obtain ⟨r0, r1, r2, r3, r4⟩ := BoxN.box4 hN
    obtain ⟨n0, n1, n2, n3, n4⟩ := BoxN.box4 hR6
    obtain ⟨m0, m1, m2, m3, m4⟩ := BoxN.box4 hS6
    go_region
    all_goals go_wp2_with fail
    all_goals exact bodyPost_ret (v := bx2T (cutR a a c d)) (by rw [HZK.out]; simp [results, Try.f63, go_sem, n0, n1, n2, n3, m0, m1, m2, m3]) rfl ⟨rfl, hW.trans (Ext.drew (ext_eight2 hX7 zR zS _ _ _ _ _ _ _ _))⟩
  · by_cases hw : d - c ≤ b - a
    · rw [if_pos hw] at HZK
      clear hnn
      go_wp2_with fail
      refine (rmiddle _ _ _ _ (Ext.refl _) oa ob (by omega)).mono ?_
      rintro en w7 ⟨rfl, hY⟩
      rw [HMX.out]
      change Ext ((w4.alloc (.cells (bxC a b c d) 52)).alloc (.cells (bxC a b c d) 52)) w7 at hY
      obtain ⟨hM, hN, hE⟩ := two_boxes' w4 (bxC a b c d) 52
      have zM : w.heap.size ≤ w4.heap.size := hX4.le
      have zN : w.heap.size ≤ w4.heap.size + 1 := by omega
      have nMN : w4.heap.size ≠ w4.heap.size + 1 := by omega
      have nMA : w4.heap.size ≠ A := by omega
      have nMR : w4.heap.size ≠ R := by omega
      have nMS : w4.heap.size ≠ S := by omega
      have nNR : w4.heap.size + 1 ≠ R := by omega
      have nNS : w4.heap.size + 1 ≠ S := by omega
      have hM := hM.ext hY
      have hN := hN.ext hY
      have hY := hE.trans hY
      have hA6 := hA.ext hY
      have hR6 := hR.ext hY
      have hS6 := hS.ext hY
      have hX7 := hX4.trans hY
      clear hY hE q0 q1 q2 q3 n0 n1 n2 n3 n4 m0 m1 m2 m3 m4 lA lR lS
      generalize w4.heap.size + 1 = N at hN zN nMN nNR nNS ⊢
      generalize w4.heap.size = M at hM zM nMN nMA nMR nMS ⊢
      obtain ⟨q0, q1, q2, q3, _⟩ := BoxN.box4 hA6
      obtain ⟨r0, r1, r2, r3, r4⟩ := BoxN.box4 hM
      have nAM := nMA.symm
      go_wp2_with fail
      refine (rmiddle _ _ _ _ (Ext.refl _) oa ob (by omega)).mono ?_
      rintro en w9 ⟨rfl, hY⟩
      rw [HMX.out]
      have hM := (hM.set 1 (.int .i64 mx)).ext hY
      have hN := (hN.other ⟨M, 1, none⟩ (.int .i64 mx) nMN.symm).ext hY
      have hR6 := (hR6.other ⟨M, 1, none⟩ (.int .i64 mx) nMR.symm).ext hY
      have hS6 := (hS6.other ⟨M, 1, none⟩ (.int .i64 mx) nMS.symm).ext hY
      have hX7 := (hX7.setCell (p := ⟨M, 1, none⟩) zM (.int .i64 mx)).trans hY
      clear hY q0 q1 q2 q3 r0 r1 r2 r3 r4
      simp only [bxC, List.setIfInBounds_toArray, List.set_cons_zero, List.set_cons_succ] at hM
      obtain ⟨q0, q1, q2, q3, q4⟩ := BoxN.box4 hN
      go_wp2_with fail
      have hM := hM.other ⟨N, 0, none⟩ (.int .i64 (mx + 1)) nMN
      have hN := hN.set 0 (.int .i64 (mx + 1))
      have hR6 := hR6.other ⟨N, 0, none⟩ (.int .i64 (mx + 1)) nNR.symm
      have hS6 := hS6.other ⟨N, 0, none⟩ (.int .i64 (mx + 1)) nNS.symm
      have hX7 := hX7.setCell (p := ⟨N, 0, none⟩) zN (.int .i64 (mx + 1))
      simp only [bxC, List.setIfInBounds_toArray, List.set_cons_zero] at hN
      clear q0 q1 q2 q3 q4
      obtain ⟨wx, hwx⟩ : ∃ wx, w9.setCell ⟨N, 0, none⟩ (.int .i64 (mx + 1)) = wx := ⟨_, rfl⟩
      rw [hwx] at hM hN hR6 hS6 hX7 ⊢
      clear hwx
      obtain ⟨q0, q1, q2, q3, q4⟩ := BoxN.box4 hM
      obtain ⟨r0, r1, r2, r3, r4⟩ := BoxN.box4 hN
      obtain ⟨n0, n1, n2, n3, n4⟩ := BoxN.box4 hR6
      obtain ⟨m0, m1, m2, m3, m4⟩ := BoxN.box4 hS6
      go_region
      all_goals go_wp2_with fail
      all_goals exact bodyPost_ret (v := bx2T (cutR a b c d)) (by rw [HZK.out]; simp [results, Try.f63, go_sem, n0, n1, n2, n3, m0, m1, m2, m3]) rfl ⟨rfl, hW.trans (Ext.drew (ext_eight2 hX7 zR zS _ _ _ _ _ _ _ _))⟩
    · rw [if_neg hw] at HZK
      clear hnn
      go_wp2_with fail
      refine (rmiddle _ _ _ _ (Ext.refl _) oc od (by omega)).mono ?_
      rintro en w7 ⟨rfl, hY⟩
      rw [HMY.out]
      change Ext ((w4.alloc (.cells (bxC a b c d) 52)).alloc (.cells (bxC a b c d) 52)) w7 at hY
      obtain ⟨hM, hN, hE⟩ := two_boxes' w4 (bxC a b c d) 52
      have zM : w.heap.size ≤ w4.heap.size := hX4.le
      have zN : w.heap.size ≤ w4.heap.size + 1 := by omega
      have nMN : w4.heap.size ≠ w4.heap.size + 1 := by omega
      have nMA : w4.heap.size ≠ A := by omega
      have nMR : w4.heap.size ≠ R := by omega
      have nMS : w4.heap.size ≠ S := by omega
      have nNR : w4.heap.size + 1 ≠ R := by omega
      have nNS : w4.heap.size + 1 ≠ S := by omega
      have hM := hM.ext hY
      have hN := hN.ext hY
      have hY := hE.trans hY
      have hA6 := hA.ext hY
      have hR6 := hR.ext hY
      have hS6 := hS.ext hY
      have hX7 := hX4.trans hY
      clear hY hE q0 q1 q2 q3 n0 n1 n2 n3 n4 m0 m1 m2 m3 m4 lA lR lS
      generalize w4.heap.size + 1 = N at hN zN nMN nNR nNS ⊢
      generalize w4.heap.size = M at hM zM nMN nMA nMR nMS ⊢
      obtain ⟨q0, q1, q2, q3, _⟩ := BoxN.box4 hA6
      obtain ⟨r0, r1, r2, r3, r4⟩ := BoxN.box4 hM
      have nAM := nMA.symm
      go_wp2_with fail
      refine (rmiddle _ _ _ _ (Ext.refl _) oc od (by omega)).mono ?_
      rintro en w9 ⟨rfl, hY⟩
      rw [HMY.out]
      have hM := (hM.set 3 (.int .i64 my)).ext hY
      have hN := (hN.other ⟨M, 3, none⟩ (.int .i64 my) nMN.symm).ext hY
      have hR6 := (hR6.other ⟨M, 3, none⟩ (.int .i64 my) nMR.symm).ext hY
      have hS6 := (hS6.other ⟨M, 3, none⟩ (.int .i64 my) nMS.symm).ext hY
      have hX7 := (hX7.setCell (p := ⟨M, 3, none⟩) zM (.int .i64 my)).trans hY
      clear hY q0 q1 q2 q3 r0 r1 r2 r3 r4
      simp only [bxC, List.setIfInBounds_toArray, List.set_cons_zero, List.set_cons_succ] at hM
      obtain ⟨q0, q1, q2, q3, q4⟩ := BoxN.box4 hN
      go_wp2_with fail
      have hM := hM.other ⟨N, 2, none⟩ (.int .i64 (my + 1)) nMN
      have hN := hN.set 2 (.int .i64 (my + 1))
      have hR6 := hR6.other ⟨N, 2, none⟩ (.int .i64 (my + 1)) nNR.symm
      have hS6 := hS6.other ⟨N, 2, none⟩ (.int .i64 (my + 1)) nNS.symm
      have hX7 := hX7.setCell (p := ⟨N, 2, none⟩) zN (.int .i64 (my + 1))
      simp only [bxC, List.setIfInBounds_toArray, List.set_cons_zero, List.set_cons_succ] at hN
      clear q0 q1 q2 q3 q4
      obtain ⟨wx, hwx⟩ : ∃ wx, w9.setCell ⟨N, 2, none⟩ (.int .i64 (my + 1)) = wx := ⟨_, rfl⟩
      rw [hwx] at hM hN hR6 hS6 hX7 ⊢
      clear hwx
      obtain ⟨q0, q1, q2, q3, q4⟩ := BoxN.box4 hM
      obtain ⟨r0, r1, r2, r3, r4⟩ := BoxN.box4 hN
      obtain ⟨n0, n1, n2, n3, n4⟩ := BoxN.box4 hR6
      obtain ⟨m0, m1, m2, m3, m4⟩ := BoxN.box4 hS6
      go_region
      all_goals go_wp2_with fail
      all_goals exact bodyPost_ret (v := bx2T (cutR a b c d)) (by rw [HZK.out]; simp [results, Try.f63, go_sem, n0, n1, n2, n3, m0, m1, m2, m3]) rfl ⟨rfl, hW.trans (Ext.drew (ext_eight2 hX7 zR zS _ _ _ _ _ _ _ _))⟩
end Go.Proofs.Ytdbhbfmbpldmnaa
