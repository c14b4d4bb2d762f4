/- Contract of Cut. -/
import Derived.Test.YtdbhbfmbpldmnaaX5
import Derived.Deep.DeepCutAuto
namespace Go.Proofs.Ytdbhbfmbpldmnaa
open Go.RowKit
def midZ (lo hi : Int) : Int := (lo + hi) / 2
def cutR (a b c d : Int) : ((Int × Int × Int × Int) × (Int × Int × Int × Int)) × Bool :=
  if (boxB a b c d && !(decide (a = b) && decide (c = d))) = true then
    (if d - c ≤ b - a then (((a, midZ a b, c, d), (midZ a b + 1, b, c, d)), true) else (((a, b, c, midZ c d), (a, b, midZ c d + 1, d)), true))
  else (((0, 0, 0, 0), (0, 0, 0, 0)), false)
abbrev bx2T (r : ((Int × Int × Int × Int) × (Int × Int × Int × Int)) × Bool) : Value := .tuple #[bxV r.1.1.1 r.1.1.2.1 r.1.1.2.2.1 r.1.1.2.2.2, bxV r.1.2.1 r.1.2.2.1 r.1.2.2.2.1 r.1.2.2.2.2, .bool r.2]
theorem two_boxes (w : World) (cs : Array Value) (T : TypeId) : BoxN ((w.alloc (.cells cs T)).alloc (.cells cs T)).drew w.heap.size cs T ∧ BoxN ((w.alloc (.cells cs T)).alloc (.cells cs T)).drew (w.heap.size + 1) cs T ∧ Ext w ((w.alloc (.cells cs T)).alloc (.cells cs T)).drew := by
  refine ⟨(BoxN.new w T cs).ext ((Ext.refl _).alloc _).drew, ?_, (((Ext.refl w).alloc _).alloc _).drew⟩
  have := BoxN.new (w.alloc (.cells cs T)) T cs
  rw [World.size_alloc] at this
  exact this.ext (Ext.refl _).drew
theorem chosenS_t (W : World) (a b c d : Int) (w : World) (hX : Ext W w) : Calls Try.prog 120 #[.bool true, spV a b, spV c d] w fun e w' => e = .returned (spV a b) ∧ Ext W w' := chosenS_any W true a b c d w hX
theorem chosenS_f (W : World) (a b c d : Int) (w : World) (hX : Ext W w) : Calls Try.prog 120 #[.bool false, spV a b, spV c d] w fun e w' => e = .returned (spV c d) ∧ Ext W w' := chosenS_any W false a b c d w hX
theorem chosenP_t (W : World) (a b : Addr) (w : World) (hX : Ext W w) : Calls Try.prog 121 #[.bool true, .pointer (some a), .pointer (some b)] w fun e w' => e = .returned (.pointer (some a)) ∧ Ext W w' := chosenP_any W true a b w hX
theorem chosenP_f (W : World) (a b : Addr) (w : World) (hX : Ext W w) : Calls Try.prog 121 #[.bool false, .pointer (some a), .pointer (some b)] w fun e w' => e = .returned (.pointer (some b)) ∧ Ext W w' := chosenP_any W false a b w hX
theorem ext_eight2 {w0 w : World} {R S : Nat} (h : Ext w0 w) (hR : w0.heap.size ≤ R) (hS : w0.heap.size ≤ S) (u0 u1 u2 u3 u4 u5 u6 u7 : Value) : Ext w0 ((((((((w.setCell ⟨R, 0, none⟩ u0).setCell ⟨R, 1, none⟩ u1).setCell ⟨R, 2, none⟩ u2).setCell ⟨R, 3, none⟩ u3).setCell ⟨S, 0, none⟩ u4).setCell ⟨S, 1, none⟩ u5).setCell ⟨S, 2, none⟩ u6).setCell ⟨S, 3, none⟩ u7) := ext_four (ext_four h hR _ _ _ _) hS _ _ _ _
set_option maxRecDepth 100000 in
set_option maxHeartbeats 16000000 in
theorem Cut_any (W : World) (a b c d : Int) (w : World) (hX : Ext W w) :
    Calls Try.prog 62 #[bxV a b c d] w fun en w' => en = .returned (bx2T (cutR a b c d)) ∧ Ext W w' := by
  obtain ⟨p1, hp1⟩ : ∃ p, boxB a b c d = p := ⟨_, rfl⟩
  have HZ : Hid (cutR a b c d = if (p1 && !(decide (a = b) && decide (c = d))) = true then (if d - c ≤ b - a then (((a, midZ a b, c, d), (midZ a b + 1, b, c, d)), true) else (((a, b, c, midZ c d), (a, b, midZ c d + 1, d)), true)) else (((0, 0, 0, 0), (0, 0, 0, 0)), false)) := by unfold Hid cutR; rw [hp1]
  have P1 := Lib.hid hp1
  clear hp1
  go_enter Try.func62, Try.ntmps62
  go_wp2_with fail
  have hA := ((BoxN.new w 52 (bxC a b c d)).ext ((Ext.refl _).alloc (.cells #[.int .i64 0, .int .i64 0, .int .i64 0, .int .i64 0] 52))).ext ((Ext.refl _).alloc (.cells #[.int .i64 0, .int .i64 0, .int .i64 0, .int .i64 0] 52))
  have hR := (BoxN.new (w.alloc (.cells (bxC a b c d) 52)) 52 #[.int .i64 0, .int .i64 0, .int .i64 0, .int .i64 0]).ext ((Ext.refl _).alloc (.cells #[.int .i64 0, .int .i64 0, .int .i64 0, .int .i64 0] 52))
  have hS := BoxN.new ((w.alloc (.cells (bxC a b c d) 52)).alloc (.cells #[.int .i64 0, .int .i64 0, .int .i64 0, .int .i64 0] 52)) 52 #[.int .i64 0, .int .i64 0, .int .i64 0, .int .i64 0]
  have hX2 := (((Ext.refl w).alloc (.cells (bxC a b c d) 52)).alloc (.cells #[.int .i64 0, .int .i64 0, .int .i64 0, .int .i64 0] 52)).alloc (.cells #[.int .i64 0, .int .i64 0, .int .i64 0, .int .i64 0] 52)
  rw [World.size_alloc] at hR
  rw [World.size_alloc, World.size_alloc] at hS
  have zA : w.heap.size ≤ w.heap.size := by omega
  have zR : w.heap.size ≤ w.heap.size + 1 := by omega
  have zS : w.heap.size ≤ w.heap.size + 1 + 1 := by omega
  have nAR : w.heap.size ≠ w.heap.size + 1 := by omega
  have nAS : w.heap.size ≠ w.heap.size + 1 + 1 := by omega
  have nRS : w.heap.size + 1 ≠ w.heap.size + 1 + 1 := by omega
  obtain ⟨w3, hw3⟩ : ∃ w3, (((w.alloc (.cells (bxC a b c d) 52)).alloc (.cells #[.int .i64 0, .int .i64 0, .int .i64 0, .int .i64 0] 52)).alloc (.cells #[.int .i64 0, .int .i64 0, .int .i64 0, .int .i64 0] 52)) = w3 := ⟨_, rfl⟩
  change BoxN (((w.alloc (.cells (bxC a b c d) 52)).alloc (.cells #[.int .i64 0, .int .i64 0, .int .i64 0, .int .i64 0] 52)).alloc (.cells #[.int .i64 0, .int .i64 0, .int .i64 0, .int .i64 0] 52)) _ _ _ at hS
  rw [hw3] at hA hR hS hX2 ⊢
  clear hw3
  have hW := hX
  generalize hqS : w.heap.size + 1 + 1 = S at hS zS nAS nRS ⊢
  generalize hqR : w.heap.size + 1 = R at hR zR nAR nRS ⊢
  generalize hqA : w.heap.size = A at hA nAR nAS ⊢
  clear hqR hqS zA
  refine (Proper_any _ _ _ _ _ _ (Ext.refl _)).mono ?_
  rintro en w4 ⟨rfl, hY⟩
  rw [P1.out]
  have hX4 := hX2.trans hY
  have hA := hA.ext hY
  have hR := hR.ext hY
  have hS := hS.ext hY
  obtain ⟨q0, q1, q2, q3, _⟩ := BoxN.box4 hA
  obtain ⟨n0, n1, n2, n3, n4⟩ := BoxN.box4 hR
  obtain ⟨m0, m1, m2, m3, m4⟩ := BoxN.box4 hS
  have nRS' := nRS.symm
  have lA := hA.lt
  have lR := hR.lt
  have lS := hS.lt
  clear hX2 hY
  cases p1
  · go_wp2_with fail
    exact bodyPost_ret (v := bx2T (cutR a b c d)) (by rw [HZ.out]; simp [results, Try.f62, go_sem, n0, n1, n2, n3, m0, m1, m2, m3]) rfl ⟨rfl, hW.trans (ext_eight2 hX4 zR zS _ _ _ _ _ _ _ _)⟩
  obtain ⟨⟨⟨k1, k2⟩, k3⟩, ⟨k4, k5⟩, k6⟩ := boxB_ok P1.out
  obtain ⟨wd, hwd⟩ : ∃ wd, decide (d - c ≤ b - a) = wd := ⟨_, rfl⟩
  have HZ2 : Hid ((if d - c ≤ b - a then (((a, midZ a b, c, d), (midZ a b + 1, b, c, d)), true) else (((a, b, c, midZ c d), (a, b, midZ c d + 1, d)), true)) = (if wd = true then (((a, midZ a b, c, d), (midZ a b + 1, b, c, d)), true) else (((a, b, c, midZ c d), (a, b, midZ c d + 1, d)), true))) := by unfold Hid; subst hwd; simp only [decide_eq_true_eq]
  rw [HZ2.out] at HZ
  clear HZ2
  have HWD := Lib.hid hwd
  clear hwd
  have key : ∀ hne : ¬ (a = b ∧ c = d), cutR a b c d = (if wd = true then (((a, midZ a b, c, d), (midZ a b + 1, b, c, d)), true) else (((a, b, c, midZ c d), (a, b, midZ c d + 1, d)), true)) := by
    intro hne
    rw [HZ.out, if_pos]
    by_cases k1 : a = b <;> by_cases k2 : c = d <;> simp_all
  have HKEY := Lib.hid key
  clear key
  by_cases hab : a = b
  · by_cases hcd : c = d
    · have hab' : decide (a = b) = true := decide_eq_true hab
      have hcd' : decide (c = d) = true := decide_eq_true hcd
      rw [hab', hcd'] at HZ
      go_wp2_with fail
      exact bodyPost_ret (v := bx2T (cutR a b c d)) (by rw [HZ.out]; simp [results, Try.f62, go_sem, n0, n1, n2, n3, m0, m1, m2, m3]) rfl ⟨rfl, hW.trans (ext_eight2 hX4 zR zS _ _ _ _ _ _ _ _)⟩
    · have HZK := Lib.hid (HKEY.out (by omega))
      clear HKEY
      subst hab
      have hwd2 : Hid (decide (d - c ≤ 0) = wd) := by have := HWD.out; rw [← this]; congr 1; simp only [eq_iff_iff]; omega
      go_wp2_with fail
      go_cut [5, 6, 7] (fun s v u wx => s = .bool wd ∧ ∃ M N, v = .pointer (some ⟨M, 0, none⟩) ∧ u = .pointer (some ⟨N, 0, none⟩) ∧ BoxN wx M (bxC a a c d) 52 ∧ BoxN wx N (bxC a a c d) 52 ∧ M ≠ N ∧ w4.heap.size ≤ M ∧ w4.heap.size ≤ N ∧ Ext w4 wx)
      case first =>
        go_region
        all_goals (try go_wp2_with fail)
        all_goals go_meet
        · exact ⟨by rw [hwd2.out], _, _, rfl, rfl, (two_boxes _ _ _).1, (two_boxes _ _ _).2.1, by omega, by omega, by omega, (two_boxes _ _ _).2.2⟩
        · exact ⟨by rw [hwd2.out], _, _, rfl, rfl, (two_boxes _ _ _).2.1, (two_boxes _ _ _).1, by omega, by omega, by omega, (two_boxes _ _ _).2.2⟩
      case rest =>
      obtain ⟨rfl, M, N, rfl, rfl, hM, hN, nMN, zM4, zN4, hX6⟩ := hcut
      have hA6 := hA.ext hX6
      have hR6 := hR.ext hX6
      have hS6 := hS.ext hX6
      have hX7 := hX4.trans hX6
      have zM := Nat.le_trans hX4.le zM4
      have zN := Nat.le_trans hX4.le zN4
      have nMR : M ≠ R := by omega
      have nMS : M ≠ S := by omega
      have nNR : N ≠ R := by omega
      have nNS : N ≠ S := by omega
      clear q0 q1 q2 q3 n0 n1 n2 n3 n4 m0 m1 m2 m3 m4 lA lR lS
      obtain ⟨q0, q1, q2, q3, _⟩ := BoxN.box4 hA6
      cases wd
      · go_wp2_with fail
        refine (chosenS_f _ _ _ _ _ _ (Ext.refl _)).mono ?_
        rintro en w7 ⟨rfl, hY⟩
        go_wp2_with fail
        have hY := hY.alloc (.cells #[.int .i64 c, .int .i64 d] 50)
        refine (chosenP_f _ _ _ _ (Ext.refl _)).mono ?_
        rintro en w8 ⟨rfl, hY2⟩
        have hY := hY.trans hY2
        clear hY2
        have hM := hM.ext hY
        have hN := hN.ext hY
        have hR6 := hR6.ext hY
        have hS6 := hS6.ext hY
        have hX7 := hX7.trans hY
        clear hY q0 q1 q2 q3
        obtain ⟨q0, q1, q2, q3, q4⟩ := BoxN.box4 hM
        go_wp2_with fail
        refine (chosenP_f _ _ _ _ (Ext.refl _)).mono ?_
        rintro en w9 ⟨rfl, hY⟩
        have hM := (hM.set 3 (.int .i64 ((c + d) / 2))).ext hY
        have hN := (hN.other ⟨M, 3, none⟩ (.int .i64 ((c + d) / 2)) nMN.symm).ext hY
        have hR6 := (hR6.other ⟨M, 3, none⟩ (.int .i64 ((c + d) / 2)) nMR.symm).ext hY
        have hS6 := (hS6.other ⟨M, 3, none⟩ (.int .i64 ((c + d) / 2)) nMS.symm).ext hY
        have hX7 := (hX7.setCell (p := ⟨M, 3, none⟩) zM (.int .i64 ((c + d) / 2))).trans hY
        clear hY q0 q1 q2 q3 q4
        simp only [bxC, List.setIfInBounds_toArray, List.set_cons_zero, List.set_cons_succ] at hM
        obtain ⟨q0, q1, q2, q3, q4⟩ := BoxN.box4 hN
        go_wp2_with fail
        have hM := hM.other ⟨N, 2, none⟩ (.int .i64 ((c + d) / 2 + 1)) nMN
        have hN := hN.set 2 (.int .i64 ((c + d) / 2 + 1))
        have hR6 := hR6.other ⟨N, 2, none⟩ (.int .i64 ((c + d) / 2 + 1)) nNR.symm
        have hS6 := hS6.other ⟨N, 2, none⟩ (.int .i64 ((c + d) / 2 + 1)) nNS.symm
        have hX7 := hX7.setCell (p := ⟨N, 2, none⟩) zN (.int .i64 ((c + d) / 2 + 1))
        simp only [bxC, List.setIfInBounds_toArray, List.set_cons_zero, List.set_cons_succ] at hN
        clear q0 q1 q2 q3 q4
        obtain ⟨wx, hwx⟩ : ∃ wx, w9.setCell ⟨N, 2, none⟩ (.int .i64 ((c + d) / 2 + 1)) = wx := ⟨_, rfl⟩
        rw [hwx] at hM hN hR6 hS6 hX7 ⊢
        clear hwx
        obtain ⟨q0, q1, q2, q3, q4⟩ := BoxN.box4 hM
        obtain ⟨r0, r1, r2, r3, r4⟩ := BoxN.box4 hN
        obtain ⟨n0, n1, n2, n3, n4⟩ := BoxN.box4 hR6
        obtain ⟨m0, m1, m2, m3, m4⟩ := BoxN.box4 hS6
        go_region
        all_goals go_wp2_with fail

        all_goals exact bodyPost_ret (v := bx2T (cutR a a c d)) (by rw [HZK.out]; simp [results, Try.f62, go_sem, n0, n1, n2, n3, m0, m1, m2, m3, midZ]) rfl ⟨rfl, hW.trans (Ext.drew (ext_eight2 hX7 zR zS _ _ _ _ _ _ _ _))⟩
      · go_wp2_with fail
        refine (chosenS_t _ _ _ _ _ _ (Ext.refl _)).mono ?_
        rintro en w7 ⟨rfl, hY⟩
        go_wp2_with fail
        have hY := hY.alloc (.cells #[.int .i64 a, .int .i64 a] 50)
        refine (chosenP_t _ _ _ _ (Ext.refl _)).mono ?_
        rintro en w8 ⟨rfl, hY2⟩
        have hY := hY.trans hY2
        clear hY2
        have hM := hM.ext hY
        have hN := hN.ext hY
        have hR6 := hR6.ext hY
        have hS6 := hS6.ext hY
        have hX7 := hX7.trans hY
        clear hY q0 q1 q2 q3
        obtain ⟨q0, q1, q2, q3, q4⟩ := BoxN.box4 hM
        go_wp2_with fail
        refine (chosenP_t _ _ _ _ (Ext.refl _)).mono ?_
        rintro en w9 ⟨rfl, hY⟩
        have hM := (hM.set 1 (.int .i64 ((a + a) / 2))).ext hY
        have hN := (hN.other ⟨M, 1, none⟩ (.int .i64 ((a + a) / 2)) nMN.symm).ext hY
        have hR6 := (hR6.other ⟨M, 1, none⟩ (.int .i64 ((a + a) / 2)) nMR.symm).ext hY
        have hS6 := (hS6.other ⟨M, 1, none⟩ (.int .i64 ((a + a) / 2)) nMS.symm).ext hY
        have hX7 := (hX7.setCell (p := ⟨M, 1, none⟩) zM (.int .i64 ((a + a) / 2))).trans hY
        clear hY q0 q1 q2 q3 q4
        simp only [bxC, List.setIfInBounds_toArray, List.set_cons_zero, List.set_cons_succ] at hM
        obtain ⟨q0, q1, q2, q3, q4⟩ := BoxN.box4 hN
        go_wp2_with fail
        have hM := hM.other ⟨N, 0, none⟩ (.int .i64 ((a + a) / 2 + 1)) nMN
        have hN := hN.set 0 (.int .i64 ((a + a) / 2 + 1))
        have hR6 := hR6.other ⟨N, 0, none⟩ (.int .i64 ((a + a) / 2 + 1)) nNR.symm
        have hS6 := hS6.other ⟨N, 0, none⟩ (.int .i64 ((a + a) / 2 + 1)) nNS.symm
        have hX7 := hX7.setCell (p := ⟨N, 0, none⟩) zN (.int .i64 ((a + a) / 2 + 1))
        simp only [bxC, List.setIfInBounds_toArray, List.set_cons_zero] at hN
        clear q0 q1 q2 q3 q4
        obtain ⟨wx, hwx⟩ : ∃ wx, w9.setCell ⟨N, 0, none⟩ (.int .i64 ((a + a) / 2 + 1)) = wx := ⟨_, rfl⟩
        rw [hwx] at hM hN hR6 hS6 hX7 ⊢
        clear hwx
        obtain ⟨q0, q1, q2, q3, q4⟩ := BoxN.box4 hM
        obtain ⟨r0, r1, r2, r3, r4⟩ := BoxN.box4 hN
        obtain ⟨n0, n1, n2, n3, n4⟩ := BoxN.box4 hR6
        obtain ⟨m0, m1, m2, m3, m4⟩ := BoxN.box4 hS6
        go_region
        all_goals go_wp2_with fail

        all_goals exact bodyPost_ret (v := bx2T (cutR a a c d)) (by rw [HZK.out]; simp [results, Try.f62, go_sem, n0, n1, n2, n3, m0, m1, m2, m3, midZ]) rfl ⟨rfl, hW.trans (Ext.drew (ext_eight2 hX7 zR zS _ _ _ _ _ _ _ _))⟩
  · have HZK := Lib.hid (HKEY.out (by omega))
    clear HKEY
    go_wp2_with fail
    go_cut [5, 6, 7] (fun s v u wx => s = .bool wd ∧ ∃ M N, v = .pointer (some ⟨M, 0, none⟩) ∧ u = .pointer (some ⟨N, 0, none⟩) ∧ BoxN wx M (bxC a b c d) 52 ∧ BoxN wx N (bxC a b c d) 52 ∧ M ≠ N ∧ w4.heap.size ≤ M ∧ w4.heap.size ≤ N ∧ Ext w4 wx)
    case first =>
      go_region
      all_goals (try go_wp2_with fail)
      all_goals go_meet
      · exact ⟨by rw [HWD.out], _, _, rfl, rfl, (two_boxes _ _ _).1, (two_boxes _ _ _).2.1, by omega, by omega, by omega, (two_boxes _ _ _).2.2⟩
      · exact ⟨by rw [HWD.out], _, _, rfl, rfl, (two_boxes _ _ _).2.1, (two_boxes _ _ _).1, by omega, by omega, by omega, (two_boxes _ _ _).2.2⟩
    case rest =>
    obtain ⟨rfl, M, N, rfl, rfl, hM, hN, nMN, zM4, zN4, hX6⟩ := hcut
    have hA6 := hA.ext hX6
    have hR6 := hR.ext hX6
    have hS6 := hS.ext hX6
    have hX7 := hX4.trans hX6
    have zM := Nat.le_trans hX4.le zM4
    have zN := Nat.le_trans hX4.le zN4
    have nMR : M ≠ R := by omega
    have nMS : M ≠ S := by omega
    have nNR : N ≠ R := by omega
    have nNS : N ≠ S := by omega
    clear q0 q1 q2 q3 n0 n1 n2 n3 n4 m0 m1 m2 m3 m4 lA lR lS
    obtain ⟨q0, q1, q2, q3, _⟩ := BoxN.box4 hA6
    cases wd
    · go_wp2_with fail
      refine (chosenS_f _ _ _ _ _ _ (Ext.refl _)).mono ?_
      rintro en w7 ⟨rfl, hY⟩
      go_wp2_with fail
      have hY := hY.alloc (.cells #[.int .i64 c, .int .i64 d] 50)
      refine (chosenP_f _ _ _ _ (Ext.refl _)).mono ?_
      rintro en w8 ⟨rfl, hY2⟩
      have hY := hY.trans hY2
      clear hY2
      have hM := hM.ext hY
      have hN := hN.ext hY
      have hR6 := hR6.ext hY
      have hS6 := hS6.ext hY
      have hX7 := hX7.trans hY
      clear hY q0 q1 q2 q3
      obtain ⟨q0, q1, q2, q3, q4⟩ := BoxN.box4 hM
      go_wp2_with fail
      refine (chosenP_f _ _ _ _ (Ext.refl _)).mono ?_
      rintro en w9 ⟨rfl, hY⟩
      have hM := (hM.set 3 (.int .i64 ((c + d) / 2))).ext hY
      have hN := (hN.other ⟨M, 3, none⟩ (.int .i64 ((c + d) / 2)) nMN.symm).ext hY
      have hR6 := (hR6.other ⟨M, 3, none⟩ (.int .i64 ((c + d) / 2)) nMR.symm).ext hY
      have hS6 := (hS6.other ⟨M, 3, none⟩ (.int .i64 ((c + d) / 2)) nMS.symm).ext hY
      have hX7 := (hX7.setCell (p := ⟨M, 3, none⟩) zM (.int .i64 ((c + d) / 2))).trans hY
      clear hY q0 q1 q2 q3 q4
      simp only [bxC, List.setIfInBounds_toArray, List.set_cons_zero, List.set_cons_succ] at hM
      obtain ⟨q0, q1, q2, q3, q4⟩ := BoxN.box4 hN
      go_wp2_with fail
      have hM := hM.other ⟨N, 2, none⟩ (.int .i64 ((c + d) / 2 + 1)) nMN
      have hN := hN.set 2 (.int .i64 ((c + d) / 2 + 1))
      have hR6 := hR6.other ⟨N, 2, none⟩ (.int .i64 ((c + d) / 2 + 1)) nNR.symm
      have hS6 := hS6.other ⟨N, 2, none⟩ (.int .i64 ((c + d) / 2 + 1)) nNS.symm
      have hX7 := hX7.setCell (p := ⟨N, 2, none⟩) zN (.int .i64 ((c + d) / 2 + 1))
      simp only [bxC, List.setIfInBounds_toArray, List.set_cons_zero, List.set_cons_succ] at hN
      clear q0 q1 q2 q3 q4
      obtain ⟨wx, hwx⟩ : ∃ wx, w9.setCell ⟨N, 2, none⟩ (.int .i64 ((c + d) / 2 + 1)) = wx := ⟨_, rfl⟩
      rw [hwx] at hM hN hR6 hS6 hX7 ⊢
      clear hwx
      obtain ⟨q0, q1, q2, q3, q4⟩ := BoxN.box4 hM
      obtain ⟨r0, r1, r2, r3, r4⟩ := BoxN.box4 hN
      obtain ⟨n0, n1, n2, n3, n4⟩ := BoxN.box4 hR6
      obtain ⟨m0, m1, m2, m3, m4⟩ := BoxN.box4 hS6
      go_region
      all_goals go_wp2_with fail

      all_goals exact bodyPost_ret (v := bx2T (cutR a b c d)) (by rw [HZK.out]; simp [results, Try.f62, go_sem, n0, n1, n2, n3, m0, m1, m2, m3, midZ]) rfl ⟨rfl, hW.trans (Ext.drew (ext_eight2 hX7 zR zS _ _ _ _ _ _ _ _))⟩
    · go_wp2_with fail
      refine (chosenS_t _ _ _ _ _ _ (Ext.refl _)).mono ?_
      rintro en w7 ⟨rfl, hY⟩
      go_wp2_with fail
      have hY := hY.alloc (.cells #[.int .i64 a, .int .i64 b] 50)
      refine (chosenP_t _ _ _ _ (Ext.refl _)).mono ?_
      rintro en w8 ⟨rfl, hY2⟩
      have hY := hY.trans hY2
      clear hY2
      have hM := hM.ext hY
      have hN := hN.ext hY
      have hR6 := hR6.ext hY
      have hS6 := hS6.ext hY
      have hX7 := hX7.trans hY
      clear hY q0 q1 q2 q3
      obtain ⟨q0, q1, q2, q3, q4⟩ := BoxN.box4 hM
      go_wp2_with fail
      refine (chosenP_t _ _ _ _ (Ext.refl _)).mono ?_
      rintro en w9 ⟨rfl, hY⟩
      have hM := (hM.set 1 (.int .i64 ((a + b) / 2))).ext hY
      have hN := (hN.other ⟨M, 1, none⟩ (.int .i64 ((a + b) / 2)) nMN.symm).ext hY
      have hR6 := (hR6.other ⟨M, 1, none⟩ (.int .i64 ((a + b) / 2)) nMR.symm).ext hY
      have hS6 := (hS6.other ⟨M, 1, none⟩ (.int .i64 ((a + b) / 2)) nMS.symm).ext hY
      have hX7 := (hX7.setCell (p := ⟨M, 1, none⟩) zM (.int .i64 ((a + b) / 2))).trans hY
      clear hY q0 q1 q2 q3 q4
      simp only [bxC, List.setIfInBounds_toArray, List.set_cons_zero, List.set_cons_succ] at hM
      obtain ⟨q0, q1, q2, q3, q4⟩ := BoxN.box4 hN
      go_wp2_with fail
      have hM := hM.other ⟨N, 0, none⟩ (.int .i64 ((a + b) / 2 + 1)) nMN
      have hN := hN.set 0 (.int .i64 ((a + b) / 2 + 1))
      have hR6 := hR6.other ⟨N, 0, none⟩ (.int .i64 ((a + b) / 2 + 1)) nNR.symm
      have hS6 := hS6.other ⟨N, 0, none⟩ (.int .i64 ((a + b) / 2 + 1)) nNS.symm
      have hX7 := hX7.setCell (p := ⟨N, 0, none⟩) zN (.int .i64 ((a + b) / 2 + 1))
      simp only [bxC, List.setIfInBounds_toArray, List.set_cons_zero] at hN
      clear q0 q1 q2 q3 q4
      obtain ⟨wx, hwx⟩ : ∃ wx, w9.setCell ⟨N, 0, none⟩ (.int .i64 ((a + b) / 2 + 1)) = wx := ⟨_, rfl⟩
      rw [hwx] at hM hN hR6 hS6 hX7 ⊢
      clear hwx
      obtain ⟨q0, q1, q2, q3, q4⟩ := BoxN.box4 hM
      obtain ⟨r0, r1, r2, r3, r4⟩ := BoxN.box4 hN
      obtain ⟨n0, n1, n2, n3, n4⟩ := BoxN.box4 hR6
      obtain ⟨m0, m1, m2, m3, m4⟩ := BoxN.box4 hS6
      go_region
      all_goals go_wp2_with fail

      all_goals exact bodyPost_ret (v := bx2T (cutR a b c d)) (by rw [HZK.out]; simp [results, Try.f62, go_sem, n0, n1, n2, n3, m0, m1, m2, m3, midZ]) rfl ⟨rfl, hW.trans (Ext.drew (ext_eight2 hX7 zR zS _ _ _ _ _ _ _ _))⟩
end Go.Proofs.Ytdbhbfmbpldmnaa
