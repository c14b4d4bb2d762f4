/- The walk of the law ChainageSpans. -/
import Derived.Test.YtaggjclaehigjaaK12
namespace Go.Proofs.Ytaggjclaehigjaa
open Go.RowKit
set_option maxRecDepth 100000 in
set_option maxHeartbeats 2000000 in
theorem lawints_eq (W : World) (l : List Int) (u v : Value) (w : World) (hX : Ext W w) (hu : Ints w u l) (hv : Ints w v l) : Calls Try.prog 82 #[u, v] w fun e w' => e = .returned (.bool true) ∧ Ext W w' := by
  obtain ⟨a, cap, rfl, h1, h2, hc⟩ := hu.parts
  obtain ⟨b, cap2, rfl, h3, h4, hd⟩ := hv.parts
  have HC := Lib.hid hc
  have HD := Lib.hid hd
  unfold maxLen at h2
  have hml : (l.length : Int) ≤ 9223372036854775807 := by omega
  clear hc hd h2 h4 hu hv
  go_enter Try.func82, Try.ntmps82
  go_wp2_with fail
  go_loopw [5, 13] (fun _ i wr => ∃ k : Nat, k ≤ l.length ∧ i = .int .i64 k ∧ Ext w wr) (fun _ i _ => l.length - (intOf i).toNat)
  case atStart => exact ⟨0, Nat.zero_le _, rfl, Ext.refl _⟩
  case round =>
    obtain ⟨k, hk, rfl, hE⟩ := hrel
    by_cases hlt : k < l.length
    · obtain ⟨bb, off, x, hx, rfl, c0⟩ := int_at HC.out hE hlt
      obtain ⟨b2, off2, y, hy, rfl, d0⟩ := int_at HD.out hE hlt
      obtain rfl : y = x := by rw [hy, hx]
      clear hx hy
      have hk0 : (0 : Int) ≤ (k : Int) := by omega
      have hk1 : (k : Int) < (l.length : Int) := by omega
      go_wp2_with fail
      go_quiet (fail)
      go_wp2_with fail
      go_roundw
      case rel => exact ⟨k + 1, by omega, by go_num, hE.drewN _⟩
      case measure => simp [intOf]; omega
    · obtain rfl : k = l.length := by omega
      go_wp2_with fail
      go_ret
      exact ⟨rfl, hX.trans hE⟩
set_option maxRecDepth 100000 in
set_option maxHeartbeats 2000000 in
theorem lawsame_eq (W : World) (x y : Int) (l : List Int) (u v : Value) (w : World) (hX : Ext W w) (hu : Ints w u l) (hv : Ints w v l) : Calls Try.prog 43 #[.agg #[.int .i64 x, .int .i64 y, u], .agg #[.int .i64 x, .int .i64 y, v]] w fun e w' => e = .returned (.bool true) ∧ Ext W w' := by
  have HI := Lib.hid (fun w' (q : Ext w w') => lawints_eq w' l u v w' (Ext.refl _) (hu.ext q) (hv.ext q))
  obtain ⟨a, cap, rfl, -⟩ := hu.parts
  obtain ⟨b, cap2, rfl, -⟩ := hv.parts
  clear hu hv
  have hX0 : Ext w ((w.alloc (.cells #[.int .i64 x, .int .i64 y, .slice a l.length cap] 46)).alloc (.cells #[.int .i64 x, .int .i64 y, .slice b l.length cap2] 46)) := ((Ext.refl w).alloc _).alloc _
  go_enter Try.func43, Try.ntmps43
  go_wp2_with (go_at_call 82; with_reducible refine (HI.out _ hX0).mono ?_; rintro e w1 ⟨rfl, hX1⟩)
  go_ret
  exact ⟨rfl, hX.trans (hX0.trans hX1)⟩
set_option maxRecDepth 100000 in
set_option maxHeartbeats 8000000 in
theorem lawSpans (W : World) (C P R : List Five) (v : Value) (id lo hi : Int) (w : World) (hX : Ext W w) (hv : Wk w v C P R) (hli : (-9223372036854775808 ≤ lo ∧ lo ≤ 9223372036854775807) ∧ -9223372036854775808 ≤ hi ∧ hi ≤ 9223372036854775807) :
    Calls Try.prog 10 #[v, .int .i64 id, .agg #[.int .i64 lo, .int .i64 hi]] w fun e w' => e = .returned (.bool true) ∧ Ext W w' := by
  have HF := Lib.hid (fun w' (q : Ext w w') => few_any w' C P R v w' (Ext.refl _) (hv.ext q))
  have HA := Lib.hid (fun w' (q : Ext w w') => Shortest_any w' C P R v id lo hi w' (Ext.refl _) (hv.ext q))
  have HB := Lib.hid (fun w' (q : Ext w w') => rShortest w' C P R v id lo hi w' (Ext.refl _) (hv.ext q))
  have HC := Lib.hid (fun w' (q : Ext w w') => Longest_any w' C P R v id lo hi w' (Ext.refl _) (hv.ext q))
  have HD := Lib.hid (fun w' (q : Ext w w') => rLongest w' C P R v id lo hi w' (Ext.refl _) (hv.ext q))
  obtain ⟨vC, vP, vR, rfl, -, hP, hR, hn0⟩ := hv
  obtain ⟨aP, capP, rfl, hlP, hmP, -⟩ := hP.parts
  obtain ⟨aR, capR, rfl, hlR, hmR, -⟩ := hR.parts
  unfold maxLen at hmP hmR
  have hPR : (P.length : Int) + (R.length : Int) ≤ 9223372036854775807 := by omega
  have e64 : IntKind.i64.wrap ((P.length : Int) + (R.length : Int)) = (P.length : Int) + (R.length : Int) := wrap_in (by omega)
  generalize wornR C P R id lo hi false = x at HA HB
  generalize wornR C P R id lo hi true = y at HC HD
  generalize spanE C P R id lo hi = n at HA HB HC HD
  obtain ⟨x1, x2, x3⟩ := x
  obtain ⟨y1, y2, y3⟩ := y
  generalize fewB C P R = f at HF
  clear hP hR hlP hlR hmP hmR
  have hX0 : Ext w ((w.alloc (.cells #[vC, .slice aP P.length capP, .slice aR R.length capR] 26)).alloc (.cells #[.int .i64 lo, .int .i64 hi] 30)) := ((Ext.refl w).alloc _).alloc _
  have hb0 := ((Ext.refl _).alloc (.cells #[.int .i64 lo, .int .i64 hi] 30)).block (heap_alloc_new w (.cells #[vC, .slice aP P.length capP, .slice aR R.length capR] 26))
  have hb1 := heap_alloc_new (w.alloc (.cells #[vC, .slice aP P.length capP, .slice aR R.length capR] 26)) (.cells #[.int .i64 lo, .int .i64 hi] 30)
  rw [World.size_alloc] at hb1
  obtain ⟨B, hBB⟩ : ∃ B, w.heap.size = B := ⟨_, rfl⟩
  rw [hBB] at hb0 hb1
  go_enter Try.func10, Try.ntmps10
  go_upto_region 1 with fail
  obtain ⟨wa, hwa⟩ : ∃ wa, (w.alloc (.cells #[vC, .slice aP P.length capP, .slice aR R.length capR] 26)).alloc (.cells #[.int .i64 lo, .int .i64 hi] 30) = wa := ⟨_, rfl⟩
  rw [hwa] at hX0 hb0 hb1 ⊢
  clear hwa
  go_cut [51] (fun v wx => ∃ b, v = .bool b ∧ Ext w wx ∧ wx.heap[B]? = some (.cells #[vC, .slice aP P.length capP, .slice aR R.length capR] 26) ∧ wx.heap[B + 1]? = some (.cells #[.int .i64 lo, .int .i64 hi] 30))
  case first => as_aux_lemma =>
    obtain ⟨k0, k1, k2⟩ := box3' hb0
    have hcs : f = false ∨ (f = true ∧ 30 < (P.length : Int) + (R.length : Int)) ∨ (f = true ∧ ¬ 30 < (P.length : Int) + (R.length : Int) ∧ ¬ 0 ≤ hi) ∨ (f = true ∧ ¬ 30 < (P.length : Int) + (R.length : Int) ∧ 0 ≤ hi ∧ ¬ 0 ≤ lo) ∨ (f = true ∧ ¬ 30 < (P.length : Int) + (R.length : Int) ∧ 0 ≤ hi ∧ 0 ≤ lo ∧ ¬ 60 < hi - lo) ∨ (f = true ∧ ¬ 30 < (P.length : Int) + (R.length : Int) ∧ 0 ≤ hi ∧ 0 ≤ lo ∧ 60 < hi - lo) := by
      cases f <;> simp <;> omega
    rcases hcs with rfl | ⟨rfl, g1⟩ | ⟨rfl, g1, g2⟩ | ⟨rfl, g1, g2, g3⟩ | ⟨rfl, g1, g2, g3, g4⟩ | ⟨rfl, g1, g2, g3, g4⟩
    all_goals
      go_wp2_with (go_at_call 14; with_reducible refine (HF.out _ hX0).mono ?_; rintro e w2 ⟨rfl, hX2⟩; have hE2 := hX0.trans hX2; have hb2 := hX2.block hb0; have hb3 := hX2.block hb1; obtain ⟨k0, k1, k2⟩ := box3' hb2; obtain ⟨s0, s1⟩ := box2 hb3)
      go_meet
      case rel => exact ⟨_, rfl, hE2, hb2, hb3⟩
  case rest =>
  obtain ⟨b, rfl, hE0, hb0, hb1⟩ := hcut
  obtain ⟨w0, rfl⟩ : ∃ w', w' = wc := ⟨_, rfl⟩
  clear hX0 HF
  cases b
  · have hz := hE0.le
    obtain ⟨k0, k1, k2⟩ := box3' hb0
    obtain ⟨s0, s1⟩ := box2 hb1
    go_wp2_with fail
    with_reducible refine (HA.out _ hE0).mono ?_
    rintro e w1' ⟨⟨u1, rfl, hI1⟩, hX1⟩
    obtain ⟨ua1, un1, uc1, rfl⟩ := Own.slice_form enc1_len hI1
    have hE1 := (hE0.trans hX1).alloc (.cells #[.int .i64 x1, .int .i64 x2, .slice ua1 un1 uc1] 46)
    replace hb0 := ((Ext.refl w1').alloc (.cells #[.int .i64 x1, .int .i64 x2, .slice ua1 un1 uc1] 46)).block (hX1.block hb0)
    replace hb1 := ((Ext.refl w1').alloc (.cells #[.int .i64 x1, .int .i64 x2, .slice ua1 un1 uc1] 46)).block (hX1.block hb1)
    replace hI1 := hI1.ext ((Ext.refl _).alloc (.cells #[.int .i64 x1, .int .i64 x2, .slice ua1 un1 uc1] 46))
    have hc1 := heap_alloc_new w1' (.cells #[.int .i64 x1, .int .i64 x2, .slice ua1 un1 uc1] 46)
    obtain ⟨k0, k1, k2⟩ := box3' hb0
    obtain ⟨s0, s1⟩ := box2 hb1
    obtain ⟨A1, hA1⟩ : ∃ A, w1'.heap.size = A := ⟨_, rfl⟩
    clear hX1 k0 k1 k2 s0 s1
    go_upto_region 4 with fail
    rw [hA1] at hc1
    obtain ⟨w1, hw1⟩ : ∃ w0, w1'.alloc (.cells #[.int .i64 x1, .int .i64 x2, .slice ua1 un1 uc1] 46) = w0 := ⟨_, rfl⟩
    rw [hw1] at hE1 hc1 hI1 hb0 hb1  ⊢
    clear hw1 hA1
    obtain ⟨k0, k1, k2⟩ := box3' hb0
    obtain ⟨s0, s1⟩ := box2 hb1
    go_wp2_with fail
    with_reducible refine (HB.out _ hE1).mono ?_
    rintro e w2' ⟨⟨u2, rfl, hI2⟩, hX2⟩
    obtain ⟨ua2, un2, uc2, rfl⟩ := Own.slice_form enc1_len hI2
    have hE2 := (hE1.trans hX2).alloc (.cells #[.int .i64 x1, .int .i64 x2, .slice ua2 un2 uc2, .int .i64 n] 67)
    replace hb0 := ((Ext.refl w2').alloc (.cells #[.int .i64 x1, .int .i64 x2, .slice ua2 un2 uc2, .int .i64 n] 67)).block (hX2.block hb0)
    replace hb1 := ((Ext.refl w2').alloc (.cells #[.int .i64 x1, .int .i64 x2, .slice ua2 un2 uc2, .int .i64 n] 67)).block (hX2.block hb1)
    replace hc1 := ((Ext.refl w2').alloc (.cells #[.int .i64 x1, .int .i64 x2, .slice ua2 un2 uc2, .int .i64 n] 67)).block (hX2.block hc1)
    replace hI1 := ((hI1.ext hX2).ext ((Ext.refl _).alloc (.cells #[.int .i64 x1, .int .i64 x2, .slice ua2 un2 uc2, .int .i64 n] 67)))
    replace hI2 := hI2.ext ((Ext.refl _).alloc (.cells #[.int .i64 x1, .int .i64 x2, .slice ua2 un2 uc2, .int .i64 n] 67))
    have hc2 := heap_alloc_new w2' (.cells #[.int .i64 x1, .int .i64 x2, .slice ua2 un2 uc2, .int .i64 n] 67)
    obtain ⟨k0, k1, k2⟩ := box3' hb0
    obtain ⟨s0, s1⟩ := box2 hb1
    obtain ⟨A2, hA2⟩ : ∃ A, w2'.heap.size = A := ⟨_, rfl⟩
    clear hX2 k0 k1 k2 s0 s1
    go_upto_region 5 with fail
    rw [hA2] at hc2
    obtain ⟨w2, hw2⟩ : ∃ w0, w2'.alloc (.cells #[.int .i64 x1, .int .i64 x2, .slice ua2 un2 uc2, .int .i64 n] 67) = w0 := ⟨_, rfl⟩
    rw [hw2] at hE2 hc2 hI2 hb0 hb1 hc1 hI1 ⊢
    clear hw2 hA2
    obtain ⟨k0, k1, k2⟩ := box3' hb0
    obtain ⟨s0, s1⟩ := box2 hb1
    go_wp2_with fail
    with_reducible refine (HC.out _ hE2).mono ?_
    rintro e w3' ⟨⟨u3, rfl, hI3⟩, hX3⟩
    obtain ⟨ua3, un3, uc3, rfl⟩ := Own.slice_form enc1_len hI3
    have hE3 := (hE2.trans hX3).alloc (.cells #[.int .i64 y1, .int .i64 y2, .slice ua3 un3 uc3] 46)
    replace hb0 := ((Ext.refl w3').alloc (.cells #[.int .i64 y1, .int .i64 y2, .slice ua3 un3 uc3] 46)).block (hX3.block hb0)
    replace hb1 := ((Ext.refl w3').alloc (.cells #[.int .i64 y1, .int .i64 y2, .slice ua3 un3 uc3] 46)).block (hX3.block hb1)
    replace hc1 := ((Ext.refl w3').alloc (.cells #[.int .i64 y1, .int .i64 y2, .slice ua3 un3 uc3] 46)).block (hX3.block hc1)
    replace hc2 := ((Ext.refl w3').alloc (.cells #[.int .i64 y1, .int .i64 y2, .slice ua3 un3 uc3] 46)).block (hX3.block hc2)
    replace hI1 := ((hI1.ext hX3).ext ((Ext.refl _).alloc (.cells #[.int .i64 y1, .int .i64 y2, .slice ua3 un3 uc3] 46)))
    replace hI2 := ((hI2.ext hX3).ext ((Ext.refl _).alloc (.cells #[.int .i64 y1, .int .i64 y2, .slice ua3 un3 uc3] 46)))
    replace hI3 := hI3.ext ((Ext.refl _).alloc (.cells #[.int .i64 y1, .int .i64 y2, .slice ua3 un3 uc3] 46))
    have hc3 := heap_alloc_new w3' (.cells #[.int .i64 y1, .int .i64 y2, .slice ua3 un3 uc3] 46)
    obtain ⟨k0, k1, k2⟩ := box3' hb0
    obtain ⟨s0, s1⟩ := box2 hb1
    obtain ⟨A3, hA3⟩ : ∃ A, w3'.heap.size = A := ⟨_, rfl⟩
    clear hX3 k0 k1 k2 s0 s1
    go_upto_region 6 with fail
    rw [hA3] at hc3
    obtain ⟨w3, hw3⟩ : ∃ w0, w3'.alloc (.cells #[.int .i64 y1, .int .i64 y2, .slice ua3 un3 uc3] 46) = w0 := ⟨_, rfl⟩
    rw [hw3] at hE3 hc3 hI3 hb0 hb1 hc1 hc2 hI1 hI2 ⊢
    clear hw3 hA3
    obtain ⟨k0, k1, k2⟩ := box3' hb0
    obtain ⟨s0, s1⟩ := box2 hb1
    go_wp2_with fail
    with_reducible refine (HD.out _ hE3).mono ?_
    rintro e w4' ⟨⟨u4, rfl, hI4⟩, hX4⟩
    obtain ⟨ua4, un4, uc4, rfl⟩ := Own.slice_form enc1_len hI4
    have hE4 := (hE3.trans hX4).alloc (.cells #[.int .i64 y1, .int .i64 y2, .slice ua4 un4 uc4, .int .i64 n] 67)
    replace hb0 := ((Ext.refl w4').alloc (.cells #[.int .i64 y1, .int .i64 y2, .slice ua4 un4 uc4, .int .i64 n] 67)).block (hX4.block hb0)
    replace hb1 := ((Ext.refl w4').alloc (.cells #[.int .i64 y1, .int .i64 y2, .slice ua4 un4 uc4, .int .i64 n] 67)).block (hX4.block hb1)
    replace hc1 := ((Ext.refl w4').alloc (.cells #[.int .i64 y1, .int .i64 y2, .slice ua4 un4 uc4, .int .i64 n] 67)).block (hX4.block hc1)
    replace hc2 := ((Ext.refl w4').alloc (.cells #[.int .i64 y1, .int .i64 y2, .slice ua4 un4 uc4, .int .i64 n] 67)).block (hX4.block hc2)
    replace hc3 := ((Ext.refl w4').alloc (.cells #[.int .i64 y1, .int .i64 y2, .slice ua4 un4 uc4, .int .i64 n] 67)).block (hX4.block hc3)
    replace hI1 := ((hI1.ext hX4).ext ((Ext.refl _).alloc (.cells #[.int .i64 y1, .int .i64 y2, .slice ua4 un4 uc4, .int .i64 n] 67)))
    replace hI2 := ((hI2.ext hX4).ext ((Ext.refl _).alloc (.cells #[.int .i64 y1, .int .i64 y2, .slice ua4 un4 uc4, .int .i64 n] 67)))
    replace hI3 := ((hI3.ext hX4).ext ((Ext.refl _).alloc (.cells #[.int .i64 y1, .int .i64 y2, .slice ua4 un4 uc4, .int .i64 n] 67)))
    replace hI4 := hI4.ext ((Ext.refl _).alloc (.cells #[.int .i64 y1, .int .i64 y2, .slice ua4 un4 uc4, .int .i64 n] 67))
    have hc4 := heap_alloc_new w4' (.cells #[.int .i64 y1, .int .i64 y2, .slice ua4 un4 uc4, .int .i64 n] 67)
    obtain ⟨k0, k1, k2⟩ := box3' hb0
    obtain ⟨s0, s1⟩ := box2 hb1
    obtain ⟨A4, hA4⟩ : ∃ A, w4'.heap.size = A := ⟨_, rfl⟩
    clear hX4 k0 k1 k2 s0 s1
    go_upto_region 7 with fail
    rw [hA4] at hc4
    obtain ⟨w4, hw4⟩ : ∃ w0, w4'.alloc (.cells #[.int .i64 y1, .int .i64 y2, .slice ua4 un4 uc4, .int .i64 n] 67) = w0 := ⟨_, rfl⟩
    rw [hw4] at hE4 hc4 hI4 hb0 hb1 hc1 hc2 hc3 hI1 hI2 hI3 ⊢
    clear hw4 hA4
    go_wp2_with fail
    with_reducible refine (sanity_any _ _ (Ext.refl _)).mono ?_
    rintro e w5 ⟨rfl, hX5⟩
    have HS1 := Lib.hid (fun w' (q : Ext w4 w') => lawsame_eq w' x1 x2 x3 _ _ w' (Ext.refl _) ((hI1.sl enc1_len).ext q) ((hI2.sl enc1_len).ext q))
    have HS2 := Lib.hid (fun w' (q : Ext w4 w') => lawsame_eq w' y1 y2 y3 _ _ w' (Ext.refl _) ((hI3.sl enc1_len).ext q) ((hI4.sl enc1_len).ext q))
    obtain ⟨a0, a1, a2⟩ := box3' (hX5.block hc1)
    obtain ⟨b0, b1, b2, b3⟩ := box4 (hX5.block hc2)
    obtain ⟨c0, c1, c2⟩ := box3' (hX5.block hc3)
    obtain ⟨d0, d1, d2, d3⟩ := box4 (hX5.block hc4)
    clear hI1 hI2 hI3 hI4 hb0 hb1
    go_wp2_with (first
      | (go_at_call 43; with_reducible refine (HS1.out _ hX5).mono ?_; rintro e w6 ⟨rfl, hX6⟩; have hX7 := hX5.trans hX6; obtain ⟨c0, c1, c2⟩ := box3' (hX7.block hc3); obtain ⟨d0, d1, d2, d3⟩ := box4 (hX7.block hc4))
      | (go_at_call 43; with_reducible refine (HS2.out _ hX7).mono ?_; rintro e w8 ⟨rfl, hX8⟩))
    go_ret
    exact ⟨rfl, hX.trans (hE4.trans (hX7.trans hX8))⟩
  · go_wp2_with fail
    with_reducible refine (sanity_any _ _ (Ext.refl _)).mono ?_
    rintro e w2 ⟨rfl, hX2⟩
    go_wp2_with fail
    go_ret
    exact ⟨rfl, hX.trans (hE0.trans hX2)⟩
end Go.Proofs.Ytaggjclaehigjaa
