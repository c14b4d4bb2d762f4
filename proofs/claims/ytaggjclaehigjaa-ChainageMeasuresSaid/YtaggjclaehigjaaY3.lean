/- The walk of the law ChainageMeasures. -/
import Derived.Test.YtaggjclaehigjaaWX
import Derived.Test.YtaggjclaehigjaaR14
namespace Go.Proofs.Ytaggjclaehigjaa
open Go.RowKit
theorem eql_sp' : ∀ (a b : Int) (w : World), (binOp .eql 30 (.agg #[.int .i64 a, .int .i64 b]) (.agg #[.int .i64 a, .int .i64 b])).run Try.prog w = .ok (.bool true) w := by
  intro a b w
  have h1 : (a == a) = true := by simp
  have h2 : (b == b) = true := by simp
  go_simp
theorem neq_sp' : ∀ (a b : Int) (w : World), (binOp .neq 30 (.agg #[.int .i64 a, .int .i64 b]) (.agg #[.int .i64 a, .int .i64 b])).run Try.prog w = .ok (.bool false) w := by
  intro a b w
  have h1 : (a == a) = true := by simp
  have h2 : (b == b) = true := by simp
  go_simp
theorem long30_any (u : Value) (l : List Five) (w : World) (hu : Fives w u l) : Calls Try.prog 34 #[u] w fun e w' => e = .returned (.bool (decide (30 < l.length) && decide (l.length ≤ 100))) ∧ w = w' := by
  obtain ⟨a, cap, rfl, hl, hm, -⟩ := hu.parts
  have e2 : decide ((l.length : Int) ≤ 100) = decide (l.length ≤ 100) := decide_eq_decide.2 (by omega)
  have E2 := Lib.hid e2
  clear e2
  by_cases h : 30 < l.length
  · have e1 := Lib.hid (decide_eq_true h)
    go_enter Try.func34, Try.ntmps34
    go_wp2
    go_ret
    refine ⟨?_, rfl⟩
    rw [e1.out, ← E2.out]
    rfl
  · have e1 := Lib.hid (decide_eq_false h)
    go_enter Try.func34, Try.ntmps34
    go_wp2
    go_ret
    refine ⟨?_, rfl⟩
    first | rfl | (rw [e1.out]; rfl)
set_option maxRecDepth 100000 in
set_option maxHeartbeats 8000000 in
theorem lawMeasures (W : World) (C P R : List Five) (v : Value) (l m : List Five) (s t : Value) (w : World) (hX : Ext W w) (hv : Wk w v C P R) (hs : Fives w s l) (ht : Fives w t m) :
    Calls Try.prog 9 #[v, s, t] w fun e w' => e = .returned (.bool true) ∧ Ext W w' := by
  have HF := Lib.hid (fun w' (q : Ext w w') => few_any w' C P R v w' (Ext.refl _) (hv.ext q))
  have H3 := Lib.hid (fun w' (q : Ext w w') => long30_any s l w' (hs.ext q))
  have H4 := Lib.hid (fun w' (q : Ext w w') => long30_any t m w' (ht.ext q))
  have HA := Lib.hid (fun w' (q : Ext w w') => Total_any w' C P R v l s w' (Ext.refl _) (hv.ext q) (hs.ext q))
  have HB := Lib.hid (fun w' (q : Ext w w') => rTotal w' C P R v l s w' (Ext.refl _) (hv.ext q) (hs.ext q))
  have HC := Lib.hid (fun w' (q : Ext w w') => Closes_any w' C P R v l m s t w' (Ext.refl _) (hv.ext q) (hs.ext q) (ht.ext q))
  have HD := Lib.hid (fun w' (q : Ext w w') => rCloses w' C P R v l m s t w' (Ext.refl _) (hv.ext q) (hs.ext q) (ht.ext q))
  have HP := Lib.hid (fun (m : Five) w' (q : Ext w w') => Distance_any w' C P R v m.a m.b m.c m.d m.e w' (Ext.refl _) (hv.ext q))
  have HQ := Lib.hid (fun (m : Five) w' (q : Ext w w') => rDistance w' C P R v m w' (Ext.refl _) (hv.ext q))
  obtain ⟨vC, vP, vR, rfl, hC0, hP0, hR0, hn⟩ := hv
  obtain ⟨aP, capP, rfl, -⟩ := hP0.parts
  obtain ⟨aR, capR, rfl, -⟩ := hR0.parts
  obtain ⟨a, cap, rfl, hl, hm, hc⟩ := hs.parts
  have HCL := Lib.hid hc
  clear hs hc hC0 hP0 hR0 hm
  generalize closR (totR C P R l) (totR C P R m) = cl at HC HD
  obtain ⟨⟨⟨xl, xh⟩, xe⟩, hx⟩ : ∃ x, totR C P R l = x := ⟨_, rfl⟩
  rw [hx] at HA HB
  clear hx
  generalize fewB C P R = f at HF
  generalize (decide (30 < l.length) && decide (l.length ≤ 100)) = f3 at H3
  generalize (decide (30 < m.length) && decide (m.length ≤ 100)) = f4 at H4
  have hX0 : Ext w (w.alloc (.cells #[vC, .slice aP P.length capP, .slice aR R.length capR] 26)) := (Ext.refl w).alloc _
  have hb0 := heap_alloc_new w (.cells #[vC, .slice aP P.length capP, .slice aR R.length capR] 26)
  obtain ⟨B, hBB⟩ : ∃ B, w.heap.size = B := ⟨_, rfl⟩
  rw [hBB] at hb0
  have e64 : IntKind.i64.wrap ((P.length : Int) + (R.length : Int)) = (P.length : Int) + (R.length : Int) := wrap_in (by omega)
  go_enter Try.func9, Try.ntmps9
  go_upto_region 1 with fail
  obtain ⟨wa, hwa⟩ : ∃ wa, w.alloc (.cells #[vC, .slice aP P.length capP, .slice aR R.length capR] 26) = wa := ⟨_, rfl⟩
  rw [hwa] at hX0 hb0 ⊢
  clear hwa
  go_cut [39] (fun v wx => ∃ b, v = .bool b ∧ Ext w wx ∧ wx.heap[B]? = some (.cells #[vC, .slice aP P.length capP, .slice aR R.length capR] 26))
  case first => as_aux_lemma =>
    obtain ⟨k0, k1, k2⟩ := box3' hb0
    cases f
    · go_wp2_with (go_at_call 14; with_reducible refine (HF.out _ hX0).mono ?_; rintro e w2 ⟨rfl, hX2⟩; have hE2 := hX0.trans hX2; have hb2 := hX2.block hb0; obtain ⟨k0, k1, k2⟩ := box3' hb2)
      go_meet
      case rel => exact ⟨_, rfl, hE2, hb2⟩
    · by_cases h30 : 30 < (P.length : Int) + (R.length : Int)
      · go_wp2_with (go_at_call 14; with_reducible refine (HF.out _ hX0).mono ?_; rintro e w2 ⟨rfl, hX2⟩; have hE2 := hX0.trans hX2; have hb2 := hX2.block hb0; obtain ⟨k0, k1, k2⟩ := box3' hb2)
        go_meet
        case rel => exact ⟨_, rfl, hE2, hb2⟩
      · cases f3
        all_goals
          go_wp2_with (first
            | (go_at_call 14; with_reducible refine (HF.out _ hX0).mono ?_; rintro e w2 ⟨rfl, hX2⟩; have hE2 := hX0.trans hX2; have hb2 := hX2.block hb0; obtain ⟨k0, k1, k2⟩ := box3' hb2)
            | (go_at_call 34; with_reducible refine (H3.out _ hE2).mono ?_; rintro e w' ⟨rfl, rfl⟩)
            | (go_at_call 34; with_reducible refine (H4.out _ hE2).mono ?_; rintro e w' ⟨rfl, rfl⟩))
          go_meet
          case rel => exact ⟨_, rfl, hE2, hb2⟩
  case rest =>
    obtain ⟨b, rfl, hE, hb⟩ := hcut
    clear hX0 hb0 HF H3 H4 e64
    cases b
    · by_cases h0 : 0 < l.length
      · obtain ⟨bb, off, x, hx, rfl, c0, c1, c2, c3, c4⟩ := five_at HCL.out hE h0
        have h5 : At5 wc bb (off + 0 * 5) x := ⟨c0, c1, c2, c3, c4⟩
        have HX5 : Hid (∀ w', Ext wc w' → w'.cell? ⟨bb, off, none⟩ = some (.int .i64 x.a) ∧ w'.cell? ⟨bb, off + 1, none⟩ = some (.int .i64 x.b) ∧ w'.cell? ⟨bb, off + 2, none⟩ = some (.int .i64 x.c) ∧ w'.cell? ⟨bb, off + 3, none⟩ = some (.int .i64 x.d) ∧ w'.cell? ⟨bb, off + 4, none⟩ = some (.int .i64 x.e)) := fun w' q => by
          have := h5.ext q
          rw [Nat.zero_mul, Nat.add_zero] at this
          exact this
        have HPX := Lib.hid (HP.out x)
        have HQX := Lib.hid (HQ.out x)
        have hdm : distR C P R x.a x.b x.c x.d x.e = distM C P R x := rfl
        rw [hdm] at HPX
        obtain ⟨⟨⟨dl, dh⟩, de⟩, hd⟩ : ∃ t, distM C P R x = t := ⟨_, rfl⟩
        rw [hd] at HPX HQX
        clear hd hdm hx c0 c1 c2 c3 c4 h5 HP HQ
        have hl0 : (0 : Int) < (l.length : Int) := by omega
        obtain ⟨w1, rfl⟩ : ∃ w', w' = wc := ⟨_, rfl⟩
        go_upto_region 4 with fail
        go_cut [7, 8] (fun v e wx => ∃ N, v = .pointer (some ⟨N, 0, none⟩) ∧ e = .int .i64 de ∧ Ext w1 wx ∧ wx.heap[N]? = some (.cells #[.int .i64 dl, .int .i64 dh] 30) ∧ w1.heap.size ≤ N)
        case first => as_aux_lemma =>
          obtain ⟨w0, w1', w2'⟩ := box3' hb
          have zB := lt_of_cell w0
          obtain ⟨c0, c1, c2, c3, c4⟩ := HX5.out w1 (Ext.refl _)
          have zb0 := lt_of_cell c0
          go_region_with (go_at_call 25; first
            | (with_reducible refine (HPX.out _ hE.drew).mono ?_; rintro e w3 ⟨rfl, hX3⟩; have hX3' := Ext.trans (Ext.drew (Ext.refl w1)) hX3; obtain ⟨q0, q1, q2, q3, q4⟩ := HX5.out w3 hX3'; have zb := lt_of_cell q0; obtain ⟨m0, m1, m2⟩ := box3' (hX3'.block hb); have zm := lt_of_cell m0)
            | (with_reducible refine (HPX.out _ (hE.alloc _).drew).mono ?_; rintro e w3 ⟨rfl, hX3⟩; have hX3' := Ext.trans (((Ext.refl w1).alloc _).drew) hX3; obtain ⟨q0, q1, q2, q3, q4⟩ := HX5.out w3 hX3'; have zb := lt_of_cell q0; obtain ⟨m0, m1, m2⟩ := box3' (hX3'.block hb); have zm := lt_of_cell m0; have hN := hX3.block (new_drew' w1 _); obtain ⟨t0, t1⟩ := box2 hN; have y0 := frozen_cells ⟨_, hN⟩ 0; have y1 := frozen_cells ⟨_, hN⟩ 1))
          all_goals
            go_wp2_with fail
            go_meet
            case rel => first | with_reducible exact relB2 hX3' (Nat.le_refl _) hN | with_reducible exact relA2 hX3' _
        case rest =>
        obtain ⟨A1, rfl, rfl, hX4, hA1, -⟩ := hcut
        have hE2 := hE.trans hX4
        have hb := hX4.block hb
        have HX5 := Lib.hid (fun w' (q : Ext wc w') => HX5.out w' (hX4.trans q))
        clear HPX hE
        obtain ⟨w2, rfl⟩ : ∃ w', w' = wc := ⟨_, rfl⟩
        go_upto_region 5 with fail
        go_cut [9, 10] (fun v e wx => ∃ N, v = .pointer (some ⟨N, 0, none⟩) ∧ e = .int .i64 de ∧ Ext w2 wx ∧ wx.heap[N]? = some (.cells #[.int .i64 dl, .int .i64 dh] 30) ∧ w2.heap.size ≤ N)
        case first => as_aux_lemma =>
          obtain ⟨w0, w1', w2'⟩ := box3' hb
          have zB := lt_of_cell w0
          obtain ⟨c0, c1, c2, c3, c4⟩ := HX5.out w2 (Ext.refl _)
          have zb0 := lt_of_cell c0
          go_region_with (go_at_call 35; first
            | (with_reducible refine (HQX.out _ hE2.drew).mono ?_; rintro e w3 ⟨rfl, hX3⟩; have hX3' := Ext.trans (Ext.drew (Ext.refl w2)) hX3; obtain ⟨q0, q1, q2, q3, q4⟩ := HX5.out w3 hX3'; have zb := lt_of_cell q0; obtain ⟨m0, m1, m2⟩ := box3' (hX3'.block hb); have zm := lt_of_cell m0)
            | (with_reducible refine (HQX.out _ (hE2.alloc _).drew).mono ?_; rintro e w3 ⟨rfl, hX3⟩; have hX3' := Ext.trans (((Ext.refl w2).alloc _).drew) hX3; obtain ⟨q0, q1, q2, q3, q4⟩ := HX5.out w3 hX3'; have zb := lt_of_cell q0; obtain ⟨m0, m1, m2⟩ := box3' (hX3'.block hb); have zm := lt_of_cell m0; have hN := hX3.block (new_drew' w2 _); obtain ⟨t0, t1⟩ := box2 hN; have y0 := frozen_cells ⟨_, hN⟩ 0; have y1 := frozen_cells ⟨_, hN⟩ 1))
          all_goals
            go_wp2_with fail
            go_meet
            case rel => first | with_reducible exact relB2 hX3' (Nat.le_refl _) hN | with_reducible exact relA2 hX3' _
        case rest =>
        obtain ⟨A2, rfl, rfl, hX4, hA2, -⟩ := hcut
        have hE3 := hE2.trans hX4
        have hb := hX4.block hb
        have hA1 := hX4.block hA1
        clear HQX HX5 hE2 hX4 hl0
        obtain ⟨a0, a1⟩ := box2 hA1
        obtain ⟨a2, a3⟩ := box2 hA2
        obtain ⟨c0, c1, c2⟩ := box3' hb
        have qN := neq_sp'
        have qD : (de != de) = false := by simp
        go_wp2_with fail
        with_reducible refine (HA.out _ hE3).mono ?_
        rintro e w5 ⟨rfl, hX5⟩
        have hE5 := Ext.trans hE3 hX5
        have hb5 := hX5.block hb
        obtain ⟨c0, c1, c2⟩ := box3' hb5
        have zB := lt_of_cell c0
        have hE5' := hE5.alloc (.cells #[.int .i64 xl, .int .i64 xh] 30)
        have hb5' := ((Ext.refl w5).alloc (.cells #[.int .i64 xl, .int .i64 xh] 30)).block hb5
        have hx5 := heap_alloc_new w5 (.cells #[.int .i64 xl, .int .i64 xh] 30)
        go_wp2_with fail
        obtain ⟨w6, hw6⟩ : ∃ w6, w5.alloc (.cells #[.int .i64 xl, .int .i64 xh] 30) = w6 := ⟨_, rfl⟩
        rw [hw6] at hE5' hb5' hx5 ⊢
        clear hw6 c0 c1 c2 zB hb5 hE5 hX5
        generalize w5.heap.size = X at hx5 ⊢
        with_reducible refine (HB.out _ hE5').mono ?_
        rintro e w7 ⟨rfl, hX7⟩
        have hE7 := hE5'.trans hX7
        have hb7 := hX7.block hb5'
        have hx7 := hX7.block hx5
        obtain ⟨c0, c1, c2⟩ := box3' hb7
        have zB := lt_of_cell c0
        have hE7' := hE7.alloc (.cells #[.int .i64 xl, .int .i64 xh] 30)
        have hb7' := ((Ext.refl w7).alloc (.cells #[.int .i64 xl, .int .i64 xh] 30)).block hb7
        have hx7' := ((Ext.refl w7).alloc (.cells #[.int .i64 xl, .int .i64 xh] 30)).block hx7
        have hy7 := heap_alloc_new w7 (.cells #[.int .i64 xl, .int .i64 xh] 30)
        go_wp2_with fail
        obtain ⟨w8, hw8⟩ : ∃ w8, w7.alloc (.cells #[.int .i64 xl, .int .i64 xh] 30) = w8 := ⟨_, rfl⟩
        rw [hw8] at hE7' hb7' hx7' hy7 ⊢
        clear hw8 c0 c1 c2 zB hb7 hE7 hX7 hx7 hx5
        generalize w7.heap.size = Y at hy7 ⊢
        with_reducible refine (HC.out _ hE7').mono ?_
        rintro e w9 ⟨rfl, hX9⟩
        have hE9 := hE7'.trans hX9
        obtain ⟨c0, c1, c2⟩ := box3' (hX9.block hb7')
        go_wp2_with fail
        with_reducible refine (HD.out _ hE9).mono ?_
        rintro e w10 ⟨rfl, hX10⟩
        have hE10 := hE9.trans hX10
        go_wp2_with fail
        with_reducible refine (sanity_any _ _ (Ext.refl _)).mono ?_
        rintro e w11 ⟨rfl, hX11⟩
        have hX711 := (hX9.trans hX10).trans hX11
        obtain ⟨x0, x1⟩ := box2 (hX711.block hx7')
        obtain ⟨y0, y1⟩ := box2 (hX711.block hy7)
        have qS := eql_sp'
        have qB : (cl.1 == cl.1) = true := by simp
        have qE : (cl.2 == cl.2) = true := by simp
        have qX : (xe == xe) = true := by simp
        clear hX711 hX9 hX10 c0 c1 c2 hb7' hx7' hy7 HA HB HC HD
        go_wp2_with fail
        go_ret
        exact ⟨rfl, hX.trans (hE10.trans hX11)⟩
      · obtain ⟨c0, c1, c2⟩ := box3' hb
        have hl0 : ¬ (0 : Int) < (l.length : Int) := by omega
        go_wp2_with fail
        with_reducible refine (HA.out _ hE).mono ?_
        rintro e w5 ⟨rfl, hX5⟩
        have hE5 := Ext.trans hE hX5
        have hb5 := hX5.block hb
        obtain ⟨c0, c1, c2⟩ := box3' hb5
        have zB := lt_of_cell c0
        have hE5' := hE5.alloc (.cells #[.int .i64 xl, .int .i64 xh] 30)
        have hb5' := ((Ext.refl w5).alloc (.cells #[.int .i64 xl, .int .i64 xh] 30)).block hb5
        have hx5 := heap_alloc_new w5 (.cells #[.int .i64 xl, .int .i64 xh] 30)
        go_wp2_with fail
        obtain ⟨w6, hw6⟩ : ∃ w6, w5.alloc (.cells #[.int .i64 xl, .int .i64 xh] 30) = w6 := ⟨_, rfl⟩
        rw [hw6] at hE5' hb5' hx5 ⊢
        clear hw6 c0 c1 c2 zB hb5 hE5 hX5
        generalize w5.heap.size = X at hx5 ⊢
        with_reducible refine (HB.out _ hE5').mono ?_
        rintro e w7 ⟨rfl, hX7⟩
        have hE7 := hE5'.trans hX7
        have hb7 := hX7.block hb5'
        have hx7 := hX7.block hx5
        obtain ⟨c0, c1, c2⟩ := box3' hb7
        have zB := lt_of_cell c0
        have hE7' := hE7.alloc (.cells #[.int .i64 xl, .int .i64 xh] 30)
        have hb7' := ((Ext.refl w7).alloc (.cells #[.int .i64 xl, .int .i64 xh] 30)).block hb7
        have hx7' := ((Ext.refl w7).alloc (.cells #[.int .i64 xl, .int .i64 xh] 30)).block hx7
        have hy7 := heap_alloc_new w7 (.cells #[.int .i64 xl, .int .i64 xh] 30)
        go_wp2_with fail
        obtain ⟨w8, hw8⟩ : ∃ w8, w7.alloc (.cells #[.int .i64 xl, .int .i64 xh] 30) = w8 := ⟨_, rfl⟩
        rw [hw8] at hE7' hb7' hx7' hy7 ⊢
        clear hw8 c0 c1 c2 zB hb7 hE7 hX7 hx7 hx5
        generalize w7.heap.size = Y at hy7 ⊢
        with_reducible refine (HC.out _ hE7').mono ?_
        rintro e w9 ⟨rfl, hX9⟩
        have hE9 := hE7'.trans hX9
        obtain ⟨c0, c1, c2⟩ := box3' (hX9.block hb7')
        go_wp2_with fail
        with_reducible refine (HD.out _ hE9).mono ?_
        rintro e w10 ⟨rfl, hX10⟩
        have hE10 := hE9.trans hX10
        go_wp2_with fail
        with_reducible refine (sanity_any _ _ (Ext.refl _)).mono ?_
        rintro e w11 ⟨rfl, hX11⟩
        have hX711 := (hX9.trans hX10).trans hX11
        obtain ⟨x0, x1⟩ := box2 (hX711.block hx7')
        obtain ⟨y0, y1⟩ := box2 (hX711.block hy7)
        have qS := eql_sp'
        have qB : (cl.1 == cl.1) = true := by simp
        have qE : (cl.2 == cl.2) = true := by simp
        have qX : (xe == xe) = true := by simp
        clear hX711 hX9 hX10 c0 c1 c2 hb7' hx7' hy7 HA HB HC HD
        go_wp2_with fail
        go_ret
        exact ⟨rfl, hX.trans (hE10.trans hX11)⟩
    · obtain ⟨k0, k1, k2⟩ := box3' hb
      go_wp2_with fail
      with_reducible refine (sanity_any _ _ (Ext.refl _)).mono ?_
      rintro e w2 ⟨rfl, hX2⟩
      go_wp2_with fail
      go_ret
      exact ⟨rfl, hX.trans (hE.trans hX2)⟩
end Go.Proofs.Ytaggjclaehigjaa
