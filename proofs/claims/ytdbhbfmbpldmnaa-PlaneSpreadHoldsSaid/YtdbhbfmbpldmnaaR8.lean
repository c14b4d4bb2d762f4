/- Contracts of the specification's Proper and Sides. -/
import Derived.Test.YtdbhbfmbpldmnaaR7
import Derived.Test.YtdbhbfmbpldmnaaD9
namespace Go.Proofs.Ytdbhbfmbpldmnaa
open Go.RowKit
theorem boxB_eq (x0 x1 y0 y1 : Int) : boxB x0 x1 y0 y1 = (((okp (x0, y0) && okp (x1, y1)) && decide (x0 ≤ x1)) && decide (y0 ≤ y1)) := by
  rw [Bool.eq_iff_iff]
  simp [boxB, spanB, winB, okp, okc]
  omega
set_option maxHeartbeats 800000 in
theorem rProperB (W : World) (x0 x1 y0 y1 : Int) (w : World) (hX : Ext W w) :
    Calls Try.prog 65 #[.agg #[.int .i64 x0, .int .i64 x1, .int .i64 y0, .int .i64 y1]] w fun e w' => e = .returned (.bool (boxB x0 x1 y0 y1)) ∧ Ext W w' := by
  have HZ := Lib.hid (boxB_eq x0 x1 y0 y1)
  go_enter Try.func65, Try.ntmps65
  go_wp2_with (first | (go_at_call 18; refine (rValid _ _ _ _ (by first | assumption | exact Ext.refl _)).mono ?_; rintro e w' ⟨rfl, hX1⟩; have hr := hX1.rule))
  all_goals
    go_ret
    exact ⟨ret_bool (by rw [HZ.out]; first | (simp [*]; done) | (simp [*]; omega)), hX.b1 (by assumption)⟩
set_option maxRecDepth 100000 in
set_option maxHeartbeats 1600000 in
theorem rSides_no1 (W : World) (v : Value) (l : List (Int × Int)) (x0 x1 y0 y1 : Int) (w : World) (hX : Ext W w) (hv : Pts w v l) (h : (ringE l [] == 0) = false) :
    Calls Try.prog 41 #[v, .agg #[.int .i64 x0, .int .i64 x1, .int .i64 y0, .int .i64 y1]] w fun e w' => e = .returned (.tuple #[.int .i64 (sidesR l x0 x1 y0 y1).1, .int .i64 (sidesR l x0 x1 y0 y1).2]) ∧ Ext W w' := by
  have HP := Lib.hid (ptsE_ring l)
  have HZ : Hid (sidesR l x0 x1 y0 y1 = (0, ringE l [])) := by unfold Hid sidesR; rw [if_neg (by simpa using h)]
  go_enter Try.func41, Try.ntmps41
  go_wp2_with fail
  have hE := fun i => cell_new w [.int .i64 x0, .int .i64 x1, .int .i64 y0, .int .i64 y1] 52 i
  have e0 := hE 0
  have e1 := hE 1
  have e2 := hE 2
  have e3 := hE 3
  simp only [List.getElem?_cons_zero, List.getElem?_cons_succ] at e0 e1 e2 e3
  have hXb := hX.alloc (.cells #[.int .i64 x0, .int .i64 x1, .int .i64 y0, .int .i64 y1] 52)
  have hvb := hv.ext ((Ext.refl w).alloc (.cells #[.int .i64 x0, .int .i64 x1, .int .i64 y0, .int .i64 y1] 52))
  obtain ⟨wb, hwb⟩ : ∃ wb, w.alloc (.cells #[.int .i64 x0, .int .i64 x1, .int .i64 y0, .int .i64 y1] 52) = wb := ⟨_, rfl⟩
  change w.alloc (.cells [Value.int .i64 x0, .int .i64 x1, .int .i64 y0, .int .i64 y1].toArray 52) = wb at hwb
  rw [hwb] at e0 e1 e2 e3
  change w.alloc (.cells #[.int .i64 x0, .int .i64 x1, .int .i64 y0, .int .i64 y1] 52) = wb at hwb
  rw [hwb] at hXb hvb ⊢
  clear hE hwb hX hv
  generalize w.heap.size = B at e0 e1 e2 e3 ⊢
  refine (rpoints wb _ l 3 _ (Ext.refl _) hvb).mono ?_
  rintro e w1 ⟨rfl, hX1⟩
  rw [HP.out]
  go_wp2_with fail
  go_ret2
  rw [HZ.out]
  exact ⟨rfl, hXb.trans hX1⟩
set_option maxRecDepth 100000 in
set_option maxHeartbeats 1600000 in
theorem rSides_no2 (W : World) (v : Value) (l : List (Int × Int)) (x0 x1 y0 y1 : Int) (w : World) (hX : Ext W w) (hv : Pts w v l) (h : ringE l [] = 0) (hb : boxB x0 x1 y0 y1 = false) :
    Calls Try.prog 41 #[v, .agg #[.int .i64 x0, .int .i64 x1, .int .i64 y0, .int .i64 y1]] w fun e w' => e = .returned (.tuple #[.int .i64 (sidesR l x0 x1 y0 y1).1, .int .i64 (sidesR l x0 x1 y0 y1).2]) ∧ Ext W w' := by
  have HP := Lib.hid (ptsE_ring l)
  have HZ : Hid (sidesR l x0 x1 y0 y1 = (0, 1)) := by unfold Hid sidesR; rw [if_pos h, if_neg (by simp [hb])]
  have H := Lib.hid h
  have HB := Lib.hid hb
  clear h hb
  go_enter Try.func41, Try.ntmps41
  go_wp2_with fail
  have hE := fun i => cell_new w [.int .i64 x0, .int .i64 x1, .int .i64 y0, .int .i64 y1] 52 i
  have e0 := hE 0
  have e1 := hE 1
  have e2 := hE 2
  have e3 := hE 3
  simp only [List.getElem?_cons_zero, List.getElem?_cons_succ] at e0 e1 e2 e3
  have hXb := hX.alloc (.cells #[.int .i64 x0, .int .i64 x1, .int .i64 y0, .int .i64 y1] 52)
  have hvb := hv.ext ((Ext.refl w).alloc (.cells #[.int .i64 x0, .int .i64 x1, .int .i64 y0, .int .i64 y1] 52))
  obtain ⟨wb, hwb⟩ : ∃ wb, w.alloc (.cells #[.int .i64 x0, .int .i64 x1, .int .i64 y0, .int .i64 y1] 52) = wb := ⟨_, rfl⟩
  change w.alloc (.cells [Value.int .i64 x0, .int .i64 x1, .int .i64 y0, .int .i64 y1].toArray 52) = wb at hwb
  rw [hwb] at e0 e1 e2 e3
  change w.alloc (.cells #[.int .i64 x0, .int .i64 x1, .int .i64 y0, .int .i64 y1] 52) = wb at hwb
  rw [hwb] at hXb hvb ⊢
  clear hE hwb hX hv
  generalize w.heap.size = B at e0 e1 e2 e3 ⊢
  refine (rpoints wb _ l 3 _ (Ext.refl _) hvb).mono ?_
  rintro e w1 ⟨rfl, hX1⟩
  rw [HP.out]
  rw [H.out]
  have f0 := hX1.cell e0
  have f1 := hX1.cell e1
  have f2 := hX1.cell e2
  have f3 := hX1.cell e3
  go_wp2_with (go_at_call 65; refine (rProperB wb _ _ _ _ _ (by assumption)).mono ?_; rintro e w2 ⟨rfl, hX2⟩; rw [HB.out]; have g0 := hX2.cell e0; have g1 := hX2.cell e1; have g2 := hX2.cell e2; have g3 := hX2.cell e3)
  go_ret2
  rw [HZ.out]
  exact ⟨rfl, hXb.trans hX2⟩
set_option maxRecDepth 100000 in
set_option maxHeartbeats 1600000 in
theorem rSides_no3 (W : World) (v : Value) (l : List (Int × Int)) (x0 x1 y0 y1 : Int) (w : World) (hX : Ext W w) (hv : Pts w v l) (h : ringE l [] = 0) (hb : boxB x0 x1 y0 y1 = true) (ha : 4096 < (x1 - x0 + 1) * (y1 - y0 + 1)) :
    Calls Try.prog 41 #[v, .agg #[.int .i64 x0, .int .i64 x1, .int .i64 y0, .int .i64 y1]] w fun e w' => e = .returned (.tuple #[.int .i64 (sidesR l x0 x1 y0 y1).1, .int .i64 (sidesR l x0 x1 y0 y1).2]) ∧ Ext W w' := by
  have HP := Lib.hid (ptsE_ring l)
  have HZ : Hid (sidesR l x0 x1 y0 y1 = (0, 2)) := by unfold Hid sidesR; rw [if_pos h, if_pos hb, if_pos ha]
  obtain ⟨⟨⟨k1, k2⟩, k3⟩, ⟨k4, k5⟩, k6⟩ := boxB_ok hb
  have hq := mul_bd (a := x1 - x0 + 1) (b := y1 - y0 + 1) (A := 2097153) (B := 2097153) (by omega) (by omega) (by omega) (by omega)
  have hw : IntKind.i64.wrap ((x1 - x0 + 1) * (y1 - y0 + 1)) = (x1 - x0 + 1) * (y1 - y0 + 1) := IntWalk.i64_in _ (by omega)
  have H := Lib.hid h
  have HB := Lib.hid hb
  clear h hb hq
  go_enter Try.func41, Try.ntmps41
  go_wp2_with fail
  have hE := fun i => cell_new w [.int .i64 x0, .int .i64 x1, .int .i64 y0, .int .i64 y1] 52 i
  have e0 := hE 0
  have e1 := hE 1
  have e2 := hE 2
  have e3 := hE 3
  simp only [List.getElem?_cons_zero, List.getElem?_cons_succ] at e0 e1 e2 e3
  have hXb := hX.alloc (.cells #[.int .i64 x0, .int .i64 x1, .int .i64 y0, .int .i64 y1] 52)
  have hvb := hv.ext ((Ext.refl w).alloc (.cells #[.int .i64 x0, .int .i64 x1, .int .i64 y0, .int .i64 y1] 52))
  obtain ⟨wb, hwb⟩ : ∃ wb, w.alloc (.cells #[.int .i64 x0, .int .i64 x1, .int .i64 y0, .int .i64 y1] 52) = wb := ⟨_, rfl⟩
  change w.alloc (.cells [Value.int .i64 x0, .int .i64 x1, .int .i64 y0, .int .i64 y1].toArray 52) = wb at hwb
  rw [hwb] at e0 e1 e2 e3
  change w.alloc (.cells #[.int .i64 x0, .int .i64 x1, .int .i64 y0, .int .i64 y1] 52) = wb at hwb
  rw [hwb] at hXb hvb ⊢
  clear hE hwb hX hv
  generalize w.heap.size = B at e0 e1 e2 e3 ⊢
  refine (rpoints wb _ l 3 _ (Ext.refl _) hvb).mono ?_
  rintro e w1 ⟨rfl, hX1⟩
  rw [HP.out]
  rw [H.out]
  have f0 := hX1.cell e0
  have f1 := hX1.cell e1
  have f2 := hX1.cell e2
  have f3 := hX1.cell e3
  go_wp2_with (go_at_call 65; refine (rProperB wb _ _ _ _ _ (by assumption)).mono ?_; rintro e w2 ⟨rfl, hX2⟩; rw [HB.out]; have g0 := hX2.cell e0; have g1 := hX2.cell e1; have g2 := hX2.cell e2; have g3 := hX2.cell e3)
  go_ret2
  rw [HZ.out]
  exact ⟨rfl, hXb.trans hX2⟩
set_option maxRecDepth 100000 in
set_option maxHeartbeats 1600000 in
theorem rSides_no4 (W : World) (v : Value) (l : List (Int × Int)) (x0 x1 y0 y1 : Int) (w : World) (hX : Ext W w) (hv : Pts w v l) (h : ringE l [] = 0) (hb : boxB x0 x1 y0 y1 = true) (ha : ¬ 4096 < (x1 - x0 + 1) * (y1 - y0 + 1)) (hs : simpleB l = false) :
    Calls Try.prog 41 #[v, .agg #[.int .i64 x0, .int .i64 x1, .int .i64 y0, .int .i64 y1]] w fun e w' => e = .returned (.tuple #[.int .i64 (sidesR l x0 x1 y0 y1).1, .int .i64 (sidesR l x0 x1 y0 y1).2]) ∧ Ext W w' := by
  have HP := Lib.hid (ptsE_ring l)
  have HZ : Hid (sidesR l x0 x1 y0 y1 = (0, 4)) := by unfold Hid sidesR; rw [if_pos h, if_pos hb, if_neg ha, if_neg (by simp [hs])]
  obtain ⟨⟨h3, h4⟩, _, _⟩ := ringE_ok h
  obtain ⟨⟨⟨k1, k2⟩, k3⟩, ⟨k4, k5⟩, k6⟩ := boxB_ok hb
  have hq := mul_bd (a := x1 - x0 + 1) (b := y1 - y0 + 1) (A := 2097153) (B := 2097153) (by omega) (by omega) (by omega) (by omega)
  have hw : IntKind.i64.wrap ((x1 - x0 + 1) * (y1 - y0 + 1)) = (x1 - x0 + 1) * (y1 - y0 + 1) := IntWalk.i64_in _ (by omega)
  have H := Lib.hid h
  have HB := Lib.hid hb
  have HS := Lib.hid hs
  clear h hb hq hs
  go_enter Try.func41, Try.ntmps41
  go_wp2_with fail
  have hE := fun i => cell_new w [.int .i64 x0, .int .i64 x1, .int .i64 y0, .int .i64 y1] 52 i
  have e0 := hE 0
  have e1 := hE 1
  have e2 := hE 2
  have e3 := hE 3
  simp only [List.getElem?_cons_zero, List.getElem?_cons_succ] at e0 e1 e2 e3
  have hXb := hX.alloc (.cells #[.int .i64 x0, .int .i64 x1, .int .i64 y0, .int .i64 y1] 52)
  have hvb := hv.ext ((Ext.refl w).alloc (.cells #[.int .i64 x0, .int .i64 x1, .int .i64 y0, .int .i64 y1] 52))
  obtain ⟨wb, hwb⟩ : ∃ wb, w.alloc (.cells #[.int .i64 x0, .int .i64 x1, .int .i64 y0, .int .i64 y1] 52) = wb := ⟨_, rfl⟩
  change w.alloc (.cells [Value.int .i64 x0, .int .i64 x1, .int .i64 y0, .int .i64 y1].toArray 52) = wb at hwb
  rw [hwb] at e0 e1 e2 e3
  change w.alloc (.cells #[.int .i64 x0, .int .i64 x1, .int .i64 y0, .int .i64 y1] 52) = wb at hwb
  rw [hwb] at hXb hvb ⊢
  clear hE hwb hX hv
  generalize w.heap.size = B at e0 e1 e2 e3 ⊢
  refine (rpoints wb _ l 3 _ (Ext.refl _) hvb).mono ?_
  rintro e w1 ⟨rfl, hX1⟩
  rw [HP.out]
  rw [H.out]
  have f0 := hX1.cell e0
  have f1 := hX1.cell e1
  have f2 := hX1.cell e2
  have f3 := hX1.cell e3
  go_wp2_with (first | (go_at_call 65; refine (rProperB wb _ _ _ _ _ (by assumption)).mono ?_; rintro e w2 ⟨rfl, hX2⟩; rw [HB.out]; have g0 := hX2.cell e0; have g1 := hX2.cell e1; have g2 := hX2.cell e2; have g3 := hX2.cell e3) | (go_at_call 96; refine (rsimple wb _ l _ hX2 (hvb.ext hX2) h3 h4).mono ?_; rintro e w3 ⟨rfl, hX3⟩; rw [HS.out]; have i0 := hX3.cell e0; have i1 := hX3.cell e1; have i2 := hX3.cell e2; have i3 := hX3.cell e3))
  go_ret2
  rw [HZ.out]
  exact ⟨rfl, hXb.trans hX3⟩
set_option maxRecDepth 100000 in
set_option maxHeartbeats 3200000 in
theorem rSides_ok (W : World) (v : Value) (l : List (Int × Int)) (x0 x1 y0 y1 : Int) (w : World) (hX : Ext W w) (hv : Pts w v l) (h : ringE l [] = 0) (hb : boxB x0 x1 y0 y1 = true) (ha : ¬ 4096 < (x1 - x0 + 1) * (y1 - y0 + 1)) (hs : simpleB l = true) :
    Calls Try.prog 41 #[v, .agg #[.int .i64 x0, .int .i64 x1, .int .i64 y0, .int .i64 y1]] w fun e w' => e = .returned (.tuple #[.int .i64 (sidesR l x0 x1 y0 y1).1, .int .i64 (sidesR l x0 x1 y0 y1).2]) ∧ Ext W w' := by
  have HP := Lib.hid (ptsE_ring l)
  have HZ : Hid (sidesR l x0 x1 y0 y1 = (signsZ (whereZ l) x0 x1 y0 y1, 0)) := by unfold Hid sidesR; rw [if_pos h, if_pos hb, if_neg ha, if_pos hs]
  obtain ⟨⟨h3, h4⟩, h5, _⟩ := ringE_ok h
  have H5 := Lib.hid h5
  clear h5
  obtain ⟨⟨⟨k1, k2⟩, k3⟩, ⟨k4, k5⟩, k6⟩ := boxB_ok hb
  have hq := mul_bd (a := x1 - x0 + 1) (b := y1 - y0 + 1) (A := 2097153) (B := 2097153) (by omega) (by omega) (by omega) (by omega)
  have hw : IntKind.i64.wrap ((x1 - x0 + 1) * (y1 - y0 + 1)) = (x1 - x0 + 1) * (y1 - y0 + 1) := IntWalk.i64_in _ (by omega)
  have H := Lib.hid h
  have HB := Lib.hid hb
  have HS := Lib.hid hs
  clear h hb hq hs
  go_enter Try.func41, Try.ntmps41
  go_wp2_with fail
  have hE := fun i => cell_new w [.int .i64 x0, .int .i64 x1, .int .i64 y0, .int .i64 y1] 52 i
  have e0 := hE 0
  have e1 := hE 1
  have e2 := hE 2
  have e3 := hE 3
  simp only [List.getElem?_cons_zero, List.getElem?_cons_succ] at e0 e1 e2 e3
  have hXb := hX.alloc (.cells #[.int .i64 x0, .int .i64 x1, .int .i64 y0, .int .i64 y1] 52)
  have hvb := hv.ext ((Ext.refl w).alloc (.cells #[.int .i64 x0, .int .i64 x1, .int .i64 y0, .int .i64 y1] 52))
  obtain ⟨wb, hwb⟩ : ∃ wb, w.alloc (.cells #[.int .i64 x0, .int .i64 x1, .int .i64 y0, .int .i64 y1] 52) = wb := ⟨_, rfl⟩
  change w.alloc (.cells [Value.int .i64 x0, .int .i64 x1, .int .i64 y0, .int .i64 y1].toArray 52) = wb at hwb
  rw [hwb] at e0 e1 e2 e3
  change w.alloc (.cells #[.int .i64 x0, .int .i64 x1, .int .i64 y0, .int .i64 y1] 52) = wb at hwb
  rw [hwb] at hXb hvb ⊢
  clear hE hwb hX hv
  generalize w.heap.size = B at e0 e1 e2 e3 ⊢
  refine (rpoints wb _ l 3 _ (Ext.refl _) hvb).mono ?_
  rintro e w1 ⟨rfl, hX1⟩
  rw [HP.out]
  rw [H.out]
  have f0 := hX1.cell e0
  have f1 := hX1.cell e1
  have f2 := hX1.cell e2
  have f3 := hX1.cell e3
  go_wp2_with (first | (go_at_call 65; refine (rProperB wb _ _ _ _ _ (by assumption)).mono ?_; rintro e w2 ⟨rfl, hX2⟩; rw [HB.out]; have g0 := hX2.cell e0; have g1 := hX2.cell e1; have g2 := hX2.cell e2; have g3 := hX2.cell e3) | (go_at_call 96; refine (rsimple wb _ l _ hX2 (hvb.ext hX2) h3 h4).mono ?_; rintro e w3 ⟨rfl, hX3⟩; rw [HS.out]; have i0 := hX3.cell e0; have i1 := hX3.cell e1; have i2 := hX3.cell e2; have i3 := hX3.cell e3))
  clear f0 f1 f2 f3 g0 g1 g2 g3 i0 i1 i2 i3 hX1 hX2 ha hw
  go_loopw [9, 10, 11, 12, 13] (fun p q r x _ wr => ∃ (a : Int) (s0 s1 s2 : Bool), x = .int .i64 a ∧ p = .int .i64 (b2z s0 1) ∧ q = .int .i64 (b2z s1 2) ∧ r = .int .i64 (b2z s2 4) ∧ x0 ≤ a ∧ a ≤ x1 + 1 ∧ Hid (Flags (whereZ l) x0 y0 y1 a y0 s0 s1 s2) ∧ Ext wb wr) (fun _ _ _ x _ _ => (x1 + 1 - intOf x).toNat)
  case atStart => exact ⟨x0, false, false, false, rfl, rfl, rfl, rfl, by omega, by omega, flags_none _ _ _ _, hX3⟩
  case round =>
    obtain ⟨a, s0, s1, s2, rfl, rfl, rfl, rfl, ha0, ha1, hF, hx⟩ := hrel
    have i0 := hx.cell e0
    have i1 := hx.cell e1
    have i2 := hx.cell e2
    have i3 := hx.cell e3
    by_cases hax : a ≤ x1
    · go_wp2_with fail
      clear i0 i1 i2 i3
      have oa : Hid (okc a = true) := (okc_iff a).2 (by omega)
      go_loopw [9, 10, 11, 13] (fun p q r y wr => ∃ (c : Int) (s0 s1 s2 : Bool), y = .int .i64 c ∧ p = .int .i64 (b2z s0 1) ∧ q = .int .i64 (b2z s1 2) ∧ r = .int .i64 (b2z s2 4) ∧ y0 ≤ c ∧ c ≤ y1 + 1 ∧ Hid (Flags (whereZ l) x0 y0 y1 a c s0 s1 s2) ∧ Ext wb wr) (fun _ _ _ y _ => (y1 + 1 - intOf y).toNat)
      case atStart => exact ⟨y0, s0, s1, s2, rfl, rfl, rfl, rfl, by omega, by omega, hF, hx⟩
      case round =>
        clear hx hF
        obtain ⟨c, s0, s1, s2, rfl, rfl, rfl, rfl, hc0, hc1, hF, hx⟩ := hrel
        have i0 := hx.cell e0
        have i1 := hx.cell e1
        have i2 := hx.cell e2
        have i3 := hx.cell e3
        by_cases hcy : c ≤ y1
        · have oc : Hid (okc c = true) := (okc_iff c).2 (by omega)
          have hF2 := Lib.hid (flags_step hF.out ha0 hc0 hcy)
          have HW : ∃ k, whereZ l a c = k ∧ (k = -1 ∨ k = 0 ∨ k = 1) := ⟨_, rfl, whereZ_cases l a c⟩
          obtain ⟨k, hk, hk3⟩ := HW
          rw [hk] at hF2
          have HK := Lib.hid hk
          clear hk hF
          go_wp2_with fail
          clear i0 i1 i2 i3
          refine (rwhere wr _ l _ _ _ (Ext.refl _) (hvb.ext hx) h3 h4 H5.out oa.out oc.out).mono ?_
          rintro e w5 ⟨rfl, hX5⟩
          rw [HK.out]
          have hx5 := hx.trans hX5
          rcases hk3 with rfl | rfl | rfl
          all_goals
            go_wp2_with fail
            exact ⟨⟨c + 1, _, _, _, rfl, ret_v (by simp [b2z]), ret_v (by simp [b2z]), ret_v (by simp [b2z]), by omega, by omega, hF2.out, hx5⟩, by simp [intOf]; omega⟩
        · go_wp2_with fail
          exact ⟨⟨a + 1, s0, s1, s2, rfl, rfl, rfl, rfl, by omega, by omega, flags_row hF.out (by omega), hx⟩, by simp [intOf]; omega⟩
    · obtain rfl : a = x1 + 1 := by omega
      have hS := Lib.hid (signs_flags hF.out)
      clear hF ha0 ha1
      cases s0 <;> cases s1 <;> cases s2
      all_goals
        simp only [b2z, if_true, Bool.false_eq_true, if_false]
        go_wp2_with fail
        go_ret2
        rw [HZ.out, hS.out]
        exact ⟨rfl, hXb.trans hx⟩
theorem rSides (W : World) (v : Value) (l : List (Int × Int)) (x0 x1 y0 y1 : Int) (w : World) (hX : Ext W w) (hv : Pts w v l) :
    Calls Try.prog 41 #[v, .agg #[.int .i64 x0, .int .i64 x1, .int .i64 y0, .int .i64 y1]] w fun e w' => e = .returned (.tuple #[.int .i64 (sidesR l x0 x1 y0 y1).1, .int .i64 (sidesR l x0 x1 y0 y1).2]) ∧ Ext W w' := by
  rcases ringE_cases l [] with h | h
  · cases hb : boxB x0 x1 y0 y1
    · exact rSides_no2 W v l x0 x1 y0 y1 w hX hv h hb
    · by_cases ha : 4096 < (x1 - x0 + 1) * (y1 - y0 + 1)
      · exact rSides_no3 W v l x0 x1 y0 y1 w hX hv h hb ha
      · cases hs : simpleB l
        · exact rSides_no4 W v l x0 x1 y0 y1 w hX hv h hb ha hs
        · exact rSides_ok W v l x0 x1 y0 y1 w hX hv h hb ha hs
  · exact rSides_no1 W v l x0 x1 y0 y1 w hX hv h
end Go.Proofs.Ytdbhbfmbpldmnaa
