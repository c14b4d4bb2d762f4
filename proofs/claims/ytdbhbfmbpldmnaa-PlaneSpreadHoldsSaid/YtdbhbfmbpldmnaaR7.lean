/- Contracts of the specification's Winding and Where. -/
import Derived.Test.YtdbhbfmbpldmnaaR6
namespace Go.Proofs.Ytdbhbfmbpldmnaa
open Go.RowKit
theorem ringE_same {l : List (Int × Int)} {p : Int × Int} (h : (ringE l [] == 0) = false) : ringE l [p] = ringE l [] := by
  unfold ringE at *
  split
  · rename_i h3
    rw [if_pos h3] at h
    by_cases h5 : l.all okp = true
    · simp [h5] at h
    · rw [if_neg (by simp [h5]), if_neg (by simp [h5])]
  · rfl
theorem ringE_good {l : List (Int × Int)} {p : Int × Int} (h : ringE l [] = 0) (hp : okp p = true) : ringE l [p] = 0 := by
  obtain ⟨h3, h5, _⟩ := ringE_ok h
  unfold ringE
  rw [if_pos h3, if_pos ⟨h5, by simp [hp]⟩]
theorem ringE_bad {l : List (Int × Int)} {p : Int × Int} (h : ringE l [] = 0) (hp : okp p = false) : ringE l [p] = 1 := by
  obtain ⟨h3, h5, _⟩ := ringE_ok h
  unfold ringE
  rw [if_pos h3, if_neg (by simp [hp])]
set_option maxRecDepth 100000 in
set_option maxHeartbeats 1600000 in
theorem rWinding (W : World) (v : Value) (l : List (Int × Int)) (px py : Int) (w : World) (hX : Ext W w) (hv : Pts w v l) :
    Calls Try.prog 36 #[v, .agg #[.int .i64 px, .int .i64 py]] w fun e w' => e = .returned (.tuple #[.int .i64 (windR l (px, py)).1, .int .i64 (windR l (px, py)).2]) ∧ Ext W w' := by
  have HP := Lib.hid (ptsE_ring l)
  rcases ringE_cases l [] with h | h
  · have H := Lib.hid h
    obtain ⟨⟨h3, h4⟩, h5, _⟩ := ringE_ok h
    have H5 := Lib.hid h5
    clear h5
    cases hp : okp (px, py)
    · have HZ : Hid (windR l (px, py) = (0, 1)) := by
        unfold Hid windR
        rw [ringE_bad h hp]
        rfl
      have HO := Lib.hid hp
      clear h hp
      go_enter Try.func36, Try.ntmps36
      go_wp2_with (first | (go_at_call 94; refine (rpoints _ _ l 3 _ (Ext.refl _) (hv.ext ((Ext.refl _).alloc _))).mono ?_; rintro e w1 ⟨rfl, hX1⟩; rw [HP.out, H.out]; have hr := hX1.rule) | (go_at_call 18; refine (rValid _ _ _ _ hX1).mono ?_; rintro e w2 ⟨rfl, hX2⟩; rw [HO.out]))
      go_ret2
      rw [HZ.out]
      exact ⟨rfl, hX.b1 hX2⟩
    · have h0 := ringE_good h hp
      have HO := Lib.hid hp
      have hpp : okc px = true ∧ okc py = true := by simpa [okp] using hp
      have P1 := Lib.hid hpp.1
      have P2 := Lib.hid hpp.2
      clear h hp hpp
      cases hb : borderB l px py
      · have HZ : Hid (windR l (px, py) = (windZ l px py, 0)) := by unfold Hid windR; rw [if_pos h0, if_neg (by simp [hb])]
        have HB := Lib.hid hb
        clear hb h0
        go_enter Try.func36, Try.ntmps36
        go_wp2_with (first | (go_at_call 94; refine (rpoints _ _ l 3 _ (Ext.refl _) (hv.ext ((Ext.refl _).alloc _))).mono ?_; rintro e w1 ⟨rfl, hX1⟩; rw [HP.out, H.out]; have hr := hX1.rule) | (go_at_call 18; refine (rValid _ _ _ _ hX1).mono ?_; rintro e w2 ⟨rfl, hX2⟩; rw [HO.out]; have hr2 := hX2.rule) | (go_at_call 99; refine (ralong _ _ l _ _ _ hX2 (hv.ext (Ext.b1 (Ext.refl _) hX2)) h3 h4 H5.out P1.out P2.out).mono ?_; rintro e w3 ⟨rfl, hX3⟩; rw [HB.out]; have hr3 := hX3.rule) | (go_at_call 100; refine (rwinding _ _ l _ _ _ hX3 (hv.ext (Ext.b1 (Ext.refl _) hX3)) h3 h4 H5.out P1.out P2.out).mono ?_; rintro e w4 ⟨rfl, hX4⟩))
        go_ret2
        rw [HZ.out]
        exact ⟨rfl, hX.b1 (by assumption)⟩
      · have HZ : Hid (windR l (px, py) = (0, 4)) := by unfold Hid windR; rw [if_pos h0, if_pos hb]
        have HB := Lib.hid hb
        clear hb h0
        go_enter Try.func36, Try.ntmps36
        go_wp2_with (first | (go_at_call 94; refine (rpoints _ _ l 3 _ (Ext.refl _) (hv.ext ((Ext.refl _).alloc _))).mono ?_; rintro e w1 ⟨rfl, hX1⟩; rw [HP.out, H.out]; have hr := hX1.rule) | (go_at_call 18; refine (rValid _ _ _ _ hX1).mono ?_; rintro e w2 ⟨rfl, hX2⟩; rw [HO.out]; have hr2 := hX2.rule) | (go_at_call 99; refine (ralong _ _ l _ _ _ hX2 (hv.ext (Ext.b1 (Ext.refl _) hX2)) h3 h4 H5.out P1.out P2.out).mono ?_; rintro e w3 ⟨rfl, hX3⟩; rw [HB.out]; have hr3 := hX3.rule) | (go_at_call 100; refine (rwinding _ _ l _ _ _ hX3 (hv.ext (Ext.b1 (Ext.refl _) hX3)) h3 h4 H5.out P1.out P2.out).mono ?_; rintro e w4 ⟨rfl, hX4⟩))
        go_ret2
        rw [HZ.out]
        exact ⟨rfl, hX.b1 (by assumption)⟩
  · have HZ : Hid (windR l (px, py) = (0, ringE l [])) := by unfold Hid windR; rw [ringE_same h, if_neg (by simpa using h)]
    go_enter Try.func36, Try.ntmps36
    go_wp2_with (first | (go_at_call 94; refine (rpoints _ _ l 3 _ (Ext.refl _) (hv.ext ((Ext.refl _).alloc _))).mono ?_; rintro e w1 ⟨rfl, hX1⟩; rw [HP.out]))
    go_ret2
    rw [HZ.out]
    exact ⟨rfl, hX.b1 hX1⟩
set_option maxRecDepth 100000 in
set_option maxHeartbeats 1600000 in
theorem rWhere (W : World) (v : Value) (l : List (Int × Int)) (px py : Int) (w : World) (hX : Ext W w) (hv : Pts w v l) :
    Calls Try.prog 38 #[v, .agg #[.int .i64 px, .int .i64 py]] w fun e w' => e = .returned (.tuple #[.int .i64 (whereR l (px, py)).1, .int .i64 (whereR l (px, py)).2]) ∧ Ext W w' := by
  have HP := Lib.hid (ptsE_ring l)
  rcases ringE_cases l [] with h | h
  · have H := Lib.hid h
    obtain ⟨⟨h3, h4⟩, h5, _⟩ := ringE_ok h
    have H5 := Lib.hid h5
    clear h5
    cases hp : okp (px, py)
    · have HZ : Hid (whereR l (px, py) = (0, 1)) := by
        unfold Hid whereR
        rw [ringE_bad h hp]
        rfl
      have HO := Lib.hid hp
      clear h hp
      go_enter Try.func38, Try.ntmps38
      go_wp2_with (first | (go_at_call 94; refine (rpoints _ _ l 3 _ (Ext.refl _) (hv.ext ((Ext.refl _).alloc _))).mono ?_; rintro e w1 ⟨rfl, hX1⟩; rw [HP.out, H.out]; have hr := hX1.rule) | (go_at_call 18; refine (rValid _ _ _ _ hX1).mono ?_; rintro e w2 ⟨rfl, hX2⟩; rw [HO.out]))
      go_ret2
      rw [HZ.out]
      exact ⟨rfl, hX.b1 hX2⟩
    · have h0 := ringE_good h hp
      have HO := Lib.hid hp
      have hpp : okc px = true ∧ okc py = true := by simpa [okp] using hp
      have P1 := Lib.hid hpp.1
      have P2 := Lib.hid hpp.2
      clear h hp hpp
      cases hb : simpleB l
      · have HZ : Hid (whereR l (px, py) = (0, 4)) := by unfold Hid whereR; rw [if_pos h0, if_neg (by simp [hb])]
        have HB := Lib.hid hb
        clear hb h0
        go_enter Try.func38, Try.ntmps38
        go_wp2_with (first | (go_at_call 94; refine (rpoints _ _ l 3 _ (Ext.refl _) (hv.ext ((Ext.refl _).alloc _))).mono ?_; rintro e w1 ⟨rfl, hX1⟩; rw [HP.out, H.out]; have hr := hX1.rule) | (go_at_call 18; refine (rValid _ _ _ _ hX1).mono ?_; rintro e w2 ⟨rfl, hX2⟩; rw [HO.out]; have hr2 := hX2.rule) | (go_at_call 96; refine (rsimple _ _ l _ hX2 (hv.ext (Ext.b1 (Ext.refl _) hX2)) h3 h4).mono ?_; rintro e w3 ⟨rfl, hX3⟩; rw [HB.out]; have hr3 := hX3.rule) | (go_at_call 102; refine (rwhere _ _ l _ _ _ hX3 (hv.ext (Ext.b1 (Ext.refl _) hX3)) h3 h4 H5.out P1.out P2.out).mono ?_; rintro e w4 ⟨rfl, hX4⟩))
        go_ret2
        rw [HZ.out]
        exact ⟨rfl, hX.b1 (by assumption)⟩
      · have HZ : Hid (whereR l (px, py) = (whereZ l px py, 0)) := by unfold Hid whereR; rw [if_pos h0, if_pos hb]
        have HB := Lib.hid hb
        clear hb h0
        go_enter Try.func38, Try.ntmps38
        go_wp2_with (first | (go_at_call 94; refine (rpoints _ _ l 3 _ (Ext.refl _) (hv.ext ((Ext.refl _).alloc _))).mono ?_; rintro e w1 ⟨rfl, hX1⟩; rw [HP.out, H.out]; have hr := hX1.rule) | (go_at_call 18; refine (rValid _ _ _ _ hX1).mono ?_; rintro e w2 ⟨rfl, hX2⟩; rw [HO.out]; have hr2 := hX2.rule) | (go_at_call 96; refine (rsimple _ _ l _ hX2 (hv.ext (Ext.b1 (Ext.refl _) hX2)) h3 h4).mono ?_; rintro e w3 ⟨rfl, hX3⟩; rw [HB.out]; have hr3 := hX3.rule) | (go_at_call 102; refine (rwhere _ _ l _ _ _ hX3 (hv.ext (Ext.b1 (Ext.refl _) hX3)) h3 h4 H5.out P1.out P2.out).mono ?_; rintro e w4 ⟨rfl, hX4⟩))
        go_ret2
        rw [HZ.out]
        exact ⟨rfl, hX.b1 (by assumption)⟩
  · have HZ : Hid (whereR l (px, py) = (0, ringE l [])) := by unfold Hid whereR; rw [ringE_same h, if_neg (by simpa using h)]
    go_enter Try.func38, Try.ntmps38
    go_wp2_with (first | (go_at_call 94; refine (rpoints _ _ l 3 _ (Ext.refl _) (hv.ext ((Ext.refl _).alloc _))).mono ?_; rintro e w1 ⟨rfl, hX1⟩; rw [HP.out]))
    go_ret2
    rw [HZ.out]
    exact ⟨rfl, hX.b1 hX1⟩
end Go.Proofs.Ytdbhbfmbpldmnaa
