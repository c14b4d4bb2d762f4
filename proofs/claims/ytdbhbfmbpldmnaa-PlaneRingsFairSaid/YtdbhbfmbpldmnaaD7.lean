/- Contracts of Simple, Winding, where, Where. -/
import Derived.Test.YtdbhbfmbpldmnaaD5
import Derived.Test.YtdbhbfmbpldmnaaD6
namespace Go.Proofs.Ytdbhbfmbpldmnaa
open Go.RowKit
def whereZ (l : List (Int × Int)) (px py : Int) : Int := if borderB l px py = true then 0 else if windZ l px py = 0 then -1 else 1
set_option maxRecDepth 100000 in
set_option maxHeartbeats 800000 in
theorem where_any (W : World) (v : Value) (l : List (Int × Int)) (px py : Int) (w : World) (hX : Ext W w) (hv : Pts w v l) (h3 : 3 ≤ l.length) (h200 : l.length ≤ 200) (hok : l.all okp = true) (hp1 : okc px = true) (hp2 : okc py = true) :
    Calls Try.prog 101 #[v, .agg #[.int .i64 px, .int .i64 py]] w fun e w' => e = .returned (.int .i64 (whereZ l px py)) ∧ Ext W w' := by
  have H5 := Lib.hid hok
  have P1 := Lib.hid hp1
  have P2 := Lib.hid hp2
  clear hok hp1 hp2
  cases hb : borderB l px py
  · by_cases hw : windZ l px py = 0
    · have HZ : Hid (whereZ l px py = -1) := by unfold Hid whereZ; rw [hb, if_neg (by simp), if_pos hw]
      have HW := Lib.hid hw
      have HB := Lib.hid hb
      clear hw hb
      go_enter Try.func101, Try.ntmps101
      go_wp2_with (first | (go_at_call 97; refine (border_any _ _ l _ _ _ (Ext.refl _) (hv.ext ((Ext.refl _).alloc _)) h3 H5.out P1.out P2.out).mono ?_; rintro e w1 ⟨rfl, hX1⟩; have hr := hX1.rule; rw [HB.out]) | (go_at_call 98; refine (winding_any _ _ l _ _ _ (Ext.refl _) (hv.ext (Ext.b1 (Ext.refl _) hX1)) h3 h200 H5.out P1.out P2.out).mono ?_; rintro e w2 ⟨rfl, hX2⟩; rw [HW.out]))
      go_ret
      exact ⟨ret_int HZ.out.symm, (hX.b1 hX1).trans hX2⟩
    · have HZ : Hid (whereZ l px py = 1) := by unfold Hid whereZ; rw [hb, if_neg (by simp), if_neg hw]
      have hw2 : (windZ l px py != 0) = true := by simpa using hw
      have HB := Lib.hid hb
      clear hw hb
      go_enter Try.func101, Try.ntmps101
      go_wp2_with (first | (go_at_call 97; refine (border_any _ _ l _ _ _ (Ext.refl _) (hv.ext ((Ext.refl _).alloc _)) h3 H5.out P1.out P2.out).mono ?_; rintro e w1 ⟨rfl, hX1⟩; have hr := hX1.rule; rw [HB.out]) | (go_at_call 98; refine (winding_any _ _ l _ _ _ (Ext.refl _) (hv.ext (Ext.b1 (Ext.refl _) hX1)) h3 h200 H5.out P1.out P2.out).mono ?_; rintro e w2 ⟨rfl, hX2⟩))
      go_ret
      exact ⟨ret_int HZ.out.symm, (hX.b1 hX1).trans hX2⟩
  · have HZ : Hid (whereZ l px py = 0) := by unfold Hid whereZ; rw [hb, if_pos rfl]
    have HB := Lib.hid hb
    clear hb
    go_enter Try.func101, Try.ntmps101
    go_wp2_with (first | (go_at_call 97; refine (border_any _ _ l _ _ _ (Ext.refl _) (hv.ext ((Ext.refl _).alloc _)) h3 H5.out P1.out P2.out).mono ?_; rintro e w1 ⟨rfl, hX1⟩; have hr := hX1.rule; rw [HB.out]))
    go_ret
    exact ⟨ret_int HZ.out.symm, hX.b1 hX1⟩
theorem ret_bi {a b : Bool} {c d : Int} (h1 : a = b) (h2 : c = d) : (Ending.returned (.tuple #[.bool a, .int .i64 c])) = .returned (.tuple #[.bool b, .int .i64 d]) := by rw [h1, h2]
def simpleR (l : List (Int × Int)) : Bool × Int := if ringE l [] = 0 then (simpleB l, 0) else (false, ringE l [])
def windR (l : List (Int × Int)) (p : Int × Int) : Int × Int := if ringE l [p] = 0 then (if borderB l p.1 p.2 = true then (0, 4) else (windZ l p.1 p.2, 0)) else (0, ringE l [p])
def whereR (l : List (Int × Int)) (p : Int × Int) : Int × Int := if ringE l [p] = 0 then (if simpleB l = true then (whereZ l p.1 p.2, 0) else (0, 4)) else (0, ringE l [p])
set_option maxRecDepth 100000 in
set_option maxHeartbeats 800000 in
theorem Simple_any (W : World) (v : Value) (l : List (Int × Int)) (w : World) (hX : Ext W w) (hv : Pts w v l) :
    Calls Try.prog 33 #[v] w fun e w' => e = .returned (.tuple #[.bool (simpleR l).1, .int .i64 (simpleR l).2]) ∧ Ext W w' := by
  rcases ringE_cases l [] with h | h
  · obtain ⟨⟨h3, h4⟩, h5, _⟩ := ringE_ok h
    have HZ : Hid (simpleR l = (simpleB l, 0)) := by unfold Hid simpleR; rw [if_pos h]
    have H := Lib.hid h
    clear h h5
    go_enter Try.func33, Try.ntmps33
    go_wp2_with (first | (go_at_call 92; refine (ring_any w _ _ l [] _ (Ext.refl _) hv (Pts.nil _)).mono ?_; rintro e w1 ⟨rfl, hX1⟩; rw [H.out]) | (go_at_call 95; refine (simple_any w _ l _ hX1 (hv.ext hX1) h3 h4).mono ?_; rintro e w1 ⟨rfl, hX2⟩))
    go_ret2
    rw [HZ.out]
    exact ⟨rfl, hX.trans hX2⟩
  · have HZ : Hid (simpleR l = (false, ringE l [])) := by unfold Hid simpleR; rw [if_neg (by simpa using h)]
    go_enter Try.func33, Try.ntmps33
    go_wp2_with (first | (go_at_call 92; refine (ring_any w _ _ l [] _ (Ext.refl _) hv (Pts.nil _)).mono ?_; rintro e w1 ⟨rfl, hX1⟩))
    go_ret2
    rw [HZ.out]
    exact ⟨rfl, hX.trans hX1⟩
theorem Pts_one (w : World) (n : Nat) (hn : n = w.heap.size) (px py : Int) : Pts (w.alloc (.cells #[.int .i64 px, .int .i64 py] 23)) (.slice (some ⟨n, 0, none⟩) 1 1) [(px, py)] :=
  Pts_mk (l := [(px, py)]) hn rfl rfl (by simp [maxLen])
set_option maxRecDepth 100000 in
set_option maxHeartbeats 800000 in
theorem Winding_any (W : World) (v : Value) (l : List (Int × Int)) (px py : Int) (w : World) (hX : Ext W w) (hv : Pts w v l) :
    Calls Try.prog 35 #[v, .agg #[.int .i64 px, .int .i64 py]] w fun e w' => e = .returned (.tuple #[.int .i64 (windR l (px, py)).1, .int .i64 (windR l (px, py)).2]) ∧ Ext W w' := by
  rcases ringE_cases l [(px, py)] with h | h
  · obtain ⟨⟨h3, h4⟩, h5, h6⟩ := ringE_ok h
    simp only [List.all_cons, List.all_nil, Bool.and_true, okp, Bool.and_eq_true] at h6
    have H5 := Lib.hid h5
    have P1 := Lib.hid h6.1
    have P2 := Lib.hid h6.2
    have H := Lib.hid h
    clear h5 h6
    cases hb : borderB l px py
    · have HZ : Hid (windR l (px, py) = (windZ l px py, 0)) := by unfold Hid windR; rw [if_pos h, if_neg (by simp [hb])]
      have HB := Lib.hid hb
      clear h hb
      go_enter Try.func35, Try.ntmps35
      go_wp2_with (first | (go_at_call 92; refine (ring_any _ _ _ l [(px, py)] _ (Ext.refl _) (hv.ext (((Ext.refl _).alloc _).alloc _)) (Pts_one _ _ (by simp) _ _)).mono ?_; rintro e w1 ⟨rfl, hX1⟩; have hr := hX1.rule; rw [H.out]) | (go_at_call 97; refine (border_any _ _ l _ _ _ hX1 (hv.ext (Ext.b2 (Ext.refl _) hX1)) h3 H5.out P1.out P2.out).mono ?_; rintro e w2 ⟨rfl, hX2⟩; have hr2 := hX2.rule; rw [HB.out]) | (go_at_call 98; refine (winding_any _ _ l _ _ _ hX2 (hv.ext (Ext.b2 (Ext.refl _) hX2)) h3 h4 H5.out P1.out P2.out).mono ?_; rintro e w3 ⟨rfl, hX3⟩))
      go_ret2
      rw [HZ.out]
      exact ⟨rfl, hX.b2 hX3⟩
    · have HZ : Hid (windR l (px, py) = (0, 4)) := by unfold Hid windR; rw [if_pos h, if_pos hb]
      have HB := Lib.hid hb
      clear h hb
      go_enter Try.func35, Try.ntmps35
      go_wp2_with (first | (go_at_call 92; refine (ring_any _ _ _ l [(px, py)] _ (Ext.refl _) (hv.ext (((Ext.refl _).alloc _).alloc _)) (Pts_one _ _ (by simp) _ _)).mono ?_; rintro e w1 ⟨rfl, hX1⟩; have hr := hX1.rule; rw [H.out]) | (go_at_call 97; refine (border_any _ _ l _ _ _ hX1 (hv.ext (Ext.b2 (Ext.refl _) hX1)) h3 H5.out P1.out P2.out).mono ?_; rintro e w2 ⟨rfl, hX2⟩; rw [HB.out]))
      go_ret2
      rw [HZ.out]
      exact ⟨rfl, hX.b2 hX2⟩
  · have HZ : Hid (windR l (px, py) = (0, ringE l [(px, py)])) := by unfold Hid windR; rw [if_neg (by simpa using h)]
    go_enter Try.func35, Try.ntmps35
    go_wp2_with (first | (go_at_call 92; refine (ring_any _ _ _ l [(px, py)] _ (Ext.refl _) (hv.ext (((Ext.refl _).alloc _).alloc _)) (Pts_one _ _ (by simp) _ _)).mono ?_; rintro e w1 ⟨rfl, hX1⟩))
    go_ret2
    rw [HZ.out]
    exact ⟨rfl, hX.b2 hX1⟩
set_option maxRecDepth 100000 in
set_option maxHeartbeats 800000 in
theorem Where_any (W : World) (v : Value) (l : List (Int × Int)) (px py : Int) (w : World) (hX : Ext W w) (hv : Pts w v l) :
    Calls Try.prog 37 #[v, .agg #[.int .i64 px, .int .i64 py]] w fun e w' => e = .returned (.tuple #[.int .i64 (whereR l (px, py)).1, .int .i64 (whereR l (px, py)).2]) ∧ Ext W w' := by
  rcases ringE_cases l [(px, py)] with h | h
  · obtain ⟨⟨h3, h4⟩, h5, h6⟩ := ringE_ok h
    simp only [List.all_cons, List.all_nil, Bool.and_true, okp, Bool.and_eq_true] at h6
    have H5 := Lib.hid h5
    have P1 := Lib.hid h6.1
    have P2 := Lib.hid h6.2
    have H := Lib.hid h
    clear h5 h6
    cases hb : simpleB l
    · have HZ : Hid (whereR l (px, py) = (0, 4)) := by unfold Hid whereR; rw [if_pos h, if_neg (by simp [hb])]
      have HB := Lib.hid hb
      clear h hb
      go_enter Try.func37, Try.ntmps37
      go_wp2_with (first | (go_at_call 92; refine (ring_any _ _ _ l [(px, py)] _ (Ext.refl _) (hv.ext (((Ext.refl _).alloc _).alloc _)) (Pts_one _ _ (by simp) _ _)).mono ?_; rintro e w1 ⟨rfl, hX1⟩; have hr := hX1.rule; rw [H.out]) | (go_at_call 95; refine (simple_any _ _ l _ hX1 (hv.ext (Ext.b2 (Ext.refl _) hX1)) h3 h4).mono ?_; rintro e w2 ⟨rfl, hX2⟩; rw [HB.out]))
      go_ret2
      rw [HZ.out]
      exact ⟨rfl, hX.b2 hX2⟩
    · have HZ : Hid (whereR l (px, py) = (whereZ l px py, 0)) := by unfold Hid whereR; rw [if_pos h, if_pos hb]
      have HB := Lib.hid hb
      clear h hb
      go_enter Try.func37, Try.ntmps37
      go_wp2_with (first | (go_at_call 92; refine (ring_any _ _ _ l [(px, py)] _ (Ext.refl _) (hv.ext (((Ext.refl _).alloc _).alloc _)) (Pts_one _ _ (by simp) _ _)).mono ?_; rintro e w1 ⟨rfl, hX1⟩; have hr := hX1.rule; rw [H.out]) | (go_at_call 95; refine (simple_any _ _ l _ hX1 (hv.ext (Ext.b2 (Ext.refl _) hX1)) h3 h4).mono ?_; rintro e w2 ⟨rfl, hX2⟩; have hr2 := hX2.rule; rw [HB.out]) | (go_at_call 101; refine (where_any _ _ l _ _ _ hX2 (hv.ext (Ext.b2 (Ext.refl _) hX2)) h3 h4 H5.out P1.out P2.out).mono ?_; rintro e w3 ⟨rfl, hX3⟩))
      go_ret2
      rw [HZ.out]
      exact ⟨rfl, hX.b2 hX3⟩
  · have HZ : Hid (whereR l (px, py) = (0, ringE l [(px, py)])) := by unfold Hid whereR; rw [if_neg (by simpa using h)]
    go_enter Try.func37, Try.ntmps37
    go_wp2_with (first | (go_at_call 92; refine (ring_any _ _ _ l [(px, py)] _ (Ext.refl _) (hv.ext (((Ext.refl _).alloc _).alloc _)) (Pts_one _ _ (by simp) _ _)).mono ?_; rintro e w1 ⟨rfl, hX1⟩))
    go_ret2
    rw [HZ.out]
    exact ⟨rfl, hX.b2 hX1⟩
end Go.Proofs.Ytdbhbfmbpldmnaa
