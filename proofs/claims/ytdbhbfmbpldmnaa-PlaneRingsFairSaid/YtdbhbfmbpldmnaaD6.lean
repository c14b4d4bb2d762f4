import Derived.Test.YtdbhbfmbpldmnaaD4
namespace Go.Proofs.Ytdbhbfmbpldmnaa
open Go.RowKit
def ringE (l more : List (Int × Int)) : Int := if 3 ≤ l.length ∧ l.length ≤ 200 then (if l.all okp = true ∧ more.all okp = true then 0 else 1) else 2
theorem Pts.nil (w : World) : Pts w (.slice none 0 0) [] := ⟨none, 0, rfl, Nat.le_refl _, by simp [maxLen], .inl rfl⟩
theorem Pts.len {w : World} {v : Value} {l : List (Int × Int)} (h : Pts w v l) : l.length ≤ 9223372036854775807 := by
  obtain ⟨a, cap, _, hl, hm, _⟩ := h
  unfold maxLen at hm
  omega
set_option maxRecDepth 100000 in
set_option maxHeartbeats 800000 in
theorem ring_any (W : World) (v u : Value) (l more : List (Int × Int)) (w : World) (hX : Ext W w) (hv : Pts w v l) (hu : Pts w u more) :
    Calls Try.prog 92 #[v, u] w fun e w' => e = .returned (.int .i64 (ringE l more)) ∧ Ext W w' := by
  have hlen := hv.len
  have hv0 := hv
  obtain ⟨a, cap, rfl, hl, hm, hc⟩ := hv
  by_cases h3 : 3 ≤ l.length ∧ l.length ≤ 200
  · have hw : Hid (winB (l.length : Int) 3 200 = true) := by unfold Hid winB; simp; omega
    cases h1 : l.all okp
    · have HZ : Hid (ringE l more = 1) := by unfold Hid ringE; rw [if_pos h3, if_neg (by simp [h1])]
      have H1 := Lib.hid h1
      clear h1 h3
      go_enter Try.func92, Try.ntmps92
      go_wp2_with (first | (go_at_call 76; refine (within_any w _ _ _ _ (Ext.refl _)).mono ?_; rintro e w1 ⟨rfl, hX1⟩; rw [hw.out]) | (go_at_call 78; refine (valid_any w _ l _ hX1 (hv0.ext hX1)).mono ?_; rintro e w1 ⟨rfl, hX2⟩; rw [H1.out]))
      go_ret
      exact ⟨ret_int HZ.out.symm, hX.trans (by assumption)⟩
    · cases h2 : more.all okp
      · have HZ : Hid (ringE l more = 1) := by unfold Hid ringE; rw [if_pos h3, if_neg (by simp [h2])]
        have H1 := Lib.hid h1
        have H2 := Lib.hid h2
        clear h1 h2 h3
        go_enter Try.func92, Try.ntmps92
        go_wp2_with (first | (go_at_call 76; refine (within_any w _ _ _ _ (Ext.refl _)).mono ?_; rintro e w1 ⟨rfl, hX1⟩; rw [hw.out]) | (go_at_call_of 78 (u); refine (valid_any w _ more _ hX2 (hu.ext hX2)).mono ?_; rintro e w1 ⟨rfl, hX3⟩; rw [H2.out]) | (go_at_call 78; refine (valid_any w _ l _ hX1 (hv0.ext hX1)).mono ?_; rintro e w1 ⟨rfl, hX2⟩; rw [H1.out]))
        go_ret
        exact ⟨ret_int HZ.out.symm, hX.trans hX3⟩
      · have HZ : Hid (ringE l more = 0) := by unfold Hid ringE; rw [if_pos h3, if_pos ⟨h1, h2⟩]
        have H1 := Lib.hid h1
        have H2 := Lib.hid h2
        clear h1 h2 h3
        go_enter Try.func92, Try.ntmps92
        go_wp2_with (first | (go_at_call 76; refine (within_any w _ _ _ _ (Ext.refl _)).mono ?_; rintro e w1 ⟨rfl, hX1⟩; rw [hw.out]) | (go_at_call_of 78 (u); refine (valid_any w _ more _ hX2 (hu.ext hX2)).mono ?_; rintro e w1 ⟨rfl, hX3⟩; rw [H2.out]) | (go_at_call 78; refine (valid_any w _ l _ hX1 (hv0.ext hX1)).mono ?_; rintro e w1 ⟨rfl, hX2⟩; rw [H1.out]))
        go_ret
        exact ⟨ret_int HZ.out.symm, hX.trans hX3⟩
  · have hw : Hid (winB (l.length : Int) 3 200 = false) := by unfold Hid winB; simp; omega
    have HZ : Hid (ringE l more = 2) := by unfold Hid ringE; rw [if_neg h3]
    clear h3
    go_enter Try.func92, Try.ntmps92
    go_wp2_with (first | (go_at_call 76; refine (within_any w _ _ _ _ (Ext.refl _)).mono ?_; rintro e w1 ⟨rfl, hX1⟩; rw [hw.out]))
    go_ret
    exact ⟨ret_int HZ.out.symm, hX.trans hX1⟩
theorem ringE_ok {l more : List (Int × Int)} (h : ringE l more = 0) : (3 ≤ l.length ∧ l.length ≤ 200) ∧ l.all okp = true ∧ more.all okp = true := by
  unfold ringE at h
  split at h
  · rename_i h3
    split at h
    · rename_i h4
      exact ⟨h3, h4⟩
    · cases h
  · cases h
theorem ringE_cases (l more : List (Int × Int)) : ringE l more = 0 ∨ (ringE l more == 0) = false := by
  cases h : (ringE l more == 0)
  · exact .inr rfl
  · exact .inl (by simpa using h)
theorem ret_two {a b c d : Int} (h1 : a = c) (h2 : b = d) : (Ending.returned (.tuple #[.int .i64 a, .int .i64 b])) = .returned (.tuple #[.int .i64 c, .int .i64 d]) := by rw [h1, h2]
def areaR (l : List (Int × Int)) : Int × Int := if ringE l [] = 0 then (areaZ l, 0) else (0, ringE l [])
set_option maxRecDepth 100000 in
set_option maxHeartbeats 800000 in
theorem Area_any (W : World) (v : Value) (l : List (Int × Int)) (w : World) (hX : Ext W w) (hv : Pts w v l) :
    Calls Try.prog 31 #[v] w fun e w' => e = .returned (.tuple #[.int .i64 (areaR l).1, .int .i64 (areaR l).2]) ∧ Ext W w' := by
  rcases ringE_cases l [] with h | h
  · obtain ⟨⟨h3, h4⟩, h5, _⟩ := ringE_ok h
    have HZ : Hid (areaR l = (areaZ l, 0)) := by unfold Hid areaR; rw [if_pos h]
    have H := Lib.hid h
    clear h
    go_enter Try.func31, Try.ntmps31
    go_wp2_with (first | (go_at_call 92; refine (ring_any w _ _ l [] _ (Ext.refl _) hv (Pts.nil _)).mono ?_; rintro e w1 ⟨rfl, hX1⟩; rw [H.out]) | (go_at_call 93; refine (area_any w _ l _ hX1 (hv.ext hX1) h3 h4 h5).mono ?_; rintro e w1 ⟨rfl, hX2⟩))
    go_ret2
    rw [HZ.out]
    exact ⟨rfl, hX.trans hX2⟩
  · have HZ : Hid (areaR l = (0, ringE l [])) := by unfold Hid areaR; rw [if_neg (by simpa using h)]
    go_enter Try.func31, Try.ntmps31
    go_wp2_with (first | (go_at_call 92; refine (ring_any w _ _ l [] _ (Ext.refl _) hv (Pts.nil _)).mono ?_; rintro e w1 ⟨rfl, hX1⟩))
    go_ret2
    rw [HZ.out]
    exact ⟨rfl, hX.trans hX1⟩
end Go.Proofs.Ytdbhbfmbpldmnaa
