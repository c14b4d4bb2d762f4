/- Contracts of the specification's functions: Links, Distance. -/
import Derived.Test.YtaggjclaehigjaaR12
namespace Go.Proofs.Ytaggjclaehigjaa
open Go.RowKit
/-- the links that a count can be -/
def linkS (m : Five) (a b : Int) : Int × Int := (max 0 (100 * m.c + m.d - m.e) * a / 10000, ((100 * m.c + m.d + m.e) * b + 9999) / 10000)
set_option maxRecDepth 100000 in
set_option maxHeartbeats 4000000 in
theorem rLinks (W : World) (m : Five) (a b : Int) (w : World) (hX : Ext W w) (h1 : 0 ≤ m.c ∧ m.c ≤ 100000) (h2 : 0 ≤ m.d ∧ m.d ≤ 99) (h3 : 0 ≤ m.e ∧ m.e ≤ 100000) (ha : 9000 ≤ a ∧ a ≤ 12000) (hb : 9000 ≤ b ∧ b ≤ 12000) :
    Calls Try.prog 77 #[v5 m, .agg #[.int .i64 a, .int .i64 b]] w fun e w' => e = .returned (.agg #[.int .i64 (linkS m a b).1, .int .i64 (linkS m a b).2]) ∧ Ext W w' := by
  have r1 := mul_rng (a := max 0 (100 * m.c + m.d - m.e)) (b := a) (A := 10000099) (B := 12000) (by omega) (by omega) (by omega) (by omega)
  have r2 := mul_rng (a := 100 * m.c + m.d + m.e) (b := b) (A := 10100099) (B := 12000) (by omega) (by omega) (by omega) (by omega)
  have hq2 : ((100 * m.c + m.d + m.e) * b + 9999).tdiv 10000 = ((100 * m.c + m.d + m.e) * b + 9999) / 10000 := Int.tdiv_eq_ediv_of_nonneg (by omega)
  have hbb := heap_alloc_new w (.cells #[.int .i64 m.a, .int .i64 m.b, .int .i64 m.c, .int .i64 m.d, .int .i64 m.e] 41)
  by_cases hm : 100 * m.c + m.d > m.e
  · have HL : Hid (linkS m a b = ((100 * m.c + m.d - m.e) * a / 10000, ((100 * m.c + m.d + m.e) * b + 9999) / 10000)) := by show _ = _; unfold linkS; rw [Int.max_eq_right (by omega)]
    rw [Int.max_eq_right (by omega)] at r1
    have hq1 : ((100 * m.c + m.d - m.e) * a).tdiv 10000 = (100 * m.c + m.d - m.e) * a / 10000 := Int.tdiv_eq_ediv_of_nonneg (by omega)
    generalize linkS m a b = L at HL ⊢
    go_enter Try.func77, Try.ntmps77
    go_wp2_with fail
    refine bodyPost_ret (v := .agg #[.int .i64 ((100 * m.c + m.d - m.e) * a / 10000), .int .i64 (((100 * m.c + m.d + m.e) * b + 9999) / 10000)]) (by simp [results, Try.results77, go_sem]) rfl ⟨by rw [HL.out], hX.trans ((((Ext.refl w).alloc _).alloc _).alloc _ |>.alloc _)⟩
  · have HL : Hid (linkS m a b = (0, ((100 * m.c + m.d + m.e) * b + 9999) / 10000)) := by show _ = _; unfold linkS; rw [Int.max_eq_left (by omega)]; simp
    generalize linkS m a b = L at HL ⊢
    go_enter Try.func77, Try.ntmps77
    go_wp2_with fail
    refine bodyPost_ret (v := .agg #[.int .i64 (0), .int .i64 (((100 * m.c + m.d + m.e) * b + 9999) / 10000)]) (by simp [results, Try.results77, go_sem]) rfl ⟨by rw [HL.out], hX.trans ((((Ext.refl w).alloc _).alloc _).alloc _ |>.alloc _)⟩
theorem dist_parts (C P R : List Five) (m : Five) : distM C P R m = if meaE C P R m = 0 then (if (longR C P R m.a m.b).2 = 0 then (linkS m (longR C P R m.a m.b).1.1 (longR C P R m.a m.b).1.2, 0) else ((0, 0), (longR C P R m.a m.b).2)) else ((0, 0), meaE C P R m) := by
  unfold distM distR meaE linkS
  by_cases h0 : chk C P R = 0
  · rw [if_pos h0, if_pos h0]
    cases hf : findC C m.a with
    | none => simp
    | some c =>
      simp only
      cases hm : okM c m.b m.c m.d m.e
      · simp
      · simp
  · rw [if_neg h0, if_neg h0, if_neg h0]
theorem meaE_zero {C P R : List Five} {m : Five} (h : meaE C P R m = 0) : ∃ c, chk C P R = 0 ∧ findC C m.a = some c ∧ okM c m.b m.c m.d m.e = true := by
  unfold meaE at h
  by_cases h0 : chk C P R = 0
  · rw [if_pos h0] at h
    cases hf : findC C m.a with
    | none => rw [hf] at h; simp at h
    | some c =>
      rw [hf] at h
      simp only at h
      cases hm : okM c m.b m.c m.d m.e
      · rw [hm] at h; simp at h
      · exact ⟨c, h0, rfl, hm⟩
  · rw [if_neg h0] at h
    exact absurd h h0
set_option maxRecDepth 100000 in
set_option maxHeartbeats 4000000 in
theorem rDistance (W : World) (C P R : List Five) (v : Value) (m : Five) (w : World) (hX : Ext W w) (hv : Wk w v C P R) :
    Calls Try.prog 35 #[v, v5 m] w fun e w' => e = .returned (spanT (distM C P R m)) ∧ Ext W w' := by
  have HME := Lib.hid (fun w' (q : Ext w w') => rMeasured w' C P R v m w' (Ext.refl _) (hv.ext q))
  have HLO := Lib.hid (fun w' (q : Ext w w') => rLong w' C P R v m.a m.b w' (Ext.refl _) (hv.ext q))
  obtain ⟨vC, vP, vR, rfl, -⟩ := hv
  have HDP := Lib.hid (dist_parts C P R m)
  have hX0 : Ext w (((w.alloc (.cells #[vC, vP, vR] 26)).alloc (.cells #[.int .i64 m.a, .int .i64 m.b, .int .i64 m.c, .int .i64 m.d, .int .i64 m.e] 41)).alloc (.cells #[.int .i64 0, .int .i64 0] 30)) := (((Ext.refl w).alloc _).alloc _).alloc _
  have hb0 := (((Ext.refl _).alloc (.cells #[.int .i64 m.a, .int .i64 m.b, .int .i64 m.c, .int .i64 m.d, .int .i64 m.e] 41)).alloc (.cells #[.int .i64 0, .int .i64 0] 30)).block (heap_alloc_new w (.cells #[vC, vP, vR] 26))
  have hb1 := ((Ext.refl _).alloc (.cells #[.int .i64 0, .int .i64 0] 30)).block (heap_alloc_new (w.alloc (.cells #[vC, vP, vR] 26)) (.cells #[.int .i64 m.a, .int .i64 m.b, .int .i64 m.c, .int .i64 m.d, .int .i64 m.e] 41))
  have hb2 := heap_alloc_new ((w.alloc (.cells #[vC, vP, vR] 26)).alloc (.cells #[.int .i64 m.a, .int .i64 m.b, .int .i64 m.c, .int .i64 m.d, .int .i64 m.e] 41)) (.cells #[.int .i64 0, .int .i64 0] 30)
  simp only [World.size_alloc] at hb1 hb2
  obtain ⟨B, hBB⟩ : ∃ B, w.heap.size = B := ⟨_, rfl⟩
  rw [hBB] at hb0 hb1 hb2
  go_enter Try.func35, Try.ntmps35
  go_wp2_with fail
  with_reducible refine (HME.out _ hX0).mono ?_
  rintro e w1 ⟨rfl, hX1⟩
  have hE1 := hX0.trans hX1
  have hb0 := hX1.block hb0
  have hb1 := hX1.block hb1
  have hb2 := hX1.block hb2
  obtain ⟨c0, c1, c2⟩ := box3' hb0
  obtain ⟨m0, m1, m2, m3, m4⟩ := box5' hb1
  obtain ⟨r0, r1⟩ := box2 hb2
  have f0 := frozen_cells ⟨_, hb2⟩ 0
  have f1 := frozen_cells ⟨_, hb2⟩ 1
  clear HME hX0 hX1
  by_cases h0 : meaE C P R m = 0
  · obtain ⟨c, hc0, hf, hm⟩ := meaE_zero h0
    rw [h0]
    rw [if_pos h0] at HDP
    obtain ⟨⟨⟨la, lb⟩, le⟩, hl⟩ : ∃ t, longR C P R m.a m.b = t := ⟨_, rfl⟩
    have HBD : Hid (le = 0 → (9000 ≤ la ∧ la ≤ 12000) ∧ 9000 ≤ lb ∧ lb ≤ 12000) := by
      intro e
      subst e
      unfold okM at hm
      simp only [Bool.and_eq_true] at hm
      exact long_bd hc0 hf hm.1.1.1 hl
    rw [hl] at HLO HDP
    unfold okM at hm
    simp only [Bool.and_eq_true, inB_iff] at hm
    clear hl hc0 hf h0
    go_wp2_with fail
    with_reducible refine (HLO.out _ hE1).mono ?_
    rintro e w2 ⟨rfl, hX2⟩
    have hE2 := hE1.trans hX2
    have hX3 := hX2.alloc (.cells #[.int .i64 la, .int .i64 lb] 30)
    have gb1 := hX2.block hb1
    have gb2 := hX2.block hb2
    have hb2 := hX3.block hb2
    have hb3 := heap_alloc_new w2 (.cells #[.int .i64 la, .int .i64 lb] 30)
    have hE3 := hE1.trans hX3
    obtain ⟨m0, m1, m2, m3, m4⟩ := box5' gb1
    obtain ⟨r0, r1⟩ := box2 gb2
    have f0 := frozen_cells ⟨_, gb2⟩ 0
    have f1 := frozen_cells ⟨_, gb2⟩ 1
    have zm := lt_of_cell m0
    have zr := lt_of_cell r0
    clear gb1 gb2
    by_cases hle : le = 0
    · subst hle
      obtain ⟨hla, hlb⟩ := HBD.out rfl
      have HR : Hid (distM C P R m = (linkS m la lb, 0)) := by show _ = _; rw [HDP.out]; rfl
      have HLK := Lib.hid (fun w' => rLinks w' m la lb w' (Ext.refl _) hm.1.1.2 hm.1.2 hm.2 hla hlb)
      generalize linkS m la lb = L at HR HLK
      clear hm HDP HLO c0 c1 c2 hb0
      go_wp2_with fail
      with_reducible refine (HLK.out _).mono ?_
      rintro e w4 ⟨rfl, hX4⟩
      have hb2 := hX4.block hb2
      obtain ⟨r0, r1⟩ := box2 hb2
      have f0 := frozen_cells ⟨_, hb2⟩ 0
      have f1 := frozen_cells ⟨_, hb2⟩ 1
      have hE4 := hE3.trans hX4
      go_wp2_with fail
      refine bodyPost_ret (v := .tuple #[.agg #[.int .i64 L.1, .int .i64 L.2], .int .i64 0]) (by simp [results, Try.results35, r0, r1, go_sem]) rfl ⟨by rw [HR.out], ?_⟩
      exact hX.trans ((hE4.setCell (by show w.heap.size ≤ B + 1 + 1; omega) _).setCell (by show w.heap.size ≤ B + 1 + 1; omega) _)
    · have HR : Hid (distM C P R m = ((0, 0), le)) := by show _ = _; rw [HDP.out, if_neg hle]
      have hnb : (le == 0) = false := by simpa using hle
      have hnb2 : (le != 0) = true := by simp [bne, hnb]
      clear hle HDP HLO c0 c1 c2 hb0
      go_wp2_with fail
      refine bodyPost_ret (v := .tuple #[.agg #[.int .i64 0, .int .i64 0], .int .i64 le]) (by simp [results, Try.results35, r0, r1, zr, go_sem]) rfl ⟨by rw [HR.out], ?_⟩
      exact hX.trans (((hE2.setCell (by show w.heap.size ≤ B + 1 + 1; omega) _).setCell (by show w.heap.size ≤ B + 1 + 1; omega) _).alloc _)
  · have HR : Hid (distM C P R m = ((0, 0), meaE C P R m)) := by show _ = _; rw [HDP.out, if_neg h0]
    have hnb : (meaE C P R m == 0) = false := by simpa using h0
    generalize meaE C P R m = n at HR hnb HDP ⊢
    have hnb2 : (n != 0) = true := by simp [bne, hnb]
    clear h0 HDP
    go_wp2_with fail
    refine bodyPost_ret (v := .tuple #[.agg #[.int .i64 0, .int .i64 0], .int .i64 n]) (by simp [results, Try.results35, r0, r1, go_sem]) rfl ⟨by rw [HR.out], ?_⟩
    exact hX.trans ((hE1.setCell (by show w.heap.size ≤ B + 1 + 1; omega) _).setCell (by show w.heap.size ≤ B + 1 + 1; omega) _)
end Go.Proofs.Ytaggjclaehigjaa
