/- The walk of the law ChainageLengths. -/
import Derived.Test.YtaggjclaehigjaaY1
import Derived.Test.YtaggjclaehigjaaR11
namespace Go.Proofs.Ytaggjclaehigjaa
open Go.RowKit
set_option maxRecDepth 100000 in
set_option maxHeartbeats 4000000 in
theorem lawLengths (W : World) (C P R : List Five) (v : Value) (id y : Int) (w : World) (hX : Ext W w) (hv : Wk w v C P R) :
    Calls Try.prog 4 #[v, .int .i64 id, .int .i64 y] w fun e w' => e = .returned (.bool true) ∧ Ext W w' := by
  have HF := Lib.hid (fun w' (q : Ext w w') => few_any w' C P R v w' (Ext.refl _) (hv.ext q))
  have HA := Lib.hid (fun w' (q : Ext w w') => Long_any w' C P R v id y w' (Ext.refl _) (hv.ext q))
  have HB := Lib.hid (fun w' (q : Ext w w') => rLong w' C P R v id y w' (Ext.refl _) (hv.ext q))
  have HC := Lib.hid (fun w' (q : Ext w w') => RestsS w' C P R v id y w' (Ext.refl _) (hv.ext q))
  have HD := Lib.hid (fun w' (q : Ext w w') => rRests w' C P R v id y w' (Ext.refl _) (hv.ext q))
  obtain ⟨vC, vP, vR, rfl, -⟩ := hv
  obtain ⟨⟨⟨a, b⟩, n⟩, hr⟩ : ∃ r, longR C P R id y = r := ⟨_, rfl⟩
  rw [hr] at HA HB
  obtain ⟨⟨⟨l, t⟩, m⟩, hr2⟩ : ∃ r, restR C P R id y = r := ⟨_, rfl⟩
  rw [hr2] at HC HD
  clear hr hr2
  generalize fewB C P R = f at HF
  have hX0 : Ext w (w.alloc (.cells #[vC, vP, vR] 26)) := (Ext.refl w).alloc _
  have hb0 := heap_alloc_new w (.cells #[vC, vP, vR] 26)
  obtain ⟨B, hBB⟩ : ∃ B, w.heap.size = B := ⟨_, rfl⟩
  go_enter Try.func4, Try.ntmps4
  go_wp2_with fail
  rw [hBB] at hb0
  with_reducible refine (HF.out _ hX0).mono ?_
  rintro e w1 ⟨rfl, hX1⟩
  have hE1 := hX0.trans hX1
  have hb1 := hX1.block hb0
  clear hX1 hX0 hb0
  obtain ⟨c0, c1, c2⟩ := box3' hb1
  cases f
  · go_wp2_with fail
    with_reducible refine (sanity_any _ _ (Ext.refl _)).mono ?_
    rintro e w2 ⟨rfl, hX2⟩
    go_wp2_with fail
    go_ret
    exact ⟨rfl, hX.trans (hE1.trans hX2)⟩
  · go_wp2_with fail
    with_reducible refine (HA.out _ hE1).mono ?_
    rintro e w2 ⟨rfl, hX2⟩
    have hE2 := hE1.trans hX2
    have hb2 := hX2.block hb1
    obtain ⟨c0, c1, c2⟩ := box3' hb2
    have zB := lt_of_cell c0
    have hb2' := ((Ext.refl w2).alloc (.cells #[.int .i64 a, .int .i64 b] 30)).block hb2
    have ha := heap_alloc_new w2 (.cells #[.int .i64 a, .int .i64 b] 30)
    have hE2' := hE2.alloc (.cells #[.int .i64 a, .int .i64 b] 30)
    go_wp2_with fail
    obtain ⟨w3, hw3⟩ : ∃ w3, w2.alloc (.cells #[.int .i64 a, .int .i64 b] 30) = w3 := ⟨_, rfl⟩
    rw [hw3] at hb2' ha hE2' ⊢
    clear hw3 c0 c1 c2 hE2 hb2 hb1 hE1 hX2
    generalize w2.heap.size = A at ha ⊢
    with_reducible refine (HB.out _ hE2').mono ?_
    rintro e w4 ⟨rfl, hX4⟩
    have hE4 := hE2'.trans hX4
    have hb4 := hX4.block hb2'
    have ha4 := hX4.block ha
    obtain ⟨c0, c1, c2⟩ := box3' hb4
    have zB := lt_of_cell c0
    have hb5 := ((Ext.refl w4).alloc (.cells #[.int .i64 a, .int .i64 b] 30)).block hb4
    have ha5 := ((Ext.refl w4).alloc (.cells #[.int .i64 a, .int .i64 b] 30)).block ha4
    have hz5 := heap_alloc_new w4 (.cells #[.int .i64 a, .int .i64 b] 30)
    have hE5 := hE4.alloc (.cells #[.int .i64 a, .int .i64 b] 30)
    go_wp2_with fail
    obtain ⟨w5, hw5⟩ : ∃ w5, w4.alloc (.cells #[.int .i64 a, .int .i64 b] 30) = w5 := ⟨_, rfl⟩
    rw [hw5] at hb5 ha5 hz5 hE5 ⊢
    generalize w4.heap.size = Z at hz5 ⊢
    clear hw5 hE4 hb4 ha4 hX4 hb2' ha hE2' c0 c1 c2
    with_reducible refine (HC.out _ hE5).mono ?_
    rintro e w6 ⟨rfl, hX6⟩
    have hE6 := hE5.trans hX6
    have hb6 := hX6.block hb5
    obtain ⟨c0, c1, c2⟩ := box3' hb6
    go_wp2_with fail
    with_reducible refine (HD.out _ hE6).mono ?_
    rintro e w7 ⟨rfl, hX7⟩
    have hE7 := hE6.trans hX7
    have hX57 := hX6.trans hX7
    obtain ⟨a0, a1⟩ := box2 (hX57.block ha5)
    obtain ⟨z0, z1⟩ := box2 (hX57.block hz5)
    clear hX6 hX7 hX57 ha5 hz5 hb5 hb6 hE5 hE6 HA HB HC HD HF
    go_wp2_with fail
    with_reducible refine (sanity_any _ _ (Ext.refl _)).mono ?_
    rintro e w8 ⟨rfl, hX8⟩
    have a0 := hX8.cell a0
    have a1 := hX8.cell a1
    have z0 := hX8.cell z0
    have z1 := hX8.cell z1
    have qS := eql_sp
    go_wp2_with fail
    go_ret
    exact ⟨rfl, hX.trans (hE7.trans hX8)⟩
end Go.Proofs.Ytaggjclaehigjaa
