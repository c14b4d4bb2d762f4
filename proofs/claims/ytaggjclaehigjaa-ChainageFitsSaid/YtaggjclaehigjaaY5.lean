/- The walk of the law ChainageFits. -/
import Derived.Test.YtaggjclaehigjaaK11
namespace Go.Proofs.Ytaggjclaehigjaa
open Go.RowKit
set_option maxRecDepth 100000 in
set_option maxHeartbeats 4000000 in
theorem lawFits (W : World) (C P R : List Five) (v : Value) (id Y : Int) (L : List Int) (vL : Value) (w : World) (hX : Ext W w) (hv : Wk w v C P R) (hL : Ints w vL L) (hYr : -9223372036854775808 ≤ Y ∧ Y ≤ 9223372036854775807) :
    Calls Try.prog 6 #[v, .agg #[.int .i64 id, .int .i64 Y, vL]] w fun e w' => e = .returned (.bool true) ∧ Ext W w' := by
  have HF := Lib.hid (fun w' (q : Ext w w') => few_any w' C P R v w' (Ext.refl _) (hv.ext q))
  have HA := Lib.hid (fun w' (q : Ext w w') => Fits_any w' C P R v id Y L vL w' (Ext.refl _) (hv.ext q) (hL.ext q))
  have HB := Lib.hid (fun w' (q : Ext w w') => rFits w' C P R v id Y L vL w' (Ext.refl _) (hv.ext q) (hL.ext q) hYr)
  obtain ⟨vC, vP, vR, rfl, -⟩ := hv
  obtain ⟨aL, capL, rfl, hlL, hmL, -⟩ := hL.parts
  obtain ⟨⟨a, b⟩, hr⟩ : ∃ r, fitsR C P R id Y L = r := ⟨_, rfl⟩
  rw [hr] at HA HB
  clear hr hL hlL hmL
  generalize fewB C P R = f at HF
  have hX0 : Ext w ((w.alloc (.cells #[vC, vP, vR] 26)).alloc (.cells #[.int .i64 id, .int .i64 Y, .slice aL L.length capL] 46)) := ((Ext.refl w).alloc _).alloc _
  have hb0 := ((Ext.refl _).alloc (.cells #[.int .i64 id, .int .i64 Y, .slice aL L.length capL] 46)).block (heap_alloc_new w (.cells #[vC, vP, vR] 26))
  have hb1 := heap_alloc_new (w.alloc (.cells #[vC, vP, vR] 26)) (.cells #[.int .i64 id, .int .i64 Y, .slice aL L.length capL] 46)
  rw [World.size_alloc] at hb1
  obtain ⟨B, hBB⟩ : ∃ B, w.heap.size = B := ⟨_, rfl⟩
  go_enter Try.func6, Try.ntmps6
  go_wp2_with fail
  rw [hBB] at hb0 hb1
  with_reducible refine (HF.out _ hX0).mono ?_
  rintro e w1 ⟨rfl, hX1⟩
  have hE1 := hX0.trans hX1
  replace hb0 := hX1.block hb0
  replace hb1 := hX1.block hb1
  clear hX1 hX0
  obtain ⟨c0, c1, c2⟩ := box3' hb0
  obtain ⟨x0, x1, x2⟩ := box3' hb1
  by_cases hbig : f = false ∨ 100 < (L.length : Int)
  · have hsan : f = false ∨ (f = true ∧ 100 < (L.length : Int)) := by
      cases f
      · exact .inl rfl
      · exact .inr ⟨rfl, hbig.resolve_left (by decide)⟩
    rcases hsan with rfl | ⟨rfl, hl⟩
    all_goals
      clear hbig
      go_wp2_with fail
      with_reducible refine (sanity_any _ _ (Ext.refl _)).mono ?_
      rintro e w2 ⟨rfl, hX2⟩
      go_wp2_with fail
      go_ret
      exact ⟨rfl, hX.trans (hE1.trans hX2)⟩
  · obtain rfl : f = true := by
      cases f
      · exact absurd (.inl rfl) hbig
      · rfl
    have hl : ¬ (100 < (L.length : Int)) := fun h => hbig (.inr h)
    clear hbig
    go_wp2_with fail
    with_reducible refine (HA.out _ hE1).mono ?_
    rintro e w2 ⟨rfl, hX2⟩
    have hE2 := hE1.trans hX2
    replace hb0 := hX2.block hb0
    replace hb1 := hX2.block hb1
    clear c0 c1 c2 x0 x1 x2 hX2 hE1
    obtain ⟨c0, c1, c2⟩ := box3' hb0
    obtain ⟨x0, x1, x2⟩ := box3' hb1
    go_wp2_with fail
    with_reducible refine (HB.out _ hE2).mono ?_
    rintro e w3 ⟨rfl, hX3⟩
    have hE3 := hE2.trans hX3
    go_wp2_with fail
    with_reducible refine (sanity_any _ _ (Ext.refl _)).mono ?_
    rintro e w4 ⟨rfl, hX4⟩
    go_wp2_with fail
    go_ret
    exact ⟨rfl, hX.trans (hE3.trans hX4)⟩
end Go.Proofs.Ytaggjclaehigjaa
