/- The walk of the law ChainageProves. -/
import Derived.Test.YtaggjclaehigjaaKP
import Derived.Test.YtaggjclaehigjaaRP
import Derived.Test.YtaggjclaehigjaaWX
namespace Go.Proofs.Ytaggjclaehigjaa
open Go.RowKit
set_option maxRecDepth 100000 in
set_option maxHeartbeats 8000000 in
theorem lawProves (W : World) (C P R : List Five) (v : Value) (id y lo hi : Int) (w : World) (hX : Ext W w) (hv : Wk w v C P R) (hlo : -9223372036854775808 ≤ lo ∧ lo ≤ 9223372036854775807) (hhi : -9223372036854775808 ≤ hi ∧ hi ≤ 9223372036854775807) :
    Calls Try.prog 13 #[v, .int .i64 id, .int .i64 y, .agg #[.int .i64 lo, .int .i64 hi]] w fun e w' => e = .returned (.bool true) ∧ Ext W w' := by
  have HF := Lib.hid (fun w' (q : Ext w w') => few_any w' C P R v w' (Ext.refl _) (hv.ext q))
  have HA := Lib.hid (fun w' (q : Ext w w') => Prove_any w' C P R v id y lo hi w' (Ext.refl _) (hv.ext q))
  have HB := Lib.hid (fun w' (q : Ext w w') => rProve w' C P R v id y lo hi w' (Ext.refl _) (hv.ext q))
  obtain ⟨vC, vP, vR, rfl, -, hP, hR, hn0⟩ := hv
  obtain ⟨aP, capP, rfl, hlP, hmP, -⟩ := hP.parts
  obtain ⟨aR, capR, rfl, hlR, hmR, -⟩ := hR.parts
  have hPR : (P.length : Int) + (R.length : Int) ≤ 2000000000000000 := by omega
  have hP0 : 0 ≤ (P.length : Int) + (R.length : Int) := by omega
  obtain ⟨s, hs⟩ : ∃ s, (P.length : Int) + (R.length : Int) = s := ⟨_, rfl⟩
  rw [hs] at hPR hP0
  have e64 : IntKind.i64.wrap s = s := wrap_in (by omega)
  obtain ⟨r, hr⟩ : ∃ r, proveR C P R id y lo hi = r := ⟨_, rfl⟩
  rw [hr] at HA HB
  obtain ⟨r1, r2⟩ := r
  generalize fewB C P R = f at HF
  clear hP hR hlP hmP hlR hmR hn0 hr
  have hX0 : Ext w ((w.alloc (.cells #[vC, .slice aP P.length capP, .slice aR R.length capR] 26)).alloc (.cells #[.int .i64 lo, .int .i64 hi] 30)) := ((Ext.refl w).alloc _).alloc _
  have hb0 := ((Ext.refl _).alloc (.cells #[.int .i64 lo, .int .i64 hi] 30)).block (heap_alloc_new w (.cells #[vC, .slice aP P.length capP, .slice aR R.length capR] 26))
  have hb1 := heap_alloc_new (w.alloc (.cells #[vC, .slice aP P.length capP, .slice aR R.length capR] 26)) (.cells #[.int .i64 lo, .int .i64 hi] 30)
  rw [World.size_alloc] at hb1
  obtain ⟨B, hBB⟩ : ∃ B, w.heap.size = B := ⟨_, rfl⟩
  rw [hBB] at hb0 hb1
  go_enter Try.func13, Try.ntmps13
  go_upto_region 2 with fail
  obtain ⟨wa, hwa⟩ : ∃ wa, (w.alloc (.cells #[vC, .slice aP P.length capP, .slice aR R.length capR] 26)).alloc (.cells #[.int .i64 lo, .int .i64 hi] 30) = wa := ⟨_, rfl⟩
  rw [hwa] at hX0 hb0 hb1 ⊢
  clear hwa
  go_cut [56] (fun v wx => ∃ b, v = .bool b ∧ Ext w wx ∧ wx.heap[B]? = some (.cells #[vC, .slice aP P.length capP, .slice aR R.length capR] 26) ∧ wx.heap[B + 1]? = some (.cells #[.int .i64 lo, .int .i64 hi] 30))
  case first => as_aux_lemma =>
    obtain ⟨k0, k1, k2⟩ := box3' hb0
    obtain ⟨d, hd⟩ : ∃ d, hi - lo = d := ⟨_, rfl⟩
    have hdw : ¬ hi < 0 → ¬ lo < 0 → IntKind.i64.wrap d = d := fun _ _ => wrap_in (by omega)
    have HDW := Lib.hid hdw
    clear hdw
    have hcs : f = false ∨ (f = true ∧ (20 < s ∧ s < 60)) ∨ (f = true ∧ ((20 < s ∧ ¬ s < 60) ∨ ¬ 20 < s)) := by
      cases f <;> simp <;> omega
    rcases hcs with rfl | ⟨rfl, g1, g2⟩ | ⟨rfl, h3⟩
    · go_wp2_with (go_at_call 14; with_reducible refine (HF.out _ hX0).mono ?_; rintro e w2 ⟨rfl, hX2⟩; have hE2 := hX0.trans hX2; have hb2 := hX2.block hb0; have hb3 := hX2.block hb1; obtain ⟨k0, k1, k2⟩ := box3' hb2; obtain ⟨s0, s1⟩ := box2 hb3)
      go_meet
      case rel => exact ⟨_, rfl, hE2, hb2, hb3⟩
    · go_wp2_with (go_at_call 14; with_reducible refine (HF.out _ hX0).mono ?_; rintro e w2 ⟨rfl, hX2⟩; have hE2 := hX0.trans hX2; have hb2 := hX2.block hb0; have hb3 := hX2.block hb1; obtain ⟨k0, k1, k2⟩ := box3' hb2; obtain ⟨s0, s1⟩ := box2 hb3)
      go_meet
      case rel => exact ⟨_, rfl, hE2, hb2, hb3⟩
    · have hcs2 : hi < 0 ∨ (¬ hi < 0 ∧ lo < 0) ∨ (¬ hi < 0 ∧ ¬ lo < 0 ∧ ¬ 40 < d) ∨ (¬ hi < 0 ∧ ¬ lo < 0 ∧ 40 < d ∧ d < 400) ∨ (¬ hi < 0 ∧ ¬ lo < 0 ∧ 40 < d ∧ ¬ d < 400) := by omega
      rcases h3 with ⟨h3, h4⟩ | h3
      all_goals
        rcases hcs2 with g1 | ⟨g1, g2⟩ | ⟨g1, g2, g3⟩ | ⟨g1, g2, g3, g4⟩ | ⟨g1, g2, g3, g4⟩
        all_goals
          try have hdx := HDW.out g1 g2
          go_wp2_with (go_at_call 14; with_reducible refine (HF.out _ hX0).mono ?_; rintro e w2 ⟨rfl, hX2⟩; have hE2 := hX0.trans hX2; have hb2 := hX2.block hb0; have hb3 := hX2.block hb1; obtain ⟨k0, k1, k2⟩ := box3' hb2; obtain ⟨s0, s1⟩ := box2 hb3)
          go_meet
          case rel => exact ⟨_, rfl, hE2, hb2, hb3⟩
  case rest =>
  obtain ⟨b, rfl, hE0, hb0, hb1⟩ := hcut
  obtain ⟨w0, rfl⟩ : ∃ w', w' = wc := ⟨_, rfl⟩
  clear hX0 HF
  cases b
  · obtain ⟨k0, k1, k2⟩ := box3' hb0
    obtain ⟨s0, s1⟩ := box2 hb1
    go_wp2_with fail
    with_reducible refine (HA.out _ hE0).mono ?_
    rintro e w1 ⟨rfl, hX1⟩
    have hE1 := hE0.trans hX1
    obtain ⟨k0, k1, k2⟩ := box3' (hX1.block hb0)
    obtain ⟨s0, s1⟩ := box2 (hX1.block hb1)
    go_wp2_with fail
    with_reducible refine (HB.out _ hE1).mono ?_
    rintro e w2 ⟨rfl, hX2⟩
    have hE2 := (hE1.trans hX2).alloc (.cells #[.int .i64 r1, .int .i64 r2] 79)
    have hbT := heap_alloc_new w2 (.cells #[.int .i64 r1, .int .i64 r2] 79)
    obtain ⟨T, hT⟩ : ∃ A, w2.heap.size = A := ⟨_, rfl⟩
    have h1 : (r1 == r1) = true := by simp
    have h2 : (r2 == r2) = true := by simp
    clear k0 k1 k2 s0 s1 hX1 hX2
    go_upto_region 6 with fail
    rw [hT] at hbT
    obtain ⟨w3, hw3⟩ : ∃ w0, w2.alloc (.cells #[.int .i64 r1, .int .i64 r2] 79) = w0 := ⟨_, rfl⟩
    rw [hw3] at hE2 hbT ⊢
    clear hw3 hT
    go_wp2_with (go_at_call 15; with_reducible refine (sanity_any _ _ (Ext.refl _)).mono ?_; rintro e w4 ⟨rfl, hX4⟩; obtain ⟨t0, t1⟩ := box2 (hX4.block hbT))
    go_ret
    exact ⟨rfl, hX.trans (hE2.trans hX4)⟩
  · go_wp2_with fail
    with_reducible refine (sanity_any _ _ (Ext.refl _)).mono ?_
    rintro e w2 ⟨rfl, hX2⟩
    go_wp2_with fail
    go_ret
    exact ⟨rfl, hX.trans (hE0.trans hX2)⟩
end Go.Proofs.Ytaggjclaehigjaa
