/- Contract of Closes. -/
import Derived.Test.YtaggjclaehigjaaK7
namespace Go.Proofs.Ytaggjclaehigjaa
open Go.RowKit
/-- what Closes returns, given both sums -/
def closR (x y : (Int × Int) × Int) : Bool × Int := if x.2 = 0 then (if y.2 = 0 then (decide (x.1.1 ≤ y.1.2) && decide (y.1.1 ≤ x.1.2), 0) else (false, y.2)) else (false, x.2)
abbrev closT (r : Bool × Int) : Value := .tuple #[.bool r.1, .int .i64 r.2]
set_option maxRecDepth 100000 in
set_option maxHeartbeats 4000000 in
theorem Closes_any (W : World) (C P R : List Five) (v : Value) (l m : List Five) (s t : Value) (w : World) (hX : Ext W w) (hv : Wk w v C P R) (hs : Fives w s l) (ht : Fives w t m) :
    Calls Try.prog 37 #[v, s, t] w fun e w' => e = .returned (closT (closR (totR C P R l) (totR C P R m))) ∧ Ext W w' := by
  have HA := Lib.hid (fun w' (q : Ext w w') => Total_any w' C P R v l s w' (Ext.refl _) (hv.ext q) (hs.ext q))
  have HB := Lib.hid (fun w' (q : Ext w w') => Total_any w' C P R v m t w' (Ext.refl _) (hv.ext q) (ht.ext q))
  obtain ⟨vC, vP, vR, rfl, -⟩ := hv
  generalize totR C P R l = x at HA ⊢
  generalize totR C P R m = y at HB ⊢
  obtain ⟨⟨xl, xh⟩, xe⟩ := x
  obtain ⟨⟨yl, yh⟩, ye⟩ := y
  have hX0 : Ext w (w.alloc (.cells #[vC, vP, vR] 26)) := (Ext.refl w).alloc _
  have hb0 := heap_alloc_new w (.cells #[vC, vP, vR] 26)
  obtain ⟨B, hBB⟩ : ∃ B, w.heap.size = B := ⟨_, rfl⟩
  rw [hBB] at hb0
  go_enter Try.func37, Try.ntmps37
  go_wp2_with fail
  with_reducible refine (HA.out _ hX0).mono ?_
  rintro e w1 ⟨rfl, hX1⟩
  have hE1 := hX0.trans hX1
  have hb1 := hX1.block hb0
  obtain ⟨c0, c1, c2⟩ := box3' hb1
  have zB := lt_of_cell c0
  have hE1' := hE1.alloc (.cells #[.int .i64 xl, .int .i64 xh] 30)
  by_cases hx : xe = 0
  · subst hx
    have ha := heap_alloc_new w1 (.cells #[.int .i64 xl, .int .i64 xh] 30)
    go_wp2_with fail
    obtain ⟨w2, hw2⟩ : ∃ w2, w1.alloc (.cells #[.int .i64 xl, .int .i64 xh] 30) = w2 := ⟨_, rfl⟩
    rw [hw2] at ha hE1' ⊢
    clear hw2 hE1 hX0 hX1 hb0 hb1 c0 c1 c2
    generalize w1.heap.size = A at ha ⊢
    with_reducible refine (HB.out _ hE1').mono ?_
    rintro e w3 ⟨rfl, hX3⟩
    have hE3 := hE1'.trans hX3
    have ha3 := hX3.block ha
    have hE3' := hE3.alloc (.cells #[.int .i64 yl, .int .i64 yh] 30)
    by_cases hy : ye = 0
    · subst hy
      obtain ⟨a0, a1⟩ := box2 ha3
      have zA := lt_of_cell a0
      have HR : Hid (closR ((xl, xh), 0) ((yl, yh), 0) = (decide (xl ≤ yh) && decide (yl ≤ xh), 0)) := rfl
      by_cases h1 : xl ≤ yh
      all_goals
        go_wp2_with fail
        refine bodyPost_ret (v := .tuple #[.bool (decide (xl ≤ yh) && decide (yl ≤ xh)), .int .i64 0]) (by first | (simp [results, Try.results37, h1, go_sem]; done) | (simp [results, Try.results37, go_sem]; omega)) rfl ⟨by rw [HR.out], hX.trans hE3'⟩
    · have HR : Hid (closR ((xl, xh), 0) ((yl, yh), ye) = (false, ye)) := by show _ = _; unfold closR; rw [if_pos rfl, if_neg hy]
      have hnb : (ye == 0) = false := by simpa using hy
      have hnb2 : (ye != 0) = true := by simp [bne, hnb]
      clear hy
      go_wp2_with fail
      refine bodyPost_ret (v := .tuple #[.bool false, .int .i64 ye]) (by simp [results, Try.results37, go_sem]) rfl ⟨by rw [HR.out], hX.trans hE3'⟩
  · have HR : Hid (closR ((xl, xh), xe) ((yl, yh), ye) = (false, xe)) := by show _ = _; unfold closR; rw [if_neg hx]
    have hnb : (xe == 0) = false := by simpa using hx
    have hnb2 : (xe != 0) = true := by simp [bne, hnb]
    clear hx
    go_wp2_with fail
    refine bodyPost_ret (v := .tuple #[.bool false, .int .i64 xe]) (by simp [results, Try.results37, go_sem]) rfl ⟨by rw [HR.out], hX.trans hE1'⟩
end Go.Proofs.Ytaggjclaehigjaa
