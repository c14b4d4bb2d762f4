/- The walk of PlaneSidesAsSpecified: it returns true. -/
import Derived.Test.YtdbhbfmbpldmnaaL5
import Derived.Test.YtdbhbfmbpldmnaaR8
namespace Go.Proofs.Ytdbhbfmbpldmnaa
open Go.RowKit
set_option maxRecDepth 100000 in
set_option maxHeartbeats 3200000 in
theorem law9_any (W : World) (v : Value) (l : List (Int × Int)) (x0 x1 y0 y1 : Int) (w : World) (hX : Ext W w) (hv : Pts w v l) :
    Calls Try.prog 9 #[v, .agg #[.int .i64 x0, .int .i64 x1, .int .i64 y0, .int .i64 y1]] w fun e w' => e = .returned (.bool true) ∧ Ext W w' := by
  go_enter Try.func9, Try.ntmps9
  go_wp2_with fail
  have hE := fun i => cell_new w [.int .i64 x0, .int .i64 x1, .int .i64 y0, .int .i64 y1] 52 i
  have e0 := hE 0
  have e1 := hE 1
  have e2 := hE 2
  have e3 := hE 3
  simp only [List.getElem?_cons_zero, List.getElem?_cons_succ] at e0 e1 e2 e3
  have hX0 := hX.alloc (.cells #[.int .i64 x0, .int .i64 x1, .int .i64 y0, .int .i64 y1] 52)
  have hv0 := hv.ext ((Ext.refl w).alloc (.cells #[.int .i64 x0, .int .i64 x1, .int .i64 y0, .int .i64 y1] 52))
  obtain ⟨wb, hwb⟩ : ∃ wb, w.alloc (.cells #[.int .i64 x0, .int .i64 x1, .int .i64 y0, .int .i64 y1] 52) = wb := ⟨_, rfl⟩
  change w.alloc (.cells [Value.int .i64 x0, .int .i64 x1, .int .i64 y0, .int .i64 y1].toArray 52) = wb at hwb
  rw [hwb] at e0 e1 e2 e3
  change w.alloc (.cells #[.int .i64 x0, .int .i64 x1, .int .i64 y0, .int .i64 y1] 52) = wb at hwb
  rw [hwb] at hX0 hv0 ⊢
  clear hE hwb hX hv
  generalize w.heap.size = B at e0 e1 e2 e3 ⊢
  refine (few_any wb _ l _ (Ext.refl _) hv0).mono ?_
  rintro e w1 ⟨rfl, hX1⟩
  have f0 := hX1.cell e0
  have f1 := hX1.cell e1
  have f2 := hX1.cell e2
  have f3 := hX1.cell e3
  cases fewB l
  · go_wp2_with (go_at_call 16; refine (sanity_any wb _ (by assumption)).mono ?_; rintro e w' ⟨rfl, hX1⟩)
    go_ret
    exact ⟨rfl, hX0.trans hX1⟩
  · go_wp2_with (first | (go_at_call 16; refine (sanity_any wb _ (by assumption)).mono ?_; rintro e w' ⟨rfl, hX1⟩) | (go_at_call 40; refine (Sides_any wb _ l _ _ _ _ _ (by assumption) (hv0.ext (by assumption))).mono ?_; rintro e w' ⟨rfl, hX1⟩; have g0 := hX1.cell e0; have g1 := hX1.cell e1; have g2 := hX1.cell e2; have g3 := hX1.cell e3) | (go_at_call 41; refine (rSides wb _ l _ _ _ _ _ (by assumption) (hv0.ext (by assumption))).mono ?_; rintro e w' ⟨rfl, hX1⟩))
    go_ret
    exact ⟨rfl, hX0.trans hX1⟩
end Go.Proofs.Ytdbhbfmbpldmnaa
