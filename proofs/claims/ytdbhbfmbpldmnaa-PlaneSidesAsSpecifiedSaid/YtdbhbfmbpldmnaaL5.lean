/- The walk of PlaneRingsAsSpecified: it returns true. -/
import Derived.Test.YtdbhbfmbpldmnaaD8
import Derived.Test.YtdbhbfmbpldmnaaR7
namespace Go.Proofs.Ytdbhbfmbpldmnaa
open Go.RowKit
def fewB (l : List (Int × Int)) : Bool := decide (l.length ≤ 40 ∨ 200 < l.length)
theorem few_any (W : World) (v : Value) (l : List (Int × Int)) (w : World) (hX : Ext W w) (hv : Pts w v l) :
    Calls Try.prog 30 #[v] w fun e w' => e = .returned (.bool (fewB l)) ∧ Ext W w' := by
  have hlen := hv.len
  obtain ⟨a, cap, rfl, hl, hm, hc⟩ := hv
  clear hc hm
  go_enter Try.func30, Try.ntmps30
  go_wp2_with fail
  all_goals
    go_ret
    refine ⟨ret_bool ?_, hX⟩
    unfold fewB
    rw [Bool.eq_iff_iff]
    simp
    omega
set_option maxRecDepth 100000 in
set_option maxHeartbeats 3200000 in
theorem law7_any (W : World) (v : Value) (l : List (Int × Int)) (px py : Int) (w : World) (hX : Ext W w) (hv : Pts w v l) :
    Calls Try.prog 7 #[v, .agg #[.int .i64 px, .int .i64 py]] w fun e w' => e = .returned (.bool true) ∧ Ext W w' := by
  go_enter Try.func7, Try.ntmps7
  go_wp2_with fail
  have hp := cell2p w px py 23
  have hX0 := hX.alloc (.cells #[.int .i64 px, .int .i64 py] 23)
  have hv0 := hv.ext ((Ext.refl w).alloc (.cells #[.int .i64 px, .int .i64 py] 23))
  obtain ⟨wb, hwb⟩ : ∃ wb, w.alloc (.cells #[.int .i64 px, .int .i64 py] 23) = wb := ⟨_, rfl⟩
  rw [hwb] at hp hX0 hv0 ⊢
  clear hwb hX hv
  generalize w.heap.size = P at hp ⊢
  refine (few_any wb _ l _ (Ext.refl _) hv0).mono ?_
  rintro e w1 ⟨rfl, hX1⟩
  cases fewB l
  · go_wp2_with (go_at_call 16; refine (sanity_any wb _ (by assumption)).mono ?_; rintro e w' ⟨rfl, hX1⟩)
    go_ret
    exact ⟨rfl, hX0.trans hX1⟩
  · go_wp2_with (first | (go_at_call 16; refine (sanity_any wb _ (by assumption)).mono ?_; rintro e w' ⟨rfl, hX1⟩) | (go_at_call 31; refine (Area_any wb _ l _ (by assumption) (hv0.ext (by assumption))).mono ?_; rintro e w' ⟨rfl, hX1⟩; have p0 := hX1.cell hp.1; have p1 := hX1.cell hp.2) | (go_at_call 32; refine (rArea wb _ l _ (by assumption) (hv0.ext (by assumption))).mono ?_; rintro e w' ⟨rfl, hX1⟩; have p0 := hX1.cell hp.1; have p1 := hX1.cell hp.2) | (go_at_call 33; refine (Simple_any wb _ l _ (by assumption) (hv0.ext (by assumption))).mono ?_; rintro e w' ⟨rfl, hX1⟩; have p0 := hX1.cell hp.1; have p1 := hX1.cell hp.2) | (go_at_call 34; refine (rSimple wb _ l _ (by assumption) (hv0.ext (by assumption))).mono ?_; rintro e w' ⟨rfl, hX1⟩; have p0 := hX1.cell hp.1; have p1 := hX1.cell hp.2) | (go_at_call 35; refine (Winding_any wb _ l _ _ _ (by assumption) (hv0.ext (by assumption))).mono ?_; rintro e w' ⟨rfl, hX1⟩; have p0 := hX1.cell hp.1; have p1 := hX1.cell hp.2) | (go_at_call 36; refine (rWinding wb _ l _ _ _ (by assumption) (hv0.ext (by assumption))).mono ?_; rintro e w' ⟨rfl, hX1⟩; have p0 := hX1.cell hp.1; have p1 := hX1.cell hp.2) | (go_at_call 37; refine (Where_any wb _ l _ _ _ (by assumption) (hv0.ext (by assumption))).mono ?_; rintro e w' ⟨rfl, hX1⟩; have p0 := hX1.cell hp.1; have p1 := hX1.cell hp.2) | (go_at_call 38; refine (rWhere wb _ l _ _ _ (by assumption) (hv0.ext (by assumption))).mono ?_; rintro e w' ⟨rfl, hX1⟩; have p0 := hX1.cell hp.1; have p1 := hX1.cell hp.2))
    go_ret
    exact ⟨rfl, hX0.trans hX1⟩
end Go.Proofs.Ytdbhbfmbpldmnaa
