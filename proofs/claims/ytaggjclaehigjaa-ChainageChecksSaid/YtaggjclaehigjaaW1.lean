/- The example of the laws: made, few. -/
import Derived.Test.YtaggjclaehigjaaN8
namespace Go.Proofs.Ytaggjclaehigjaa
open Go.RowKit
set_option maxRecDepth 100000 in
set_option maxHeartbeats 2000000 in
theorem made_any (w : World) : Calls Try.prog 47 #[] w fun e w' => ∃ n, e = .returned (.agg #[.slice (some ⟨n, 0, none⟩) 1 1, .slice (some ⟨n + 1, 0, none⟩) 1 1, .slice none 0 0]) ∧ w.heap.size ≤ n ∧ Ext w w' ∧
    w'.heap[n]? = some (.cells #[.int .i64 1, .int .i64 1800, .int .i64 10000, .int .i64 10010, .int .i64 5] 53) ∧ w'.heap[n + 1]? = some (.cells #[.int .i64 3, .int .i64 1, .int .i64 1810, .int .i64 10020, .int .i64 10030] 72) := by
  go_enter Try.func47, Try.ntmps47
  go_wp2_with fail
  have hr0 := heap_alloc_new w (.cells #[.slice (some ⟨w.heap.size + 1, 0, none⟩) 1 1, .slice (some ⟨w.heap.size + 1 + 1, 0, none⟩) 1 1, .slice none 0 0] 26)
  have hr1 := heap_alloc_new (w.alloc (.cells #[.slice (some ⟨w.heap.size + 1, 0, none⟩) 1 1, .slice (some ⟨w.heap.size + 1 + 1, 0, none⟩) 1 1, .slice none 0 0] 26)) (.cells #[.int .i64 1, .int .i64 1800, .int .i64 10000, .int .i64 10010, .int .i64 5] 53)
  have hr2 := heap_alloc_new ((w.alloc (.cells #[.slice (some ⟨w.heap.size + 1, 0, none⟩) 1 1, .slice (some ⟨w.heap.size + 1 + 1, 0, none⟩) 1 1, .slice none 0 0] 26)).alloc (.cells #[.int .i64 1, .int .i64 1800, .int .i64 10000, .int .i64 10010, .int .i64 5] 53)) (.cells #[.int .i64 3, .int .i64 1, .int .i64 1810, .int .i64 10020, .int .i64 10030] 72)
  rw [World.size_alloc] at hr1 hr2
  rw [World.size_alloc] at hr2
  have hb := (((Ext.refl (w.alloc (.cells #[.slice (some ⟨w.heap.size + 1, 0, none⟩) 1 1, .slice (some ⟨w.heap.size + 1 + 1, 0, none⟩) 1 1, .slice none 0 0] 26))).alloc (.cells #[.int .i64 1, .int .i64 1800, .int .i64 10000, .int .i64 10010, .int .i64 5] 53)).alloc (.cells #[.int .i64 3, .int .i64 1, .int .i64 1810, .int .i64 10020, .int .i64 10030] 72)).block hr0
  have r0 := cell_at hb 0
  have r1 := cell_at hb 1
  have r2 := cell_at hb 2
  refine bodyPost_ret (v := .agg #[.slice (some ⟨w.heap.size + 1, 0, none⟩) 1 1, .slice (some ⟨w.heap.size + 1 + 1, 0, none⟩) 1 1, .slice none 0 0]) (by simp [results, Try.results47, r0, r1, r2, go_sem]) rfl ⟨w.heap.size + 1, rfl, by omega, (((Ext.refl w).alloc _).alloc _).alloc _, ((Ext.refl _).alloc _).block hr1, hr2⟩
end Go.Proofs.Ytaggjclaehigjaa
