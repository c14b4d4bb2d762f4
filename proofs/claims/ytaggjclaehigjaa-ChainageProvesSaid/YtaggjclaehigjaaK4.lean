/- Contracts of Long, Rests. -/
import Derived.Test.YtaggjclaehigjaaK3
namespace Go.Proofs.Ytaggjclaehigjaa
open Go.RowKit
/-- what Long returns -/
def longR (C P R : List Five) (id y : Int) : (Int × Int) × Int :=
  if agE C P R id y = 0 then (match findC C id with | some c => ((limLo c.e y (innZ P R c (spellZ R c y)), limHi c.e y (innZ P R c (spellZ R c y))), 0) | none => ((0, 0), 0)) else ((0, 0), agE C P R id y)
set_option maxRecDepth 100000 in
set_option maxHeartbeats 4000000 in
theorem Long_any (W : World) (C P R : List Five) (v : Value) (id y : Int) (w : World) (hX : Ext W w) (hv : Wk w v C P R) :
    Calls Try.prog 20 #[v, .int .i64 id, .int .i64 y] w fun e w' => e = .returned (spanT (longR C P R id y)) ∧ Ext W w' := by
  have HAT := Lib.hid (fun w' (x : Ext w w') => agreed_any w' C P R v id y w' (Ext.refl _) (hv.ext x))
  obtain ⟨vC, vP, vR, rfl, _⟩ := hv
  have hX0 : Ext w ((w.alloc (.cells #[vC, vP, vR] 26)).alloc (.cells #[.int .i64 0, .int .i64 0] 30)) := ((Ext.refl w).alloc _).alloc _
  go_enter Try.func20, Try.ntmps20
  go_wp2_with fail
  with_reducible refine (HAT.out _ hX0).mono ?_
  rintro e w1 ⟨hX1, (⟨hn, rfl⟩ | ⟨h0, c, s, g, hf, hy, rfl, hs, hi, hcl⟩)⟩
  · have HR : Hid (longR C P R id y = ((0, 0), agE C P R id y)) := by show _ = _; unfold longR; rw [if_neg hn]
    generalize agE C P R id y = n at HR hn ⊢
    have hnb : (n == 0) = false := by simpa using hn
    clear hn
    obtain ⟨hr, hfz⟩ := brule hX1
    have hz : w.heap.size + 1 < w1.heap.size := by have := hX1.le; simp at this; omega
    go_wp2_with fail
    refine bodyPost_ret (v := .tuple #[.agg #[.int .i64 0, .int .i64 0], .int .i64 n]) (by simp [results, Try.results20, hr, hz, go_sem]) rfl ⟨by rw [HR.out], ?_⟩
    have hle := hX.le
    repeat (first | exact hX.trans (hX0.trans hX1) | refine Ext.alloc ?_ _ | refine Ext.setCell ?_ (by simp; omega) _)
  · obtain ⟨lo, hlo⟩ : ∃ lo, limLo s.w y s.fs = lo := ⟨_, rfl⟩
    obtain ⟨hh, hhh⟩ : ∃ lo, limHi s.w y s.fs = lo := ⟨_, rfl⟩
    have HR : Hid (longR C P R id y = ((lo, hh), 0)) := by
      show _ = _
      unfold longR
      rw [if_pos h0, hf, ← hlo, ← hhh, limLo_perm hi.fs, limHi_perm hi.fs, hi.we]
    have hc := okC_parts (good_okT g hf).2.1
    have HLN := Lib.hid (fun w' (x : Ext w1 w') => long_any w' s y w' (Ext.refl _) (hs.ext x) (by omega) (by omega))
    rw [hlo, hhh] at HLN
    unfold SpE.val at HLN ⊢
    have hbr : w1.heap[w.heap.size + 1]? = some (.cells #[.int .i64 0, .int .i64 0] 30) := by
      have := heap_alloc_new (w.alloc (.cells #[vC, vP, vR] 26)) (.cells #[.int .i64 0, .int .i64 0] 30)
      rw [World.size_alloc] at this
      exact hX1.block this
    have HBR := Lib.hid hbr
    have hz : w.heap.size + 1 < w1.heap.size := (Array.getElem?_eq_some_iff.1 hbr).1
    clear hlo hhh h0 hf hs hi g hcl hc hbr
    go_wp2_with (go_at_call 62; with_reducible refine (HLN.out _ ((Ext.refl _).alloc _)).mono ?_; rintro e w2 ⟨rfl, hX2⟩; have br := hX2.block (((Ext.refl _).alloc _ : Ext w1 _).block HBR.out); have r0 := cell_at br 0; have r1 := cell_at br 1; have f0 := frozen_cells (w := w2) ⟨_, br⟩ 0; have f1 := frozen_cells (w := w2) ⟨_, br⟩ 1; clear br)
    refine bodyPost_ret (v := .tuple #[.agg #[.int .i64 lo, .int .i64 hh], .int .i64 0]) (by simp [results, Try.results20, r0, r1, go_sem]) rfl ⟨by rw [HR.out], ?_⟩
    have hle := hX.le
    repeat (first | exact hX.trans (hX0.trans (hX1.trans (Ext.trans ((Ext.refl _).alloc _) hX2))) | refine Ext.alloc ?_ _ | refine Ext.setCell ?_ (by simp; omega) _)
end Go.Proofs.Ytaggjclaehigjaa
