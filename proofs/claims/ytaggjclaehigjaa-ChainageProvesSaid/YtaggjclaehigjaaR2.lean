/- Contracts of the specification's functions: fits, things. -/
import Derived.Test.YtaggjclaehigjaaR1
namespace Go.Proofs.Ytaggjclaehigjaa
open Go.RowKit
theorem rin' (n lo hi : Int) (w : World) :
    Calls Try.prog 51 #[.int .i64 n, .int .i64 lo, .int .i64 hi] w fun e w' => e = .returned (.bool (inB n lo hi)) ∧ Ext w w' :=
  (rin n lo hi w).mono fun _ _ ⟨h, k⟩ => ⟨h, k ▸ Ext.refl _⟩
theorem wrap_in {n : Int} (h : -9223372036854775808 ≤ n ∧ n ≤ 9223372036854775807) : IntKind.i64.wrap n = n := by rw [IntKind.wrap_i64]; omega
set_option maxRecDepth 100000 in
set_option maxHeartbeats 2000000 in
theorem rfits (W : World) (C P R : List Five) (v : Value) (x : Five) (first : Int) (w : World) (hX : Ext W w) (hv : Wk w v C P R) (h0 : scan (errC C) C.length = 0) (hf : 0 ≤ first ∧ first ≤ 1) :
    Calls Try.prog 60 #[v, .agg #[.int .i64 x.a, .int .i64 x.c, .int .i64 x.d, .int .i64 x.e], .int .i64 x.b, .int .i64 first] w fun e w' => e = .returned (.bool (okT C x first)) ∧ Ext W w' := by
  have HCA := Lib.hid (fun w' (q : Ext w w') => rchainAt w' C P R v x.b w' (Ext.refl _) (hv.ext q))
  obtain ⟨vC, vP, vR, rfl, hC, hP, hR, hn⟩ := hv
  obtain ⟨a, cap, rfl, hl, hm, hc⟩ := hC.parts
  have HC := Lib.hid hc
  clear hC hP hR hc hm
  have hX0 : Ext w ((w.alloc (.cells #[.slice a C.length cap, vP, vR] 26)).alloc (.cells #[.int .i64 x.a, .int .i64 x.c, .int .i64 x.d, .int .i64 x.e] 106)) := ((Ext.refl w).alloc _).alloc _
  have hb0 : ((w.alloc (.cells #[.slice a C.length cap, vP, vR] 26)).alloc (.cells #[.int .i64 x.a, .int .i64 x.c, .int .i64 x.d, .int .i64 x.e] 106)).cell? ⟨w.heap.size, 0, none⟩ = some (.slice a C.length cap) := ((Ext.refl _).alloc _).cell (cell_new w [_, _, _] _ 0)
  have hq : ∀ o, ((w.alloc (.cells #[.slice a C.length cap, vP, vR] 26)).alloc (.cells #[.int .i64 x.a, .int .i64 x.c, .int .i64 x.d, .int .i64 x.e] 106)).cell? ⟨w.heap.size + 1, o, none⟩ = [Value.int .i64 x.a, .int .i64 x.c, .int .i64 x.d, .int .i64 x.e][o]? := by
    intro o
    have := cell_new (w.alloc (.cells #[.slice a C.length cap, vP, vR] 26)) [Value.int .i64 x.a, .int .i64 x.c, .int .i64 x.d, .int .i64 x.e] 106 o
    rw [World.size_alloc] at this
    exact this
  have q0 := hq 0
  have q1 := hq 1
  have q2 := hq 2
  have q3 := hq 3
  simp only [List.getElem?_cons_zero, List.getElem?_cons_succ] at q0 q1 q2 q3
  clear hq
  go_enter Try.func60, Try.ntmps60
  go_wp2_with fail
  rcases idx_find (fun c => c.a == x.b) C with ⟨hi, hf2⟩ | ⟨k, hk, hi, hf2⟩
  · rw [hi] at HCA
    have HR : Hid (okT C x first = false) := okT_none hf2
    clear hf2 hi
    with_reducible refine (HCA.out _ hX0).mono ?_
    rintro e w1 ⟨rfl, hX1⟩
    have hW := hX.trans (hX0.trans hX1)
    have z1 := hX1.le
    simp only [World.size_alloc] at z1
    have hb0 := hX1.cell hb0
    have q0 := hX1.cell q0
    have q1 := hX1.cell q1
    have q2 := hX1.cell q2
    have q3 := hX1.cell q3
    clear hX1 hX0
    generalize w.heap.size = B at *
    go_wp2_with fail
    have q0 := cell_regrown q0
    have q1 := cell_regrown q1
    have q2 := cell_regrown q2
    have q3 := cell_regrown q3
    have hb0 := cell_regrown hb0
    refine wp_region_quiet_below (by kernel_rfl) (by kernel_rfl) ?_
    repeat (with_reducible refine wpQuiet_step (fun K hK => ?_); go_simp; first | (with_reducible refine hK _ ?_; clear hK K) | (rw [if_neg (by simp [undef])]; with_reducible refine hK _ ?_; clear hK K) | (apply Exists.intro; with_reducible refine ⟨fun _ => ?_, hK _ ?_⟩; (first | fail); clear hK K))
    refine wpQuiet_nil ?_
    intro _ hw'
    obtain ⟨⟨dq, osq⟩, hw''⟩ := hw'
    subst hw''
    have hXq : Ext w1 (Go.Sort.grow (redrawn w1 dq) osq) := below_regrown w1 dq osq
    go_wp2_with fail
    go_ret
    exact ⟨by rw [HR.out]; rfl, hW.trans hXq⟩
  · rw [hi] at HCA
    obtain ⟨c, hcx⟩ : ∃ c, c = C[k] := ⟨_, rfl⟩
    have hfc : findC C x.b = some c := by rw [hcx]; exact hf2
    obtain ⟨cy1, cy2⟩ := year_ok h0 hfc
    have h5 : ∃ b off, a = some ⟨b, off, none⟩ ∧ At5 w b (off + k * 5) c := by
      rcases HC.out with h | ⟨b, off, ha, h⟩
      · simp [h] at hk
      · exact ⟨b, off, ha, by rw [hcx]; exact h k hk⟩
    obtain ⟨b, off, rfl, h5⟩ := h5
    clear hf2 hi hcx
    with_reducible refine (HCA.out _ hX0).mono ?_
    rintro e w1 ⟨rfl, hX1⟩
    have hW := hX.trans (hX0.trans hX1)
    have z1 := hX1.le
    simp only [World.size_alloc] at z1
    have hb0 := hX1.cell hb0
    have q0 := hX1.cell q0
    have q1 := hX1.cell q1
    have q2 := hX1.cell q2
    have q3 := hX1.cell q3
    have k1 := cell_regrown (h5.ext (hX0.trans hX1)).2.1
    clear hX1 hX0 h5 HC
    generalize w.heap.size = B at *
    go_wp2_with fail
    have q0 := cell_regrown q0
    have q1 := cell_regrown q1
    have q2 := cell_regrown q2
    have q3 := cell_regrown q3
    have hb0 := cell_regrown hb0
    have hk0 : (0 : Int) ≤ (k : Int) := by omega
    have hkl : (k : Int) < (C.length : Int) := by omega
    have hmax : (if (k : Int) < 0 then (0 : Int) else (k : Int)) = (k : Int) := if_neg (by omega)
    have e64 : IntKind.i64.wrap (c.b + first) = c.b + first := wrap_in (by omega)
    have cI := regrow (w := w1) (fun w' _ => rin' x.a 1 1099511627776 w')
    have cJ := regrow (w := w1) (fun w' _ => rin' x.c (c.b + first) 4000 w')
    have cK := regrow (w := w1) (fun w' _ => rwithin w' x.d x.e 9000 12000 w' (Ext.refl _))
    have HR : Hid (okT C x first = (inB x.a 1 1099511627776 && inB x.c (c.b + first) 4000 && spB x.d x.e 9000 12000)) := by show _ = _; unfold okT; rw [hfc]
    clear hfc h0
    cases p1 : inB x.a 1 1099511627776
    · rw [p1] at cI HR
      rw [Bool.false_and, Bool.false_and] at HR
      refine wp_region_quiet_below (by kernel_rfl) (by kernel_rfl) ?_
      repeat (with_reducible refine wpQuiet_step (fun K hK => ?_); go_simp; first | (with_reducible refine hK _ ?_; clear hK K) | (rw [if_neg (by simp [undef])]; with_reducible refine hK _ ?_; clear hK K) | (apply Exists.intro; with_reducible refine ⟨fun _ => ?_, hK _ ?_⟩; (first | with_reducible exact cI _ _ | with_reducible exact cJ _ _ | with_reducible exact cK _ _); clear hK K))
      refine wpQuiet_nil ?_
      intro _ hw'
      obtain ⟨⟨dq, osq⟩, hw''⟩ := hw'
      subst hw''
      have hXq : Ext w1 (Go.Sort.grow (redrawn w1 dq) osq) := below_regrown w1 dq osq
      go_wp2_with fail
      go_ret
      exact ⟨by rw [HR.out]; rfl, hW.trans hXq⟩
    · rw [p1] at cI HR
      cases p2 : inB x.c (c.b + first) 4000
      · rw [p2] at cJ HR
        rw [Bool.true_and, Bool.false_and] at HR
        refine wp_region_quiet_below (by kernel_rfl) (by kernel_rfl) ?_
        repeat (with_reducible refine wpQuiet_step (fun K hK => ?_); go_simp; first | (with_reducible refine hK _ ?_; clear hK K) | (rw [if_neg (by simp [undef])]; with_reducible refine hK _ ?_; clear hK K) | (apply Exists.intro; with_reducible refine ⟨fun _ => ?_, hK _ ?_⟩; (first | with_reducible exact cI _ _ | with_reducible exact cJ _ _ | with_reducible exact cK _ _); clear hK K))
        refine wpQuiet_nil ?_
        intro _ hw'
        obtain ⟨⟨dq, osq⟩, hw''⟩ := hw'
        subst hw''
        have hXq : Ext w1 (Go.Sort.grow (redrawn w1 dq) osq) := below_regrown w1 dq osq
        go_wp2_with fail
        go_ret
        exact ⟨by rw [HR.out]; rfl, hW.trans hXq⟩
      · rw [p2] at cJ HR
        rw [Bool.true_and, Bool.true_and] at HR
        generalize spB x.d x.e 9000 12000 = p3 at cK HR
        refine wp_region_quiet_below (by kernel_rfl) (by kernel_rfl) ?_
        repeat (with_reducible refine wpQuiet_step (fun K hK => ?_); go_simp; first | (with_reducible refine hK _ ?_; clear hK K) | (rw [if_neg (by simp [undef])]; with_reducible refine hK _ ?_; clear hK K) | (apply Exists.intro; with_reducible refine ⟨fun _ => ?_, hK _ ?_⟩; (first | with_reducible exact cI _ _ | with_reducible exact cJ _ _ | with_reducible exact cK _ _); clear hK K))
        refine wpQuiet_nil ?_
        intro _ hw'
        obtain ⟨⟨dq, osq⟩, hw''⟩ := hw'
        subst hw''
        have hXq : Ext w1 (Go.Sort.grow (redrawn w1 dq) osq) := below_regrown w1 dq osq
        go_wp2_with fail
        go_ret
        exact ⟨by rw [HR.out]; rfl, hW.trans hXq⟩
end Go.Proofs.Ytaggjclaehigjaa
