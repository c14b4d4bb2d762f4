/- Contracts of the statement's helpers into, clamp, within, pick. -/
import Derived.Test.YtdbhbfmbpldmnaaX5
namespace Go.Proofs.Ytdbhbfmbpldmnaa
open Go.RowKit
theorem within2_any (W : World) (n a b : Int) (w : World) (hX : Ext W w) :
    Calls Try.prog 71 #[.int .i64 n, .agg #[.int .i64 a, .int .i64 b]] w fun e w' => e = .returned (.bool (winB n a b)) ∧ Ext W w' := by
  go_enter Try.func71, Try.ntmps71
  go_wp2
  all_goals
    go_ret
    exact ⟨ret_bool (by simp [winB]; omega), hX.alloc _⟩
theorem clamp_any (W : World) (n a b : Int) (w : World) (hX : Ext W w) :
    Calls Try.prog 125 #[.int .i64 n, .agg #[.int .i64 a, .int .i64 b]] w fun e w' => e = .returned (.int .i64 (max a (min b n))) ∧ Ext W w' := by
  have hmin := ite_min
  have hmax := ite_max
  go_enter Try.func125, Try.ntmps125
  go_wp2
  go_ret
  exact ⟨rfl, hX.alloc _⟩
theorem into_any (W : World) (n a b : Int) (w : World) (hX : Ext W w) (h0 : 0 ≤ n) (h1 : n < 4294967296) (ha : -1048576 ≤ a) (hab : a ≤ b) (hb : b ≤ 1048576) :
    Calls Try.prog 124 #[.int .u32 n, .agg #[.int .i64 a, .int .i64 b]] w fun e w' => e = .returned (.int .i64 (a + n % (b - a + 1))) ∧ Ext W w' := by
  have hm0 := Int.emod_nonneg n (show b - a + 1 ≠ 0 by omega)
  have hm1 := Int.emod_lt_of_pos n (show 0 < b - a + 1 by omega)
  obtain ⟨r, hr⟩ : ∃ r, n % (b - a + 1) = r := ⟨_, rfl⟩
  obtain ⟨d, hd⟩ : ∃ d, b - a = d := ⟨_, rfl⟩
  obtain ⟨e, he⟩ : ∃ e, d + 1 = e := ⟨_, rfl⟩
  rw [hr] at hm0 hm1
  rw [hd, he] at hr hm1
  rw [hd, he, hr]
  have k1 : IntKind.i64.wrap d = d := by rw [IntKind.wrap_i64]; omega
  have k2 : IntKind.i64.wrap e = e := by rw [IntKind.wrap_i64]; omega
  have k3 : IntKind.i64.wrap n = n := by rw [IntKind.wrap_i64]; omega
  have k4 : IntKind.i64.wrap r = r := by rw [IntKind.wrap_i64]; omega
  have k5 : IntKind.i64.wrap (a + r) = a + r := by rw [IntKind.wrap_i64]; omega
  have k6 : n.tmod e = r := by rw [Int.tmod_eq_emod_of_nonneg h0]; exact hr
  have k7 : e ≠ 0 := by omega
  have k8 : (e == 0) = false := by simp [k7]
  clear hr hm0 hm1
  go_enter Try.func124, Try.ntmps124
  go_wp2_with fail
  go_quiet (fail)
  all_goals go_wp2_with fail
  go_ret
  exact ⟨rfl, (hX.alloc _).drewN _⟩
theorem into_fit (n a b : Int) (_h0 : 0 ≤ n) (hab : a ≤ b) : a ≤ a + n % (b - a + 1) ∧ a + n % (b - a + 1) ≤ b := by
  have hm0 := Int.emod_nonneg n (show b - a + 1 ≠ 0 by omega)
  have hm1 := Int.emod_lt_of_pos n (show 0 < b - a + 1 by omega)
  omega
set_option maxRecDepth 100000 in
set_option maxHeartbeats 16000000 in
theorem pick_any (W : World) (a b c d n m : Int) (w : World) (hX : Ext W w) (h : (-1048576 ≤ a ∧ a ≤ b ∧ b ≤ 1048576) ∧ (-1048576 ≤ c ∧ c ≤ d ∧ d ≤ 1048576)) (h0 : 0 ≤ n) (h1 : n < 4294967296) (h2 : 0 ≤ m) (h3 : m < 4294967296) :
    Calls Try.prog 70 #[.agg #[.int .i64 a, .int .i64 b, .int .i64 c, .int .i64 d], .agg #[.int .u32 n, .int .u32 m]] w fun e w' => e = .returned (.agg #[.int .i64 (a + n % (b - a + 1)), .int .i64 (c + m % (d - c + 1))]) ∧ Ext W w' := by
  obtain ⟨⟨ha, hab, hb⟩, hc, hcd, hd⟩ := h
  have i1 := fun w => into_any w n a b w (Ext.refl _) h0 h1 ha hab hb
  have i2 := fun w => into_any w m c d w (Ext.refl _) h2 h3 hc hcd hd
  obtain ⟨X, hx⟩ : ∃ X, a + n % (b - a + 1) = X := ⟨_, rfl⟩
  obtain ⟨Y, hy⟩ : ∃ Y, c + m % (d - c + 1) = Y := ⟨_, rfl⟩
  rw [hx] at i1 ⊢
  rw [hy] at i2 ⊢
  clear hx hy
  go_enter Try.func70, Try.ntmps70
  go_wp2_with fail
  have hA := (BoxN.new w 52 (bxC a b c d)).ext ((Ext.refl _).alloc (.cells #[.int .u32 n, .int .u32 m] 86))
  have hB := BoxN.new (w.alloc (.cells (bxC a b c d) 52)) 86 #[.int .u32 n, .int .u32 m]
  have hR := BoxN.new ((w.alloc (.cells (bxC a b c d) 52)).alloc (.cells #[.int .u32 n, .int .u32 m] 86)) 23 #[.int .i64 0, .int .i64 0]
  rw [World.size_alloc] at hB
  rw [World.size_alloc, World.size_alloc] at hR
  have hX2 := ((hX.alloc (.cells (bxC a b c d) 52)).alloc (.cells #[.int .u32 n, .int .u32 m] 86))
  have zR := Nat.le_refl (w.heap.size + 1 + 1)
  have hz : ((w.alloc (.cells (bxC a b c d) 52)).alloc (.cells #[.int .u32 n, .int .u32 m] 86)).heap.size = w.heap.size + 1 + 1 := by simp
  have hXR := (Ext.refl ((w.alloc (.cells (bxC a b c d) 52)).alloc (.cells #[.int .u32 n, .int .u32 m] 86))).alloc (.cells #[.int .i64 0, .int .i64 0] 23)
  obtain ⟨w2, hw2⟩ : ∃ w2, (w.alloc (.cells (bxC a b c d) 52)).alloc (.cells #[.int .u32 n, .int .u32 m] 86) = w2 := ⟨_, rfl⟩
  change Code.wp _ _ _ _ (((w.alloc (.cells (bxC a b c d) 52)).alloc (.cells #[.int .u32 n, .int .u32 m] 86)).alloc (.cells #[.int .i64 0, .int .i64 0] 23))
  rw [hw2] at hA hB hR hX2 hz hXR ⊢
  clear hw2
  obtain ⟨w3, hw3⟩ : ∃ w3, w2.alloc (.cells #[.int .i64 0, .int .i64 0] 23) = w3 := ⟨_, rfl⟩
  rw [hw3] at hR hXR ⊢
  clear hw3
  have zR : w2.heap.size ≤ w.heap.size + 1 + 1 := by omega
  generalize w.heap.size + 1 + 1 = R at hR zR ⊢
  generalize w.heap.size + 1 = B at hB ⊢
  generalize w.heap.size = A at hA ⊢
  clear hz
  have hK2 : (∀ w', Ext w2 w' → Ext w2 w' ∧ A < w'.heap.size ∧ B < w'.heap.size ∧ (w'.cell? ⟨A, 0, none⟩ = some (.int .i64 a) ∧ w'.cell? ⟨A, 1, none⟩ = some (.int .i64 b) ∧ w'.cell? ⟨A, 2, none⟩ = some (.int .i64 c) ∧ w'.cell? ⟨A, 3, none⟩ = some (.int .i64 d)) ∧ w'.cell? ⟨B, 0, none⟩ = some (.int .u32 n) ∧ w'.cell? ⟨B, 1, none⟩ = some (.int .u32 m)) := (fun w' x => ⟨x, (hA.ext x).lt, (hB.ext x).lt, ⟨(hA.ext x).cell 0, (hA.ext x).cell 1, (hA.ext x).cell 2, (hA.ext x).cell 3⟩, (hB.ext x).cell 0, (hB.ext x).cell 1⟩)
  have HK2 := Lib.hid hK2
  clear hK2
  have hX7 := Ext.refl w3
  obtain ⟨n0, n1, n2⟩ := BoxN.box2 hR
  obtain ⟨_, _, _, ⟨q0, q1, q2, q3⟩, b0, b1⟩ := HK2.out w3 hXR
  go_region_held3 (fun w' => Ext w2 w' ∧ A < w'.heap.size ∧ B < w'.heap.size ∧ (w'.cell? ⟨A, 0, none⟩ = some (.int .i64 a) ∧ w'.cell? ⟨A, 1, none⟩ = some (.int .i64 b) ∧ w'.cell? ⟨A, 2, none⟩ = some (.int .i64 c) ∧ w'.cell? ⟨A, 3, none⟩ = some (.int .i64 d)) ∧ w'.cell? ⟨B, 0, none⟩ = some (.int .u32 n) ∧ w'.cell? ⟨B, 1, none⟩ = some (.int .u32 m)) (first | exact HK2.out _ (by assumption) | exact HK2.out _ (Ext.drew (by assumption)) | exact HK2.out _ (ext_two (by assumption) zR _ _))
    ((go_at_call 124; refine (Calls.mono (by first | with_reducible exact i1 _ | with_reducible exact i2 _) ?_); rintro en w' ⟨rfl, hY⟩; (first | have hY := Ext.undrew hY | skip); have hX7 := hX7.trans hY; have hX8 := hXR.trans hX7; obtain ⟨n0, n1, n2⟩ := BoxN.box2 (hR.ext hX7)))
  trace_state
  all_goals (try go_wp2_with fail)
  all_goals exact bodyPost_ret (v := spV X Y) (by simp [results, Try.f70, go_sem, n0, n1]) rfl ⟨rfl, hX2.trans (ext_two hX8 zR _ _)⟩
end Go.Proofs.Ytdbhbfmbpldmnaa
