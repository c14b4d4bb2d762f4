/- Contract of Grow. -/
import Derived.Test.YtdbhbfmbpldmnaaX4
namespace Go.Proofs.Ytdbhbfmbpldmnaa
open Go.RowKit
/-- w' is w but for new blocks and block R -/
def KX (R : Nat) (w w' : World) : Prop := w.heap.size ≤ w'.heap.size ∧ ∀ b, b < w.heap.size → b ≠ R → w'.heap[b]? = w.heap[b]?
theorem KX.refl (R : Nat) (w : World) : KX R w w := ⟨Nat.le_refl _, fun _ _ _ => rfl⟩
theorem KX.ext {R : Nat} {w0 w w' : World} (h : KX R w0 w) (x : Ext w w') : KX R w0 w' := ⟨Nat.le_trans h.1 x.le, fun b hb hR => (x.block b (Nat.lt_of_lt_of_le hb h.1)).trans (h.2 b hb hR)⟩
theorem KX.alloc {R : Nat} {w0 w : World} (h : KX R w0 w) (o : Obj) : KX R w0 (w.alloc o) := h.ext ((Ext.refl _).alloc o)
theorem KX.drew {R : Nat} {w0 w : World} (h : KX R w0 w) : KX R w0 w.drew := h.ext (Ext.refl _).drew
theorem KX.set {R : Nat} {w0 w : World} (h : KX R w0 w) (i : Nat) (u : Value) : KX R w0 (w.setCell ⟨R, i, none⟩ u) :=
  ⟨by simpa using h.1, fun b hb hR => (Below.heap_setCell w ⟨R, i, none⟩ u b hR).trans (h.2 b hb hR)⟩
theorem KX.two {R : Nat} {w0 w : World} (h : KX R w0 w) (u0 u1 : Value) : KX R w0 ((w.setCell ⟨R, 0, none⟩ u0).setCell ⟨R, 1, none⟩ u1) := (h.set 0 u0).set 1 u1
theorem KX.four {R : Nat} {w0 w : World} (h : KX R w0 w) (u0 u1 u2 u3 : Value) : KX R w0 ((((w.setCell ⟨R, 0, none⟩ u0).setCell ⟨R, 1, none⟩ u1).setCell ⟨R, 2, none⟩ u2).setCell ⟨R, 3, none⟩ u3) := (((h.set 0 u0).set 1 u1).set 2 u2).set 3 u3
theorem BoxN.kx {R A : Nat} {w w' : World} {cs : Array Value} {T : TypeId} (h : BoxN w A cs T) (k : KX R w w') (hne : A ≠ R) : BoxN w' A cs T := (k.2 A h.lt hne).trans h
theorem BoxN.other {A : Nat} {w : World} {cs : Array Value} {T : TypeId} (h : BoxN w A cs T) (p : Addr) (u : Value) (hne : A ≠ p.block) : BoxN (w.setCell p u) A cs T := (Below.heap_setCell w p u A hne).trans h
abbrev bxC (a b c d : Int) : Array Value := #[.int .i64 a, .int .i64 b, .int .i64 c, .int .i64 d]
theorem BoxN.box2 {w : World} {A : Nat} {a b : Value} {T : TypeId} (k : BoxN w A #[a, b] T) : w.cell? ⟨A, 0, none⟩ = some a ∧ w.cell? ⟨A, 1, none⟩ = some b ∧ ∀ o, w.frozen? ⟨A, o, none⟩ = false := ⟨k.cell 0, k.cell 1, k.frozen⟩
theorem ext_two {w0 w : World} {R : Nat} (h : Ext w0 w) (hR : w0.heap.size ≤ R) (u0 u1 : Value) : Ext w0 ((w.setCell ⟨R, 0, none⟩ u0).setCell ⟨R, 1, none⟩ u1) :=
  (h.setCell (p := ⟨R, 0, none⟩) hR _).setCell (p := ⟨R, 1, none⟩) hR _
set_option maxHeartbeats 800000 in
theorem grown_any (W : World) (a b n : Int) (B M : Nat) (w : World) (hX : Ext W w) (ka : okc a = true) (kb : okc b = true) (h0 : 0 ≤ n) (h1 : n ≤ 2097152)
    (hb : w.cell? ⟨B, 0, none⟩ = some (.int .i64 n)) (hm0 : w.cell? ⟨M, 0, none⟩ = some (.int .i64 (-1048576))) (hm1 : w.cell? ⟨M, 1, none⟩ = some (.int .i64 1048576)) :
    Calls Try.prog 119 #[spV a b, .pointer (some ⟨B, 0, none⟩), .pointer (some ⟨M, 0, none⟩)] w fun e w' => e = .returned (spV (max (a - n) (-1048576)) (min (b + n) 1048576)) ∧ Ext W w' := by
  have k1 := (okc_iff a).1 ka
  have k2 := (okc_iff b).1 kb
  have lb := lt_of_cell hb
  have lm := lt_of_cell hm0
  simp only at lb lm
  go_enter Try.func119, Try.ntmps119
  go_wp2_with fail
  refine (meet_any _ _ _ _ _ _ (Ext.refl _)).mono ?_
  rintro e w' ⟨rfl, hX1⟩
  have hR := BoxN.newE hX1
  rw [World.size_alloc] at hR
  obtain ⟨n0, n1, n2⟩ := BoxN.box2 hR
  go_wp2_with fail
  exact bodyPost_ret (v := spV (max (a - n) (-1048576)) (min (b + n) 1048576)) (by simp [results, Try.f119, go_sem, n0, n1]) rfl ⟨rfl, ext_two (hX.b2 hX1) (by have := hX.le; omega) _ _⟩
def growR (a b c d n : Int) : (Int × Int × Int × Int) × Bool :=
  if (boxB a b c d && decide (0 ≤ n)) = true then ((max (a - min n 2097152) (-1048576), min (b + min n 2097152) 1048576, max (c - min n 2097152) (-1048576), min (d + min n 2097152) 1048576), true) else ((0, 0, 0, 0), false)
set_option maxRecDepth 100000 in
set_option maxHeartbeats 16000000 in
theorem Grow_any (W : World) (a b c d n : Int) (w : World) (hX : Ext W w) :
    Calls Try.prog 60 #[bxV a b c d, .int .i64 n] w fun en w' => en = .returned (bxT (growR a b c d n)) ∧ Ext W w' := by
  obtain ⟨p1, hp1⟩ : ∃ p, boxB a b c d = p := ⟨_, rfl⟩
  have hmin := ite_min
  have HZ : Hid (growR a b c d n = if (p1 && decide (0 ≤ n)) = true then ((max (a - min n 2097152) (-1048576), min (b + min n 2097152) 1048576, max (c - min n 2097152) (-1048576), min (d + min n 2097152) 1048576), true) else ((0, 0, 0, 0), false)) := by unfold Hid growR; rw [hp1]
  have P1 := Lib.hid hp1
  clear hp1
  go_enter Try.func60, Try.ntmps60
  go_wp2_with fail
  have hA := ((BoxN.new w 52 (bxC a b c d)).ext ((Ext.refl _).alloc (.cells #[.int .i64 n] 3))).ext ((Ext.refl _).alloc (bxO 0 0 0 0))
  have hB := (BoxN.new (w.alloc (bxO a b c d)) 3 #[.int .i64 n]).ext ((Ext.refl _).alloc (bxO 0 0 0 0))
  have hR := BoxN.new ((w.alloc (bxO a b c d)).alloc (.cells #[.int .i64 n] 3)) 52 #[.int .i64 0, .int .i64 0, .int .i64 0, .int .i64 0]
  have hX2 := (((Ext.refl w).alloc (bxO a b c d)).alloc (.cells #[.int .i64 n] 3)).alloc (bxO 0 0 0 0)
  rw [World.size_alloc] at hB
  rw [World.size_alloc, World.size_alloc] at hR
  have zA : w.heap.size ≤ w.heap.size := Nat.le_refl _
  have zB : w.heap.size ≤ w.heap.size + 1 := by omega
  have zR : w.heap.size ≤ w.heap.size + 1 + 1 := by omega
  have nAB : w.heap.size ≠ w.heap.size + 1 := by omega
  have nAR : w.heap.size ≠ w.heap.size + 1 + 1 := by omega
  have nBR : w.heap.size + 1 ≠ w.heap.size + 1 + 1 := by omega
  obtain ⟨w3, hw3⟩ : ∃ w3, ((w.alloc (bxO a b c d)).alloc (.cells #[.int .i64 n] 3)).alloc (bxO 0 0 0 0) = w3 := ⟨_, rfl⟩
  change BoxN (((w.alloc (bxO a b c d)).alloc (.cells #[.int .i64 n] 3)).alloc (bxO 0 0 0 0)) _ _ _ at hR
  rw [hw3] at hA hB hR hX2 ⊢
  clear hw3
  have hW := hX
  generalize hRR : w.heap.size + 1 + 1 = R at hR zR nAR nBR ⊢
  generalize hBB : w.heap.size + 1 = B at hB zB nAB nBR ⊢
  generalize hAA : w.heap.size = A at hA nAB nAR ⊢
  clear hRR hBB zA
  refine (Proper_any _ _ _ _ _ _ (Ext.refl _)).mono ?_
  rintro en w4 ⟨rfl, hY⟩
  rw [P1.out]
  have hX4 := hX2.trans hY
  have hA := hA.ext hY
  have hB := hB.ext hY
  have hR := hR.ext hY
  obtain ⟨q0, q1, q2, q3, q4⟩ := BoxN.box4 hA
  have b0 := hB.cell 0
  have b1 := hB.frozen
  simp only [List.getElem?_toArray, List.getElem?_cons_zero] at b0
  obtain ⟨n0, n1, n2, n3, n4⟩ := BoxN.box4 hR
  clear hX2 hY
  cases p1
  · go_wp2_with fail
    exact bodyPost_ret (v := bxT (growR a b c d n)) (by rw [HZ.out]; simp [results, Try.f60, go_sem, n0, n1, n2, n3]) rfl ⟨rfl, hW.trans (ext_four hX4 zR _ _ _ _)⟩
  by_cases hn : n < 0
  · have hd : decide (0 ≤ n) = false := by simpa using hn
    go_wp2_with fail
    exact bodyPost_ret (v := bxT (growR a b c d n)) (by rw [HZ.out, hd]; simp [results, Try.f60, go_sem, n0, n1, n2, n3]) rfl ⟨rfl, hW.trans (ext_four hX4 zR _ _ _ _)⟩
  have hd : decide (0 ≤ n) = true := by simpa using hn
  go_wp2_with fail
  have z4 : w4.heap.size ≠ R := by have := hR.lt; omega
  have m1 : 0 ≤ min n 2097152 := by omega
  have m2 : min n 2097152 ≤ 2097152 := by omega
  obtain ⟨⟨⟨k1, k2⟩, k3⟩, ⟨k4, k5⟩, k6⟩ := boxB_ok P1.out
  have oa := (okc_iff a).2 (by omega)
  have ob := (okc_iff b).2 (by omega)
  have oc := (okc_iff c).2 (by omega)
  have od := (okc_iff d).2 (by omega)
  generalize hm : min n 2097152 = m at m1 m2 HZ ⊢
  have hA5 := (BoxN.other hA ⟨B, 0, none⟩ (.int .i64 m) nAB).ext ((Ext.refl _).alloc (.cells #[.int .i64 (-1048576), .int .i64 1048576] 50))
  have hR5 := (BoxN.other hR ⟨B, 0, none⟩ (.int .i64 m) nBR.symm).ext ((Ext.refl _).alloc (.cells #[.int .i64 (-1048576), .int .i64 1048576] 50))
  have hB5 := (hB.set 0 (.int .i64 m)).ext ((Ext.refl _).alloc (.cells #[.int .i64 (-1048576), .int .i64 1048576] 50))
  have hM5 := BoxN.new (w4.setCell ⟨B, 0, none⟩ (.int .i64 m)) 50 #[.int .i64 (-1048576), .int .i64 1048576]
  have hX5 := (hX4.setCell (p := ⟨B, 0, none⟩) zB (.int .i64 m)).alloc (.cells #[.int .i64 (-1048576), .int .i64 1048576] 50)
  rw [World.size_setCell] at hM5
  obtain ⟨w5, hw5⟩ : ∃ w5, (w4.setCell ⟨B, 0, none⟩ (.int .i64 m)).alloc (.cells #[.int .i64 (-1048576), .int .i64 1048576] 50) = w5 := ⟨_, rfl⟩
  change BoxN ((w4.setCell ⟨B, 0, none⟩ (.int .i64 m)).alloc (.cells #[.int .i64 (-1048576), .int .i64 1048576] 50)) _ _ _ at hM5
  rw [hw5] at hA5 hR5 hB5 hM5 hX5 ⊢
  generalize w4.heap.size = M at z4 hM5 ⊢
  clear hw5 hA hB hR hX4 q0 q1 q2 q3 q4 b0 b1 n0 n1 n2 n3 n4 hAA
  have hK2 : ∀ w', Ext w w' → KX R w5 w' → Ext w w' ∧ KX R w5 w' ∧ A < w'.heap.size ∧ B < w'.heap.size ∧ M < w'.heap.size ∧ (w'.cell? ⟨A, 0, none⟩ = some (.int .i64 a) ∧ w'.cell? ⟨A, 1, none⟩ = some (.int .i64 b) ∧ w'.cell? ⟨A, 2, none⟩ = some (.int .i64 c) ∧ w'.cell? ⟨A, 3, none⟩ = some (.int .i64 d)) ∧ w'.cell? ⟨B, 0, none⟩ = some (.int .i64 m) ∧ w'.cell? ⟨M, 0, none⟩ = some (.int .i64 (-1048576)) ∧ w'.cell? ⟨M, 1, none⟩ = some (.int .i64 1048576) := fun w' x k =>
    have a1 := hA5.kx k nAR
    have b1 := hB5.kx k nBR
    have c1 := hM5.kx k z4
    ⟨x, k, a1.lt, b1.lt, c1.lt, ⟨a1.cell 0, a1.cell 1, a1.cell 2, a1.cell 3⟩, b1.cell 0, c1.cell 0, c1.cell 1⟩
  have HK2 := Lib.hid hK2
  clear hK2
  have hX7 := Ext.refl w5
  have hKR := KX.refl R w5
  obtain ⟨n0, n1, n2, n3, n4⟩ := BoxN.box4 hR5
  obtain ⟨_, _, _, _, _, ⟨q0, q1, q2, q3⟩, b0, c0, c1⟩ := HK2.out w5 hX5 hKR
  go_region_held3 (fun w' => Ext w w' ∧ KX R w5 w' ∧ A < w'.heap.size ∧ B < w'.heap.size ∧ M < w'.heap.size ∧ (w'.cell? ⟨A, 0, none⟩ = some (.int .i64 a) ∧ w'.cell? ⟨A, 1, none⟩ = some (.int .i64 b) ∧ w'.cell? ⟨A, 2, none⟩ = some (.int .i64 c) ∧ w'.cell? ⟨A, 3, none⟩ = some (.int .i64 d)) ∧ w'.cell? ⟨B, 0, none⟩ = some (.int .i64 m) ∧ w'.cell? ⟨M, 0, none⟩ = some (.int .i64 (-1048576)) ∧ w'.cell? ⟨M, 1, none⟩ = some (.int .i64 1048576)) (first | exact HK2.out _ (by assumption) (by assumption) | exact HK2.out _ (Ext.drew (by assumption)) (KX.drew (by assumption)) | exact HK2.out _ (ext_four (by assumption) zR _ _ _ _) (KX.four (by assumption) _ _ _ _))
      ((go_at_call 119; refine (grown_any _ _ _ _ _ _ _ (Ext.refl _) (by assumption) (by assumption) (by assumption) (by assumption) (by assumption) (by assumption) (by assumption)).mono ?_; rintro en w' ⟨rfl, hY⟩; (first | have hY := Ext.undrew hY | skip); have hX7 := hX7.trans hY; have hX8 := hX5.trans hX7; have hKR := (KX.refl R w5).ext hX7; obtain ⟨n0, n1, n2, n3, n4⟩ := BoxN.box4 (hR5.ext hX7); obtain ⟨_, _, _, _, _, _, b0, c0, c1⟩ := HK2.out _ hX8 hKR))
  all_goals (try go_wp2_with fail)
  all_goals exact bodyPost_ret (v := bxT (growR a b c d n)) (by rw [HZ.out, hd]; simp [results, Try.f60, go_sem, n0, n1, n2, n3]) rfl ⟨rfl, hW.trans (ext_four hX8 zR _ _ _ _)⟩
end Go.Proofs.Ytdbhbfmbpldmnaa
