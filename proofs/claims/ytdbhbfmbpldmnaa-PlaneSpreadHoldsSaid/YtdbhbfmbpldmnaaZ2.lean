/- Contract of the statement's helper closest. -/
import Derived.Test.YtdbhbfmbpldmnaaZ1
import Derived.Test.YtdbhbfmbpldmnaaP5
namespace Go.Proofs.Ytdbhbfmbpldmnaa
open Go.RowKit Go.Sort
def anyB (F : Nat → Int) (n : Nat) (v : Int) : Bool := decide (∃ m, m < n ∧ F m = v)
theorem anyB_zero (F : Nat → Int) (v : Int) : anyB F 0 v = false := decide_eq_false (by rintro ⟨m, h, _⟩; omega)
theorem anyB_t {F : Nat → Int} {n : Nat} {v : Int} (h : anyB F n v = true) : anyB F (n + 1) v = true := by
  obtain ⟨m, h1, h2⟩ := of_decide_eq_true h
  exact decide_eq_true ⟨m, by omega, h2⟩
theorem anyB_f {F : Nat → Int} {n : Nat} {v : Int} (h : anyB F n v = false) : anyB F (n + 1) v = (F n == v) := by
  have h := of_decide_eq_false h
  rw [Bool.eq_iff_iff]
  unfold anyB
  rw [decide_eq_true_iff, beq_iff_eq]
  constructor
  · rintro ⟨m, h1, h2⟩
    by_cases e : m = n
    · rw [← e]; exact h2
    · exact absurd ⟨m, by omega, h2⟩ h
  · exact fun e => ⟨n, by omega, e⟩
theorem far_okp {a b c d e f g h : Int} (h1 : boxB a b c d = true) (h2 : boxB e f g h = true) (i j : Nat) : distZ (cnr a b c d i).1 (cnr a b c d i).2 (cnr e f g h j).1 (cnr e f g h j).2 = dsz (cnr a b c d i).1 (cnr a b c d i).2 (cnr e f g h j).1 (cnr e f g h j).2 := by
  unfold distZ
  rw [if_pos]
  have q1 := hold_okp (cnr_hold a b c d i h1)
  have q2 := hold_okp (cnr_hold e f g h j h2)
  rw [q1, q2]
  rfl
set_option maxRecDepth 100000 in
set_option maxHeartbeats 16000000 in
theorem closest_any (W : World) (a b c d e f g h lo hi : Int) (w : World) (hX : Ext W w) (P1 : Hid (boxB a b c d = true)) (P2 : Hid (boxB e f g h = true))
    (hlo : dsz (clampZ e a b) (clampZ g c d) (clampZ (clampZ e a b) e f) (clampZ (clampZ g c d) g h) = lo) (hhi : ∃ m, m < 16 ∧ far2 (cnr a b c d) (cnr e f g h) m = hi) :
    Calls Try.prog 73 #[bxV a b c d, bxV e f g h, spV lo hi] w fun en w' => en = .returned (.bool true) ∧ Ext W w' := by
  obtain ⟨F, hF⟩ : ∃ F, far2 (cnr a b c d) (cnr e f g h) = F := ⟨_, rfl⟩
  have HA : Hid (anyB F 16 hi = true) := decide_eq_true (hF ▸ hhi)
  have HF := Lib.hid hF
  obtain ⟨px, hpx⟩ : ∃ x, clampZ e a b = x := ⟨_, rfl⟩
  obtain ⟨py, hpy⟩ : ∃ x, clampZ g c d = x := ⟨_, rfl⟩
  obtain ⟨qx, hqx⟩ : ∃ x, clampZ px e f = x := ⟨_, rfl⟩
  obtain ⟨qy, hqy⟩ : ∃ x, clampZ py g h = x := ⟨_, rfl⟩
  have b1 := (boxB_iff _ _ _ _).1 P1.out
  have b2 := (boxB_iff _ _ _ _).1 P2.out
  have HD : Hid (distZ px py qx qy = lo) := by
    unfold Hid distZ
    rw [if_pos (by simp only [okp, Bool.and_eq_true, okc_iff]; rw [← hqx, ← hqy, ← hpx, ← hpy]; unfold clampZ; omega)]
    rw [← hlo, hpx, hpy, hqx, hqy]
  have i1 := fun w => clamp_any w e a b w (Ext.refl _)
  have i2 := fun w => clamp_any w g c d w (Ext.refl _)
  have i3 := fun w => clamp_any w px e f w (Ext.refl _)
  have i4 := fun w => clamp_any w py g h w (Ext.refl _)
  rw [show max a (min b e) = px from hpx] at i1
  rw [show max c (min d g) = py from hpy] at i2
  rw [show max e (min f px) = qx from hqx] at i3
  rw [show max g (min h py) = qy from hqy] at i4
  clear hF hlo hhi hpx hpy hqx hqy b1 b2
  go_enter Try.func73, Try.ntmps73
  go_wp2_with fail
  have bA := ((BoxN.new w 52 (bxC a b c d)).ext ((Ext.refl _).alloc (.cells (bxC e f g h) 52))).ext ((Ext.refl _).alloc (.cells (spC (lo, hi)) 50))
  have bB := (BoxN.new (w.alloc (.cells (bxC a b c d) 52)) 52 (bxC e f g h)).ext ((Ext.refl _).alloc (.cells (spC (lo, hi)) 50))
  have bD := BoxN.new ((w.alloc (.cells (bxC a b c d) 52)).alloc (.cells (bxC e f g h) 52)) 50 (spC (lo, hi))
  rw [World.size_alloc] at bB
  rw [World.size_alloc, World.size_alloc] at bD
  have hW := ((hX.alloc (.cells (bxC a b c d) 52)).alloc (.cells (bxC e f g h) 52)).alloc (.cells (spC (lo, hi)) 50)
  change Code.wp _ _ _ _ (((w.alloc (.cells (bxC a b c d) 52)).alloc (.cells (bxC e f g h) 52)).alloc (.cells (spC (lo, hi)) 50))
  generalize ((w.alloc (.cells (bxC a b c d) 52)).alloc (.cells (bxC e f g h) 52)).alloc (.cells (spC (lo, hi)) 50) = w3 at bA bB bD hW ⊢
  generalize w.heap.size + 1 + 1 = D at bD ⊢
  generalize w.heap.size + 1 = B at bB ⊢
  generalize w.heap.size = A at bA ⊢
  clear hX
  go_cut [7] (fun v wx => ∃ M, v = .pointer (some ⟨M, 0, none⟩) ∧ BoxN wx M (spC (px, py)) 23 ∧ Ext w3 wx)
  case first =>
    have hK2 : (∀ w', Ext w3 w' → Ext w3 w' ∧ A < w'.heap.size ∧ B < w'.heap.size ∧ (w'.cell? ⟨A, 0, none⟩ = some (.int .i64 a) ∧ w'.cell? ⟨A, 1, none⟩ = some (.int .i64 b) ∧ w'.cell? ⟨A, 2, none⟩ = some (.int .i64 c) ∧ w'.cell? ⟨A, 3, none⟩ = some (.int .i64 d)) ∧ w'.cell? ⟨B, 0, none⟩ = some (.int .i64 e) ∧ w'.cell? ⟨B, 2, none⟩ = some (.int .i64 g)) := (fun w' x => ⟨x, (bA.ext x).lt, (bB.ext x).lt, ⟨(bA.ext x).cell 0, (bA.ext x).cell 1, (bA.ext x).cell 2, (bA.ext x).cell 3⟩, (bB.ext x).cell 0, (bB.ext x).cell 2⟩)
    have HK2 := Lib.hid hK2
    clear hK2
    have hX1 := Ext.refl w3
    have hN := bD
    obtain ⟨_, _, _, ⟨q0, q1, q2, q3⟩, q4, q5⟩ := HK2.out w3 hX1
    go_region_held3 (fun w' => Ext w3 w' ∧ A < w'.heap.size ∧ B < w'.heap.size ∧ (w'.cell? ⟨A, 0, none⟩ = some (.int .i64 a) ∧ w'.cell? ⟨A, 1, none⟩ = some (.int .i64 b) ∧ w'.cell? ⟨A, 2, none⟩ = some (.int .i64 c) ∧ w'.cell? ⟨A, 3, none⟩ = some (.int .i64 d)) ∧ w'.cell? ⟨B, 0, none⟩ = some (.int .i64 e) ∧ w'.cell? ⟨B, 2, none⟩ = some (.int .i64 g)) (first | exact HK2.out _ (by assumption) | exact HK2.out _ (Ext.drew (Ext.alloc (by assumption) _)) | exact HK2.out _ (Ext.drew (by assumption)) | exact HK2.out _ (Ext.alloc (by assumption) _) | exact HK2.out _ (Ext.refl _) | exact HK2.out _ (ext_two (by assumption) (Ext.le (by assumption)) _ _) | exact HK2.out _ (ext_two (by assumption) (Nat.le_refl _) _ _) | exact HK2.out _ (Ext.drew (Ext.refl _)))
      ((go_at_call 125; refine (Calls.mono (by first | with_reducible exact i1 _ | with_reducible exact i2 _) ?_); rintro en w' ⟨rfl, hY⟩; (first | have hY := Ext.undrew hY | skip); have hX1 : Ext w3 w' := (by first | exact Ext.trans hX1 hY | exact Ext.trans (Ext.drew hX1) hY | exact Ext.trans (Ext.alloc hX1 _) hY | exact Ext.trans (Ext.alloc (Ext.drew hX1) _) hY); (first | have hN := BoxN.newE hY | (have hN := BoxN.ext hN hY) | (have hN := BoxN.ext hN (Ext.trans (Ext.drew (Ext.refl _)) hY))); clear hY; obtain ⟨n0, n1, n4⟩ := BoxN.box2 hN))
    all_goals (try go_wp2_with fail)
    all_goals go_meet
    all_goals first
    | exact ⟨_, rfl, BoxN.new _ 23 _, Ext.alloc (by assumption) _⟩
    | exact ⟨_, rfl, (hN.set 0 _).set 1 _, ext_two (by assumption) (Ext.le (by assumption)) _ _⟩
    | exact ⟨_, rfl, (hN.set 0 _).set 1 _, ext_two (by assumption) (Nat.le_refl _) _ _⟩
  case rest =>
  obtain ⟨w4, rfl⟩ : ∃ w', w' = wc := ⟨_, rfl⟩
  obtain ⟨M, rfl, bM, hX1⟩ := hcut
  replace hW := hW.trans hX1
  replace bA := bA.ext hX1
  replace bB := bB.ext hX1
  replace bD := bD.ext hX1
  clear hX1 i1 i2
  go_upto_region 2 with fail
  go_cut [8] (fun v wx => ∃ M, v = .pointer (some ⟨M, 0, none⟩) ∧ BoxN wx M (spC (qx, qy)) 23 ∧ Ext w4 wx)
  case first =>
    have hK2 : (∀ w', Ext w4 w' → Ext w4 w' ∧ M < w'.heap.size ∧ B < w'.heap.size ∧ (w'.cell? ⟨B, 0, none⟩ = some (.int .i64 e) ∧ w'.cell? ⟨B, 1, none⟩ = some (.int .i64 f) ∧ w'.cell? ⟨B, 2, none⟩ = some (.int .i64 g) ∧ w'.cell? ⟨B, 3, none⟩ = some (.int .i64 h)) ∧ w'.cell? ⟨M, 0, none⟩ = some (.int .i64 px) ∧ w'.cell? ⟨M, 1, none⟩ = some (.int .i64 py)) := (fun w' x => ⟨x, (bM.ext x).lt, (bB.ext x).lt, ⟨(bB.ext x).cell 0, (bB.ext x).cell 1, (bB.ext x).cell 2, (bB.ext x).cell 3⟩, (bM.ext x).cell 0, (bM.ext x).cell 1⟩)
    have HK2 := Lib.hid hK2
    clear hK2
    have hX1 := Ext.refl w4
    have hN := bD
    obtain ⟨_, _, _, ⟨q0, q1, q2, q3⟩, q4, q5⟩ := HK2.out w4 hX1
    go_region_held3 (fun w' => Ext w4 w' ∧ M < w'.heap.size ∧ B < w'.heap.size ∧ (w'.cell? ⟨B, 0, none⟩ = some (.int .i64 e) ∧ w'.cell? ⟨B, 1, none⟩ = some (.int .i64 f) ∧ w'.cell? ⟨B, 2, none⟩ = some (.int .i64 g) ∧ w'.cell? ⟨B, 3, none⟩ = some (.int .i64 h)) ∧ w'.cell? ⟨M, 0, none⟩ = some (.int .i64 px) ∧ w'.cell? ⟨M, 1, none⟩ = some (.int .i64 py)) (first | exact HK2.out _ (by assumption) | exact HK2.out _ (Ext.drew (Ext.alloc (by assumption) _)) | exact HK2.out _ (Ext.drew (by assumption)) | exact HK2.out _ (Ext.alloc (by assumption) _) | exact HK2.out _ (Ext.refl _) | exact HK2.out _ (ext_two (by assumption) (Ext.le (by assumption)) _ _) | exact HK2.out _ (ext_two (by assumption) (Nat.le_refl _) _ _) | exact HK2.out _ (Ext.drew (Ext.refl _)))
      ((go_at_call 125; refine (Calls.mono (by first | with_reducible exact i3 _ | with_reducible exact i4 _) ?_); rintro en w' ⟨rfl, hY⟩; (first | have hY := Ext.undrew hY | skip); have hX1 : Ext w4 w' := (by first | exact Ext.trans hX1 hY | exact Ext.trans (Ext.drew hX1) hY | exact Ext.trans (Ext.alloc hX1 _) hY | exact Ext.trans (Ext.alloc (Ext.drew hX1) _) hY); (first | have hN := BoxN.newE hY | (have hN := BoxN.ext hN hY) | (have hN := BoxN.ext hN (Ext.trans (Ext.drew (Ext.refl _)) hY))); clear hY; obtain ⟨n0, n1, n4⟩ := BoxN.box2 hN))
    all_goals (try go_wp2_with fail)
    all_goals go_meet
    all_goals first
    | exact ⟨_, rfl, BoxN.new _ 23 _, Ext.alloc (by assumption) _⟩
    | exact ⟨_, rfl, (hN.set 0 _).set 1 _, ext_two (by assumption) (Ext.le (by assumption)) _ _⟩
    | exact ⟨_, rfl, (hN.set 0 _).set 1 _, ext_two (by assumption) (Nat.le_refl _) _ _⟩
  case rest =>
  obtain ⟨w5, rfl⟩ : ∃ w', w' = wc := ⟨_, rfl⟩
  obtain ⟨N, rfl, bN, hX1⟩ := hcut
  replace hW := hW.trans hX1
  replace bA := bA.ext hX1
  replace bB := bB.ext hX1
  replace bD := bD.ext hX1
  replace bM := bM.ext hX1
  clear hX1 i3 i4
  obtain ⟨kA0, kA1, kA2, kA3, _⟩ := bA.box4
  go_wp2_with fail
  clear kA0 kA1 kA2 kA3
  with_reducible refine (Corners_ok w5 a b c d _ (Ext.refl _) P1.out).mono ?_
  rintro en w6 ⟨rfl, hX⟩
  replace hW := hW.trans hX
  replace bB := bB.ext hX
  replace bD := bD.ext hX
  replace bM := bM.ext hX
  replace bN := bN.ext hX
  clear hX bA
  obtain ⟨kB0, kB1, kB2, kB3, _⟩ := bB.box4
  have kBl := bB.lt
  go_wp2_with fail
  clear kB0 kB1 kB2 kB3 kBl
  have bP := BoxN.new w6 82 #[.int .i64 (cnr a b c d 0).1, .int .i64 (cnr a b c d 0).2, .int .i64 (cnr a b c d 1).1, .int .i64 (cnr a b c d 1).2, .int .i64 (cnr a b c d 2).1, .int .i64 (cnr a b c d 2).2, .int .i64 (cnr a b c d 3).1, .int .i64 (cnr a b c d 3).2]
  have hX := (Ext.refl w6).alloc (.cells #[.int .i64 (cnr a b c d 0).1, .int .i64 (cnr a b c d 0).2, .int .i64 (cnr a b c d 1).1, .int .i64 (cnr a b c d 1).2, .int .i64 (cnr a b c d 2).1, .int .i64 (cnr a b c d 2).2, .int .i64 (cnr a b c d 3).1, .int .i64 (cnr a b c d 3).2] 82)
  obtain ⟨w7, hw⟩ : ∃ w', w6.alloc (.cells #[.int .i64 (cnr a b c d 0).1, .int .i64 (cnr a b c d 0).2, .int .i64 (cnr a b c d 1).1, .int .i64 (cnr a b c d 1).2, .int .i64 (cnr a b c d 2).1, .int .i64 (cnr a b c d 2).2, .int .i64 (cnr a b c d 3).1, .int .i64 (cnr a b c d 3).2] 82) = w' := ⟨_, rfl⟩
  change Calls _ _ _ (w6.alloc (.cells #[.int .i64 (cnr a b c d 0).1, .int .i64 (cnr a b c d 0).2, .int .i64 (cnr a b c d 1).1, .int .i64 (cnr a b c d 1).2, .int .i64 (cnr a b c d 2).1, .int .i64 (cnr a b c d 2).2, .int .i64 (cnr a b c d 3).1, .int .i64 (cnr a b c d 3).2] 82)) _
  rw [hw] at hX bP ⊢
  clear hw
  generalize w6.heap.size = P at bP ⊢
  replace hW := hW.trans hX
  replace bD := bD.ext hX
  replace bM := bM.ext hX
  replace bN := bN.ext hX
  clear hX bB
  with_reducible refine (Corners_ok w7 e f g h _ (Ext.refl _) P2.out).mono ?_
  rintro en w8 ⟨rfl, hX⟩
  replace hW := hW.trans hX
  replace bD := bD.ext hX
  replace bM := bM.ext hX
  replace bN := bN.ext hX
  replace bP := bP.ext hX
  clear hX
  have bQ := BoxN.new w8 82 #[.int .i64 (cnr e f g h 0).1, .int .i64 (cnr e f g h 0).2, .int .i64 (cnr e f g h 1).1, .int .i64 (cnr e f g h 1).2, .int .i64 (cnr e f g h 2).1, .int .i64 (cnr e f g h 2).2, .int .i64 (cnr e f g h 3).1, .int .i64 (cnr e f g h 3).2]
  have hX := (Ext.refl w8).alloc (.cells #[.int .i64 (cnr e f g h 0).1, .int .i64 (cnr e f g h 0).2, .int .i64 (cnr e f g h 1).1, .int .i64 (cnr e f g h 1).2, .int .i64 (cnr e f g h 2).1, .int .i64 (cnr e f g h 2).2, .int .i64 (cnr e f g h 3).1, .int .i64 (cnr e f g h 3).2] 82)
  go_wp2_with fail
  obtain ⟨wb, hw⟩ : ∃ w', w8.alloc (.cells #[.int .i64 (cnr e f g h 0).1, .int .i64 (cnr e f g h 0).2, .int .i64 (cnr e f g h 1).1, .int .i64 (cnr e f g h 1).2, .int .i64 (cnr e f g h 2).1, .int .i64 (cnr e f g h 2).2, .int .i64 (cnr e f g h 3).1, .int .i64 (cnr e f g h 3).2] 82) = w' := ⟨_, rfl⟩
  change Code.wp _ _ _ _ (w8.alloc (.cells #[.int .i64 (cnr e f g h 0).1, .int .i64 (cnr e f g h 0).2, .int .i64 (cnr e f g h 1).1, .int .i64 (cnr e f g h 1).2, .int .i64 (cnr e f g h 2).1, .int .i64 (cnr e f g h 2).2, .int .i64 (cnr e f g h 3).1, .int .i64 (cnr e f g h 3).2] 82))
  rw [hw] at hX bQ ⊢
  clear hw
  generalize w8.heap.size = Q at bQ ⊢
  replace hW := hW.trans hX
  replace bD := bD.ext hX
  replace bM := bM.ext hX
  replace bN := bN.ext hX
  replace bP := bP.ext hX
  clear hX
  have HT : Hid (∀ n, F n = distZ (cnr a b c d (n / 4)).1 (cnr a b c d (n / 4)).2 (cnr e f g h (n % 4)).1 (cnr e f g h (n % 4)).2) := by unfold Hid; intro n; rw [far_okp P1.out P2.out, ← HF.out]; rfl
  go_loopw [11, 12] (fun y x wr => ∃ n : Nat, x = .int .i64 n ∧ y = .bool (anyB F n hi) ∧ n ≤ 16 ∧ Ext wb wr) (fun _ x _ => 16 - (intOf x).toNat)
  case atStart => exact ⟨0, rfl, by rw [anyB_zero], by omega, Ext.refl _⟩
  case round =>
    obtain ⟨n, rfl, rfl, hn, hx1⟩ := hrel
    by_cases hn4 : n < 16
    · have hn4' : (n : Int) < 16 := by omega
      obtain ⟨x, hx⟩ : ∃ x, n / 4 = x := ⟨_, rfl⟩
      obtain ⟨z, hz⟩ : ∃ z, n % 4 = z := ⟨_, rfl⟩
      have hFn : F n = distZ (cnr a b c d x).1 (cnr a b c d x).2 (cnr e f g h z).1 (cnr e f g h z).2 := by rw [HT.out n, hx, hz]
      have lx : x < 4 := by omega
      have lz : z < 4 := by omega
      have x4 : (x : Int) < 4 := by omega
      have z4 : (z : Int) < 4 := by omega
      have w1 : IntKind.i64.wrap ((n : Int) / 4) = (x : Int) := by rw [IntKind.wrap_i64]; omega
      have w2 : (n : Int).tdiv 4 = (x : Int) := by rw [Int.tdiv_eq_ediv_of_nonneg (by omega)]; omega
      have w3' : IntKind.i64.wrap (x : Int) = (x : Int) := by rw [IntKind.wrap_i64]; omega
      have w4' : (n : Int).tmod 4 = (z : Int) := by rw [Int.tmod_eq_emod_of_nonneg (by omega)]; omega
      have w6' : (n : Int) % 4 = (z : Int) := by omega
      have w8' : IntKind.i64.wrap (z : Int) = (z : Int) := by rw [IntKind.wrap_i64]; omega
      obtain ⟨p0, p1⟩ := cells8 (cnr a b c d) (bP.ext hx1) x lx
      obtain ⟨q0, q1⟩ := cells8 (cnr e f g h) (bQ.ext hx1) z lz
      obtain ⟨_, d1, _⟩ := (bD.ext hx1).box2
      have p0 := cell_regrown p0
      have p1 := cell_regrown p1
      have q0 := cell_regrown q0
      have q1 := cell_regrown q1
      have d1 := cell_regrown d1
      have cT := regrow (w := wr) (fun w' => Dist_any w' (cnr a b c d x).1 (cnr a b c d x).2 (cnr e f g h z).1 (cnr e f g h z).2 w' (Ext.refl _))
      rw [← hFn] at cT
      clear hFn hx hz lx lz
      obtain ⟨q, hq⟩ : ∃ q, anyB F n hi = q := ⟨_, rfl⟩
      have HQ := Lib.hid hq
      rw [hq]
      clear hq
      cases q
      all_goals
        go_wp2_with fail
        refine wp_region_quiet_below (by kernel_rfl) (by kernel_rfl) ?_
        repeat (with_reducible refine wpQuiet_step (fun K hK => ?_); go_simp; first | (with_reducible refine hK _ ?_; clear hK K) | (apply Exists.intro; with_reducible refine ⟨fun _ => ?_, hK _ ?_⟩; (with_reducible exact cT _ _); clear hK K))
        refine wpQuiet_nil ?_
        intro _ hw'
        obtain ⟨⟨dq, osq⟩, hw''⟩ := hw'
        subst hw''
        have hXq : Ext wr (Go.Sort.grow (redrawn wr dq) osq) := below_regrown wr dq osq
        have hx2 := hx1.trans hXq
        clear hXq p0 p1 q0 q1 d1 cT
        go_wp2_with fail
      · exact ⟨⟨n + 1, by simp, by rw [anyB_f HQ.out], by omega, hx2⟩, by simp [intOf]; omega⟩
      · exact ⟨⟨n + 1, by simp, by rw [anyB_t HQ.out], by omega, hx2⟩, by simp [intOf]; omega⟩
    · obtain rfl : n = 16 := by omega
      rw [HA.out]
      obtain ⟨m0, m1, _⟩ := (bM.ext hx1).box2
      obtain ⟨n0, n1, _⟩ := (bN.ext hx1).box2
      obtain ⟨d0, _, _⟩ := (bD.ext hx1).box2
      have m0 := cell_regrown m0
      have m1 := cell_regrown m1
      have n0 := cell_regrown n0
      have n1 := cell_regrown n1
      have d0 := cell_regrown d0
      have cT := regrow (w := wr) (fun w' => Dist_any w' px py qx qy w' (Ext.refl _))
      rw [HD.out] at cT
      go_wp2_with fail
      refine wp_region_quiet_below (by kernel_rfl) (by kernel_rfl) ?_
      repeat (with_reducible refine wpQuiet_step (fun K hK => ?_); go_simp; first | (with_reducible refine hK _ ?_; clear hK K) | (apply Exists.intro; with_reducible refine ⟨fun _ => ?_, hK _ ?_⟩; (with_reducible exact cT _ _); clear hK K))
      refine wpQuiet_nil ?_
      intro _ hw'
      obtain ⟨⟨dq, osq⟩, hw''⟩ := hw'
      subst hw''
      have hXq : Ext wr (Go.Sort.grow (redrawn wr dq) osq) := below_regrown wr dq osq
      have hx2 := hW.trans (hx1.trans hXq)
      change Exit.then _ _ Exit.normal _ (Go.Sort.grow (redrawn wr dq) osq)
      generalize hwy : Go.Sort.grow (redrawn wr dq) osq = wy at hx2 ⊢
      clear hXq hwy m0 m1 n0 n1 d0 cT
      go_wp2_with fail
      go_ret
      exact ⟨rfl, hx2⟩
end Go.Proofs.Ytdbhbfmbpldmnaa
