/- Contracts of Turns (both), the reference's middle. -/
import Derived.Test.YtdbhbfmbpldmnaaX8
import Derived.Test.YtdbhbfmbpldmnaaX7
import Derived.Test.YtdbhbfmbpldmnaaY2
namespace Go.Proofs.Ytdbhbfmbpldmnaa
open Go.RowKit
set_option maxHeartbeats 800000 in
theorem rmiddle (W : World) (a b : Int) (w : World) (hX : Ext W w) (ka : okc a = true) (kb : okc b = true) (hab : a ≤ b) :
    Calls Try.prog 122 #[spV a b] w fun e w' => e = .returned (.int .i64 (midZ a b)) ∧ Ext W w' := by
  have h1 := (okc_iff a).1 ka
  have h2 := (okc_iff b).1 kb
  have hq : (b - a).tdiv 2 = (b - a) / 2 := Int.tdiv_eq_ediv_of_nonneg (by omega)
  have hm : midZ a b = a + (b - a) / 2 := by unfold midZ; omega
  go_enter Try.func122, Try.ntmps122
  go_wp2
  go_ret
  exact ⟨by rw [hm]; rfl, hX.alloc _⟩
theorem rCorners_lit (W : World) (a b c d : Int) (w : World) (hX : Ext W w) (h : boxB a b c d = true) :
    Calls Try.prog 69 #[bxV a b c d] w fun en w' => en = .returned (.agg #[.int .i64 (cnr a b c d 0).1, .int .i64 (cnr a b c d 0).2, .int .i64 (cnr a b c d 1).1, .int .i64 (cnr a b c d 1).2, .int .i64 (cnr a b c d 2).1, .int .i64 (cnr a b c d 2).2, .int .i64 (cnr a b c d 3).1, .int .i64 (cnr a b c d 3).2]) ∧ Ext W w' := by
  have := rCorners W a b c d w hX
  have e : cnR a b c d = cnr a b c d := by funext i; unfold cnR; rw [if_pos h]
  rwa [e] at this
theorem cells8 (f : Nat → Int × Int) {w : World} {P : Nat} {T : TypeId} (h : BoxN w P #[.int .i64 (f 0).1, .int .i64 (f 0).2, .int .i64 (f 1).1, .int .i64 (f 1).2, .int .i64 (f 2).1, .int .i64 (f 2).2, .int .i64 (f 3).1, .int .i64 (f 3).2] T) (x : Nat) (hx : x < 4) :
    w.cell? ⟨P, x * 2, none⟩ = some (.int .i64 (f x).1) ∧ w.cell? ⟨P, x * 2 + 1, none⟩ = some (.int .i64 (f x).2) := by
  have : x = 0 ∨ x = 1 ∨ x = 2 ∨ x = 3 := by omega
  rcases this with rfl | rfl | rfl | rfl
  · exact ⟨h.cell 0, h.cell 1⟩
  · exact ⟨h.cell 2, h.cell 3⟩
  · exact ⟨h.cell 4, h.cell 5⟩
  · exact ⟨h.cell 6, h.cell 7⟩
def turnsF (r : (Int × Int) × Bool) : Int := (if r.2 = true ∧ r.1.1 < 0 then 1 else 0) + (if r.2 = true ∧ r.1.1 ≤ 0 ∧ 0 ≤ r.1.2 then 2 else 0) + (if r.2 = true ∧ 0 < r.1.2 then 4 else 0)
theorem turnsF_t (lo hi : Int) : turnsF ((lo, hi), true) = (if lo < 0 then 1 else 0) + (if lo ≤ 0 ∧ 0 ≤ hi then 2 else 0) + (if 0 < hi then 4 else 0) := by simp [turnsF]
set_option maxRecDepth 100000 in
set_option maxHeartbeats 16000000 in
theorem rSpread (W : World) (a b c d e f g h i j k l : Int) (w : World) (hX : Ext W w) :
    Calls Try.prog 51 #[bxV a b c d, bxV e f g h, bxV i j k l] w fun en w' => en = .returned (spT (spreadR a b c d e f g h i j k l)) ∧ Ext W w' := by
  obtain ⟨p1, hp1⟩ : ∃ p, boxB a b c d = p := ⟨_, rfl⟩
  obtain ⟨p2, hp2⟩ : ∃ p, boxB e f g h = p := ⟨_, rfl⟩
  obtain ⟨p3, hp3⟩ : ∃ p, boxB i j k l = p := ⟨_, rfl⟩
  obtain ⟨F, hF⟩ : ∃ F, spr3 (cnr a b c d) (cnr e f g h) (cnr i j k l) = F := ⟨_, rfl⟩
  have hmin := ite_min
  have hmax := ite_max
  have HZ : Hid (spreadR a b c d e f g h i j k l = if (p1 && p2 && p3) = true then (sprF F 64, true) else ((0, 0), false)) := by unfold Hid spreadR; rw [hp1, hp2, hp3, hF]
  have HF := Lib.hid hF
  have P1 := Lib.hid hp1
  have P2 := Lib.hid hp2
  have P3 := Lib.hid hp3
  clear hp1 hp2 hp3 hF
  go_enter Try.func51, Try.ntmps51
  go_wp2_with fail
  have hA := (((BoxN.new w 52 (bxC a b c d)).ext ((Ext.refl _).alloc (.cells (bxC e f g h) 52))).ext ((Ext.refl _).alloc (.cells (bxC i j k l) 52))).ext ((Ext.refl _).alloc (.cells (spC (0, 0)) 50))
  have hB := ((BoxN.new (w.alloc (.cells (bxC a b c d) 52)) 52 (bxC e f g h)).ext ((Ext.refl _).alloc (.cells (bxC i j k l) 52))).ext ((Ext.refl _).alloc (.cells (spC (0, 0)) 50))
  have hC := (BoxN.new ((w.alloc (.cells (bxC a b c d) 52)).alloc (.cells (bxC e f g h) 52)) 52 (bxC i j k l)).ext ((Ext.refl _).alloc (.cells (spC (0, 0)) 50))
  have hR := BoxN.new (((w.alloc (.cells (bxC a b c d) 52)).alloc (.cells (bxC e f g h) 52)).alloc (.cells (bxC i j k l) 52)) 50 (spC (0, 0))
  have hX2 := ((((Ext.refl w).alloc (.cells (bxC a b c d) 52)).alloc (.cells (bxC e f g h) 52)).alloc (.cells (bxC i j k l) 52)).alloc (.cells (spC (0, 0)) 50)
  rw [World.size_alloc] at hB
  rw [World.size_alloc, World.size_alloc] at hC
  rw [World.size_alloc, World.size_alloc, World.size_alloc] at hR
  have zA : w.heap.size ≤ w.heap.size := by omega
  have zB : w.heap.size ≤ w.heap.size + 1 := by omega
  have zC : w.heap.size ≤ w.heap.size + 1 + 1 := by omega
  have zR : w.heap.size ≤ w.heap.size + 1 + 1 + 1 := by omega
  have nAB : w.heap.size ≠ w.heap.size + 1 := by omega
  have nAC : w.heap.size ≠ w.heap.size + 1 + 1 := by omega
  have nAR : w.heap.size ≠ w.heap.size + 1 + 1 + 1 := by omega
  have nBC : w.heap.size + 1 ≠ w.heap.size + 1 + 1 := by omega
  have nBR : w.heap.size + 1 ≠ w.heap.size + 1 + 1 + 1 := by omega
  have nCR : w.heap.size + 1 + 1 ≠ w.heap.size + 1 + 1 + 1 := by omega
  obtain ⟨w3, hw3⟩ : ∃ w3, ((((w.alloc (.cells (bxC a b c d) 52)).alloc (.cells (bxC e f g h) 52)).alloc (.cells (bxC i j k l) 52)).alloc (.cells (spC (0, 0)) 50)) = w3 := ⟨_, rfl⟩
  change BoxN ((((w.alloc (.cells (bxC a b c d) 52)).alloc (.cells (bxC e f g h) 52)).alloc (.cells (bxC i j k l) 52)).alloc (.cells (spC (0, 0)) 50)) _ _ _ at hR
  rw [hw3] at hA hB hC hR hX2 ⊢
  clear hw3
  have hW := hX
  generalize hqR : w.heap.size + 1 + 1 + 1 = R at hR zR nAR nBR nCR ⊢
  generalize hqC : w.heap.size + 1 + 1 = C at hC zC nAC nBC nCR ⊢
  generalize hqB : w.heap.size + 1 = B at hB zB nAB nBC nBR ⊢
  generalize hqA : w.heap.size = A at hA nAB nAC nAR ⊢
  clear hqB hqC hqR zA
  have hK : ∀ w', Ext w3 w' → Ext w3 w' ∧ Bx w' A a b c d ∧ Bx w' B e f g h ∧ Bx w' C i j k l := fun w' x => ⟨x, BoxN.bx (hA.ext x), BoxN.bx (hB.ext x), BoxN.bx (hC.ext x)⟩
  have HK := Lib.hid hK
  clear hK
  refine (rProperB _ _ _ _ _ _ (Ext.refl _)).mono ?_
  rintro en w4 ⟨rfl, hX7⟩
  rw [P1.out]
  obtain ⟨_, _, ⟨q4, q5, q6, q7⟩, _⟩ := HK.out _ hX7
  go_wp2_with fail
  refine (rProperB _ _ _ _ _ _ (Ext.refl _)).mono ?_
  rintro en w5 ⟨rfl, hY⟩
  rw [P2.out]
  have hX7 := hX7.trans hY
  clear hY q4 q5 q6 q7
  obtain ⟨_, _, _, q4, q5, q6, q7⟩ := HK.out _ hX7
  go_wp2_with fail
  refine (rProperB _ _ _ _ _ _ (Ext.refl _)).mono ?_
  rintro en w6 ⟨rfl, hY⟩
  rw [P3.out]
  have hX7 := hX7.trans hY
  clear hY q4 q5 q6 q7
  obtain ⟨_, ⟨q4, q5, q6, q7⟩, _⟩ := HK.out _ hX7
  obtain ⟨n0, n1, n2⟩ := BoxN.box2 (hR.ext hX7)
  cases p1 <;> cases p2 <;> cases p3
  all_goals go_wp2_with fail
  all_goals (try exact bodyPost_ret (v := spT (spreadR a b c d e f g h i j k l)) (by rw [HZ.out]; simp [results, Try.f51, go_sem, n0, n1]) rfl ⟨rfl, hW.trans (ext_two (hX2.trans hX7) zR _ _)⟩)
  clear n0 n1 n2 q4 q5 q6 q7
  have hX4 := hX2.trans hX7
  have hB4 := hB.ext hX7
  have hC4 := hC.ext hX7
  have hR4 := hR.ext hX7
  clear hX2 hX7 HK hA hB hC hR
  clear hqA nAB nAC nAR nBC nBR nCR zB zC
  refine (rCorners_lit _ _ _ _ _ _ (Ext.refl _) P1.out).mono ?_
  rintro en w7 ⟨rfl, hY⟩
  have hB4 := hB4.ext hY
  have hC4 := hC4.ext hY
  have hR4 := hR4.ext hY
  have hX4 := hX4.trans hY
  clear hY
  have lB := hB4.lt
  obtain ⟨q4, q5, q6, q7, _⟩ := BoxN.box4 hB4
  go_wp2_with fail
  refine (rCorners_lit _ _ _ _ _ _ (Ext.refl _) P2.out).mono ?_
  rintro en w8 ⟨rfl, hY⟩
  have hP := BoxN.newE hY
  have hY := ((Ext.refl _).alloc _).trans hY
  generalize w7.heap.size = P at hP ⊢
  have hC4 := hC4.ext hY
  have hR4 := hR4.ext hY
  have hX4 := hX4.trans hY
  clear hY q4 q5 q6 q7 lB
  have lC := hC4.lt
  obtain ⟨q4, q5, q6, q7, _⟩ := BoxN.box4 hC4
  go_wp2_with fail
  refine (rCorners_lit _ _ _ _ _ _ (Ext.refl _) P3.out).mono ?_
  rintro en w9 ⟨rfl, hY⟩
  have hQ := BoxN.newE hY
  have hY := ((Ext.refl _).alloc _).trans hY
  generalize w8.heap.size = Q at hQ ⊢
  have hP := hP.ext hY
  have hR4 := hR4.ext hY
  have hX4 := hX4.trans hY
  clear hY q4 q5 q6 q7 lC
  have lP := hP.lt
  have lQ := hQ.lt
  obtain ⟨q0, q1, _⟩ := BoxN.box8 hP
  obtain ⟨q4, q5, _⟩ := BoxN.box8 hQ
  go_wp2_with fail
  refine (rTwice _ _ _ _ _ _ _ _ (Ext.refl _) (cnr_ok P1.out 0).1 (cnr_ok P1.out 0).2 (cnr_ok P2.out 0).1 (cnr_ok P2.out 0).2 (cnr_ok P3.out 0).1 (cnr_ok P3.out 0).2).mono ?_
  rintro en w10 ⟨rfl, hY⟩
  have hF0 : twz (cnr a b c d 0).1 (cnr a b c d 0).2 (cnr e f g h 0).1 (cnr e f g h 0).2 (cnr i j k l 0).1 (cnr i j k l 0).2 = F 0 := by rw [← HF.out]; rfl
  rw [hF0]
  clear hF0
  have hU := BoxN.newE hY
  have hY := ((Ext.refl _).alloc _).trans hY
  generalize w9.heap.size = U at hU ⊢
  have hP := hP.ext hY
  have hQ := hQ.ext hY
  have hR4 := hR4.ext hY
  have hX4 := hX4.trans hY
  clear hY q0 q1 q4 q5 lP lQ
  have nPO := Nat.ne_of_lt hP.lt
  have nQO := Nat.ne_of_lt hQ.lt
  have nUO := Nat.ne_of_lt hU.lt
  have nRO := Nat.ne_of_lt hR4.lt
  have hO := BoxN.new w10 50 (spC (sprF F 0))
  have hY : Ext w10 (w10.alloc (.cells (spC (sprF F 0)) 50)) := (Ext.refl _).alloc _
  have hP := hP.ext hY
  have hQ := hQ.ext hY
  have hU := hU.ext hY
  have hR4 := hR4.ext hY
  have zO := hX4.le
  have hX4 := hX4.trans hY
  go_wp2_with fail
  change Code.wp _ _ _ _ (w10.alloc (.cells (spC (sprF F 0)) 50))
  obtain ⟨wb, hwb⟩ : ∃ wb, w10.alloc (.cells (spC (sprF F 0)) 50) = wb := ⟨_, rfl⟩
  change BoxN (w10.alloc (.cells (spC (sprF F 0)) 50)) _ _ _ at hO
  rw [hwb] at hO hP hQ hU hR4 hX4 ⊢
  clear hY hwb
  generalize w10.heap.size = O at hO nPO nQO nUO nRO zO ⊢
  have HT : Hid (∀ n, F n = twz (cnr a b c d (n / 16)).1 (cnr a b c d (n / 16)).2 (cnr e f g h (n / 4 % 4)).1 (cnr e f g h (n / 4 % 4)).2 (cnr i j k l (n % 4)).1 (cnr i j k l (n % 4)).2) := by unfold Hid; intro n; rw [← HF.out]; rfl
  go_loopw [16] (fun x wr => ∃ n : Nat, x = .int .i64 n ∧ n ≤ 64 ∧ BoxN wr O (spC (sprF F n)) 50 ∧ KX O wb wr ∧ Ext w wr) (fun x _ => 64 - (intOf x).toNat)
  case atStart => exact ⟨0, rfl, by omega, hO, KX.refl _ _, hX4⟩
  case round =>
    obtain ⟨n, rfl, hn, hO1, hk1, hx1⟩ := hrel
    by_cases hn4 : n < 64
    · have hn4' : (n : Int) < 64 := by omega
      have hP1 := hP.kx hk1 nPO
      have hQ1 := hQ.kx hk1 nQO
      have hU1 := hU.kx hk1 nUO
      obtain ⟨x, hx⟩ : ∃ x, n / 16 = x := ⟨_, rfl⟩
      obtain ⟨q, hq⟩ : ∃ q, n / 4 = q := ⟨_, rfl⟩
      obtain ⟨y, hy⟩ : ∃ y, q % 4 = y := ⟨_, rfl⟩
      obtain ⟨z, hz⟩ : ∃ z, n % 4 = z := ⟨_, rfl⟩
      have hFn : F n = twz (cnr a b c d x).1 (cnr a b c d x).2 (cnr e f g h y).1 (cnr e f g h y).2 (cnr i j k l z).1 (cnr i j k l z).2 := by rw [HT.out n, hx, hq, hy, hz]
      have lx : x < 4 := by omega
      have ly : y < 4 := by omega
      have lz : z < 4 := by omega
      have x4 : (x : Int) < 4 := by omega
      have y4 : (y : Int) < 4 := by omega
      have z4 : (z : Int) < 4 := by omega
      have w1 : IntKind.i64.wrap ((n : Int) / 16) = (x : Int) := by rw [IntKind.wrap_i64]; omega
      have w2 : IntKind.i64.wrap ((n : Int) / 4) = (q : Int) := by rw [IntKind.wrap_i64]; omega
      have w3' : (q : Int).tmod 4 = (y : Int) := by rw [Int.tmod_eq_emod_of_nonneg (by omega)]; omega
      have w4' : (n : Int).tmod 4 = (z : Int) := by rw [Int.tmod_eq_emod_of_nonneg (by omega)]; omega
      have w5' : (q : Int) % 4 = (y : Int) := by omega
      have w6' : (n : Int) % 4 = (z : Int) := by omega
      have w7' : IntKind.i64.wrap (y : Int) = (y : Int) := by rw [IntKind.wrap_i64]; omega
      have w8' : IntKind.i64.wrap (z : Int) = (z : Int) := by rw [IntKind.wrap_i64]; omega
      obtain ⟨p0, p1⟩ := cells8 (cnr a b c d) hP1 x lx
      obtain ⟨q0, q1⟩ := cells8 (cnr e f g h) hQ1 y ly
      obtain ⟨u0, u1⟩ := cells8 (cnr i j k l) hU1 z lz
      have p0 := cell_regrown p0
      have p1 := cell_regrown p1
      have q0 := cell_regrown q0
      have q1 := cell_regrown q1
      have u0 := cell_regrown u0
      have u1 := cell_regrown u1
      have cT := regrow (w := wr) (fun w' => rTwice w' _ _ _ _ _ _ w' (Ext.refl _) (cnr_ok P1.out x).1 (cnr_ok P1.out x).2 (cnr_ok P2.out y).1 (cnr_ok P2.out y).2 (cnr_ok P3.out z).1 (cnr_ok P3.out z).2)
      rw [← hFn] at cT
      clear hFn hx hq hy hz lx ly lz
      go_wp2_with fail
      refine wp_region_quiet_below (by kernel_rfl) (by kernel_rfl) ?_
      repeat (quiet_step (with_reducible exact cT _ _))
      refine wpQuiet_nil ?_
      intro _ hw'
      obtain ⟨⟨dq, osq⟩, hw''⟩ := hw'
      subst hw''
      have hXq : Ext wr (Go.Sort.grow (redrawn wr dq) osq) := below_regrown wr dq osq
      have hO2 := hO1.ext hXq
      have hk2 := hk1.ext hXq
      have hx2 := hx1.trans hXq
      change Exit.then _ _ Exit.normal _ (Go.Sort.grow (redrawn wr dq) osq)
      generalize hwy : Go.Sort.grow (redrawn wr dq) osq = wy at hO2 hk2 hx2 ⊢
      clear hXq hwy p0 p1 q0 q1 u0 u1 cT
      obtain ⟨o0, o1, o2⟩ := BoxN.box2 hO2
      go_wp2_with fail
      exact ⟨⟨n + 1, by simp, by omega, (hO2.set 0 _).set 1 _, hk2.two _ _, ext_two hx2 zO _ _⟩, by simp [intOf]; omega⟩
    · obtain rfl : n = 64 := by omega
      obtain ⟨n0, n1, n2⟩ := BoxN.box2 (hR4.kx hk1 nRO)
      obtain ⟨o0, o1, _⟩ := BoxN.box2 hO1
      go_wp2_with fail
      exact bodyPost_ret (v := spT (spreadR a b c d e f g h i j k l)) (by rw [HZ.out]; simp [results, Try.f51, go_sem, n0, n1]) rfl ⟨rfl, hW.trans (ext_two hx1 zR _ _)⟩
set_option maxRecDepth 100000 in
set_option maxHeartbeats 8000000 in
theorem Turns_any (W : World) (a b c d e f g h i j k l : Int) (w : World) (hX : Ext W w) :
    Calls Try.prog 54 #[bxV a b c d, bxV e f g h, bxV i j k l] w fun en w' => en = .returned (.int .i64 (turnsF (spreadR a b c d e f g h i j k l))) ∧ Ext W w' := by
  obtain ⟨r, hr⟩ : ∃ r, spreadR a b c d e f g h i j k l = r := ⟨_, rfl⟩
  have HR := Lib.hid hr
  rw [hr]
  clear hr
  obtain ⟨⟨lo, hi⟩, ok⟩ := r
  go_enter Try.func54, Try.ntmps54
  go_wp2_with fail
  have hA := ((BoxN.new w 52 (bxC a b c d)).ext ((Ext.refl _).alloc (.cells (bxC e f g h) 52))).ext ((Ext.refl _).alloc (.cells (bxC i j k l) 52))
  have hB := (BoxN.new (w.alloc (.cells (bxC a b c d) 52)) 52 (bxC e f g h)).ext ((Ext.refl _).alloc (.cells (bxC i j k l) 52))
  have hC := BoxN.new ((w.alloc (.cells (bxC a b c d) 52)).alloc (.cells (bxC e f g h) 52)) 52 (bxC i j k l)
  have hX2 := (((Ext.refl w).alloc (.cells (bxC a b c d) 52)).alloc (.cells (bxC e f g h) 52)).alloc (.cells (bxC i j k l) 52)
  rw [World.size_alloc] at hB
  rw [World.size_alloc, World.size_alloc] at hC
  have zA : w.heap.size ≤ w.heap.size := by omega
  have zB : w.heap.size ≤ w.heap.size + 1 := by omega
  have zC : w.heap.size ≤ w.heap.size + 1 + 1 := by omega
  have nAB : w.heap.size ≠ w.heap.size + 1 := by omega
  have nAC : w.heap.size ≠ w.heap.size + 1 + 1 := by omega
  have nBC : w.heap.size + 1 ≠ w.heap.size + 1 + 1 := by omega
  obtain ⟨w3, hw3⟩ : ∃ w3, (((w.alloc (.cells (bxC a b c d) 52)).alloc (.cells (bxC e f g h) 52)).alloc (.cells (bxC i j k l) 52)) = w3 := ⟨_, rfl⟩
  change BoxN (((w.alloc (.cells (bxC a b c d) 52)).alloc (.cells (bxC e f g h) 52)).alloc (.cells (bxC i j k l) 52)) _ _ _ at hC
  rw [hw3] at hA hB hC hX2 ⊢
  clear hw3
  have hW := hX
  generalize hqC : w.heap.size + 1 + 1 = C at hC zC nAC nBC ⊢
  generalize hqB : w.heap.size + 1 = B at hB zB nAB nBC ⊢
  generalize hqA : w.heap.size = A at hA nAB nAC ⊢
  clear hqB hqC zA
  clear hqA nAB nAC nBC zB zC hA hB hC
  refine (Spread_any _ _ _ _ _ _ _ _ _ _ _ _ _ _ (Ext.refl _)).mono ?_
  rintro en w4 ⟨rfl, hY⟩
  rw [HR.out]
  have hX4 := hW.trans (hX2.trans hY)
  clear hX2 hY HR
  have c1 : lo < 0 ∨ lo = 0 ∨ 0 < lo := by omega
  have c2 : hi < 0 ∨ hi = 0 ∨ 0 < hi := by omega
  cases ok
  · go_wp2_with fail
    go_ret
    exact ⟨by simp [turnsF], hX4.alloc _⟩
  rcases c1 with h1 | h1 | h1 <;> rcases c2 with h2 | h2 | h2
  all_goals
    first
    | (have g1 : decide (lo < 0) = true := decide_eq_true (by omega))
    | (have g1 : decide (lo < 0) = false := decide_eq_false (by omega))
  all_goals
    first
    | (have g2 : decide (lo ≤ 0) = true := decide_eq_true (by omega))
    | (have g2 : decide (lo ≤ 0) = false := decide_eq_false (by omega))
  all_goals
    first
    | (have g3 : decide (0 < hi) = true := decide_eq_true (by omega))
    | (have g3 : decide (0 < hi) = false := decide_eq_false (by omega))
  all_goals
    first
    | (have g4 : decide (0 ≤ hi) = true := decide_eq_true (by omega))
    | (have g4 : decide (0 ≤ hi) = false := decide_eq_false (by omega))
  all_goals
    go_wp2_with fail
    go_ret
    refine ⟨?_, hX4.alloc _⟩
    show Ending.returned (Value.int IntKind.i64 _) = _
    congr 2
    rw [turnsF_t]
    (repeat' split) <;> omega
set_option maxRecDepth 100000 in
set_option maxHeartbeats 8000000 in
theorem rTurns (W : World) (a b c d e f g h i j k l : Int) (w : World) (hX : Ext W w) :
    Calls Try.prog 55 #[bxV a b c d, bxV e f g h, bxV i j k l] w fun en w' => en = .returned (.int .i64 (turnsF (spreadR a b c d e f g h i j k l))) ∧ Ext W w' := by
  obtain ⟨r, hr⟩ : ∃ r, spreadR a b c d e f g h i j k l = r := ⟨_, rfl⟩
  have HR := Lib.hid hr
  rw [hr]
  clear hr
  obtain ⟨⟨lo, hi⟩, ok⟩ := r
  go_enter Try.func55, Try.ntmps55
  go_wp2_with fail
  have hA := ((BoxN.new w 52 (bxC a b c d)).ext ((Ext.refl _).alloc (.cells (bxC e f g h) 52))).ext ((Ext.refl _).alloc (.cells (bxC i j k l) 52))
  have hB := (BoxN.new (w.alloc (.cells (bxC a b c d) 52)) 52 (bxC e f g h)).ext ((Ext.refl _).alloc (.cells (bxC i j k l) 52))
  have hC := BoxN.new ((w.alloc (.cells (bxC a b c d) 52)).alloc (.cells (bxC e f g h) 52)) 52 (bxC i j k l)
  have hX2 := (((Ext.refl w).alloc (.cells (bxC a b c d) 52)).alloc (.cells (bxC e f g h) 52)).alloc (.cells (bxC i j k l) 52)
  rw [World.size_alloc] at hB
  rw [World.size_alloc, World.size_alloc] at hC
  have zA : w.heap.size ≤ w.heap.size := by omega
  have zB : w.heap.size ≤ w.heap.size + 1 := by omega
  have zC : w.heap.size ≤ w.heap.size + 1 + 1 := by omega
  have nAB : w.heap.size ≠ w.heap.size + 1 := by omega
  have nAC : w.heap.size ≠ w.heap.size + 1 + 1 := by omega
  have nBC : w.heap.size + 1 ≠ w.heap.size + 1 + 1 := by omega
  obtain ⟨w3, hw3⟩ : ∃ w3, (((w.alloc (.cells (bxC a b c d) 52)).alloc (.cells (bxC e f g h) 52)).alloc (.cells (bxC i j k l) 52)) = w3 := ⟨_, rfl⟩
  change BoxN (((w.alloc (.cells (bxC a b c d) 52)).alloc (.cells (bxC e f g h) 52)).alloc (.cells (bxC i j k l) 52)) _ _ _ at hC
  rw [hw3] at hA hB hC hX2 ⊢
  clear hw3
  have hW := hX
  generalize hqC : w.heap.size + 1 + 1 = C at hC zC nAC nBC ⊢
  generalize hqB : w.heap.size + 1 = B at hB zB nAB nBC ⊢
  generalize hqA : w.heap.size = A at hA nAB nAC ⊢
  clear hqB hqC zA
  clear hqA nAB nAC nBC zB zC hA hB hC
  refine (rSpread _ _ _ _ _ _ _ _ _ _ _ _ _ _ (Ext.refl _)).mono ?_
  rintro en w4 ⟨rfl, hY⟩
  rw [HR.out]
  have hX4 := hW.trans (hX2.trans hY)
  clear hX2 hY HR
  have c1 : lo < 0 ∨ lo = 0 ∨ 0 < lo := by omega
  have c2 : hi < 0 ∨ hi = 0 ∨ 0 < hi := by omega
  cases ok
  · go_wp2_with fail
    go_ret
    exact ⟨by simp [turnsF], hX4.alloc _⟩
  rcases c1 with h1 | h1 | h1 <;> rcases c2 with h2 | h2 | h2
  all_goals
    first
    | (have g1 : decide (lo < 0) = true := decide_eq_true (by omega))
    | (have g1 : decide (lo < 0) = false := decide_eq_false (by omega))
  all_goals
    first
    | (have g2 : decide (lo ≤ 0) = true := decide_eq_true (by omega))
    | (have g2 : decide (lo ≤ 0) = false := decide_eq_false (by omega))
  all_goals
    first
    | (have g3 : decide (0 < hi) = true := decide_eq_true (by omega))
    | (have g3 : decide (0 < hi) = false := decide_eq_false (by omega))
  all_goals
    first
    | (have g4 : decide (0 ≤ hi) = true := decide_eq_true (by omega))
    | (have g4 : decide (0 ≤ hi) = false := decide_eq_false (by omega))
  all_goals
    go_wp2_with fail
    go_ret
    refine ⟨?_, hX4.alloc _⟩
    show Ending.returned (Value.int IntKind.i64 _) = _
    congr 2
    rw [turnsF_t]
    (repeat' split) <;> omega
end Go.Proofs.Ytdbhbfmbpldmnaa
