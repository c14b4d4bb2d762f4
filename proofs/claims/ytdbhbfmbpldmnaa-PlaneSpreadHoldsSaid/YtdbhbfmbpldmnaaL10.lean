/- The walk of PlaneSpreadHolds: it returns true. -/
import Derived.Test.YtdbhbfmbpldmnaaZ3
import Derived.Test.YtdbhbfmbpldmnaaUV
namespace Go.Proofs.Ytdbhbfmbpldmnaa
open Go.RowKit Go.Sort
theorem turns_enum (lo hi : Int) (h : lo ≤ hi) : (lo < 0 ∧ 0 < hi ∧ turnsF ((lo, hi), true) = 7) ∨ (lo < 0 ∧ hi = 0 ∧ turnsF ((lo, hi), true) = 3) ∨ (lo < 0 ∧ hi < 0 ∧ turnsF ((lo, hi), true) = 1) ∨ (lo = 0 ∧ 0 < hi ∧ turnsF ((lo, hi), true) = 6) ∨ (lo = 0 ∧ hi = 0 ∧ turnsF ((lo, hi), true) = 2) ∨ (0 < lo ∧ 0 < hi ∧ turnsF ((lo, hi), true) = 4) := by
  rw [turnsF_t]
  split <;> split <;> split <;> omega
theorem sgz_enum (n : Int) : (n < 0 ∧ sgz n = -1) ∨ (n = 0 ∧ sgz n = 0) ∨ (0 < n ∧ sgz n = 1) := by
  unfold sgz
  split
  · omega
  · split <;> omega
theorem turn_ok {px py qx qy rx ry : Int} (h0 : okp (px, py) = true) (h1 : okp (qx, qy) = true) (h2 : okp (rx, ry) = true) : turnZ px py qx qy rx ry = sgz (twz px py qx qy rx ry) := by
  unfold turnZ; rw [h0, h1, h2]; rfl
theorem dist_ok {px py qx qy : Int} (h0 : okp (px, py) = true) (h1 : okp (qx, qy) = true) : distZ px py qx qy = dsz px py qx qy := by
  unfold distZ; rw [h0, h1]; rfl
theorem pick_hold {a b c d n m : Int} (h : boxB a b c d = true) (h0 : 0 ≤ n) (h1 : 0 ≤ m) : holdB a b c d (a + n % (b - a + 1)) (c + m % (d - c + 1)) = true := by
  rw [holdB_iff]
  have k := (boxB_iff a b c d).1 h
  have k1 := into_fit n a b h0 k.1.2.1
  have k2 := into_fit m c d h1 k.2.2.1
  exact ⟨h, k1, k2⟩
theorem win_t {n lo hi : Int} (h : lo ≤ n ∧ n ≤ hi) : winB n lo hi = true := by simp [winB, h]
abbrev u2C (m n : Int) : Array Value := #[.int .u32 m, .int .u32 n]
set_option maxRecDepth 100000 in
set_option maxHeartbeats 32000000 in
theorem law15_any (W : World) (a b c d e f g h i j k l x0 x1 y0 y1 z0 z1 : Int) (w : World) (hX : Ext W w)
    (bx0 : 0 ≤ x0 ∧ x0 ≤ 4294967295) (bx1 : 0 ≤ x1 ∧ x1 ≤ 4294967295) (by0 : 0 ≤ y0 ∧ y0 ≤ 4294967295) (by1 : 0 ≤ y1 ∧ y1 ≤ 4294967295) (bz0 : 0 ≤ z0 ∧ z0 ≤ 4294967295) (bz1 : 0 ≤ z1 ∧ z1 ≤ 4294967295) :
    Calls Try.prog 15 #[bxV a b c d, bxV e f g h, bxV i j k l, .agg (u2C x0 x1), .agg (u2C y0 y1), .agg (u2C z0 z1)] w fun e w' => e = .returned (.bool true) ∧ Ext W w' := by
  obtain ⟨pa, hpa⟩ : ∃ x, boxB a b c d = x := ⟨_, rfl⟩
  obtain ⟨pb, hpb⟩ : ∃ x, boxB e f g h = x := ⟨_, rfl⟩
  obtain ⟨pc, hpc⟩ : ∃ x, boxB i j k l = x := ⟨_, rfl⟩
  have PA := Lib.hid hpa
  have PB := Lib.hid hpb
  have PC := Lib.hid hpc
  have GB : Hid ((0 ≤ x0 ∧ x0 ≤ 4294967295) ∧ (0 ≤ x1 ∧ x1 ≤ 4294967295) ∧ (0 ≤ y0 ∧ y0 ≤ 4294967295) ∧ (0 ≤ y1 ∧ y1 ≤ 4294967295) ∧ (0 ≤ z0 ∧ z0 ≤ 4294967295) ∧ (0 ≤ z1 ∧ z1 ≤ 4294967295)) := ⟨bx0, bx1, by0, by1, bz0, bz1⟩
  clear hpa hpb hpc bx0 bx1 by0 by1 bz0 bz1
  go_enter Try.func15, Try.ntmps15
  go_upto_region 1 with fail
  have bA := (((((BoxN.new w 52 (bxC a b c d)).ext ((Ext.refl _).alloc (.cells (bxC e f g h) 52))).ext ((Ext.refl _).alloc (.cells (bxC i j k l) 52))).ext ((Ext.refl _).alloc (.cells (u2C x0 x1) 86))).ext ((Ext.refl _).alloc (.cells (u2C y0 y1) 86))).ext ((Ext.refl _).alloc (.cells (u2C z0 z1) 86))
  have bB := ((((BoxN.new (w.alloc (.cells (bxC a b c d) 52)) 52 (bxC e f g h)).ext ((Ext.refl _).alloc (.cells (bxC i j k l) 52))).ext ((Ext.refl _).alloc (.cells (u2C x0 x1) 86))).ext ((Ext.refl _).alloc (.cells (u2C y0 y1) 86))).ext ((Ext.refl _).alloc (.cells (u2C z0 z1) 86))
  rw [World.size_alloc] at bB
  have bC := (((BoxN.new ((w.alloc (.cells (bxC a b c d) 52)).alloc (.cells (bxC e f g h) 52)) 52 (bxC i j k l)).ext ((Ext.refl _).alloc (.cells (u2C x0 x1) 86))).ext ((Ext.refl _).alloc (.cells (u2C y0 y1) 86))).ext ((Ext.refl _).alloc (.cells (u2C z0 z1) 86))
  rw [World.size_alloc, World.size_alloc] at bC
  have bX := ((BoxN.new (((w.alloc (.cells (bxC a b c d) 52)).alloc (.cells (bxC e f g h) 52)).alloc (.cells (bxC i j k l) 52)) 86 (u2C x0 x1)).ext ((Ext.refl _).alloc (.cells (u2C y0 y1) 86))).ext ((Ext.refl _).alloc (.cells (u2C z0 z1) 86))
  rw [World.size_alloc, World.size_alloc, World.size_alloc] at bX
  have bY := (BoxN.new ((((w.alloc (.cells (bxC a b c d) 52)).alloc (.cells (bxC e f g h) 52)).alloc (.cells (bxC i j k l) 52)).alloc (.cells (u2C x0 x1) 86)) 86 (u2C y0 y1)).ext ((Ext.refl _).alloc (.cells (u2C z0 z1) 86))
  rw [World.size_alloc, World.size_alloc, World.size_alloc, World.size_alloc] at bY
  have bZ := BoxN.new (((((w.alloc (.cells (bxC a b c d) 52)).alloc (.cells (bxC e f g h) 52)).alloc (.cells (bxC i j k l) 52)).alloc (.cells (u2C x0 x1) 86)).alloc (.cells (u2C y0 y1) 86)) 86 (u2C z0 z1)
  rw [World.size_alloc, World.size_alloc, World.size_alloc, World.size_alloc, World.size_alloc] at bZ
  have hW := ((((((hX.alloc (.cells (bxC a b c d) 52)).alloc (.cells (bxC e f g h) 52)).alloc (.cells (bxC i j k l) 52)).alloc (.cells (u2C x0 x1) 86)).alloc (.cells (u2C y0 y1) 86)).alloc (.cells (u2C z0 z1) 86))
  change Code.wp _ _ _ _ ((((((w.alloc (.cells (bxC a b c d) 52)).alloc (.cells (bxC e f g h) 52)).alloc (.cells (bxC i j k l) 52)).alloc (.cells (u2C x0 x1) 86)).alloc (.cells (u2C y0 y1) 86)).alloc (.cells (u2C z0 z1) 86))
  generalize ((((((w.alloc (.cells (bxC a b c d) 52)).alloc (.cells (bxC e f g h) 52)).alloc (.cells (bxC i j k l) 52)).alloc (.cells (u2C x0 x1) 86)).alloc (.cells (u2C y0 y1) 86)).alloc (.cells (u2C z0 z1) 86)) = w0 at bA bB bC bX bY bZ hW ⊢
  generalize w.heap.size + 1 + 1 + 1 + 1 + 1 = Z at bZ ⊢
  generalize w.heap.size + 1 + 1 + 1 + 1 = Y at bY ⊢
  generalize w.heap.size + 1 + 1 + 1 = X at bX ⊢
  generalize w.heap.size + 1 + 1 = C at bC ⊢
  generalize w.heap.size + 1 = B at bB ⊢
  generalize w.heap.size = A at bA ⊢
  clear hX
  obtain ⟨kA0, kA1, kA2, kA3, -⟩ := bA.box4
  go_wp2_with fail
  clear kA0 kA1 kA2 kA3
  with_reducible refine (Proper_any w0 a b c d _ (Ext.refl _)).mono ?_
  rintro en w1 ⟨rfl, hX⟩
  rw [PA.out]
  replace hW := hW.trans hX
  replace bA := bA.ext hX
  replace bB := bB.ext hX
  replace bC := bC.ext hX
  replace bX := bX.ext hX
  replace bY := bY.ext hX
  replace bZ := bZ.ext hX
  clear hX
  cases pa
  · go_wp2_with fail
    with_reducible refine (boxes_any w1 _ (Ext.refl _)).mono ?_
    rintro en we ⟨rfl, hX⟩
    go_wp2_with fail
    go_ret
    exact ⟨rfl, hW.trans hX⟩
  obtain ⟨kB0, kB1, kB2, kB3, -⟩ := bB.box4
  go_wp2_with fail
  clear kB0 kB1 kB2 kB3
  with_reducible refine (Proper_any w1 e f g h _ (Ext.refl _)).mono ?_
  rintro en w2 ⟨rfl, hX⟩
  rw [PB.out]
  replace hW := hW.trans hX
  replace bA := bA.ext hX
  replace bB := bB.ext hX
  replace bC := bC.ext hX
  replace bX := bX.ext hX
  replace bY := bY.ext hX
  replace bZ := bZ.ext hX
  clear hX
  cases pb
  · go_wp2_with fail
    with_reducible refine (boxes_any w2 _ (Ext.refl _)).mono ?_
    rintro en we ⟨rfl, hX⟩
    go_wp2_with fail
    go_ret
    exact ⟨rfl, hW.trans hX⟩
  obtain ⟨kC0, kC1, kC2, kC3, -⟩ := bC.box4
  go_wp2_with fail
  clear kC0 kC1 kC2 kC3
  with_reducible refine (Proper_any w2 i j k l _ (Ext.refl _)).mono ?_
  rintro en w3 ⟨rfl, hX⟩
  rw [PC.out]
  replace hW := hW.trans hX
  replace bA := bA.ext hX
  replace bB := bB.ext hX
  replace bC := bC.ext hX
  replace bX := bX.ext hX
  replace bY := bY.ext hX
  replace bZ := bZ.ext hX
  clear hX
  cases pc
  · go_wp2_with fail
    with_reducible refine (boxes_any w3 _ (Ext.refl _)).mono ?_
    rintro en we ⟨rfl, hX⟩
    go_wp2_with fail
    go_ret
    exact ⟨rfl, hW.trans hX⟩
  have bo3 : (boxB a b c d && boxB e f g h && boxB i j k l) = true := by rw [PA.out, PB.out, PC.out]; rfl
  have bo2 : (boxB a b c d && boxB e f g h) = true := by rw [PA.out, PB.out]; rfl
  obtain ⟨⟨⟨s1, s2⟩, sb⟩, hs⟩ : ∃ r, spreadR a b c d e f g h i j k l = r := ⟨_, rfl⟩
  obtain ⟨⟨⟨t1, t2⟩, tb⟩, hd⟩ : ∃ r, distsR a b c d e f g h = r := ⟨_, rfl⟩
  have q1 := spread_ok a b c d e f g h i j k l
  rw [hs, bo3] at q1
  obtain rfl : sb = true := q1
  have q2 := dists_ok a b c d e f g h
  rw [hd, bo2] at q2
  obtain rfl : tb = true := q2
  obtain ⟨g0, g1, g2, g3, g4, g5⟩ := GB.out
  have i1 := fun w => pick_any w a b c d x0 x1 w (Ext.refl _) ((boxB_iff _ _ _ _).1 PA.out) g0.1 (by omega) g1.1 (by omega)
  have i2 := fun w => pick_any w e f g h y0 y1 w (Ext.refl _) ((boxB_iff _ _ _ _).1 PB.out) g2.1 (by omega) g3.1 (by omega)
  have i3 := fun w => pick_any w i j k l z0 z1 w (Ext.refl _) ((boxB_iff _ _ _ _).1 PC.out) g4.1 (by omega) g5.1 (by omega)
  have o1 := pick_hold PA.out g0.1 g1.1
  have o2 := pick_hold PB.out g2.1 g3.1
  have o3 := pick_hold PC.out g4.1 g5.1
  obtain ⟨px, hpx⟩ : ∃ v, a + x0 % (b - a + 1) = v := ⟨_, rfl⟩
  obtain ⟨py, hpy⟩ : ∃ v, c + x1 % (d - c + 1) = v := ⟨_, rfl⟩
  obtain ⟨qx, hqx⟩ : ∃ v, e + y0 % (f - e + 1) = v := ⟨_, rfl⟩
  obtain ⟨qy, hqy⟩ : ∃ v, g + y1 % (h - g + 1) = v := ⟨_, rfl⟩
  obtain ⟨rx, hrx⟩ : ∃ v, i + z0 % (j - i + 1) = v := ⟨_, rfl⟩
  obtain ⟨ry, hry⟩ : ∃ v, k + z1 % (l - k + 1) = v := ⟨_, rfl⟩
  rw [hpx, hpy] at i1 o1
  rw [hqx, hqy] at i2 o2
  rw [hrx, hry] at i3 o3
  have ar := area3 _ _ _ _ _ _ (hold_okp o1) (hold_okp o2) (hold_okp o3)
  have tu := turn_ok (hold_okp o1) (hold_okp o2) (hold_okp o3)
  have di := dist_ok (hold_okp o1) (hold_okp o2)
  have si := spread_in _ _ _ _ _ _ _ _ _ _ _ _ _ _ _ _ _ _ o1 o2 o3
  have dn := dists_in _ _ _ _ _ _ _ _ _ _ _ _ o1 o2
  rw [hs] at si
  rw [hd] at dn
  obtain ⟨N, hN⟩ : ∃ v, twz px py qx qy rx ry = v := ⟨_, rfl⟩
  obtain ⟨M, hM⟩ : ∃ v, dsz px py qx qy = v := ⟨_, rfl⟩
  obtain ⟨tz, htz⟩ : ∃ v, sgz N = v := ⟨_, rfl⟩
  rw [hN] at ar tu si
  rw [htz] at tu
  rw [hM] at di dn
  obtain ⟨at1, at2⟩ := spread_at a b c d e f g h i j k l bo3
  rw [hs] at at1 at2
  have cl1 := (dists_near a b c d e f g h bo2).2.2
  have cl2 := dists_far a b c d e f g h bo2
  rw [hd] at cl1 cl2
  have te : turnsF (spreadR a b c d e f g h i j k l) = turnsF ((s1, s2), true) := by rw [hs]
  obtain ⟨sg, hsg⟩ : ∃ v, turnsF ((s1, s2), true) = v := ⟨_, rfl⟩
  rw [hsg] at te
  have se := turns_enum s1 s2 (Int.le_trans si.1 si.2)
  have ge := sgz_enum N
  rw [hsg] at se
  rw [htz] at ge
  have HS := Lib.hid hs
  have HD := Lib.hid hd
  have HAr := Lib.hid ar
  have HTu := Lib.hid tu
  have HDi := Lib.hid di
  have HW1 := Lib.hid (win_t si)
  have HW2 := Lib.hid (win_t dn)
  have HTe := Lib.hid te
  have HE := Lib.hid (And.intro se (And.intro ge si))
  have A1 := Lib.hid at1
  have A2 := Lib.hid at2
  have C1 := Lib.hid cl1
  have C2 := Lib.hid cl2
  have B3 := Lib.hid bo3
  have B2 := Lib.hid bo2
  have j1 := Lib.hid i1
  have j2 := Lib.hid i2
  have j3 := Lib.hid i3
  clear hs hd ar tu di si dn te se ge at1 at2 cl1 cl2 bo3 bo2 g0 g1 g2 g3 g4 g5 o1 o2 o3 hpx hpy hqx hqy hrx hry hN hM htz hsg i1 i2 i3 GB
  obtain ⟨kA0, kA1, kA2, kA3, -⟩ := bA.box4
  obtain ⟨kB0, kB1, kB2, kB3, -⟩ := bB.box4
  obtain ⟨kC0, kC1, kC2, kC3, -⟩ := bC.box4
  go_wp2_with fail
  clear kA0 kA1 kA2 kA3 kB0 kB1 kB2 kB3 kC0 kC1 kC2 kC3
  with_reducible refine (Spread_any w3 a b c d e f g h i j k l _ (Ext.refl _)).mono ?_
  rintro en w4 ⟨rfl, hX⟩
  rw [HS.out]
  replace hW := hW.trans hX
  replace bA := bA.ext hX
  replace bB := bB.ext hX
  replace bC := bC.ext hX
  replace bX := bX.ext hX
  replace bY := bY.ext hX
  replace bZ := bZ.ext hX
  clear hX
  go_upto_region 4 with fail
  have bS := BoxN.new w4 50 (spC (s1, s2))
  have hX := (Ext.refl w4).alloc (.cells (spC (s1, s2)) 50)
  obtain ⟨w5, hw⟩ : ∃ w', w4.alloc (.cells (spC (s1, s2)) 50) = w' := ⟨_, rfl⟩
  change Code.wp _ _ _ _ (w4.alloc (.cells (spC (s1, s2)) 50))
  rw [hw] at hX bS ⊢
  clear hw
  generalize w4.heap.size = S at bS ⊢
  replace hW := hW.trans hX
  replace bA := bA.ext hX
  replace bB := bB.ext hX
  replace bC := bC.ext hX
  replace bX := bX.ext hX
  replace bY := bY.ext hX
  replace bZ := bZ.ext hX
  clear hX
  obtain ⟨kA0, kA1, kA2, kA3, -⟩ := bA.box4
  obtain ⟨kB0, kB1, kB2, kB3, -⟩ := bB.box4
  go_wp2_with fail
  clear kA0 kA1 kA2 kA3 kB0 kB1 kB2 kB3
  with_reducible refine (Dists_any w5 a b c d e f g h _ (Ext.refl _)).mono ?_
  rintro en w6 ⟨rfl, hX⟩
  rw [HD.out]
  replace hW := hW.trans hX
  replace bA := bA.ext hX
  replace bB := bB.ext hX
  replace bC := bC.ext hX
  replace bX := bX.ext hX
  replace bY := bY.ext hX
  replace bZ := bZ.ext hX
  replace bS := bS.ext hX
  clear hX
  go_upto_region 5 with fail
  have bT := BoxN.new w6 50 (spC (t1, t2))
  have hX := (Ext.refl w6).alloc (.cells (spC (t1, t2)) 50)
  obtain ⟨w7, hw⟩ : ∃ w', w6.alloc (.cells (spC (t1, t2)) 50) = w' := ⟨_, rfl⟩
  change Code.wp _ _ _ _ (w6.alloc (.cells (spC (t1, t2)) 50))
  rw [hw] at hX bT ⊢
  clear hw
  generalize w6.heap.size = T at bT ⊢
  replace hW := hW.trans hX
  replace bA := bA.ext hX
  replace bB := bB.ext hX
  replace bC := bC.ext hX
  replace bX := bX.ext hX
  replace bY := bY.ext hX
  replace bZ := bZ.ext hX
  replace bS := bS.ext hX
  clear hX
  obtain ⟨kA0, kA1, kA2, kA3, -⟩ := bA.box4
  obtain ⟨kX0, kX1, -⟩ := bX.box2
  go_wp2_with fail
  clear kA0 kA1 kA2 kA3 kX0 kX1
  with_reducible refine (j1.out w7).mono ?_
  rintro en w8 ⟨rfl, hX⟩
  replace hW := hW.trans hX
  replace bA := bA.ext hX
  replace bB := bB.ext hX
  replace bC := bC.ext hX
  replace bX := bX.ext hX
  replace bY := bY.ext hX
  replace bZ := bZ.ext hX
  replace bS := bS.ext hX
  replace bT := bT.ext hX
  clear hX
  go_upto_region 6 with fail
  have bP := BoxN.new w8 23 (spC (px, py))
  have hX := (Ext.refl w8).alloc (.cells (spC (px, py)) 23)
  obtain ⟨w9, hw⟩ : ∃ w', w8.alloc (.cells (spC (px, py)) 23) = w' := ⟨_, rfl⟩
  change Code.wp _ _ _ _ (w8.alloc (.cells (spC (px, py)) 23))
  rw [hw] at hX bP ⊢
  clear hw
  generalize w8.heap.size = P at bP ⊢
  replace hW := hW.trans hX
  replace bA := bA.ext hX
  replace bB := bB.ext hX
  replace bC := bC.ext hX
  replace bX := bX.ext hX
  replace bY := bY.ext hX
  replace bZ := bZ.ext hX
  replace bS := bS.ext hX
  replace bT := bT.ext hX
  clear hX
  obtain ⟨kB0, kB1, kB2, kB3, -⟩ := bB.box4
  obtain ⟨kY0, kY1, -⟩ := bY.box2
  go_wp2_with fail
  clear kB0 kB1 kB2 kB3 kY0 kY1
  with_reducible refine (j2.out w9).mono ?_
  rintro en w10 ⟨rfl, hX⟩
  replace hW := hW.trans hX
  replace bA := bA.ext hX
  replace bB := bB.ext hX
  replace bC := bC.ext hX
  replace bX := bX.ext hX
  replace bY := bY.ext hX
  replace bZ := bZ.ext hX
  replace bS := bS.ext hX
  replace bT := bT.ext hX
  replace bP := bP.ext hX
  clear hX
  go_upto_region 7 with fail
  have bQ := BoxN.new w10 23 (spC (qx, qy))
  have hX := (Ext.refl w10).alloc (.cells (spC (qx, qy)) 23)
  obtain ⟨w11, hw⟩ : ∃ w', w10.alloc (.cells (spC (qx, qy)) 23) = w' := ⟨_, rfl⟩
  change Code.wp _ _ _ _ (w10.alloc (.cells (spC (qx, qy)) 23))
  rw [hw] at hX bQ ⊢
  clear hw
  generalize w10.heap.size = Q at bQ ⊢
  replace hW := hW.trans hX
  replace bA := bA.ext hX
  replace bB := bB.ext hX
  replace bC := bC.ext hX
  replace bX := bX.ext hX
  replace bY := bY.ext hX
  replace bZ := bZ.ext hX
  replace bS := bS.ext hX
  replace bT := bT.ext hX
  replace bP := bP.ext hX
  clear hX
  obtain ⟨kC0, kC1, kC2, kC3, -⟩ := bC.box4
  obtain ⟨kZ0, kZ1, -⟩ := bZ.box2
  go_wp2_with fail
  clear kC0 kC1 kC2 kC3 kZ0 kZ1
  with_reducible refine (j3.out w11).mono ?_
  rintro en w12 ⟨rfl, hX⟩
  replace hW := hW.trans hX
  replace bA := bA.ext hX
  replace bB := bB.ext hX
  replace bC := bC.ext hX
  replace bX := bX.ext hX
  replace bY := bY.ext hX
  replace bZ := bZ.ext hX
  replace bS := bS.ext hX
  replace bT := bT.ext hX
  replace bP := bP.ext hX
  replace bQ := bQ.ext hX
  clear hX
  go_upto_region 8 with fail
  have bR := BoxN.new w12 23 (spC (rx, ry))
  have hX := (Ext.refl w12).alloc (.cells (spC (rx, ry)) 23)
  obtain ⟨w13, hw⟩ : ∃ w', w12.alloc (.cells (spC (rx, ry)) 23) = w' := ⟨_, rfl⟩
  change Code.wp _ _ _ _ (w12.alloc (.cells (spC (rx, ry)) 23))
  rw [hw] at hX bR ⊢
  clear hw
  generalize w12.heap.size = R at bR ⊢
  replace hW := hW.trans hX
  replace bA := bA.ext hX
  replace bB := bB.ext hX
  replace bC := bC.ext hX
  replace bX := bX.ext hX
  replace bY := bY.ext hX
  replace bZ := bZ.ext hX
  replace bS := bS.ext hX
  replace bT := bT.ext hX
  replace bP := bP.ext hX
  replace bQ := bQ.ext hX
  clear hX
  clear bX bY bZ
  obtain ⟨kP0, kP1, -⟩ := bP.box2
  have kPl := bP.lt
  obtain ⟨kQ0, kQ1, -⟩ := bQ.box2
  have kQl := bQ.lt
  obtain ⟨kR0, kR1, -⟩ := bR.box2
  have kRl := bR.lt
  go_wp2_with fail
  clear kP0 kP1 kQ0 kQ1 kR0 kR1 kPl kQl kRl
  refine (Area_any _ _ [(px, py), (qx, qy), (rx, ry)] _ (Ext.refl _) (Pts_mk (w := w13) rfl rfl rfl (by simp [maxLen]))).mono ?_
  rintro en w14 ⟨rfl, hX⟩
  rw [HAr.out]
  replace hX := ((Ext.refl w13).alloc _).trans hX
  replace hW := hW.trans hX
  replace bA := bA.ext hX
  replace bB := bB.ext hX
  replace bC := bC.ext hX
  replace bS := bS.ext hX
  replace bT := bT.ext hX
  replace bP := bP.ext hX
  replace bQ := bQ.ext hX
  replace bR := bR.ext hX
  clear hX
  obtain ⟨kP0, kP1, -⟩ := bP.box2
  obtain ⟨kQ0, kQ1, -⟩ := bQ.box2
  obtain ⟨kR0, kR1, -⟩ := bR.box2
  go_wp2_with fail
  clear kP0 kP1 kQ0 kQ1 kR0 kR1
  with_reducible refine (Turn_any w14 px py qx qy rx ry _ (Ext.refl _)).mono ?_
  rintro en w15 ⟨rfl, hX⟩
  rw [HTu.out]
  replace hW := hW.trans hX
  replace bA := bA.ext hX
  replace bB := bB.ext hX
  replace bC := bC.ext hX
  replace bS := bS.ext hX
  replace bT := bT.ext hX
  replace bP := bP.ext hX
  replace bQ := bQ.ext hX
  replace bR := bR.ext hX
  clear hX
  go_upto_region 10 with fail
  obtain ⟨kP0, kP1, -⟩ := bP.box2
  obtain ⟨kQ0, kQ1, -⟩ := bQ.box2
  obtain ⟨kS0, kS1, -⟩ := bS.box2
  obtain ⟨kT0, kT1, -⟩ := bT.box2
  have kP0 := cell_regrown kP0
  have kP1 := cell_regrown kP1
  have kQ0 := cell_regrown kQ0
  have kQ1 := cell_regrown kQ1
  have kS0 := cell_regrown kS0
  have kS1 := cell_regrown kS1
  have kT0 := cell_regrown kT0
  have kT1 := cell_regrown kT1
  have c1 := regrow (w := w15) (fun w' => within2_any w' N s1 s2 w' (Ext.refl _))
  have c2 := regrow (w := w15) (fun w' => Dist_any w' px py qx qy w' (Ext.refl _))
  have c3 := regrow (w := w15) (fun w' => within2_any w' M t1 t2 w' (Ext.refl _))
  rw [HW1.out] at c1
  rw [HDi.out] at c2
  rw [HW2.out] at c3
  have n0 : ((0 : Int) != 0) = false := rfl
  refine wp_region_quiet_below (by kernel_rfl) (by kernel_rfl) ?_
  repeat (with_reducible refine wpQuiet_step (fun K hK => ?_); go_simp; first | (with_reducible refine hK _ ?_; clear hK K) | (apply Exists.intro; with_reducible refine ⟨fun _ => ?_, hK _ ?_⟩; (first | with_reducible exact c1 _ _ | with_reducible exact c2 _ _ | with_reducible exact c3 _ _); clear hK K))
  refine wpQuiet_nil ?_
  intro _ hw'
  obtain ⟨⟨dq, osq⟩, hw''⟩ := hw'
  subst hw''
  have hX : Ext w15 (Go.Sort.grow (redrawn w15 dq) osq) := below_regrown w15 dq osq
  change Exit.then _ _ Exit.normal _ (Go.Sort.grow (redrawn w15 dq) osq)
  generalize Go.Sort.grow (redrawn w15 dq) osq = w16 at hX ⊢
  clear c1 c2 c3 n0
  clear kP0 kP1 kQ0 kQ1 kS0 kS1 kT0 kT1
  replace hW := hW.trans hX
  replace bA := bA.ext hX
  replace bB := bB.ext hX
  replace bC := bC.ext hX
  replace bS := bS.ext hX
  replace bT := bT.ext hX
  replace bP := bP.ext hX
  replace bQ := bQ.ext hX
  replace bR := bR.ext hX
  clear hX
  clear bP bQ bR
  obtain ⟨kA0, kA1, kA2, kA3, -⟩ := bA.box4
  obtain ⟨kB0, kB1, kB2, kB3, -⟩ := bB.box4
  obtain ⟨kC0, kC1, kC2, kC3, -⟩ := bC.box4
  go_wp2_with fail
  clear kA0 kA1 kA2 kA3 kB0 kB1 kB2 kB3 kC0 kC1 kC2 kC3
  with_reducible refine (Turns_any w16 a b c d e f g h i j k l _ (Ext.refl _)).mono ?_
  rintro en w17 ⟨rfl, hX⟩
  rw [HTe.out]
  replace hW := hW.trans hX
  replace bA := bA.ext hX
  replace bB := bB.ext hX
  replace bC := bC.ext hX
  replace bS := bS.ext hX
  replace bT := bT.ext hX
  clear hX
  go_upto_region 13 with fail
  go_cut [154] (fun v wx => v = .bool false ∧ wx = w17)
  case first =>
    as_aux_lemma =>
    obtain ⟨se, ge, l1, l2⟩ := HE.out
    obtain ⟨kS0, kS1, -⟩ := bS.box2
    have z0 : IntKind.i64.wrap 0 = 0 := by decide
    have z1 : IntKind.i64.wrap 1 = 1 := by decide
    have z2 : IntKind.i64.wrap 2 = 2 := by decide
    have z3 : IntKind.i64.wrap 3 = 3 := by decide
    rcases se with ⟨m1, m2, rfl⟩ | ⟨m1, rfl, rfl⟩ | ⟨m1, m2, rfl⟩ | ⟨rfl, m2, rfl⟩ | ⟨rfl, rfl, rfl⟩ | ⟨m1, m2, rfl⟩ <;> rcases ge with ⟨m3, rfl⟩ | ⟨m3, rfl⟩ | ⟨m3, rfl⟩
    all_goals first
    | (exfalso; omega)
    | (clear m3 l1 l2; go_wp2_with fail; go_meet; first | exact ⟨rfl, rfl⟩ | exact ⟨congrArg Value.bool (decide_eq_false (by omega)), rfl⟩)
  case rest =>
  obtain ⟨rfl, rfl⟩ := hcut
  as_aux_lemma =>
  go_upto_region 15 with fail
  obtain ⟨kA0, kA1, kA2, kA3, -⟩ := bA.box4
  obtain ⟨kB0, kB1, kB2, kB3, -⟩ := bB.box4
  obtain ⟨kC0, kC1, kC2, kC3, -⟩ := bC.box4
  obtain ⟨kS0, kS1, -⟩ := bS.box2
  go_wp2_with fail
  clear kA0 kA1 kA2 kA3 kB0 kB1 kB2 kB3 kC0 kC1 kC2 kC3 kS0 kS1
  with_reducible refine (attained_any wc a b c d e f g h i j k l s1 s2 _ (Ext.refl _) PA PB PC A1.out A2.out).mono ?_
  rintro en w18 ⟨rfl, hX⟩
  replace hW := hW.trans hX
  replace bA := bA.ext hX
  replace bB := bB.ext hX
  replace bC := bC.ext hX
  replace bS := bS.ext hX
  replace bT := bT.ext hX
  clear hX
  obtain ⟨kA0, kA1, kA2, kA3, -⟩ := bA.box4
  obtain ⟨kB0, kB1, kB2, kB3, -⟩ := bB.box4
  obtain ⟨kT0, kT1, -⟩ := bT.box2
  go_wp2_with fail
  clear kA0 kA1 kA2 kA3 kB0 kB1 kB2 kB3 kT0 kT1
  with_reducible refine (closest_any w18 a b c d e f g h t1 t2 _ (Ext.refl _) PA PB C1.out C2.out).mono ?_
  rintro en w19 ⟨rfl, hX⟩
  replace hW := hW.trans hX
  replace bA := bA.ext hX
  replace bB := bB.ext hX
  replace bC := bC.ext hX
  replace bS := bS.ext hX
  replace bT := bT.ext hX
  clear hX
  obtain ⟨⟨⟨⟨u1, u2, u3, u4⟩, ⟨v1, v2, v3, v4⟩⟩, ub⟩, hu⟩ : ∃ r, cutR a b c d = r := ⟨_, rfl⟩
  have HU := Lib.hid hu
  clear hu
  obtain ⟨kA0, kA1, kA2, kA3, -⟩ := bA.box4
  go_wp2_with fail
  clear kA0 kA1 kA2 kA3
  with_reducible refine (Cut_any w19 a b c d _ (Ext.refl _)).mono ?_
  rintro en w20 ⟨rfl, hX⟩
  rw [HU.out]
  replace hW := hW.trans hX
  replace bA := bA.ext hX
  replace bB := bB.ext hX
  replace bC := bC.ext hX
  replace bS := bS.ext hX
  replace bT := bT.ext hX
  clear hX
  go_upto_region 18 with fail
  have bU := (BoxN.new w20 52 (bxC u1 u2 u3 u4)).ext ((Ext.refl _).alloc (.cells (bxC v1 v2 v3 v4) 52))
  have bV := BoxN.new (w20.alloc (.cells (bxC u1 u2 u3 u4) 52)) 52 (bxC v1 v2 v3 v4)
  rw [World.size_alloc] at bV
  have hX := ((Ext.refl w20).alloc (.cells (bxC u1 u2 u3 u4) 52)).alloc (.cells (bxC v1 v2 v3 v4) 52)
  change Code.wp _ _ _ _ ((w20.alloc (.cells (bxC u1 u2 u3 u4) 52)).alloc (.cells (bxC v1 v2 v3 v4) 52))
  generalize (w20.alloc (.cells (bxC u1 u2 u3 u4) 52)).alloc (.cells (bxC v1 v2 v3 v4) 52) = w21 at hX bU bV ⊢
  generalize w20.heap.size + 1 = V at bV ⊢
  generalize w20.heap.size = U at bU ⊢
  replace hW := hW.trans hX
  replace bA := bA.ext hX
  replace bB := bB.ext hX
  replace bC := bC.ext hX
  replace bS := bS.ext hX
  replace bT := bT.ext hX
  clear hX
  cases ub
  · go_wp2_with fail
    with_reducible refine (boxes_any w21 _ (Ext.refl _)).mono ?_
    rintro en we ⟨rfl, hX⟩
    go_wp2_with fail
    go_ret
    exact ⟨rfl, hW.trans hX⟩
  as_aux_lemma =>
  obtain ⟨n1, n2, n3, n4⟩ := spread_halves a b c d e f g h i j k l u1 u2 u3 u4 v1 v2 v3 v4 HU.out B3.out
  obtain ⟨n5, n6, n7, n8⟩ := dists_halves a b c d e f g h u1 u2 u3 u4 v1 v2 v3 v4 HU.out B2.out
  rw [HS.out] at n3 n4
  rw [HD.out] at n7 n8
  obtain ⟨⟨⟨e1, e2⟩, eb⟩, he⟩ : ∃ r, spreadR u1 u2 u3 u4 e f g h i j k l = r := ⟨_, rfl⟩
  obtain ⟨⟨⟨f1, f2⟩, fb⟩, hf⟩ : ∃ r, spreadR v1 v2 v3 v4 e f g h i j k l = r := ⟨_, rfl⟩
  obtain ⟨⟨⟨m1, m2⟩, mb⟩, hm⟩ : ∃ r, distsR u1 u2 u3 u4 e f g h = r := ⟨_, rfl⟩
  obtain ⟨⟨⟨o1, o2⟩, ob⟩, ho⟩ : ∃ r, distsR v1 v2 v3 v4 e f g h = r := ⟨_, rfl⟩
  rw [he] at n1 n3 n4
  rw [hf] at n2 n3 n4
  rw [hm] at n5 n7 n8
  rw [ho] at n6 n7 n8
  obtain rfl : eb = true := n1
  obtain rfl : fb = true := n2
  obtain rfl : mb = true := n5
  obtain rfl : ob = true := n6
  have HF1 := Lib.hid he
  have HF2 := Lib.hid hf
  have HF3 := Lib.hid hm
  have HF4 := Lib.hid ho
  have N3 : Hid (min e1 f1 = s1) := n3
  have N4 : Hid (max e2 f2 = s2) := n4
  have N7 : Hid (min m1 o1 = t1) := n7
  have N8 : Hid (max m2 o2 = t2) := n8
  clear n3 n4 n7 n8 he hf hm ho
  obtain ⟨kU0, kU1, kU2, kU3, -⟩ := bU.box4
  obtain ⟨kB0, kB1, kB2, kB3, -⟩ := bB.box4
  obtain ⟨kC0, kC1, kC2, kC3, -⟩ := bC.box4
  go_wp2_with fail
  clear kU0 kU1 kU2 kU3 kB0 kB1 kB2 kB3 kC0 kC1 kC2 kC3
  with_reducible refine (Spread_any w21 u1 u2 u3 u4 e f g h i j k l _ (Ext.refl _)).mono ?_
  rintro en w22 ⟨rfl, hX⟩
  rw [HF1.out]
  replace hW := hW.trans hX
  replace bA := bA.ext hX
  replace bB := bB.ext hX
  replace bC := bC.ext hX
  replace bS := bS.ext hX
  replace bT := bT.ext hX
  replace bU := bU.ext hX
  replace bV := bV.ext hX
  clear hX
  go_upto_region 21 with fail
  have bH := BoxN.new w22 50 (spC (e1, e2))
  have hX := (Ext.refl w22).alloc (.cells (spC (e1, e2)) 50)
  obtain ⟨w23, hw⟩ : ∃ w', w22.alloc (.cells (spC (e1, e2)) 50) = w' := ⟨_, rfl⟩
  change Code.wp _ _ _ _ (w22.alloc (.cells (spC (e1, e2)) 50))
  rw [hw] at hX bH ⊢
  clear hw
  generalize w22.heap.size = H at bH ⊢
  replace hW := hW.trans hX
  replace bA := bA.ext hX
  replace bB := bB.ext hX
  replace bC := bC.ext hX
  replace bS := bS.ext hX
  replace bT := bT.ext hX
  replace bU := bU.ext hX
  replace bV := bV.ext hX
  clear hX
  obtain ⟨kV0, kV1, kV2, kV3, -⟩ := bV.box4
  obtain ⟨kB0, kB1, kB2, kB3, -⟩ := bB.box4
  obtain ⟨kC0, kC1, kC2, kC3, -⟩ := bC.box4
  go_wp2_with fail
  clear kV0 kV1 kV2 kV3 kB0 kB1 kB2 kB3 kC0 kC1 kC2 kC3
  with_reducible refine (Spread_any w23 v1 v2 v3 v4 e f g h i j k l _ (Ext.refl _)).mono ?_
  rintro en w24 ⟨rfl, hX⟩
  rw [HF2.out]
  replace hW := hW.trans hX
  replace bA := bA.ext hX
  replace bB := bB.ext hX
  replace bC := bC.ext hX
  replace bS := bS.ext hX
  replace bT := bT.ext hX
  replace bU := bU.ext hX
  replace bV := bV.ext hX
  replace bH := bH.ext hX
  clear hX
  go_upto_region 22 with fail
  have bI := BoxN.new w24 50 (spC (f1, f2))
  have hX := (Ext.refl w24).alloc (.cells (spC (f1, f2)) 50)
  obtain ⟨w25, hw⟩ : ∃ w', w24.alloc (.cells (spC (f1, f2)) 50) = w' := ⟨_, rfl⟩
  change Code.wp _ _ _ _ (w24.alloc (.cells (spC (f1, f2)) 50))
  rw [hw] at hX bI ⊢
  clear hw
  generalize w24.heap.size = I at bI ⊢
  replace hW := hW.trans hX
  replace bA := bA.ext hX
  replace bB := bB.ext hX
  replace bC := bC.ext hX
  replace bS := bS.ext hX
  replace bT := bT.ext hX
  replace bU := bU.ext hX
  replace bV := bV.ext hX
  replace bH := bH.ext hX
  clear hX
  obtain ⟨kU0, kU1, kU2, kU3, -⟩ := bU.box4
  obtain ⟨kB0, kB1, kB2, kB3, -⟩ := bB.box4
  go_wp2_with fail
  clear kU0 kU1 kU2 kU3 kB0 kB1 kB2 kB3
  with_reducible refine (Dists_any w25 u1 u2 u3 u4 e f g h _ (Ext.refl _)).mono ?_
  rintro en w26 ⟨rfl, hX⟩
  rw [HF3.out]
  replace hW := hW.trans hX
  replace bA := bA.ext hX
  replace bB := bB.ext hX
  replace bC := bC.ext hX
  replace bS := bS.ext hX
  replace bT := bT.ext hX
  replace bU := bU.ext hX
  replace bV := bV.ext hX
  replace bH := bH.ext hX
  replace bI := bI.ext hX
  clear hX
  go_upto_region 23 with fail
  have bJ := BoxN.new w26 50 (spC (m1, m2))
  have hX := (Ext.refl w26).alloc (.cells (spC (m1, m2)) 50)
  obtain ⟨w27, hw⟩ : ∃ w', w26.alloc (.cells (spC (m1, m2)) 50) = w' := ⟨_, rfl⟩
  change Code.wp _ _ _ _ (w26.alloc (.cells (spC (m1, m2)) 50))
  rw [hw] at hX bJ ⊢
  clear hw
  generalize w26.heap.size = J at bJ ⊢
  replace hW := hW.trans hX
  replace bA := bA.ext hX
  replace bB := bB.ext hX
  replace bC := bC.ext hX
  replace bS := bS.ext hX
  replace bT := bT.ext hX
  replace bU := bU.ext hX
  replace bV := bV.ext hX
  replace bH := bH.ext hX
  replace bI := bI.ext hX
  clear hX
  obtain ⟨kV0, kV1, kV2, kV3, -⟩ := bV.box4
  obtain ⟨kB0, kB1, kB2, kB3, -⟩ := bB.box4
  go_wp2_with fail
  clear kV0 kV1 kV2 kV3 kB0 kB1 kB2 kB3
  with_reducible refine (Dists_any w27 v1 v2 v3 v4 e f g h _ (Ext.refl _)).mono ?_
  rintro en w28 ⟨rfl, hX⟩
  rw [HF4.out]
  replace hW := hW.trans hX
  replace bA := bA.ext hX
  replace bB := bB.ext hX
  replace bC := bC.ext hX
  replace bS := bS.ext hX
  replace bT := bT.ext hX
  replace bU := bU.ext hX
  replace bV := bV.ext hX
  replace bH := bH.ext hX
  replace bI := bI.ext hX
  replace bJ := bJ.ext hX
  clear hX
  go_upto_region 24 with fail
  have bK := BoxN.new w28 50 (spC (o1, o2))
  have hX := (Ext.refl w28).alloc (.cells (spC (o1, o2)) 50)
  obtain ⟨w29, hw⟩ : ∃ w', w28.alloc (.cells (spC (o1, o2)) 50) = w' := ⟨_, rfl⟩
  change Code.wp _ _ _ _ (w28.alloc (.cells (spC (o1, o2)) 50))
  rw [hw] at hX bK ⊢
  clear hw
  generalize w28.heap.size = K at bK ⊢
  replace hW := hW.trans hX
  replace bA := bA.ext hX
  replace bB := bB.ext hX
  replace bC := bC.ext hX
  replace bS := bS.ext hX
  replace bT := bT.ext hX
  replace bU := bU.ext hX
  replace bV := bV.ext hX
  replace bH := bH.ext hX
  replace bI := bI.ext hX
  replace bJ := bJ.ext hX
  clear hX
  clear bA bB bC bU bV
  go_wp2_with fail
  with_reducible refine (boxes_any w29 _ (Ext.refl _)).mono ?_
  rintro en w30 ⟨rfl, hX⟩
  replace hW := hW.trans hX
  replace bS := bS.ext hX
  replace bT := bT.ext hX
  replace bH := bH.ext hX
  replace bI := bI.ext hX
  replace bJ := bJ.ext hX
  replace bK := bK.ext hX
  clear hX
  obtain ⟨kH0, kH1, -⟩ := bH.box2
  obtain ⟨kI0, kI1, -⟩ := bI.box2
  obtain ⟨kJ0, kJ1, -⟩ := bJ.box2
  obtain ⟨kK0, kK1, -⟩ := bK.box2
  obtain ⟨kS0, kS1, -⟩ := bS.box2
  obtain ⟨kT0, kT1, -⟩ := bT.box2
  have hmin := ite_min
  have hmax := ite_max
  have n3 := N3.out
  have n4 := N4.out
  have n7 := N7.out
  have n8 := N8.out
  go_wp2_with fail
  go_ret
  exact ⟨rfl, hW⟩
end Go.Proofs.Ytdbhbfmbpldmnaa
