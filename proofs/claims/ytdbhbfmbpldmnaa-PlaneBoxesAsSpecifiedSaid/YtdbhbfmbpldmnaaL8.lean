/- The walk of PlaneBoxesAsSpecified: it returns true. -/
import Derived.Test.YtdbhbfmbpldmnaaL7
import Derived.Test.YtdbhbfmbpldmnaaY2
import Derived.Test.YtdbhbfmbpldmnaaY1
import Derived.Test.YtdbhbfmbpldmnaaY4
import Derived.Test.YtdbhbfmbpldmnaaX2
import Derived.Test.YtdbhbfmbpldmnaaX3
import Derived.Test.YtdbhbfmbpldmnaaL8a
import Derived.Test.YtdbhbfmbpldmnaaR8
namespace Go.Proofs.Ytdbhbfmbpldmnaa
open Go.RowKit Go.Sort
theorem eqBx (a b c d : Int) (w : World) : (binOp .eql 52 (bxV a b c d) (bxV a b c d)).run Try.prog w = .ok (.bool true) w := by
  have h1 : (a == a) = true := by simp
  have h2 : (b == b) = true := by simp
  have h3 : (c == c) = true := by simp
  have h4 : (d == d) = true := by simp
  go_simp
set_option maxRecDepth 100000 in
set_option maxHeartbeats 32000000 in
theorem law13_any (W : World) (a b c d e f g h px py n : Int) (w : World) (hX : Ext W w) :
    Calls Try.prog 13 #[bxV a b c d, bxV e f g h, spV px py, .int .i64 n] w fun e w' => e = .returned (.bool true) ∧ Ext W w' := by
  go_enter Try.func13, Try.ntmps13
  go_wp2_with fail
  have bA := ((BoxN.new w 52 (bxC a b c d)).ext ((Ext.refl _).alloc (.cells (bxC e f g h) 52))).ext ((Ext.refl _).alloc (.cells (spC (px, py)) 23))
  have bB := (BoxN.new (w.alloc (.cells (bxC a b c d) 52)) 52 (bxC e f g h)).ext ((Ext.refl _).alloc (.cells (spC (px, py)) 23))
  have bP := BoxN.new ((w.alloc (.cells (bxC a b c d) 52)).alloc (.cells (bxC e f g h) 52)) 23 (spC (px, py))
  rw [World.size_alloc] at bB
  rw [World.size_alloc, World.size_alloc] at bP
  have hW := ((hX.alloc (.cells (bxC a b c d) 52)).alloc (.cells (bxC e f g h) 52)).alloc (.cells (spC (px, py)) 23)
  change Calls _ _ _ (((w.alloc (.cells (bxC a b c d) 52)).alloc (.cells (bxC e f g h) 52)).alloc (.cells (spC (px, py)) 23)) _
  generalize ((w.alloc (.cells (bxC a b c d) 52)).alloc (.cells (bxC e f g h) 52)).alloc (.cells (spC (px, py)) 23) = w3 at bA bB bP hW ⊢
  generalize w.heap.size + 1 + 1 = P at bP ⊢
  generalize w.heap.size + 1 = B at bB ⊢
  generalize w.heap.size = A at bA ⊢
  clear hX
  obtain ⟨⟨⟨m1, m2, m3, m4⟩, mb⟩, hm⟩ : ∃ r, meetR a b c d e f g h = r := ⟨_, rfl⟩
  obtain ⟨⟨⟨o1, o2, o3, o4⟩, ob⟩, ho⟩ : ∃ r, coverR a b c d e f g h = r := ⟨_, rfl⟩
  obtain ⟨⟨⟨g1, g2, g3, g4⟩, gb⟩, hg⟩ : ∃ r, growR a b c d n = r := ⟨_, rfl⟩
  obtain ⟨⟨⟨⟨u1, u2, u3, u4⟩, ⟨v1, v2, v3, v4⟩⟩, ub⟩, hu⟩ : ∃ r, cutR a b c d = r := ⟨_, rfl⟩
  have HM := Lib.hid hm
  have HO := Lib.hid ho
  have HG := Lib.hid hg
  have HU := Lib.hid hu
  clear hm ho hg hu
  with_reducible refine (Meet_any w3 a b c d e f g h _ (Ext.refl _)).mono ?_
  rintro en w4 ⟨rfl, hX⟩
  rw [HM.out]
  replace hW := hW.trans hX
  replace bA := bA.ext hX
  replace bB := bB.ext hX
  replace bP := bP.ext hX
  clear hX
  obtain ⟨kA0, kA1, kA2, kA3, _⟩ := bA.box4
  have kAl := bA.lt
  obtain ⟨kB0, kB1, kB2, kB3, _⟩ := bB.box4
  have kBl := bB.lt
  go_wp2_with fail
  clear kA0 kA1 kA2 kA3 kB0 kB1 kB2 kB3 kAl kBl
  have bD := BoxN.new w4 52 (bxC m1 m2 m3 m4)
  have hX := (Ext.refl w4).alloc (.cells (bxC m1 m2 m3 m4) 52)
  have hw : ∃ w', w4.alloc (.cells (bxC m1 m2 m3 m4) 52) = w' := ⟨_, rfl⟩
  obtain ⟨w5, hw⟩ := hw
  change Calls _ _ _ (w4.alloc (.cells (bxC m1 m2 m3 m4) 52)) _
  rw [hw] at hX bD ⊢
  clear hw
  generalize w4.heap.size = D at bD ⊢
  replace hW := hW.trans hX
  replace bA := bA.ext hX
  replace bB := bB.ext hX
  replace bP := bP.ext hX
  clear hX
  with_reducible refine (rMeet w5 a b c d e f g h _ (Ext.refl _)).mono ?_
  rintro en w6 ⟨rfl, hX⟩
  rw [HM.out]
  replace hW := hW.trans hX
  replace bA := bA.ext hX
  replace bB := bB.ext hX
  replace bP := bP.ext hX
  replace bD := bD.ext hX
  clear hX
  obtain ⟨kA0, kA1, kA2, kA3, _⟩ := bA.box4
  have kAl := bA.lt
  obtain ⟨kB0, kB1, kB2, kB3, _⟩ := bB.box4
  have kBl := bB.lt
  go_wp2_with fail
  clear kA0 kA1 kA2 kA3 kB0 kB1 kB2 kB3 kAl kBl
  have bE := BoxN.new w6 52 (bxC m1 m2 m3 m4)
  have hX := (Ext.refl w6).alloc (.cells (bxC m1 m2 m3 m4) 52)
  have hw : ∃ w', w6.alloc (.cells (bxC m1 m2 m3 m4) 52) = w' := ⟨_, rfl⟩
  obtain ⟨w7, hw⟩ := hw
  change Calls _ _ _ (w6.alloc (.cells (bxC m1 m2 m3 m4) 52)) _
  rw [hw] at hX bE ⊢
  clear hw
  generalize w6.heap.size = E at bE ⊢
  replace hW := hW.trans hX
  replace bA := bA.ext hX
  replace bB := bB.ext hX
  replace bP := bP.ext hX
  replace bD := bD.ext hX
  clear hX
  with_reducible refine (Cover_any w7 a b c d e f g h _ (Ext.refl _)).mono ?_
  rintro en w8 ⟨rfl, hX⟩
  rw [HO.out]
  replace hW := hW.trans hX
  replace bA := bA.ext hX
  replace bB := bB.ext hX
  replace bP := bP.ext hX
  replace bD := bD.ext hX
  replace bE := bE.ext hX
  clear hX
  obtain ⟨kA0, kA1, kA2, kA3, _⟩ := bA.box4
  have kAl := bA.lt
  obtain ⟨kB0, kB1, kB2, kB3, _⟩ := bB.box4
  have kBl := bB.lt
  go_wp2_with fail
  clear kA0 kA1 kA2 kA3 kB0 kB1 kB2 kB3 kAl kBl
  have bF := BoxN.new w8 52 (bxC o1 o2 o3 o4)
  have hX := (Ext.refl w8).alloc (.cells (bxC o1 o2 o3 o4) 52)
  have hw : ∃ w', w8.alloc (.cells (bxC o1 o2 o3 o4) 52) = w' := ⟨_, rfl⟩
  obtain ⟨w9, hw⟩ := hw
  change Calls _ _ _ (w8.alloc (.cells (bxC o1 o2 o3 o4) 52)) _
  rw [hw] at hX bF ⊢
  clear hw
  generalize w8.heap.size = F at bF ⊢
  replace hW := hW.trans hX
  replace bA := bA.ext hX
  replace bB := bB.ext hX
  replace bP := bP.ext hX
  replace bD := bD.ext hX
  replace bE := bE.ext hX
  clear hX
  with_reducible refine (rCover w9 a b c d e f g h _ (Ext.refl _)).mono ?_
  rintro en w10 ⟨rfl, hX⟩
  rw [HO.out]
  replace hW := hW.trans hX
  replace bA := bA.ext hX
  replace bB := bB.ext hX
  replace bP := bP.ext hX
  replace bD := bD.ext hX
  replace bE := bE.ext hX
  replace bF := bF.ext hX
  clear hX
  obtain ⟨kA0, kA1, kA2, kA3, _⟩ := bA.box4
  have kAl := bA.lt
  go_wp2_with fail
  clear kA0 kA1 kA2 kA3 kAl
  have bG := BoxN.new w10 52 (bxC o1 o2 o3 o4)
  have hX := (Ext.refl w10).alloc (.cells (bxC o1 o2 o3 o4) 52)
  have hw : ∃ w', w10.alloc (.cells (bxC o1 o2 o3 o4) 52) = w' := ⟨_, rfl⟩
  obtain ⟨w11, hw⟩ := hw
  change Calls _ _ _ (w10.alloc (.cells (bxC o1 o2 o3 o4) 52)) _
  rw [hw] at hX bG ⊢
  clear hw
  generalize w10.heap.size = G at bG ⊢
  replace hW := hW.trans hX
  replace bA := bA.ext hX
  replace bB := bB.ext hX
  replace bP := bP.ext hX
  replace bD := bD.ext hX
  replace bE := bE.ext hX
  replace bF := bF.ext hX
  clear hX
  with_reducible refine (Grow_any w11 a b c d n _ (Ext.refl _)).mono ?_
  rintro en w12 ⟨rfl, hX⟩
  rw [HG.out]
  replace hW := hW.trans hX
  replace bA := bA.ext hX
  replace bB := bB.ext hX
  replace bP := bP.ext hX
  replace bD := bD.ext hX
  replace bE := bE.ext hX
  replace bF := bF.ext hX
  replace bG := bG.ext hX
  clear hX
  obtain ⟨kA0, kA1, kA2, kA3, _⟩ := bA.box4
  have kAl := bA.lt
  go_wp2_with fail
  clear kA0 kA1 kA2 kA3 kAl
  have bH := BoxN.new w12 52 (bxC g1 g2 g3 g4)
  have hX := (Ext.refl w12).alloc (.cells (bxC g1 g2 g3 g4) 52)
  have hw : ∃ w', w12.alloc (.cells (bxC g1 g2 g3 g4) 52) = w' := ⟨_, rfl⟩
  obtain ⟨w13, hw⟩ := hw
  change Calls _ _ _ (w12.alloc (.cells (bxC g1 g2 g3 g4) 52)) _
  rw [hw] at hX bH ⊢
  clear hw
  generalize w12.heap.size = H at bH ⊢
  replace hW := hW.trans hX
  replace bA := bA.ext hX
  replace bB := bB.ext hX
  replace bP := bP.ext hX
  replace bD := bD.ext hX
  replace bE := bE.ext hX
  replace bF := bF.ext hX
  replace bG := bG.ext hX
  clear hX
  with_reducible refine (rGrow w13 a b c d n _ (Ext.refl _)).mono ?_
  rintro en w14 ⟨rfl, hX⟩
  rw [HG.out]
  replace hW := hW.trans hX
  replace bA := bA.ext hX
  replace bB := bB.ext hX
  replace bP := bP.ext hX
  replace bD := bD.ext hX
  replace bE := bE.ext hX
  replace bF := bF.ext hX
  replace bG := bG.ext hX
  replace bH := bH.ext hX
  clear hX
  obtain ⟨kA0, kA1, kA2, kA3, _⟩ := bA.box4
  have kAl := bA.lt
  go_wp2_with fail
  clear kA0 kA1 kA2 kA3 kAl
  have bI := BoxN.new w14 52 (bxC g1 g2 g3 g4)
  have hX := (Ext.refl w14).alloc (.cells (bxC g1 g2 g3 g4) 52)
  have hw : ∃ w', w14.alloc (.cells (bxC g1 g2 g3 g4) 52) = w' := ⟨_, rfl⟩
  obtain ⟨w15, hw⟩ := hw
  change Calls _ _ _ (w14.alloc (.cells (bxC g1 g2 g3 g4) 52)) _
  rw [hw] at hX bI ⊢
  clear hw
  generalize w14.heap.size = I at bI ⊢
  replace hW := hW.trans hX
  replace bA := bA.ext hX
  replace bB := bB.ext hX
  replace bP := bP.ext hX
  replace bD := bD.ext hX
  replace bE := bE.ext hX
  replace bF := bF.ext hX
  replace bG := bG.ext hX
  replace bH := bH.ext hX
  clear hX
  with_reducible refine (Cut_any w15 a b c d _ (Ext.refl _)).mono ?_
  rintro en w16 ⟨rfl, hX⟩
  rw [HU.out]
  replace hW := hW.trans hX
  replace bA := bA.ext hX
  replace bB := bB.ext hX
  replace bP := bP.ext hX
  replace bD := bD.ext hX
  replace bE := bE.ext hX
  replace bF := bF.ext hX
  replace bG := bG.ext hX
  replace bH := bH.ext hX
  replace bI := bI.ext hX
  clear hX
  obtain ⟨kA0, kA1, kA2, kA3, _⟩ := bA.box4
  have kAl := bA.lt
  go_wp2_with fail
  clear kA0 kA1 kA2 kA3 kAl
  have bJ := (BoxN.new w16 52 (bxC u1 u2 u3 u4)).ext ((Ext.refl _).alloc (.cells (bxC v1 v2 v3 v4) 52))
  have bK := BoxN.new (w16.alloc (.cells (bxC u1 u2 u3 u4) 52)) 52 (bxC v1 v2 v3 v4)
  rw [World.size_alloc] at bK
  have hX := ((Ext.refl w16).alloc (.cells (bxC u1 u2 u3 u4) 52)).alloc (.cells (bxC v1 v2 v3 v4) 52)
  change Calls _ _ _ ((w16.alloc (.cells (bxC u1 u2 u3 u4) 52)).alloc (.cells (bxC v1 v2 v3 v4) 52)) _
  generalize (w16.alloc (.cells (bxC u1 u2 u3 u4) 52)).alloc (.cells (bxC v1 v2 v3 v4) 52) = w17 at hX bJ bK ⊢
  generalize w16.heap.size + 1 = K at bK ⊢
  generalize w16.heap.size = J at bJ ⊢
  replace hW := hW.trans hX
  replace bA := bA.ext hX
  replace bB := bB.ext hX
  replace bP := bP.ext hX
  replace bD := bD.ext hX
  replace bE := bE.ext hX
  replace bF := bF.ext hX
  replace bG := bG.ext hX
  replace bH := bH.ext hX
  replace bI := bI.ext hX
  clear hX
  with_reducible refine (rCut w17 a b c d _ (Ext.refl _)).mono ?_
  rintro en w18 ⟨rfl, hX⟩
  rw [HU.out]
  replace hW := hW.trans hX
  replace bA := bA.ext hX
  replace bB := bB.ext hX
  replace bP := bP.ext hX
  replace bD := bD.ext hX
  replace bE := bE.ext hX
  replace bF := bF.ext hX
  replace bG := bG.ext hX
  replace bH := bH.ext hX
  replace bI := bI.ext hX
  replace bJ := bJ.ext hX
  replace bK := bK.ext hX
  clear hX
  obtain ⟨kA0, kA1, kA2, kA3, _⟩ := bA.box4
  have kAl := bA.lt
  go_wp2_with fail
  clear kA0 kA1 kA2 kA3 kAl
  have bL := (BoxN.new w18 52 (bxC u1 u2 u3 u4)).ext ((Ext.refl _).alloc (.cells (bxC v1 v2 v3 v4) 52))
  have bM := BoxN.new (w18.alloc (.cells (bxC u1 u2 u3 u4) 52)) 52 (bxC v1 v2 v3 v4)
  rw [World.size_alloc] at bM
  have hX := ((Ext.refl w18).alloc (.cells (bxC u1 u2 u3 u4) 52)).alloc (.cells (bxC v1 v2 v3 v4) 52)
  change Code.wp _ _ _ _ ((w18.alloc (.cells (bxC u1 u2 u3 u4) 52)).alloc (.cells (bxC v1 v2 v3 v4) 52))
  generalize (w18.alloc (.cells (bxC u1 u2 u3 u4) 52)).alloc (.cells (bxC v1 v2 v3 v4) 52) = w19 at hX bL bM ⊢
  generalize w18.heap.size + 1 = M at bM ⊢
  generalize w18.heap.size = L at bL ⊢
  replace hW := hW.trans hX
  replace bA := bA.ext hX
  replace bB := bB.ext hX
  replace bP := bP.ext hX
  replace bD := bD.ext hX
  replace bE := bE.ext hX
  replace bF := bF.ext hX
  replace bG := bG.ext hX
  replace bH := bH.ext hX
  replace bI := bI.ext hX
  replace bJ := bJ.ext hX
  replace bK := bK.ext hX
  clear hX
  obtain ⟨kA0, kA1, kA2, kA3, _⟩ := bA.box4
  obtain ⟨kP0, kP1, _⟩ := bP.box2
  have HW := Lib.hid hW
  have HDb := Lib.hid bD
  have HEb := Lib.hid bE
  have HFb := Lib.hid bF
  have HGb := Lib.hid bG
  have HHb := Lib.hid bH
  have HIb := Lib.hid bI
  have HJb := Lib.hid bJ
  have HKb := Lib.hid bK
  have HLb := Lib.hid bL
  have HMb := Lib.hid bM
  clear hW bA bB bP bD bE bF bG bH bI bJ bK bL bM
  have kA0 := cell_regrown kA0
  have kA1 := cell_regrown kA1
  have kA2 := cell_regrown kA2
  have kA3 := cell_regrown kA3
  have kP0 := cell_regrown kP0
  have kP1 := cell_regrown kP1
  have c1 := regrow (w := w19) (fun w' => Proper_any w' a b c d w' (Ext.refl _))
  have c2 := regrow (w := w19) (fun w' => rProperB w' a b c d w' (Ext.refl _))
  have c3 := regrow (w := w19) (fun w' => Holds_any w' a b c d px py w' (Ext.refl _))
  have c4 := regrow (w := w19) (fun w' => rHolds w' a b c d px py w' (Ext.refl _))
  have c5 := regrow (w := w19) (fun w' => Corners_any w' a b c d w' (Ext.refl _))
  have c6 := regrow (w := w19) (fun w' => rCorners w' a b c d w' (Ext.refl _))
  generalize cnR a b c d = FC at c5 c6
  generalize boxB a b c d = pb at c1 c2
  generalize holdB a b c d px py = qb at c3 c4
  have qC := eqCn FC
  refine wp_region_quiet_below (by kernel_rfl) (by kernel_rfl) ?_
  repeat (quiet_step (first | with_reducible exact c1 _ _ | with_reducible exact c2 _ _ | with_reducible exact c3 _ _ | with_reducible exact c4 _ _ | with_reducible exact c5 _ _ | with_reducible exact c6 _ _))
  refine wpQuiet_nil ?_
  intro _ hw'
  obtain ⟨⟨dq, osq⟩, hw''⟩ := hw'
  subst hw''
  have hXq : Ext w19 (Go.Sort.grow (redrawn w19 dq) osq) := below_regrown w19 dq osq
  have hW := HW.out.trans hXq
  have bD := HDb.out.ext hXq
  have bE := HEb.out.ext hXq
  have bF := HFb.out.ext hXq
  have bG := HGb.out.ext hXq
  have bH := HHb.out.ext hXq
  have bI := HIb.out.ext hXq
  have bJ := HJb.out.ext hXq
  have bK := HKb.out.ext hXq
  have bL := HLb.out.ext hXq
  have bM := HMb.out.ext hXq
  change Exit.then _ _ Exit.normal _ (Go.Sort.grow (redrawn w19 dq) osq)
  generalize Go.Sort.grow (redrawn w19 dq) osq = wd at hW bD bE bF bG bH bI bJ bK bL bM ⊢
  clear hXq c1 c2 c3 c4 c5 c6 qC HW kA0 kA1 kA2 kA3 kP0 kP1
  go_wp2_with fail
  with_reducible refine (boxes_any wd _ (Ext.refl _)).mono ?_
  rintro en we ⟨rfl, hX⟩
  replace hW := hW.trans hX
  replace bD := bD.ext hX
  replace bE := bE.ext hX
  replace bF := bF.ext hX
  replace bG := bG.ext hX
  replace bH := bH.ext hX
  replace bI := bI.ext hX
  replace bJ := bJ.ext hX
  replace bK := bK.ext hX
  replace bL := bL.ext hX
  replace bM := bM.ext hX
  clear hX
  obtain ⟨kD0, kD1, kD2, kD3, _⟩ := bD.box4
  obtain ⟨kE0, kE1, kE2, kE3, _⟩ := bE.box4
  obtain ⟨kF0, kF1, kF2, kF3, _⟩ := bF.box4
  obtain ⟨kG0, kG1, kG2, kG3, _⟩ := bG.box4
  obtain ⟨kH0, kH1, kH2, kH3, _⟩ := bH.box4
  obtain ⟨kI0, kI1, kI2, kI3, _⟩ := bI.box4
  obtain ⟨kJ0, kJ1, kJ2, kJ3, _⟩ := bJ.box4
  obtain ⟨kK0, kK1, kK2, kK3, _⟩ := bK.box4
  obtain ⟨kL0, kL1, kL2, kL3, _⟩ := bL.box4
  obtain ⟨kM0, kM1, kM2, kM3, _⟩ := bM.box4
  have q1 := eqBx m1 m2 m3 m4
  have q2 := eqBx o1 o2 o3 o4
  have q3 := eqBx g1 g2 g3 g4
  have q4 := eqBx u1 u2 u3 u4
  have q5 := eqBx v1 v2 v3 v4
  go_wp2_with fail
  go_ret
  exact ⟨rfl, hW⟩
end Go.Proofs.Ytdbhbfmbpldmnaa
