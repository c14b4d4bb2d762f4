/- The walk of PlaneSpreadsAsSpecified: it returns true. -/
import Derived.Test.YtdbhbfmbpldmnaaUV
import Derived.Test.YtdbhbfmbpldmnaaY3
namespace Go.Proofs.Ytdbhbfmbpldmnaa
open Go.RowKit Go.Sort
theorem eqSp (a b : Int) (w : World) : (binOp .eql 50 (.agg #[.int .i64 a, .int .i64 b]) (.agg #[.int .i64 a, .int .i64 b])).run Try.prog w = .ok (.bool true) w := by
  have h1 : (a == a) = true := by simp
  have h2 : (b == b) = true := by simp
  go_simp
set_option maxRecDepth 100000 in
set_option maxHeartbeats 16000000 in
theorem law12_any (W : World) (a b c d e f g h i j k l : Int) (w : World) (hX : Ext W w) :
    Calls Try.prog 12 #[bxV a b c d, bxV e f g h, bxV i j k l] w fun e w' => e = .returned (.bool true) ∧ Ext W w' := by
  go_enter Try.func12, Try.ntmps12
  go_wp2_with fail
  have bA := ((BoxN.new w 52 (bxC a b c d)).ext ((Ext.refl _).alloc (.cells (bxC e f g h) 52))).ext ((Ext.refl _).alloc (.cells (bxC i j k l) 52))
  have bB := (BoxN.new (w.alloc (.cells (bxC a b c d) 52)) 52 (bxC e f g h)).ext ((Ext.refl _).alloc (.cells (bxC i j k l) 52))
  have bC := BoxN.new ((w.alloc (.cells (bxC a b c d) 52)).alloc (.cells (bxC e f g h) 52)) 52 (bxC i j k l)
  rw [World.size_alloc] at bB
  rw [World.size_alloc, World.size_alloc] at bC
  have hW := ((hX.alloc (.cells (bxC a b c d) 52)).alloc (.cells (bxC e f g h) 52)).alloc (.cells (bxC i j k l) 52)
  change Calls _ _ _ (((w.alloc (.cells (bxC a b c d) 52)).alloc (.cells (bxC e f g h) 52)).alloc (.cells (bxC i j k l) 52)) _
  generalize ((w.alloc (.cells (bxC a b c d) 52)).alloc (.cells (bxC e f g h) 52)).alloc (.cells (bxC i j k l) 52) = w3 at bA bB bC hW ⊢
  generalize w.heap.size + 1 + 1 = C at bC ⊢
  generalize w.heap.size + 1 = B at bB ⊢
  generalize w.heap.size = A at bA ⊢
  clear hX
  obtain ⟨⟨⟨su, sv⟩, sb⟩, hs⟩ : ∃ r, spreadR a b c d e f g h i j k l = r := ⟨_, rfl⟩
  obtain ⟨⟨⟨du, dv⟩, db⟩, hd⟩ : ∃ r, distsR a b c d e f g h = r := ⟨_, rfl⟩
  have HS := Lib.hid hs
  have HD := Lib.hid hd
  clear hs hd
  with_reducible refine (Spread_any w3 a b c d e f g h i j k l _ (Ext.refl _)).mono ?_
  rintro en w4 ⟨rfl, hX⟩
  rw [HS.out]
  replace hW := hW.trans hX
  replace bA := bA.ext hX
  replace bB := bB.ext hX
  replace bC := bC.ext hX
  clear hX
  obtain ⟨a0, a1, a2, a3, _⟩ := bA.box4
  have al := bA.lt
  obtain ⟨b0, b1, b2, b3, _⟩ := bB.box4
  have bl := bB.lt
  obtain ⟨c0, c1, c2, c3, _⟩ := bC.box4
  have cl := bC.lt
  go_wp2_with fail
  clear a0 a1 a2 a3 al b0 b1 b2 b3 bl c0 c1 c2 c3 cl
  have bD := BoxN.new w4 50 #[.int .i64 su, .int .i64 sv]
  have hX := (Ext.refl w4).alloc (.cells #[.int .i64 su, .int .i64 sv] 50)
  generalize w4.alloc (.cells #[.int .i64 su, .int .i64 sv] 50) = w5 at hX bD ⊢
  generalize w4.heap.size = D at bD ⊢
  replace hW := hW.trans hX
  replace bA := bA.ext hX
  replace bB := bB.ext hX
  replace bC := bC.ext hX
  clear hX
  with_reducible refine (rSpread w5 a b c d e f g h i j k l _ (Ext.refl _)).mono ?_
  rintro en w6 ⟨rfl, hX⟩
  rw [HS.out]
  replace hW := hW.trans hX
  replace bA := bA.ext hX
  replace bB := bB.ext hX
  replace bC := bC.ext hX
  replace bD := bD.ext hX
  clear hX
  obtain ⟨a0, a1, a2, a3, _⟩ := bA.box4
  have al := bA.lt
  obtain ⟨b0, b1, b2, b3, _⟩ := bB.box4
  have bl := bB.lt
  obtain ⟨c0, c1, c2, c3, _⟩ := bC.box4
  have cl := bC.lt
  go_wp2_with fail
  clear a0 a1 a2 a3 al b0 b1 b2 b3 bl c0 c1 c2 c3 cl
  have bE := BoxN.new w6 50 #[.int .i64 su, .int .i64 sv]
  have hX := (Ext.refl w6).alloc (.cells #[.int .i64 su, .int .i64 sv] 50)
  generalize w6.alloc (.cells #[.int .i64 su, .int .i64 sv] 50) = w7 at hX bE ⊢
  generalize w6.heap.size = E at bE ⊢
  replace hW := hW.trans hX
  replace bA := bA.ext hX
  replace bB := bB.ext hX
  replace bC := bC.ext hX
  replace bD := bD.ext hX
  clear hX
  with_reducible refine (Dists_any w7 a b c d e f g h _ (Ext.refl _)).mono ?_
  rintro en w8 ⟨rfl, hX⟩
  rw [HD.out]
  replace hW := hW.trans hX
  replace bA := bA.ext hX
  replace bB := bB.ext hX
  replace bC := bC.ext hX
  replace bD := bD.ext hX
  replace bE := bE.ext hX
  clear hX
  obtain ⟨a0, a1, a2, a3, _⟩ := bA.box4
  have al := bA.lt
  obtain ⟨b0, b1, b2, b3, _⟩ := bB.box4
  have bl := bB.lt
  obtain ⟨c0, c1, c2, c3, _⟩ := bC.box4
  have cl := bC.lt
  go_wp2_with fail
  clear a0 a1 a2 a3 al b0 b1 b2 b3 bl c0 c1 c2 c3 cl
  have bF := BoxN.new w8 50 #[.int .i64 du, .int .i64 dv]
  have hX := (Ext.refl w8).alloc (.cells #[.int .i64 du, .int .i64 dv] 50)
  generalize w8.alloc (.cells #[.int .i64 du, .int .i64 dv] 50) = w9 at hX bF ⊢
  generalize w8.heap.size = F at bF ⊢
  replace hW := hW.trans hX
  replace bA := bA.ext hX
  replace bB := bB.ext hX
  replace bC := bC.ext hX
  replace bD := bD.ext hX
  replace bE := bE.ext hX
  clear hX
  with_reducible refine (rDists w9 a b c d e f g h _ (Ext.refl _)).mono ?_
  rintro en w10 ⟨rfl, hX⟩
  rw [HD.out]
  replace hW := hW.trans hX
  replace bA := bA.ext hX
  replace bB := bB.ext hX
  replace bC := bC.ext hX
  replace bD := bD.ext hX
  replace bE := bE.ext hX
  replace bF := bF.ext hX
  clear hX
  obtain ⟨a0, a1, a2, a3, _⟩ := bA.box4
  have al := bA.lt
  obtain ⟨b0, b1, b2, b3, _⟩ := bB.box4
  have bl := bB.lt
  obtain ⟨c0, c1, c2, c3, _⟩ := bC.box4
  have cl := bC.lt
  go_wp2_with fail
  clear a0 a1 a2 a3 al b0 b1 b2 b3 bl c0 c1 c2 c3 cl
  have bG := BoxN.new w10 50 #[.int .i64 du, .int .i64 dv]
  have hX := (Ext.refl w10).alloc (.cells #[.int .i64 du, .int .i64 dv] 50)
  generalize w10.alloc (.cells #[.int .i64 du, .int .i64 dv] 50) = w11 at hX bG ⊢
  generalize w10.heap.size = G at bG ⊢
  replace hW := hW.trans hX
  replace bA := bA.ext hX
  replace bB := bB.ext hX
  replace bC := bC.ext hX
  replace bD := bD.ext hX
  replace bE := bE.ext hX
  replace bF := bF.ext hX
  clear hX
  obtain ⟨a0, a1, a2, a3, _⟩ := bA.box4
  have al := bA.lt
  obtain ⟨b0, b1, b2, b3, _⟩ := bB.box4
  have bl := bB.lt
  obtain ⟨c0, c1, c2, c3, _⟩ := bC.box4
  have cl := bC.lt
  obtain ⟨d0, d1, _⟩ := bD.box2
  obtain ⟨e0, e1, _⟩ := bE.box2
  obtain ⟨f0, f1, _⟩ := bF.box2
  obtain ⟨g0, g1, _⟩ := bG.box2
  have HW := Lib.hid hW
  clear hW bA bB bC bD bE bF bG
  have a0 := cell_regrown a0
  have a1 := cell_regrown a1
  have a2 := cell_regrown a2
  have a3 := cell_regrown a3
  have b0 := cell_regrown b0
  have b1 := cell_regrown b1
  have b2 := cell_regrown b2
  have b3 := cell_regrown b3
  have c0 := cell_regrown c0
  have c1 := cell_regrown c1
  have c2 := cell_regrown c2
  have c3 := cell_regrown c3
  have d0 := cell_regrown d0
  have d1 := cell_regrown d1
  have e0 := cell_regrown e0
  have e1 := cell_regrown e1
  have f0 := cell_regrown f0
  have f1 := cell_regrown f1
  have g0 := cell_regrown g0
  have g1 := cell_regrown g1
  have cS := regrow (w := w11) (fun w' => boxes_any w' w' (Ext.refl _))
  have cT := regrow (w := w11) (fun w' => Turns_any w' a b c d e f g h i j k l w' (Ext.refl _))
  have cU := regrow (w := w11) (fun w' => rTurns w' a b c d e f g h i j k l w' (Ext.refl _))
  generalize turnsF (spreadR a b c d e f g h i j k l) = T at cT cU
  have qS := eqSp su sv
  have qD := eqSp du dv
  refine wp_region_quiet_below (by kernel_rfl) (by kernel_rfl) ?_
  repeat (quiet_step (first | with_reducible exact cS _ _ | with_reducible exact cT _ _ | with_reducible exact cU _ _))
  refine wpQuiet_nil ?_
  intro _ hw'
  obtain ⟨⟨dq, osq⟩, hw''⟩ := hw'
  subst hw''
  have hXq : Ext w11 (Go.Sort.grow (redrawn w11 dq) osq) := below_regrown w11 dq osq
  have hW := HW.out.trans hXq
  change Exit.then _ _ Exit.normal _ (Go.Sort.grow (redrawn w11 dq) osq)
  generalize Go.Sort.grow (redrawn w11 dq) osq = wd at hW ⊢
  go_wp2_with fail
  go_ret
  exact ⟨rfl, hW⟩
end Go.Proofs.Ytdbhbfmbpldmnaa
