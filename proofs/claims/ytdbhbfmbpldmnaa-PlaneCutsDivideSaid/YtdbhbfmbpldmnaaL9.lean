/- The walk of PlaneCutsDivide: it returns true. -/
import Derived.Test.YtdbhbfmbpldmnaaL7
import Derived.Test.YtdbhbfmbpldmnaaX2
import Derived.Test.YtdbhbfmbpldmnaaL8a
import Derived.Test.YtdbhbfmbpldmnaaP4
namespace Go.Proofs.Ytdbhbfmbpldmnaa
open Go.RowKit Go.Sort
theorem eqPt (a b : Int) (w : World) : (binOp .eql 23 (.agg #[.int .i64 a, .int .i64 b]) (.agg #[.int .i64 a, .int .i64 b])).run Try.prog w = .ok (.bool true) w := by
  have h1 : (a == a) = true := by simp
  have h2 : (b == b) = true := by simp
  go_simp
theorem eqBx (a b c d : Int) (w : World) : (binOp .eql 52 (bxV a b c d) (bxV a b c d)).run Try.prog w = .ok (.bool true) w := by
  have h1 : (a == a) = true := by simp
  have h2 : (b == b) = true := by simp
  have h3 : (c == c) = true := by simp
  have h4 : (d == d) = true := by simp
  go_simp
theorem neBx (a b c d : Int) (w : World) : (binOp .neq 52 (bxV a b c d) (bxV a b c d)).run Try.prog w = .ok (.bool false) w := by
  have h1 : (a == a) = true := by simp
  have h2 : (b == b) = true := by simp
  have h3 : (c == c) = true := by simp
  have h4 : (d == d) = true := by simp
  go_simp
set_option maxRecDepth 100000 in
set_option maxHeartbeats 32000000 in
theorem law14_any (W : World) (a b c d e f g h px py : Int) (w : World) (hX : Ext W w) :
    Calls Try.prog 14 #[bxV a b c d, bxV e f g h, spV px py] w fun e w' => e = .returned (.bool true) ∧ Ext W w' := by
  go_enter Try.func14, Try.ntmps14
  go_wp2_with fail
  have bA := ((BoxN.new w 52 (bxC a b c d)).ext ((Ext.refl _).alloc (.cells (bxC e f g h) 52))).ext ((Ext.refl _).alloc (.cells (spC (px, py)) 23))
  have bB := (BoxN.new (w.alloc (.cells (bxC a b c d) 52)) 52 (bxC e f g h)).ext ((Ext.refl _).alloc (.cells (spC (px, py)) 23))
  have bP := BoxN.new ((w.alloc (.cells (bxC a b c d) 52)).alloc (.cells (bxC e f g h) 52)) 23 (spC (px, py))
  rw [World.size_alloc] at bB
  rw [World.size_alloc, World.size_alloc] at bP
  have hW := ((hX.alloc (.cells (bxC a b c d) 52)).alloc (.cells (bxC e f g h) 52)).alloc (.cells (spC (px, py)) 23)
  change Calls _ _ _ (((w.alloc (.cells (bxC a b c d) 52)).alloc (.cells (bxC e f g h) 52)).alloc (.cells (spC (px, py)) 23)) _
  generalize ((w.alloc (.cells (bxC a b c d) 52)).alloc (.cells (bxC e f g h) 52)).alloc (.cells (spC (px, py)) 23) = w3 at bA bB bP hW ⊢
  generalize w.heap.size + 1 + 1 = P at bP ⊢
  generalize w.heap.size + 1 = B at bB ⊢
  generalize w.heap.size = A at bA ⊢
  clear hX
  obtain ⟨⟨⟨m1, m2, m3, m4⟩, mb⟩, hm⟩ : ∃ r, meetR a b c d e f g h = r := ⟨_, rfl⟩
  obtain ⟨⟨⟨o1, o2, o3, o4⟩, ob⟩, ho⟩ : ∃ r, coverR a b c d e f g h = r := ⟨_, rfl⟩
  have HM2 : Hid (meetR e f g h a b c d = ((m1, m2, m3, m4), mb)) := (meet_comm e f g h a b c d).trans hm
  have HO2 : Hid (coverR e f g h a b c d = ((o1, o2, o3, o4), ob)) := (cover_comm e f g h a b c d).trans ho
  have hob : ob = (boxB a b c d && boxB e f g h) := by rw [← cover_ok, ho]
  have hmq := meet_hold a b c d e f g h px py
  simp only [hm] at hmq
  have hoq := cover_hold a b c d e f g h px py
  simp only [ho] at hoq
  have HM := Lib.hid hm
  have HO := Lib.hid ho
  have HOB := Lib.hid hob
  clear hm ho hob
  have qm := neBx m1 m2 m3 m4
  have qo := neBx o1 o2 o3 o4
  obtain ⟨pa, hpa⟩ : ∃ x, boxB a b c d = x := ⟨_, rfl⟩
  obtain ⟨pb, hpb⟩ : ∃ x, boxB e f g h = x := ⟨_, rfl⟩
  have PA := Lib.hid hpa
  have PB := Lib.hid hpb
  clear hpa hpb
  obtain ⟨ha, hha⟩ : ∃ x, holdB a b c d px py = x := ⟨_, rfl⟩
  obtain ⟨hb, hhb⟩ : ∃ x, holdB e f g h px py = x := ⟨_, rfl⟩
  obtain ⟨hM, hhM⟩ : ∃ x, holdB m1 m2 m3 m4 px py = x := ⟨_, rfl⟩
  obtain ⟨hO, hhO⟩ : ∃ x, holdB o1 o2 o3 o4 px py = x := ⟨_, rfl⟩
  rw [hha, hhb, hhM] at hmq
  rw [hha, hhb, hhO] at hoq
  have HA := Lib.hid hha
  have HB := Lib.hid hhb
  have HMh := Lib.hid hhM
  have HOh := Lib.hid hhO
  have LM := Lib.hid hmq
  have LO := Lib.hid hoq
  clear hha hhb hhM hhO hmq hoq
  with_reducible refine (Meet_any w3 a b c d e f g h _ (Ext.refl _)).mono ?_
  rintro en w4 ⟨rfl, hX⟩
  rw [HM.out]
  replace hW := hW.trans hX
  replace bA := bA.ext hX
  replace bB := bB.ext hX
  replace bP := bP.ext hX
  clear hX
  obtain ⟨kA0, kA1, kA2, kA3, _⟩ := bA.box4
  have kAl := bA.lt
  obtain ⟨kB0, kB1, kB2, kB3, _⟩ := bB.box4
  have kBl := bB.lt
  go_wp2_with fail
  clear kA0 kA1 kA2 kA3 kB0 kB1 kB2 kB3 kAl kBl
  have bD := BoxN.new w4 52 (bxC m1 m2 m3 m4)
  have hX := (Ext.refl w4).alloc (.cells (bxC m1 m2 m3 m4) 52)
  have hw : ∃ w', w4.alloc (.cells (bxC m1 m2 m3 m4) 52) = w' := ⟨_, rfl⟩
  obtain ⟨w5, hw⟩ := hw
  change Calls _ _ _ (w4.alloc (.cells (bxC m1 m2 m3 m4) 52)) _
  rw [hw] at hX bD ⊢
  clear hw
  generalize w4.heap.size = D at bD ⊢
  replace hW := hW.trans hX
  replace bA := bA.ext hX
  replace bB := bB.ext hX
  replace bP := bP.ext hX
  clear hX
  with_reducible refine (Meet_any w5 e f g h a b c d _ (Ext.refl _)).mono ?_
  rintro en w6 ⟨rfl, hX⟩
  rw [HM2.out]
  replace hW := hW.trans hX
  replace bA := bA.ext hX
  replace bB := bB.ext hX
  replace bP := bP.ext hX
  replace bD := bD.ext hX
  clear hX
  obtain ⟨kA0, kA1, kA2, kA3, _⟩ := bA.box4
  have kAl := bA.lt
  obtain ⟨kB0, kB1, kB2, kB3, _⟩ := bB.box4
  have kBl := bB.lt
  go_wp2_with fail
  clear kA0 kA1 kA2 kA3 kB0 kB1 kB2 kB3 kAl kBl
  have bE := BoxN.new w6 52 (bxC m1 m2 m3 m4)
  have hX := (Ext.refl w6).alloc (.cells (bxC m1 m2 m3 m4) 52)
  have hw : ∃ w', w6.alloc (.cells (bxC m1 m2 m3 m4) 52) = w' := ⟨_, rfl⟩
  obtain ⟨w7, hw⟩ := hw
  change Calls _ _ _ (w6.alloc (.cells (bxC m1 m2 m3 m4) 52)) _
  rw [hw] at hX bE ⊢
  clear hw
  generalize w6.heap.size = E at bE ⊢
  replace hW := hW.trans hX
  replace bA := bA.ext hX
  replace bB := bB.ext hX
  replace bP := bP.ext hX
  replace bD := bD.ext hX
  clear hX
  with_reducible refine (Cover_any w7 a b c d e f g h _ (Ext.refl _)).mono ?_
  rintro en w8 ⟨rfl, hX⟩
  rw [HO.out]
  replace hW := hW.trans hX
  replace bA := bA.ext hX
  replace bB := bB.ext hX
  replace bP := bP.ext hX
  replace bD := bD.ext hX
  replace bE := bE.ext hX
  clear hX
  obtain ⟨kA0, kA1, kA2, kA3, _⟩ := bA.box4
  have kAl := bA.lt
  obtain ⟨kB0, kB1, kB2, kB3, _⟩ := bB.box4
  have kBl := bB.lt
  go_wp2_with fail
  clear kA0 kA1 kA2 kA3 kB0 kB1 kB2 kB3 kAl kBl
  have bF := BoxN.new w8 52 (bxC o1 o2 o3 o4)
  have hX := (Ext.refl w8).alloc (.cells (bxC o1 o2 o3 o4) 52)
  have hw : ∃ w', w8.alloc (.cells (bxC o1 o2 o3 o4) 52) = w' := ⟨_, rfl⟩
  obtain ⟨w9, hw⟩ := hw
  change Calls _ _ _ (w8.alloc (.cells (bxC o1 o2 o3 o4) 52)) _
  rw [hw] at hX bF ⊢
  clear hw
  generalize w8.heap.size = F at bF ⊢
  replace hW := hW.trans hX
  replace bA := bA.ext hX
  replace bB := bB.ext hX
  replace bP := bP.ext hX
  replace bD := bD.ext hX
  replace bE := bE.ext hX
  clear hX
  with_reducible refine (Cover_any w9 e f g h a b c d _ (Ext.refl _)).mono ?_
  rintro en w10 ⟨rfl, hX⟩
  rw [HO2.out]
  replace hW := hW.trans hX
  replace bA := bA.ext hX
  replace bB := bB.ext hX
  replace bP := bP.ext hX
  replace bD := bD.ext hX
  replace bE := bE.ext hX
  replace bF := bF.ext hX
  clear hX
  obtain ⟨kA0, kA1, kA2, kA3, _⟩ := bA.box4
  have kAl := bA.lt
  obtain ⟨kB0, kB1, kB2, kB3, _⟩ := bB.box4
  have kBl := bB.lt
  go_upto_region 5 with fail
  clear kA0 kA1 kA2 kA3 kB0 kB1 kB2 kB3 kAl kBl
  have bG := BoxN.new w10 52 (bxC o1 o2 o3 o4)
  have hX := (Ext.refl w10).alloc (.cells (bxC o1 o2 o3 o4) 52)
  have hw : ∃ w', w10.alloc (.cells (bxC o1 o2 o3 o4) 52) = w' := ⟨_, rfl⟩
  obtain ⟨w11, hw⟩ := hw
  change Code.wp _ _ _ _ (w10.alloc (.cells (bxC o1 o2 o3 o4) 52))
  rw [hw] at hX bG ⊢
  clear hw
  generalize w10.heap.size = G at bG ⊢
  replace hW := hW.trans hX
  replace bA := bA.ext hX
  replace bB := bB.ext hX
  replace bP := bP.ext hX
  replace bD := bD.ext hX
  replace bE := bE.ext hX
  replace bF := bF.ext hX
  clear hX
  go_cut [74] (fun v wx => v = .bool false ∧ Ext w11 wx)
  case first =>
    obtain ⟨kA0, kA1, kA2, kA3, _⟩ := bA.box4
    obtain ⟨kB0, kB1, kB2, kB3, _⟩ := bB.box4
    obtain ⟨kD0, kD1, kD2, kD3, _⟩ := bD.box4
    obtain ⟨kE0, kE1, kE2, kE3, _⟩ := bE.box4
    obtain ⟨kF0, kF1, kF2, kF3, _⟩ := bF.box4
    obtain ⟨kG0, kG1, kG2, kG3, _⟩ := bG.box4
    go_wp2_with fail
    with_reducible refine (Proper_any w11 a b c d _ (Ext.refl _)).mono ?_
    rintro en x1 ⟨rfl, hX⟩
    rw [PA.out]
    clear kA0 kA1 kA2 kA3 kB0 kB1 kB2 kB3 kD0 kD1 kD2 kD3 kE0 kE1 kE2 kE3 kF0 kF1 kF2 kF3 kG0 kG1 kG2 kG3
    obtain ⟨kB0, kB1, kB2, kB3, _⟩ := (bB.ext hX).box4
    cases pa
    · obtain rfl : ob = false := by rw [HOB.out, PA.out]; rfl
      go_wp2_with fail
      go_meet
      exact ⟨rfl, hX⟩
    · go_wp2_with fail
      with_reducible refine (Proper_any x1 e f g h _ (Ext.refl _)).mono ?_
      rintro en x2 ⟨rfl, hX2⟩
      rw [PB.out]
      clear kB0 kB1 kB2 kB3
      cases pb
      · obtain rfl : ob = false := by rw [HOB.out, PA.out, PB.out]; rfl
        go_wp2_with fail
        go_meet
        exact ⟨rfl, hX.trans hX2⟩
      · obtain rfl : ob = true := by rw [HOB.out, PA.out, PB.out]; rfl
        go_wp2_with fail
        go_meet
        exact ⟨rfl, hX.trans hX2⟩
  case rest =>
    obtain ⟨y1, rfl⟩ : ∃ w', w' = wc := ⟨_, rfl⟩
    obtain ⟨rfl, hX⟩ := hcut
    replace hW := hW.trans hX
    replace bA := bA.ext hX
    replace bB := bB.ext hX
    replace bP := bP.ext hX
    replace bD := bD.ext hX
    replace bE := bE.ext hX
    replace bF := bF.ext hX
    replace bG := bG.ext hX
    clear hX
    go_upto_region 7 with fail
    go_cut [15] (fun v wx => v = .bool (ha && hb) ∧ Ext y1 wx)
    case first =>
      obtain ⟨kA0, kA1, kA2, kA3, _⟩ := bA.box4
      obtain ⟨kP0, kP1, _⟩ := bP.box2
      go_wp2_with fail
      with_reducible refine (Holds_any y1 a b c d px py _ (Ext.refl _)).mono ?_
      rintro en x1 ⟨rfl, hX⟩
      rw [HA.out]
      clear kA0 kA1 kA2 kA3 kP0 kP1
      cases ha
      · go_wp2_with fail
        go_meet
        exact ⟨rfl, hX⟩
      · obtain ⟨kB0, kB1, kB2, kB3, _⟩ := (bB.ext hX).box4
        obtain ⟨kP0, kP1, _⟩ := (bP.ext hX).box2
        go_wp2_with fail
        with_reducible refine (Holds_any x1 e f g h px py _ (Ext.refl _)).mono ?_
        rintro en x2 ⟨rfl, hX2⟩
        rw [HB.out]
        clear kB0 kB1 kB2 kB3 kP0 kP1
        go_wp2_with fail
        go_meet
        exact ⟨rfl, hX.trans hX2⟩
    case rest =>
      obtain ⟨q, hq⟩ : ∃ q, (ha && hb) = q := ⟨_, rfl⟩
      rw [hq] at hcut
      have LM2 := LM.out
      rw [hq] at LM2
      have LM3 := Lib.hid LM2
      clear hq LM2
      obtain ⟨y2, rfl⟩ : ∃ w', w' = wc := ⟨_, rfl⟩
      obtain ⟨rfl, hX⟩ := hcut
      replace hW := hW.trans hX
      replace bA := bA.ext hX
      replace bB := bB.ext hX
      replace bP := bP.ext hX
      replace bD := bD.ext hX
      replace bE := bE.ext hX
      replace bF := bF.ext hX
      replace bG := bG.ext hX
      clear hX
      go_upto_region 8 with fail
      go_cut [109] (fun v wx => v = .bool false ∧ Ext y2 wx)
      case first =>
        cases mb
        · obtain rfl : q = false := LM3.out
          cases ob
          · go_wp2_with fail
            go_meet
            exact ⟨rfl, (Ext.refl y2)⟩
          · obtain ⟨kA0, kA1, kA2, kA3, _⟩ := (bA.ext (Ext.refl y2)).box4
            obtain ⟨kP0, kP1, _⟩ := (bP.ext (Ext.refl y2)).box2
            go_wp2_with fail
            with_reducible refine (Holds_any y2 a b c d px py _ (Ext.refl _)).mono ?_
            rintro en x5 ⟨rfl, hX5⟩
            rw [HA.out]
            clear kA0 kA1 kA2 kA3 kP0 kP1
            have hX5 := Ext.trans (Ext.refl y2) hX5
            cases ha
            · obtain ⟨kB0, kB1, kB2, kB3, _⟩ := (bB.ext hX5).box4
              obtain ⟨kP0, kP1, _⟩ := (bP.ext hX5).box2
              go_wp2_with fail
              with_reducible refine (Holds_any x5 e f g h px py _ (Ext.refl _)).mono ?_
              rintro en x6 ⟨rfl, hX6⟩
              rw [HB.out]
              clear kB0 kB1 kB2 kB3 kP0 kP1
              have hX6 := Ext.trans hX5 hX6
              cases hb
              · go_wp2_with fail
                go_meet
                exact ⟨rfl, hX6⟩
              · obtain rfl : hO = true := LO.out (by simp) (by simp)
                obtain ⟨kF0, kF1, kF2, kF3, _⟩ := (bF.ext hX6).box4
                obtain ⟨kP0, kP1, _⟩ := (bP.ext hX6).box2
                go_wp2_with fail
                with_reducible refine (Holds_any x6 o1 o2 o3 o4 px py _ (Ext.refl _)).mono ?_
                rintro en x7 ⟨rfl, hX7⟩
                rw [HOh.out]
                clear kF0 kF1 kF2 kF3 kP0 kP1
                go_wp2_with fail
                go_meet
                exact ⟨rfl, Ext.trans hX6 hX7⟩
            · obtain rfl : hO = true := LO.out (by simp) (by simp)
              obtain ⟨kF0, kF1, kF2, kF3, _⟩ := (bF.ext hX5).box4
              obtain ⟨kP0, kP1, _⟩ := (bP.ext hX5).box2
              go_wp2_with fail
              with_reducible refine (Holds_any x5 o1 o2 o3 o4 px py _ (Ext.refl _)).mono ?_
              rintro en x7 ⟨rfl, hX7⟩
              rw [HOh.out]
              clear kF0 kF1 kF2 kF3 kP0 kP1
              go_wp2_with fail
              go_meet
              exact ⟨rfl, Ext.trans hX5 hX7⟩
        · obtain rfl : q = hM := LM3.out.trans (Bool.true_and _)
          obtain ⟨kD0, kD1, kD2, kD3, _⟩ := bD.box4
          obtain ⟨kP0, kP1, _⟩ := bP.box2
          go_wp2_with fail
          with_reducible refine (Holds_any y2 m1 m2 m3 m4 px py _ (Ext.refl _)).mono ?_
          rintro en x4 ⟨rfl, hX4⟩
          rw [HMh.out]
          clear kD0 kD1 kD2 kD3 kP0 kP1
          cases q
          · cases ob
            · go_wp2_with fail
              go_meet
              exact ⟨rfl, hX4⟩
            · obtain ⟨kA0, kA1, kA2, kA3, _⟩ := (bA.ext hX4).box4
              obtain ⟨kP0, kP1, _⟩ := (bP.ext hX4).box2
              go_wp2_with fail
              with_reducible refine (Holds_any x4 a b c d px py _ (Ext.refl _)).mono ?_
              rintro en x5 ⟨rfl, hX5⟩
              rw [HA.out]
              clear kA0 kA1 kA2 kA3 kP0 kP1
              have hX5 := Ext.trans hX4 hX5
              cases ha
              · obtain ⟨kB0, kB1, kB2, kB3, _⟩ := (bB.ext hX5).box4
                obtain ⟨kP0, kP1, _⟩ := (bP.ext hX5).box2
                go_wp2_with fail
                with_reducible refine (Holds_any x5 e f g h px py _ (Ext.refl _)).mono ?_
                rintro en x6 ⟨rfl, hX6⟩
                rw [HB.out]
                clear kB0 kB1 kB2 kB3 kP0 kP1
                have hX6 := Ext.trans hX5 hX6
                cases hb
                · go_wp2_with fail
                  go_meet
                  exact ⟨rfl, hX6⟩
                · obtain rfl : hO = true := LO.out (by simp) (by simp)
                  obtain ⟨kF0, kF1, kF2, kF3, _⟩ := (bF.ext hX6).box4
                  obtain ⟨kP0, kP1, _⟩ := (bP.ext hX6).box2
                  go_wp2_with fail
                  with_reducible refine (Holds_any x6 o1 o2 o3 o4 px py _ (Ext.refl _)).mono ?_
                  rintro en x7 ⟨rfl, hX7⟩
                  rw [HOh.out]
                  clear kF0 kF1 kF2 kF3 kP0 kP1
                  go_wp2_with fail
                  go_meet
                  exact ⟨rfl, Ext.trans hX6 hX7⟩
              · obtain rfl : hO = true := LO.out (by simp) (by simp)
                obtain ⟨kF0, kF1, kF2, kF3, _⟩ := (bF.ext hX5).box4
                obtain ⟨kP0, kP1, _⟩ := (bP.ext hX5).box2
                go_wp2_with fail
                with_reducible refine (Holds_any x5 o1 o2 o3 o4 px py _ (Ext.refl _)).mono ?_
                rintro en x7 ⟨rfl, hX7⟩
                rw [HOh.out]
                clear kF0 kF1 kF2 kF3 kP0 kP1
                go_wp2_with fail
                go_meet
                exact ⟨rfl, Ext.trans hX5 hX7⟩
          · cases ob
            · go_wp2_with fail
              go_meet
              exact ⟨rfl, hX4⟩
            · obtain ⟨kA0, kA1, kA2, kA3, _⟩ := (bA.ext hX4).box4
              obtain ⟨kP0, kP1, _⟩ := (bP.ext hX4).box2
              go_wp2_with fail
              with_reducible refine (Holds_any x4 a b c d px py _ (Ext.refl _)).mono ?_
              rintro en x5 ⟨rfl, hX5⟩
              rw [HA.out]
              clear kA0 kA1 kA2 kA3 kP0 kP1
              have hX5 := Ext.trans hX4 hX5
              cases ha
              · obtain ⟨kB0, kB1, kB2, kB3, _⟩ := (bB.ext hX5).box4
                obtain ⟨kP0, kP1, _⟩ := (bP.ext hX5).box2
                go_wp2_with fail
                with_reducible refine (Holds_any x5 e f g h px py _ (Ext.refl _)).mono ?_
                rintro en x6 ⟨rfl, hX6⟩
                rw [HB.out]
                clear kB0 kB1 kB2 kB3 kP0 kP1
                have hX6 := Ext.trans hX5 hX6
                cases hb
                · go_wp2_with fail
                  go_meet
                  exact ⟨rfl, hX6⟩
                · obtain rfl : hO = true := LO.out (by simp) (by simp)
                  obtain ⟨kF0, kF1, kF2, kF3, _⟩ := (bF.ext hX6).box4
                  obtain ⟨kP0, kP1, _⟩ := (bP.ext hX6).box2
                  go_wp2_with fail
                  with_reducible refine (Holds_any x6 o1 o2 o3 o4 px py _ (Ext.refl _)).mono ?_
                  rintro en x7 ⟨rfl, hX7⟩
                  rw [HOh.out]
                  clear kF0 kF1 kF2 kF3 kP0 kP1
                  go_wp2_with fail
                  go_meet
                  exact ⟨rfl, Ext.trans hX6 hX7⟩
              · obtain rfl : hO = true := LO.out (by simp) (by simp)
                obtain ⟨kF0, kF1, kF2, kF3, _⟩ := (bF.ext hX5).box4
                obtain ⟨kP0, kP1, _⟩ := (bP.ext hX5).box2
                go_wp2_with fail
                with_reducible refine (Holds_any x5 o1 o2 o3 o4 px py _ (Ext.refl _)).mono ?_
                rintro en x7 ⟨rfl, hX7⟩
                rw [HOh.out]
                clear kF0 kF1 kF2 kF3 kP0 kP1
                go_wp2_with fail
                go_meet
                exact ⟨rfl, Ext.trans hX5 hX7⟩
      case rest =>
        obtain ⟨y3, rfl⟩ : ∃ w', w' = wc := ⟨_, rfl⟩
        obtain ⟨rfl, hX⟩ := hcut
        replace hW := hW.trans hX
        replace bA := bA.ext hX
        replace bB := bB.ext hX
        replace bP := bP.ext hX
        replace bD := bD.ext hX
        replace bE := bE.ext hX
        replace bF := bF.ext hX
        replace bG := bG.ext hX
        clear hX
        clear bB bD bE bF bG
        obtain ⟨⟨⟨⟨u1, u2, u3, u4⟩, ⟨v1, v2, v3, v4⟩⟩, ub⟩, hu⟩ : ∃ r, cutR a b c d = r := ⟨_, rfl⟩
        have HU := Lib.hid hu
        clear hu
        obtain ⟨kA0, kA1, kA2, kA3, _⟩ := bA.box4
        have kAl := bA.lt
        go_wp2_with fail
        clear kA0 kA1 kA2 kA3 kAl
        with_reducible refine (Cut_any y3 a b c d _ (Ext.refl _)).mono ?_
        rintro en y4 ⟨rfl, hX⟩
        rw [HU.out]
        replace hW := hW.trans hX
        replace bA := bA.ext hX
        replace bP := bP.ext hX
        clear hX
        go_upto_region 11 with fail
        have bU := (BoxN.new y4 52 (bxC u1 u2 u3 u4)).ext ((Ext.refl _).alloc (.cells (bxC v1 v2 v3 v4) 52))
        have bV := BoxN.new (y4.alloc (.cells (bxC u1 u2 u3 u4) 52)) 52 (bxC v1 v2 v3 v4)
        rw [World.size_alloc] at bV
        have hX := ((Ext.refl y4).alloc (.cells (bxC u1 u2 u3 u4) 52)).alloc (.cells (bxC v1 v2 v3 v4) 52)
        change Code.wp _ _ _ _ ((y4.alloc (.cells (bxC u1 u2 u3 u4) 52)).alloc (.cells (bxC v1 v2 v3 v4) 52))
        generalize (y4.alloc (.cells (bxC u1 u2 u3 u4) 52)).alloc (.cells (bxC v1 v2 v3 v4) 52) = y5 at hX bU bV ⊢
        generalize y4.heap.size + 1 = V at bV ⊢
        generalize y4.heap.size = U at bU ⊢
        replace hW := hW.trans hX
        replace bA := bA.ext hX
        replace bP := bP.ext hX
        clear hX
        cases ub
        · have hcn := cut_no a b c d (by rw [HU.out])
          have HWh := Lib.hid hW
          clear hW bU bV bP
          obtain ⟨kA0, kA1, kA2, kA3, _⟩ := bA.box4
          have kA0 := cell_regrown kA0
          have kA1 := cell_regrown kA1
          have kA2 := cell_regrown kA2
          have kA3 := cell_regrown kA3
          have c0 := regrow (w := y5) (fun w' => boxes_any w' w' (Ext.refl _))
          have c1 := regrow (w := y5) (fun w' => Proper_any w' a b c d w' (Ext.refl _))
          rw [PA.out] at c1
          go_upto_region 12 with fail
          cases pa
          · clear hcn
            refine wp_region_quiet_below (by kernel_rfl) (by kernel_rfl) ?_
            repeat (with_reducible refine wpQuiet_step (fun K hK => ?_); go_simp; first | (with_reducible refine hK _ ?_; clear hK K) | (apply Exists.intro; with_reducible refine ⟨fun _ => ?_, hK _ ?_⟩; (first | with_reducible exact c0 _ _ | with_reducible exact c1 _ _); clear hK K))
            refine wpQuiet_nil ?_
            intro _ hw'
            obtain ⟨⟨dq, osq⟩, hw''⟩ := hw'
            subst hw''
            have hXq : Ext y5 (Go.Sort.grow (redrawn y5 dq) osq) := below_regrown y5 dq osq
            have hW := HWh.out.trans hXq
            change Exit.then _ _ Exit.normal _ (Go.Sort.grow (redrawn y5 dq) osq)
            generalize Go.Sort.grow (redrawn y5 dq) osq = wd at hW ⊢
            clear hXq c0 c1
            go_wp2_with fail
            go_ret
            exact ⟨rfl, hW⟩
          · obtain ⟨rfl, rfl⟩ : a = b ∧ c = d := by
              rcases hcn with k | k
              · rw [PA.out] at k; cases k
              · exact k
            have c2 : ∀ (x : Nat) (os : Array Obj), Calls Try.prog 68 #[bxV a a c c] (Go.Sort.grow (redrawn y5 x) os) fun e w'' => e = .returned (.agg #[.int .i64 a, .int .i64 c, .int .i64 a, .int .i64 c, .int .i64 a, .int .i64 c, .int .i64 a, .int .i64 c]) ∧ ∃ p : Regrown, w'' = Go.Sort.grow (redrawn y5 p.d) p.os := regrow (w := y5) (fun w' => Corners_ok w' a a c c w' (Ext.refl _) PA.out)
            have x0 : ∀ w, (Instr.index 82 (.agg #[.int .i64 a, .int .i64 c, .int .i64 a, .int .i64 c, .int .i64 a, .int .i64 c, .int .i64 a, .int .i64 c]) (.int .i64 0)).run Try.prog w = .ok (.agg #[.int .i64 a, .int .i64 c]) w := index0 (fun _ => (a, c))
            have x2 : ∀ w, (Instr.index 82 (.agg #[.int .i64 a, .int .i64 c, .int .i64 a, .int .i64 c, .int .i64 a, .int .i64 c, .int .i64 a, .int .i64 c]) (.int .i64 2)).run Try.prog w = .ok (.agg #[.int .i64 a, .int .i64 c]) w := index2 (fun _ => (a, c))
            have e23 := eqPt a c
            clear hcn
            refine wp_region_quiet_below (by kernel_rfl) (by kernel_rfl) ?_
            repeat (with_reducible refine wpQuiet_step (fun K hK => ?_); go_simp; first | (with_reducible refine hK _ ?_; clear hK K) | (apply Exists.intro; with_reducible refine ⟨fun _ => ?_, hK _ ?_⟩; (first | with_reducible exact c0 _ _ | with_reducible exact c1 _ _ | with_reducible exact c2 _ _); clear hK K))
            refine wpQuiet_nil ?_
            intro _ hw'
            obtain ⟨⟨dq, osq⟩, hw''⟩ := hw'
            subst hw''
            have hXq : Ext y5 (Go.Sort.grow (redrawn y5 dq) osq) := below_regrown y5 dq osq
            have hW := HWh.out.trans hXq
            change Exit.then _ _ Exit.normal _ (Go.Sort.grow (redrawn y5 dq) osq)
            generalize Go.Sort.grow (redrawn y5 dq) osq = wd at hW ⊢
            clear hXq c0 c1 c2 x0 x2 e23
            go_wp2_with fail
            go_ret
            exact ⟨rfl, hW⟩
        · have hy := cut_yes a b c d px py (by rw [HU.out])
          simp only [HU.out] at hy
          obtain ⟨x, hx⟩ : ∃ x, holdB u1 u2 u3 u4 px py = x := ⟨_, rfl⟩
          obtain ⟨y, hy2⟩ : ∃ x, holdB v1 v2 v3 v4 px py = x := ⟨_, rfl⟩
          rw [hx, hy2, HA.out] at hy
          have HXo := Lib.hid hx
          have HYo := Lib.hid hy2
          obtain ⟨l1, l2, l3⟩ := hy
          have L1 := Lib.hid l1
          have L2 := Lib.hid l2
          have L3 := Lib.hid l3
          clear hx hy2 l1 l2 l3
          obtain ⟨kU0, kU1, kU2, kU3, _⟩ := bU.box4
          obtain ⟨kP0, kP1, _⟩ := bP.box2
          go_wp2_with fail
          with_reducible refine (Holds_any y5 u1 u2 u3 u4 px py _ (Ext.refl _)).mono ?_
          rintro en y6 ⟨rfl, hX⟩
          rw [HXo.out]
          clear kU0 kU1 kU2 kU3 kP0 kP1
          replace hW := hW.trans hX
          replace bA := bA.ext hX
          replace bU := bU.ext hX
          replace bV := bV.ext hX
          replace bP := bP.ext hX
          clear hX
          obtain ⟨kV0, kV1, kV2, kV3, _⟩ := bV.box4
          obtain ⟨kP0, kP1, _⟩ := bP.box2
          go_wp2_with fail
          with_reducible refine (Holds_any y6 v1 v2 v3 v4 px py _ (Ext.refl _)).mono ?_
          rintro en y7 ⟨rfl, hX⟩
          rw [HYo.out]
          clear kV0 kV1 kV2 kV3 kP0 kP1
          replace hW := hW.trans hX
          replace bA := bA.ext hX
          replace bU := bU.ext hX
          replace bV := bV.ext hX
          replace bP := bP.ext hX
          clear hX
          obtain ⟨kU0, kU1, kU2, kU3, _⟩ := bU.box4
          obtain ⟨kV0, kV1, kV2, kV3, _⟩ := bV.box4
          go_wp2_with fail
          with_reducible refine (Cover_any y7 u1 u2 u3 u4 v1 v2 v3 v4 _ (Ext.refl _)).mono ?_
          rintro en y8 ⟨rfl, hX⟩
          rw [L3.out]
          clear kU0 kU1 kU2 kU3 kV0 kV1 kV2 kV3
          replace hW := hW.trans hX
          replace bA := bA.ext hX
          replace bP := bP.ext hX
          clear hX
          go_wp2_with fail
          have bO := BoxN.new y8 52 (bxC a b c d)
          have hX := (Ext.refl y8).alloc (.cells (bxC a b c d) 52)
          obtain ⟨y9, hw⟩ : ∃ w', y8.alloc (.cells (bxC a b c d) 52) = w' := ⟨_, rfl⟩
          change Calls _ _ _ (y8.alloc (.cells (bxC a b c d) 52)) _
          rw [hw] at hX bO ⊢
          clear hw
          generalize y8.heap.size = O at bO ⊢
          replace hW := hW.trans hX
          replace bA := bA.ext hX
          replace bP := bP.ext hX
          clear hX
          with_reducible refine (boxes_any y9 _ (Ext.refl _)).mono ?_
          rintro en y10 ⟨rfl, hX⟩
          replace hW := hW.trans hX
          replace bA := bA.ext hX
          replace bP := bP.ext hX
          replace bO := bO.ext hX
          clear hX
          obtain ⟨kA0, kA1, kA2, kA3, _⟩ := bA.box4
          obtain ⟨kP0, kP1, _⟩ := bP.box2
          obtain ⟨kO0, kO1, kO2, kO3, _⟩ := bO.box4
          have e52 := eqBx a b c d
          cases x <;> cases y
          · obtain rfl : ha = false := L1.out.symm
            go_wp2_with fail
            with_reducible refine (Holds_any y10 a b c d px py _ (Ext.refl _)).mono ?_
            rintro en y11 ⟨rfl, hX⟩
            rw [HA.out]
            clear kA0 kA1 kA2 kA3 kP0 kP1 kO0 kO1 kO2 kO3
            replace hW := hW.trans hX
            replace bA := bA.ext hX
            replace bO := bO.ext hX
            obtain ⟨kA0, kA1, kA2, kA3, _⟩ := bA.box4
            obtain ⟨kO0, kO1, kO2, kO3, _⟩ := bO.box4
            go_wp2_with fail
            go_ret
            exact ⟨rfl, hW⟩
          · obtain rfl : ha = true := L1.out.symm
            go_wp2_with fail
            with_reducible refine (Holds_any y10 a b c d px py _ (Ext.refl _)).mono ?_
            rintro en y11 ⟨rfl, hX⟩
            rw [HA.out]
            clear kA0 kA1 kA2 kA3 kP0 kP1 kO0 kO1 kO2 kO3
            replace hW := hW.trans hX
            replace bA := bA.ext hX
            replace bO := bO.ext hX
            obtain ⟨kA0, kA1, kA2, kA3, _⟩ := bA.box4
            obtain ⟨kO0, kO1, kO2, kO3, _⟩ := bO.box4
            go_wp2_with fail
            go_ret
            exact ⟨rfl, hW⟩
          · obtain rfl : ha = true := L1.out.symm
            go_wp2_with fail
            with_reducible refine (Holds_any y10 a b c d px py _ (Ext.refl _)).mono ?_
            rintro en y11 ⟨rfl, hX⟩
            rw [HA.out]
            clear kA0 kA1 kA2 kA3 kP0 kP1 kO0 kO1 kO2 kO3
            replace hW := hW.trans hX
            replace bA := bA.ext hX
            replace bO := bO.ext hX
            obtain ⟨kA0, kA1, kA2, kA3, _⟩ := bA.box4
            obtain ⟨kO0, kO1, kO2, kO3, _⟩ := bO.box4
            go_wp2_with fail
            go_ret
            exact ⟨rfl, hW⟩
          · exact absurd L2.out (by simp)
end Go.Proofs.Ytdbhbfmbpldmnaa
