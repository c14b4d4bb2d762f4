/- The walk of PlaneHullsAsSpecified: it returns true. -/
import Derived.Test.YtdbhbfmbpldmnaaR9
import Derived.Test.YtdbhbfmbpldmnaaR11
namespace Go.Proofs.Ytdbhbfmbpldmnaa
open Go.RowKit Go.Sort
def fewC (l : List (Int × Int)) : Bool := decide (l.length ≤ 40 ∨ 200 < l.length)
theorem few_again (W : World) (v : Value) (l : List (Int × Int)) (w : World) (hX : Ext W w) (hv : Pts w v l) :
    Calls Try.prog 30 #[v] w fun e w' => e = .returned (.bool (fewC l)) ∧ Ext W w' := by
  have hlen := hv.len
  obtain ⟨a, cap, rfl, hl, hm, hc⟩ := hv
  clear hc hm
  go_enter Try.func30, Try.ntmps30
  go_wp2_with fail
  all_goals
    go_ret
    refine ⟨ret_bool ?_, hX⟩
    unfold fewC
    rw [Bool.eq_iff_iff]
    simp
    omega
set_option maxRecDepth 100000 in
set_option maxHeartbeats 32000000 in
theorem law10_any (W : World) (v : Value) (l : List (Int × Int)) (ox oy : Int) (w : World) (hX : Ext W w) (hv : Pts w v l) :
    Calls Try.prog 10 #[v, spV ox oy] w fun e w' => e = .returned (.bool true) ∧ Ext W w' := by
  obtain ⟨hE, hhE⟩ : ∃ e, huE l = e := ⟨_, rfl⟩
  obtain ⟨aE, haE⟩ : ∃ e, arE (ox, oy) l = e := ⟨_, rfl⟩
  have i1 := fun w' (h : Pts w' v l) => Hull_any w' v l w' (Ext.refl _) h
  have i2 := fun w' (h : Pts w' v l) => Around_any w' v ox oy l w' (Ext.refl _) h
  have i3 := fun w' (h : Pts w' v l) H => rHull_any w' v l H w' (Ext.refl _) h
  have i4 := fun w' (h : Pts w' v l) r => rAround_any w' v ox oy l r w' (Ext.refl _) h
  rw [hhE] at i1 i3
  rw [haE] at i2 i4
  have j1 := Lib.hid i1
  have j2 := Lib.hid i2
  have j3 := Lib.hid i3
  have j4 := Lib.hid i4
  have HV := Lib.hid hv
  obtain ⟨fw, hfw⟩ : ∃ x, fewC l = x := ⟨_, rfl⟩
  have i5 := fun w' (h : Pts w' v l) => few_again w' v l w' (Ext.refl _) h
  rw [hfw] at i5
  have j5 := Lib.hid i5
  clear i1 i2 i3 i4 i5 hhE haE hv hfw
  go_enter Try.func10, Try.ntmps10
  go_wp2_with fail
  have bO := BoxN.new w 23 (spC (ox, oy))
  have hX0 := (Ext.refl w).alloc (.cells (spC (ox, oy)) 23)
  change Calls _ _ _ (w.alloc (.cells (spC (ox, oy)) 23)) _
  generalize w.alloc (.cells (spC (ox, oy)) 23) = w0 at bO hX0 ⊢
  generalize w.heap.size = O at bO ⊢
  with_reducible refine (j5.out w0 (HV.out.ext hX0)).mono ?_
  rintro en w1 ⟨rfl, hY⟩
  replace hX0 := hX0.trans hY
  replace bO := bO.ext hY
  clear hY
  cases fw
  · go_wp2_with fail
    with_reducible refine (boxes_any w1 _ (Ext.refl _)).mono ?_
    rintro en w2 ⟨rfl, hY⟩
    go_wp2_with fail
    go_ret
    exact ⟨rfl, hX.trans (hX0.trans hY)⟩
  go_wp2_with fail
  with_reducible refine (j1.out w1 (HV.out.ext hX0)).mono ?_
  rintro en w2 ⟨vh, H, rfl, hH, hY, hcH⟩
  replace hX0 := hX0.trans hY
  replace bO := bO.ext hY
  have HH := Lib.hid hH
  have HcH := Lib.hid hcH
  clear hY hH hcH
  go_wp2_with fail
  with_reducible refine (j3.out w2 (HV.out.ext hX0) H HcH.out).mono ?_
  rintro en w3 ⟨vg, rfl, hG, hY⟩
  replace hX0 := hX0.trans hY
  replace bO := bO.ext hY
  have HH := Lib.hid (HH.out.ext hY)
  have HG := Lib.hid hG
  clear hY hG
  obtain ⟨ga, gc, rfl, -⟩ := id HG.out
  go_upto_region 5 with fail
  have bF := BoxN.new w3 60 #[.slice ga H.length gc, .int .i64 hE]
  have hY := (Ext.refl w3).alloc (.cells #[.slice ga H.length gc, .int .i64 hE] 60)
  obtain ⟨w4, hw⟩ : ∃ w', w3.alloc (.cells #[.slice ga H.length gc, .int .i64 hE] 60) = w' := ⟨_, rfl⟩
  change Code.wp _ _ _ _ (w3.alloc (.cells #[.slice ga H.length gc, .int .i64 hE] 60))
  rw [hw] at bF hY ⊢
  clear hw
  generalize w3.heap.size = F at bF ⊢
  replace hX0 := hX0.trans hY
  replace bO := bO.ext hY
  have HH := Lib.hid (HH.out.ext hY)
  have HG := Lib.hid (HG.out.ext hY)
  clear hY
  obtain ⟨o0, o1, -⟩ := bO.box2
  simp only at o0 o1
  go_wp2_with fail
  clear o0 o1
  with_reducible refine (j2.out w4 (HV.out.ext hX0)).mono ?_
  rintro en w5 ⟨va, r, rfl, hA, hY, hcA⟩
  replace hX0 := hX0.trans hY
  replace bO := bO.ext hY
  replace bF := bF.ext hY
  have HH := Lib.hid (HH.out.ext hY)
  have HG := Lib.hid (HG.out.ext hY)
  have HAo := Lib.hid hA
  have HcA := Lib.hid hcA
  clear hY hA hcA
  obtain ⟨o0, o1, -⟩ := bO.box2
  simp only at o0 o1
  go_wp2_with fail
  clear o0 o1
  with_reducible refine (j4.out w5 (HV.out.ext hX0) r HcA.out).mono ?_
  rintro en w6 ⟨vb, rfl, hB, hY⟩
  replace hX0 := hX0.trans hY
  replace bF := bF.ext hY
  have HH := Lib.hid (HH.out.ext hY)
  have HG := Lib.hid (HG.out.ext hY)
  have HAo := Lib.hid (HAo.out.ext hY)
  have HBo := Lib.hid hB
  clear hY hB bO
  obtain ⟨ba, bc, rfl, -⟩ := id HBo.out
  have bFl := bF.lt
  go_upto_region 7 with fail
  have bG := BoxN.new w6 66 #[.slice ba r.length bc, .int .i64 aE]
  have hY := (Ext.refl w6).alloc (.cells #[.slice ba r.length bc, .int .i64 aE] 66)
  obtain ⟨w7, hw⟩ : ∃ w', w6.alloc (.cells #[.slice ba r.length bc, .int .i64 aE] 66) = w' := ⟨_, rfl⟩
  change Code.wp _ _ _ _ (w6.alloc (.cells #[.slice ba r.length bc, .int .i64 aE] 66))
  rw [hw] at bG hY ⊢
  clear hw bFl
  generalize w6.heap.size = G at bG ⊢
  replace hX0 := hX0.trans hY
  replace bF := bF.ext hY
  have HH := Lib.hid (HH.out.ext hY)
  have HG := Lib.hid (HG.out.ext hY)
  have HAo := Lib.hid (HAo.out.ext hY)
  have HBo := Lib.hid (HBo.out.ext hY)
  clear hY
  go_wp2_with fail
  with_reducible refine (boxes_any w7 _ (Ext.refl _)).mono ?_
  rintro en w8 ⟨rfl, hY⟩
  replace hX0 := hX0.trans hY
  replace bF := bF.ext hY
  replace bG := bG.ext hY
  have HH := Lib.hid (HH.out.ext hY)
  have HG := Lib.hid (HG.out.ext hY)
  have HAo := Lib.hid (HAo.out.ext hY)
  have HBo := Lib.hid (HBo.out.ext hY)
  clear hY
  obtain ⟨f0, f1, -⟩ := bF.box2
  have eH : (hE == hE) = true := by simp
  have eA : (aE == aE) = true := by simp
  go_wp2_with fail
  clear f0 f1
  with_reducible refine (samePts_any w8 _ _ H H _ (Ext.refl _) HH.out HG.out).mono ?_
  rintro en w9 ⟨rfl, hY⟩
  rw [decide_eq_true (rfl : H = H)]
  replace hX0 := hX0.trans hY
  replace bG := bG.ext hY
  have HAo := Lib.hid (HAo.out.ext hY)
  have HBo := Lib.hid (HBo.out.ext hY)
  clear hY
  obtain ⟨f0, f1, -⟩ := bG.box2
  go_wp2_with fail
  clear f0 f1
  with_reducible refine (sameInts_any w9 _ _ r r _ (Ext.refl _) HAo.out HBo.out).mono ?_
  rintro en we ⟨rfl, hY⟩
  rw [decide_eq_true (rfl : r = r)]
  replace hX0 := hX0.trans hY
  go_wp2_with fail
  go_ret
  exact ⟨rfl, hX.trans hX0⟩
end Go.Proofs.Ytdbhbfmbpldmnaa
