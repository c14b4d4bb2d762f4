/- The walk of PlaneRingsFair: it returns true. -/
import Derived.Test.YtdbhbfmbpldmnaaL13
namespace Go.Proofs.Ytdbhbfmbpldmnaa
open Go.RowKit Go.Sort
theorem ring_vals (l : List (Int × Int)) : ringE l [] = 0 ∨ ringE l [] = 1 ∨ ringE l [] = 2 := by
  unfold ringE
  split
  · split
    · exact .inl rfl
    · exact .inr (.inl rfl)
  · exact .inr (.inr rfl)
theorem ring_p {l : List (Int × Int)} {p : Int × Int} (h : ringE l [] = 0) (hp : okp p = true) : ringE l [p] = 0 := by
  obtain ⟨h1, h2, _⟩ := ringE_ok h
  unfold ringE
  rw [if_pos h1, if_pos ⟨h2, by simp [hp]⟩]
set_option maxRecDepth 100000 in
set_option maxHeartbeats 32000000 in
theorem law8_any (W : World) (v : Value) (l : List (Int × Int)) (px py : Int) (w : World) (hX : Ext W w) (hv : Pts w v l) :
    Calls Try.prog 8 #[v, spV px py] w fun e w' => e = .returned (.bool true) ∧ Ext W w' := by
  have HV := Lib.hid hv
  have hlen := hv.len
  obtain ⟨a0, cap, rfl, hl, hm, hc⟩ := hv
  clear hc
  obtain ⟨ar, har⟩ : ∃ r, areaR l = r := ⟨_, rfl⟩
  have HAr := Lib.hid har
  have i1 := fun w' (h : Pts w' (.slice a0 l.length cap) l) => Area_any w' _ l w' (Ext.refl _) h
  rw [har] at i1
  have j1 := Lib.hid i1
  obtain ⟨a, e⟩ := ar
  clear i1 har
  go_enter Try.func8, Try.ntmps8
  go_wp2_with fail
  have bP := BoxN.new w 23 (spC (px, py))
  have hX0 := (Ext.refl w).alloc (.cells (spC (px, py)) 23)
  change Calls _ _ _ (w.alloc (.cells (spC (px, py)) 23)) _
  generalize w.alloc (.cells (spC (px, py)) 23) = w0 at bP hX0 ⊢
  generalize w.heap.size = P at bP ⊢
  with_reducible refine (j1.out w0 (HV.out.ext hX0)).mono ?_
  rintro en w1 ⟨rfl, hY⟩
  replace hX0 := hX0.trans hY
  replace bP := bP.ext hY
  clear hY
  by_cases h40 : 40 < l.length
  · have hz : (40 : Int) < (l.length : Int) := by omega
    go_wp2_with fail
    with_reducible refine (sanity_any w1 _ (Ext.refl _)).mono ?_
    rintro en w2 ⟨rfl, hY⟩
    go_wp2_with fail
    go_ret
    exact ⟨rfl, hX.trans (hX0.trans hY)⟩
  have hz : ¬ (40 : Int) < (l.length : Int) := by omega
  by_cases hr : ringE l [] = 0
  case neg =>
    have he : e = 1 ∨ e = 2 := by
      have h := HAr.out
      unfold areaR at h
      rw [if_neg hr] at h
      have h2 : ringE l [] = e := congrArg Prod.snd h
      rcases ring_vals l with k | k | k
      · exact absurd k hr
      · exact .inl (by rw [← h2, k])
      · exact .inr (by rw [← h2, k])
    rcases he with rfl | rfl
    all_goals
      go_wp2_with fail
      with_reducible refine (sanity_any w1 _ (Ext.refl _)).mono ?_
      rintro en w2 ⟨rfl, hY⟩
      go_wp2_with fail
      go_ret
      exact ⟨rfl, hX.trans (hX0.trans hY)⟩
  case pos =>
  have hA : areaZ l = a ∧ 0 = e := by
    have h := HAr.out
    unfold areaR at h
    rw [if_pos hr] at h
    exact ⟨congrArg Prod.fst h, congrArg Prod.snd h⟩
  obtain ⟨hA1, rfl⟩ := hA
  have HA1 := Lib.hid hA1
  have HRg := Lib.hid hr
  clear hA1 hr
  obtain ⟨p0, p1, -⟩ := bP.box2
  simp only at p0 p1
  have n0 : ((0 : Int) != 0) = false := rfl
  go_wp2_with fail
  clear p0 p1
  with_reducible refine (Valid_any w1 px py _ (Ext.refl _)).mono ?_
  rintro en w2 ⟨rfl, hY⟩
  replace hX0 := hX0.trans hY
  replace bP := bP.ext hY
  clear hY
  obtain ⟨vp, hvp⟩ : ∃ x, okp (px, py) = x := ⟨_, rfl⟩
  have HVP := Lib.hid hvp
  rw [hvp]
  clear hvp
  cases vp
  · go_wp2_with fail
    with_reducible refine (sanity_any w2 _ (Ext.refl _)).mono ?_
    rintro en w3 ⟨rfl, hY⟩
    go_wp2_with fail
    go_ret
    exact ⟨rfl, hX.trans (hX0.trans hY)⟩
  obtain ⟨⟨g3, g200⟩, gok, _⟩ := ringE_ok HRg.out
  have GOK := Lib.hid gok
  clear gok
  have ringP := ring_p HRg.out HVP.out
  have RP := Lib.hid ringP
  clear ringP
  have aR : areaR (rotL l) = (a, 0) := by unfold areaR; rw [if_pos (ring_rot l HRg.out), area_rot, HA1.out]
  have aV : areaR l.reverse = (-a, 0) := by unfold areaR; rw [if_pos (by rw [ring_rev]; exact HRg.out), area_rev, HA1.out]
  obtain ⟨⟨wv, we⟩, hw⟩ : ∃ r, windR l (px, py) = r := ⟨_, rfl⟩
  have wR : windR l.reverse (px, py) = (-wv, we) := by
    unfold windR at hw ⊢
    rw [ring_rev, RP.out]
    rw [RP.out] at hw
    simp only [if_true] at hw ⊢
    rw [border_rev, wind_rev]
    split at hw
    · rename_i k
      rw [if_pos k]
      simp only [Prod.mk.injEq] at hw ⊢
      omega
    · rename_i k
      rw [if_neg k]
      simp only [Prod.mk.injEq] at hw ⊢
      omega
  have HAR := Lib.hid aR
  have HAV := Lib.hid aV
  have HW := Lib.hid hw
  have HWR := Lib.hid wR
  clear aR aV hw wR
  have hbd : -(2199023255552 * 200) ≤ a ∧ a ≤ 2199023255552 * 200 := by
    have h := areaF_bd GOK.out (List.finRange l.length)
    rw [List.length_finRange] at h
    rw [← HA1.out]
    unfold areaZ
    omega
  have hwb : -200 ≤ wv ∧ wv ≤ 200 := by
    have h := windF_bd l px py (List.finRange l.length)
    rw [List.length_finRange] at h
    have h2 := HW.out
    unfold windR at h2
    rw [RP.out] at h2
    simp only [if_true] at h2
    split at h2
    · have := congrArg Prod.fst h2; simp only at this; omega
    · have := congrArg Prod.fst h2
      simp only at this
      rw [← this]
      unfold windZ
      omega
  go_wp2_with fail
  refine (turned_f w2 _ l _ (Ext.refl _) (HV.out.ext hX0) (by omega) g200).mono ?_
  rintro en w3 ⟨v1, rfl, hP1, hY⟩
  replace hX0 := hX0.trans hY
  replace bP := bP.ext hY
  clear hY
  have HP1 := Lib.hid hP1
  clear hP1
  go_wp2_with fail
  refine (Area_any w3 _ (rotL l) _ (Ext.refl _) HP1.out).mono ?_
  rintro en w4 ⟨rfl, hY⟩
  rw [HAR.out]
  replace hX0 := hX0.trans hY
  replace bP := bP.ext hY
  clear hY HP1
  go_wp2_with fail
  refine (turned_t w4 _ l _ (Ext.refl _) (HV.out.ext hX0) (by omega) g200).mono ?_
  rintro en w5 ⟨v2, rfl, hP1, hY⟩
  replace hX0 := hX0.trans hY
  replace bP := bP.ext hY
  clear hY
  have HP1 := Lib.hid hP1
  clear hP1
  go_wp2_with fail
  refine (Area_any w5 _ l.reverse _ (Ext.refl _) HP1.out).mono ?_
  rintro en w6 ⟨rfl, hY⟩
  rw [HAV.out]
  replace hX0 := hX0.trans hY
  replace bP := bP.ext hY
  clear hY HP1
  obtain ⟨p0, p1, -⟩ := bP.box2
  simp only at p0 p1
  go_wp2_with fail
  clear p0 p1
  refine (Winding_any w6 _ l px py _ (Ext.refl _) (HV.out.ext hX0)).mono ?_
  rintro en w7 ⟨rfl, hY⟩
  rw [HW.out]
  replace hX0 := hX0.trans hY
  replace bP := bP.ext hY
  clear hY
  go_upto_region 7 with fail
  go_cut [13, 14] (fun x y wx => x = .int .i64 (-wv) ∧ y = .int .i64 we ∧ Ext w7 wx)
  case first =>
    have hK : ∀ w', Ext w7 w' → Ext w7 w' ∧ w'.cell? ⟨P, 0, none⟩ = some (.int .i64 px) ∧ w'.cell? ⟨P, 1, none⟩ = some (.int .i64 py) := fun w' x => ⟨x, (bP.ext x).cell 0, (bP.ext x).cell 1⟩
    have HK := Lib.hid hK
    clear hK
    have hx7 := Ext.refl w7
    go_region_held3 (fun w' => Ext w7 w' ∧ w'.cell? ⟨P, 0, none⟩ = some (.int .i64 px) ∧ w'.cell? ⟨P, 1, none⟩ = some (.int .i64 py)) (first | exact HK.out _ (by assumption) | exact HK.out _ (Ext.drew (by assumption)))
      ((first | (go_at_call 39; refine (turned_t _ _ l _ (Ext.refl _) (HV.out.ext (hX0.trans (by first | assumption | exact Ext.drew (by assumption)))) (by omega) g200).mono ?_; rintro en w' ⟨v3, rfl, hP3, hY⟩; (first | have hY := Ext.undrew hY | skip); have hx7 := hx7.trans hY) | (go_at_call 35; refine (Winding_any _ _ l.reverse px py _ (Ext.refl _) (by first | assumption | exact Pts.ext (by assumption) ((Ext.refl _).drew))).mono ?_; rintro en w' ⟨rfl, hY⟩; rw [HWR.out]; (first | have hY := Ext.undrew hY | skip); have hx7 := hx7.trans hY)))
    all_goals (try go_wp2_with fail)
    all_goals go_meet
    all_goals exact ⟨rfl, rfl, by first | assumption | exact hx7⟩
  case rest =>
  obtain ⟨w8, rfl⟩ : ∃ w', w' = wc := ⟨_, rfl⟩
  obtain ⟨rfl, rfl, hY⟩ := hcut
  replace hX0 := hX0.trans hY
  replace bP := bP.ext hY
  clear hY
  have wa : IntKind.i64.wrap a = a := by rw [IntKind.wrap_i64]; omega
  have ww : IntKind.i64.wrap wv = wv := by rw [IntKind.wrap_i64]; omega
  have ea : (a != a) = false := by simp
  have ew : (we != we) = false := by simp
  have ev : (wv != wv) = false := by simp
  obtain ⟨sb, hsb⟩ : ∃ x, simpleB l = x := ⟨_, rfl⟩
  have sR : simpleR l = (sb, 0) := by unfold simpleR; rw [if_pos HRg.out, hsb]
  have HSR := Lib.hid sR
  have HSB := Lib.hid hsb
  clear sR hsb
  go_wp2_with fail
  clear wa ww ea ew ev
  refine (Simple_any w8 _ l _ (Ext.refl _) (HV.out.ext hX0)).mono ?_
  rintro en w9 ⟨rfl, hY⟩
  rw [HSR.out]
  replace hX0 := hX0.trans hY
  replace bP := bP.ext hY
  clear hY
  obtain ⟨p0, p1, -⟩ := bP.box2
  simp only at p0 p1
  go_wp2_with fail
  clear p0 p1
  refine (Where_any w9 _ l px py _ (Ext.refl _) (HV.out.ext hX0)).mono ?_
  rintro en w10 ⟨rfl, hY⟩
  replace hX0 := hX0.trans hY
  clear hY bP
  cases sb
  · have wR : whereR l (px, py) = (0, 4) := by
      unfold whereR
      rw [RP.out, HSB.out]
      rfl
    rw [wR]
    clear wR
    have n4 : ((4 : Int) == 0) = false := rfl
    have n44 : ((4 : Int) != 4) = false := rfl
    go_wp2_with fail
    with_reducible refine (sanity_any w10 _ (Ext.refl _)).mono ?_
    rintro en w11 ⟨rfl, hY⟩
    go_wp2_with fail
    go_ret
    exact ⟨rfl, hX.trans (hX0.trans hY)⟩
  · have wR : whereR l (px, py) = (whereZ l px py, 0) := by
      unfold whereR
      rw [RP.out, HSB.out]
      rfl
    obtain ⟨sw1, sw2⟩ := simple_wind HSB.out GOK.out g3
    rw [HA1.out] at sw1 sw2
    have hW := HW.out
    unfold windR at hW
    rw [RP.out] at hW
    simp only [if_true] at hW
    have cases4 : (whereZ l px py = 0 ∧ wv = 0 ∧ we = 4) ∨ (whereZ l px py = -1 ∧ wv = 0 ∧ we = 0) ∨ (whereZ l px py = 1 ∧ wv = sgz a ∧ we = 0) := by
      unfold whereZ
      cases hb : borderB l px py
      · rw [hb] at hW
        have h1 : windZ l px py = wv ∧ 0 = we := ⟨congrArg Prod.fst hW, congrArg Prod.snd hW⟩
        have h2 := sw2 px py HVP.out hb
        rw [h1.1] at h2 ⊢
        by_cases z : wv = 0
        · exact .inr (.inl ⟨by simp [z], z, h1.2.symm⟩)
        · exact .inr (.inr ⟨by simp [z], h2.resolve_left z, h1.2.symm⟩)
      · rw [hb] at hW
        exact .inl ⟨rfl, (congrArg Prod.fst hW).symm, (congrArg Prod.snd hW).symm⟩
    have hside : (a < 0 ∧ sgz a = -1) ∨ (0 < a ∧ ¬ a < 0 ∧ sgz a = 1) := by
      rcases Int.lt_or_gt_of_ne sw1 with c | c
      · exact .inl ⟨c, sg_neg c⟩
      · exact .inr ⟨c, by omega, sg_pos c⟩
    rw [wR]
    have an : (a != 0) = true := by rw [bne_iff_ne]; exact sw1
    have n1 : ((0 : Int) == 0) = true := rfl
    have n2 : ((-1 : Int) == 0) = false := rfl
    have n3 : ((1 : Int) == 0) = false := rfl
    have n4 : ((-1 : Int) == 1) = false := rfl
    have n5 : ((1 : Int) == -1) = false := rfl
    clear wR hW sw1 sw2 HSR HSB HW HWR HAR HAV HAr HA1
    rcases cases4 with ⟨h1, rfl, rfl⟩ | ⟨h1, rfl, rfl⟩ | ⟨h1, h2, rfl⟩
    · rw [h1]
      clear h1
      rcases hside with ⟨s1, s2⟩ | ⟨s1, s3, s2⟩
      all_goals
        clear s2
        go_wp2_with fail
        with_reducible refine (sanity_any w10 _ (Ext.refl _)).mono ?_
        rintro en we' ⟨rfl, hY⟩
        go_wp2_with fail
        go_ret
        exact ⟨rfl, hX.trans (hX0.trans hY)⟩
    · rw [h1]
      clear h1
      rcases hside with ⟨s1, s2⟩ | ⟨s1, s3, s2⟩
      all_goals
        clear s2
        go_wp2_with fail
        with_reducible refine (sanity_any w10 _ (Ext.refl _)).mono ?_
        rintro en we' ⟨rfl, hY⟩
        go_wp2_with fail
        go_ret
        exact ⟨rfl, hX.trans (hX0.trans hY)⟩
    · rw [h1]
      clear h1
      rcases hside with ⟨s1, s2⟩ | ⟨s1, s3, s2⟩
      all_goals
        rw [s2] at h2
        subst h2
        clear s2
        go_wp2_with fail
        with_reducible refine (sanity_any w10 _ (Ext.refl _)).mono ?_
        rintro en we' ⟨rfl, hY⟩
        go_wp2_with fail
        go_ret
        exact ⟨rfl, hX.trans (hX0.trans hY)⟩
end Go.Proofs.Ytdbhbfmbpldmnaa
