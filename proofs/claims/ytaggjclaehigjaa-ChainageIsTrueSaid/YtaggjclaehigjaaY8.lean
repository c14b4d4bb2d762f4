/- The walk of the law ChainageIsTrue. -/
import Derived.Test.YtaggjclaehigjaaP16
import Derived.Test.YtaggjclaehigjaaK11
namespace Go.Proofs.Ytaggjclaehigjaa
open Go.RowKit
theorem Own.form1 {T k base : Nat} {w : World} {v : Value} {l : List Int} (hk : ∀ x, (enc1 x).length = k) (h : Own T k enc1 base w v l) : ∃ a c, v = .slice a l.length c := by
  obtain ⟨a, c, e, _⟩ := h.sl hk
  exact ⟨a, c, e⟩
set_option maxRecDepth 100000 in
set_option maxHeartbeats 16000000 in
theorem lawTrue (W : World) (C P R : List Five) (v : Value) (start : Int) (steps wide : List Int) (vs vw : Value) (ma mb mc md me off : Int) (w : World) (hX : Ext W w) (hv : Wk w v C P R) (hs : Ints w vs steps) (hwd : Ints w vw wide) :
    Calls Try.prog 7 #[v, .int .i64 start, vs, vw, .agg #[.int .i64 ma, .int .i64 mb, .int .i64 mc, .int .i64 md, .int .i64 me], .int .i64 off] w fun e w' => e = .returned (.bool true) ∧ Ext W w' := by
  have HF := Lib.hid (fun w' (q : Ext w w') => few_any w' C P R v w' (Ext.refl _) (hv.ext q))
  have HTR := Lib.hid (fun w' (q : Ext w w') => truth_any w' C P R v start steps wide vs vw w' (Ext.refl _) (hv.ext q) (hs.ext q) (hwd.ext q))
  obtain ⟨asl, caps, rfl, -⟩ := hs.parts
  obtain ⟨awd, capw, rfl, -⟩ := hwd.parts
  obtain ⟨vC, vP, vR, rfl, hC, hP, hR, hn0⟩ := hv
  have HFC := Lib.hid hC
  obtain ⟨aC, capC, rfl, hlC, hmC, hcC⟩ := hC.parts
  have HcC := Lib.hid hcC
  obtain ⟨aP, capP, rfl, hlP, hmP, -⟩ := hP.parts
  obtain ⟨aR, capR, rfl, hlR, hmR, -⟩ := hR.parts
  unfold maxLen at hmP hmR
  have hPR : (P.length : Int) + (R.length : Int) ≤ 9223372036854775807 := by omega
  have e64 : IntKind.i64.wrap ((P.length : Int) + (R.length : Int)) = (P.length : Int) + (R.length : Int) := wrap_in (by omega)
  generalize fewB C P R = f at HF
  clear hs hwd hC hP hR hlC hmC hcC hlP hmP hlR hmR
  have hX0 : Ext w ((w.alloc (.cells #[.slice aC C.length capC, .slice aP P.length capP, .slice aR R.length capR] 26)).alloc (.cells #[.int .i64 ma, .int .i64 mb, .int .i64 mc, .int .i64 md, .int .i64 me] 41)) := ((Ext.refl w).alloc _).alloc _
  have hb0 := ((Ext.refl _).alloc (.cells #[.int .i64 ma, .int .i64 mb, .int .i64 mc, .int .i64 md, .int .i64 me] 41)).block (heap_alloc_new w (.cells #[.slice aC C.length capC, .slice aP P.length capP, .slice aR R.length capR] 26))
  have hb1 := heap_alloc_new (w.alloc (.cells #[.slice aC C.length capC, .slice aP P.length capP, .slice aR R.length capR] 26)) (.cells #[.int .i64 ma, .int .i64 mb, .int .i64 mc, .int .i64 md, .int .i64 me] 41)
  rw [World.size_alloc] at hb1
  obtain ⟨B, hBB⟩ : ∃ B, w.heap.size = B := ⟨_, rfl⟩
  rw [hBB] at hb0 hb1
  go_enter Try.func7, Try.ntmps7
  go_upto_region 1 with fail
  obtain ⟨wa, hwa⟩ : ∃ wa, (w.alloc (.cells #[.slice aC C.length capC, .slice aP P.length capP, .slice aR R.length capR] 26)).alloc (.cells #[.int .i64 ma, .int .i64 mb, .int .i64 mc, .int .i64 md, .int .i64 me] 41) = wa := ⟨_, rfl⟩
  rw [hwa] at hX0 hb0 hb1 ⊢
  clear hwa
  go_cut [43] (fun v wx => ∃ b, v = .bool b ∧ Ext w wx ∧ wx.heap[B]? = some (.cells #[.slice aC C.length capC, .slice aP P.length capP, .slice aR R.length capR] 26) ∧ wx.heap[B + 1]? = some (.cells #[.int .i64 ma, .int .i64 mb, .int .i64 mc, .int .i64 md, .int .i64 me] 41))
  case first => as_aux_lemma =>
    obtain ⟨k0, k1, k2⟩ := box3' hb0
    cases f
    all_goals
      go_wp2_with (go_at_call 14; with_reducible refine (HF.out _ hX0).mono ?_; rintro e w2 ⟨rfl, hX2⟩; have hE2 := hX0.trans hX2; have hb2 := hX2.block hb0; have hb3 := hX2.block hb1; obtain ⟨k0, k1, k2⟩ := box3' hb2)
      go_meet
      case rel => exact ⟨_, rfl, hE2, hb2, hb3⟩
  case rest =>
  obtain ⟨b, rfl, hE0, hb0, hb1⟩ := hcut
  obtain ⟨w0, rfl⟩ : ∃ w', w' = wc := ⟨_, rfl⟩
  clear hX0 HF
  cases b
  · obtain ⟨k0, k1, k2⟩ := box3' hb0
    go_wp2_with fail
    with_reducible refine (HTR.out _ hE0).mono ?_
    rintro e w1 ⟨hX1, (rfl | ⟨c, P', R', l, vC2, vP0, vR0, vP2, vR2, u, e0, rfl, hOP, hOR, hOl, HT⟩)⟩
    · have hE1 := hE0.trans hX1
      replace hb0 := hX1.block hb0
      clear k0 k1 k2 hX1 HTR
      obtain ⟨r0, r1, r2⟩ := box3' hb0
      have f0 := frozen_cells ⟨_, hb0⟩ 0
      have f1 := frozen_cells ⟨_, hb0⟩ 1
      have f2 := frozen_cells ⟨_, hb0⟩ 2
      go_wp2_with fail
      with_reducible refine (sanity_any _ _ (Ext.refl _)).mono ?_
      rintro e w3 ⟨rfl, hX3⟩
      go_wp2_with fail
      go_ret
      refine ⟨rfl, hX.trans (Ext.trans ?_ hX3)⟩
      repeat (first | exact hE1 | refine Ext.setCell ?_ (by show w.heap.size ≤ B; omega) _)
    · injection e0 with e0
      have e0 := congrArg Array.toList e0
      simp only [List.cons.injEq, and_true] at e0
      obtain ⟨rfl, rfl, rfl⟩ := e0
      obtain ⟨pa, pn, pc, rfl⟩ := Own.form5 enc5_len hOP
      obtain ⟨ra, rn, rc, rfl⟩ := Own.form5 enc5_len hOR
      obtain ⟨la, lc, rfl⟩ := Own.form1 enc1_len hOl
      have HTT := Lib.hid HT
      have hE1 := hE0.trans hX1
      replace hb0 := hX1.block hb0
      replace hb1 := hX1.block hb1
      clear k0 k1 k2 HTR hE0
      obtain ⟨r0, r1, r2⟩ := box3' hb0
      have f0 := frozen_cells ⟨_, hb0⟩ 0
      have f1 := frozen_cells ⟨_, hb0⟩ 1
      have f2 := frozen_cells ⟨_, hb0⟩ 2
      go_upto_region 6 with fail
      have kx1 := (((KX.refl B w1).set 0 (.slice aC C.length capC)).set 1 (.slice pa pn pc)).set 2 (.slice ra rn rc)
      have hE2 : Ext w (((w1.setCell ⟨B, 0, none⟩ (.slice aC C.length capC)).setCell ⟨B, 1, none⟩ (.slice pa pn pc)).setCell ⟨B, 2, none⟩ (.slice ra rn rc)) := ((hE1.setCell (by show w.heap.size ≤ B; omega) _).setCell (by show w.heap.size ≤ B; omega) _).setCell (by show w.heap.size ≤ B; omega) _
      have hbW : (((w1.setCell ⟨B, 0, none⟩ (.slice aC C.length capC)).setCell ⟨B, 1, none⟩ (.slice pa pn pc)).setCell ⟨B, 2, none⟩ (.slice ra rn rc)).heap[B]? = some (.cells #[.slice aC C.length capC, .slice pa pn pc, .slice ra rn rc] 26) := set_eq (set_eq (set_eq hb0))
      have hbM : (((w1.setCell ⟨B, 0, none⟩ (.slice aC C.length capC)).setCell ⟨B, 1, none⟩ (.slice pa pn pc)).setCell ⟨B, 2, none⟩ (.slice ra rn rc)).heap[B + 1]? = some (.cells #[.int .i64 ma, .int .i64 mb, .int .i64 mc, .int .i64 md, .int .i64 me] 41) := set_ne (set_ne (set_ne hb1 (by omega)) (by omega)) (by omega)
      replace hOP := Own.kx hOP kx1 hb0 (by decide)
      replace hOR := Own.kx hOR kx1 hb0 (by decide)
      replace hOl := Own.kx hOl kx1 hb0 (by decide)
      obtain ⟨w2, hw2⟩ : ∃ w2, ((w1.setCell ⟨B, 0, none⟩ (.slice aC C.length capC)).setCell ⟨B, 1, none⟩ (.slice pa pn pc)).setCell ⟨B, 2, none⟩ (.slice ra rn rc) = w2 := ⟨_, rfl⟩
      rw [hw2] at hE2 hbW hbM hOP hOR hOl ⊢
      clear hw2 kx1 r0 r1 r2 f0 f1 f2 hb0 hb1 hE1 hX1
      have hPl : P'.length + R'.length ≤ 60 := HT.good.few.2
      have hCl : C.length ≤ 20 := HT.good.few.1
      have hwk2 : Wk w2 (.agg #[.slice aC C.length capC, .slice pa pn pc, .slice ra rn rc]) C P' R' := ⟨_, _, _, rfl, HFC.out.ext hE2, hOP.sl enc5_len, hOR.sl enc5_len, by omega⟩
      have HCLS : Hid (∀ w', Ext w2 w' → Calls Try.prog 29 #[.agg #[.slice aC C.length capC, .slice pa pn pc, .slice ra rn rc]] w' fun e w'' => e = .returned (.tuple #[.int .i64 0, .int .i64 0, .bool false, .int .i64 0]) ∧ Ext w' w'') := fun w' q => by
        have := clash_any w' C P' R' _ w' (Ext.refl _) (hwk2.ext q)
        rw [HT.pairs, chk_zero.2 HT.good] at this
        exact this
      have HFIT : Hid (∀ w', Ext w2 w' → Calls Try.prog 26 #[.agg #[.slice aC C.length capC, .slice pa pn pc, .slice ra rn rc], .agg #[.int .i64 c.a, .int .i64 c.b, .slice la l.length lc]] w' fun e w'' => e = .returned (fitV (-1, true)) ∧ Ext w' w'') := fun w' q => by
        have := Fits_any w' C P' R' _ c.a c.b l _ w' (Ext.refl _) (hwk2.ext q) ((hOl.sl enc1_len).ext q)
        rw [HT.fits] at this
        exact this
      have HLON : Hid (∀ y, c.b ≤ y → y < c.b + l.length → ∀ w', Ext w2 w' → Calls Try.prog 20 #[.agg #[.slice aC C.length capC, .slice pa pn pc, .slice ra rn rc], .int .i64 c.a, .int .i64 y] w' fun e w'' => e = .returned (.tuple #[.agg #[.int .i64 (loY P' R' c y), .int .i64 (hiY P' R' c y)], .int .i64 0]) ∧ Ext w' w'') := fun y a b w' q => by
        have := Long_any w' C P' R' _ c.a y w' (Ext.refl _) (hwk2.ext q)
        rw [HT.long a (by rw [← HT.tlen]; exact b)] at this
        exact this
      have hcok := HT.chain_ok
      have hcb := hcok.1
      have hlen := HT.len
      have hll := HT.tlen
      have hl1 : 0 < l.length ∧ l.length ≤ 60 ∧ c.b + (l.length : Int) ≤ 4001 := by omega
      have HIL := Lib.hid (hOl.sl enc1_len)
      obtain ⟨_, _, el, -, -, hcl⟩ := Ints.parts HIL.out
      cases el
      have HCL9 := Lib.hid hcl
      have hC1 : 0 < C.length := by
        rcases Nat.eq_zero_or_pos C.length with h | h
        · have := HT.hd; rw [List.eq_nil_of_length_eq_zero h] at this; cases this
        · exact h
      obtain ⟨bC, oC, c9, hx9, rfl, q0, q1, q2, q3, q4⟩ := five_at HcC.out hE2 hC1
      obtain rfl : c9 = c := by
        have := HT.hd
        rw [List.head?_eq_getElem?, List.getElem?_eq_getElem hC1] at this
        rw [hx9]
        exact Option.some.inj this
      rw [Nat.zero_mul, Nat.add_zero] at q0 q1 q2 q3 q4
      clear hcl hx9 hcok hlen hll HT
      obtain ⟨k0, k1, k2⟩ := box3' hbW
      have hC2 : (0 : Int) < (C.length : Int) := by omega
      have zB : B < w2.heap.size := lt_of_cell k0
      have hzM : B + 1 < w2.heap.size := (Array.getElem?_eq_some_iff.1 hbM).1
      have zq := lt_of_cell q0
      have hbA := heap_alloc_new w2 (.cells #[.int .i64 c9.a, .int .i64 c9.b, .int .i64 c9.c, .int .i64 c9.d, .int .i64 c9.e] 53)
      replace hbW := ((Ext.refl w2).alloc (.cells #[.int .i64 c9.a, .int .i64 c9.b, .int .i64 c9.c, .int .i64 c9.d, .int .i64 c9.e] 53)).block hbW
      replace hbM := ((Ext.refl w2).alloc (.cells #[.int .i64 c9.a, .int .i64 c9.b, .int .i64 c9.c, .int .i64 c9.d, .int .i64 c9.e] 53)).block hbM
      have hE3 : Ext w2 (w2.alloc (.cells #[.int .i64 c9.a, .int .i64 c9.b, .int .i64 c9.c, .int .i64 c9.d, .int .i64 c9.e] 53)) := (Ext.refl w2).alloc _
      obtain ⟨A, hA⟩ : ∃ A, w2.heap.size = A := ⟨_, rfl⟩
      have zBA : B + 1 < A := hA ▸ hzM
      go_upto_region 7 with fail
      rw [hA] at hbA
      obtain ⟨w3, hw3⟩ : ∃ w3, w2.alloc (.cells #[.int .i64 c9.a, .int .i64 c9.b, .int .i64 c9.c, .int .i64 c9.d, .int .i64 c9.e] 53) = w3 := ⟨_, rfl⟩
      rw [hw3] at hbA hbW hbM hE3 ⊢
      clear hw3 k0 k1 k2 q0 q1 q2 q3 q4 zq zB hzM hA hC2
      obtain ⟨k0, k1, k2⟩ := box3' hbW
      obtain ⟨c0, c1, c2, c3, c4⟩ := box5 hbA
      go_upto_region 12 with (first
        | (go_at_call 29; with_reducible refine (HCLS.out _ hE3).mono ?_; rintro e w4 ⟨rfl, hX4⟩; have hE4 := hE3.trans hX4; obtain ⟨k0, k1, k2⟩ := box3' (hX4.block hbW); obtain ⟨c0, c1, c2, c3, c4⟩ := box5 (hX4.block hbA))
        | (go_at_call 26; with_reducible refine (HFIT.out _ hE4).mono ?_; rintro e w5 ⟨rfl, hX5⟩))
      have hX35 := hX4.trans hX5
      have hE5 := hE3.trans hX35
      replace hbW := hX35.block hbW
      replace hbM := hX35.block hbM
      replace hbA := hX35.block hbA
      clear k0 k1 k2 c0 c1 c2 c3 c4 hX4 hX5 hX35 hE4 hE3 HCLS HFIT
      go_loopw [90] (fun i wr => ∃ k : Nat, k ≤ l.length ∧ i = .int .i64 k ∧ Ext w5 wr) (fun i _ => l.length - (intOf i).toNat)
      case atStart => exact ⟨0, Nat.zero_le _, rfl, Ext.refl _⟩
      case round =>
        obtain ⟨k, hk, rfl, hE⟩ := hrel
        have hE6 := hE5.trans hE
        replace hbW := hE.block hbW
        replace hbM := hE.block hbM
        replace hbA := hE.block hbA
        obtain ⟨k0, k1, k2⟩ := box3' hbW
        obtain ⟨c0, c1, c2, c3, c4⟩ := box5 hbA
        by_cases hlt : k < l.length
        · obtain ⟨_, _, x, hx, e1, p0⟩ := int_at HCL9.out hE6 hlt
          cases e1
          have hlim := HTT.out.lim (y := c9.b + k) (by omega) (by rw [← HTT.out.tlen]; omega)
          have hxt : trueAt l c9 (c9.b + k) = x := by rw [← HTT.out.at_ k, List.getD_eq_getElem?_getD, List.getElem?_eq_getElem hlt, hx]; rfl
          rw [hxt] at hlim
          obtain ⟨y, hy⟩ : ∃ y, c9.b + (k : Int) = y := ⟨_, rfl⟩
          have HLY := Lib.hid (HLON.out y (by omega) (by omega))
          rw [hy] at hlim
          obtain ⟨l1, l2⟩ := hlim
          generalize loY P' R' c9 y = lo at HLY l1
          generalize hiY P' R' c9 y = hi at HLY l2
          clear hx hxt
          have hkk : 0 ≤ (k : Int) ∧ (k : Int) ≤ 60 := by omega
          have hkl : (k : Int) < (l.length : Int) := by omega
          go_wp2_with fail
          with_reducible refine (HLY.out _ hE6).mono ?_
          rintro e w6 ⟨rfl, hX6⟩
          go_wp2_with fail
          go_roundw
          case rel => exact ⟨k + 1, by omega, by go_num, (hE.trans hX6).alloc _⟩
          case measure => simp [intOf]; omega
        · obtain rfl : k = l.length := by omega
          obtain ⟨m0, m1, m2, m3, m4⟩ := box5 hbM
          have hi0 : ∃ i0 : Nat, intoZ mb 0 ((l.length : Int) - 1) = (i0 : Int) ∧ i0 < l.length := by
            have g1 := intoZ_ge mb 0 ((l.length : Int) - 1)
            have g2 := intoZ_le (n := mb) (show (0 : Int) ≤ (l.length : Int) - 1 by omega)
            exact ⟨(intoZ mb 0 ((l.length : Int) - 1)).toNat, by omega, by omega⟩
          obtain ⟨i0, hi1, hi2⟩ := hi0
          have HIN := Lib.hid (fun w' => into_any mb 0 ((l.length : Int) - 1) w')
          rw [hi1] at HIN
          clear hi1 HLON
          have hl60 : 0 < (l.length : Int) ∧ (l.length : Int) ≤ 60 := by omega
          go_upto_region 19 with (go_at_call 30; with_reducible refine (HIN.out _).mono ?_; rintro e w8 ⟨rfl, hX8⟩)
          have hE8 := hE6.trans hX8
          replace hbW := hX8.block hbW
          replace hbM := hX8.block hbM
          replace hbA := hX8.block hbA
          clear k0 k1 k2 c0 c1 c2 c3 c4 m0 m1 m2 m3 m4 hX8 hE hE6 HIN
          obtain ⟨y, hy⟩ : ∃ y, c9.b + (i0 : Int) = y := ⟨_, rfl⟩
          have hy1 : c9.b ≤ y ∧ y < c9.b + (steps.length : Int) := by have := HTT.out.tlen; omega
          have hy4 : y ≤ 4000 := by omega
          have hik : 0 ≤ (i0 : Int) ∧ (i0 : Int) ≤ 60 := by omega
          have hEw8 := hE2.trans hE8
          go_cut [26] (fun v wx => v = .int .i64 i0 ∧ Ext w wx ∧ KX (B + 1) w8 wx ∧ wx.heap[B]? = some (.cells #[.slice (some ⟨bC, oC, none⟩) C.length capC, .slice pa pn pc, .slice ra rn rc] 26) ∧ wx.heap[B + 1]? = some (.cells #[.int .i64 c9.a, .int .i64 y, .int .i64 mc, .int .i64 md, .int .i64 me] 41) ∧ wx.heap[A]? = some (.cells #[.int .i64 c9.a, .int .i64 c9.b, .int .i64 c9.c, .int .i64 c9.d, .int .i64 c9.e] 53))
          case first => as_aux_lemma =>
            obtain ⟨c0, c1, c2, c3, c4⟩ := box5 hbA
            obtain ⟨m0, m1, m2, m3, m4⟩ := box5 hbM
            have f0 := frozen_cells ⟨_, hbM⟩ 0
            have f1 := frozen_cells ⟨_, hbM⟩ 1
            go_region
            all_goals
              go_wp2_with fail
              go_meet
              case rel => exact ⟨rfl, ((hEw8.setCell (by show w.heap.size ≤ B + 1; omega) _).setCell (by show w.heap.size ≤ B + 1; omega) _).drew, ((KX.refl (B + 1) w8).set 0 (.int .i64 c9.a)).set 1 (.int .i64 y), set_ne (set_ne hbW (by omega)) (by omega), set_eq (set_eq hbM), set_ne (set_ne hbA (by omega)) (by omega)⟩
          case rest =>
          obtain ⟨rfl, hE9, hKX9, gbW, gbM, gbA⟩ := hcut
          obtain ⟨w9, rfl⟩ : ∃ w', w' = wc := ⟨_, rfl⟩
          have hOP9 := Own.kx (hOP.ext hE8) hKX9 hbM (by decide)
          have hOR9 := Own.kx (hOR.ext hE8) hKX9 hbM (by decide)
          have hOl9 := Own.kx (hOl.ext hE8) hKX9 hbM (by decide)
          have hwk9 : Wk w9 (.agg #[.slice (some ⟨bC, oC, none⟩) C.length capC, .slice pa pn pc, .slice ra rn rc]) C P' R' := ⟨_, _, _, rfl, HFC.out.ext hE9, hOP9.sl enc5_len, hOR9.sl enc5_len, by omega⟩
          have HDI := Lib.hid (fun w' (q : Ext w9 w') => Distance_any w' C P' R' _ c9.a y mc md me w' (Ext.refl _) (hwk9.ext q))
          have hdd := HTT.out.dist hy1.1 hy1.2 mc md me off
          have hI9 := hOl9.sl enc1_len
          obtain ⟨_, _, el9, -, -, hcl9⟩ := Ints.parts hI9
          cases el9
          obtain ⟨_, _, x, hx, e1, p0⟩ := int_at hcl9 (Ext.refl w9) hi2
          cases e1
          have hxt : trueAt l c9 y = x := by rw [← hy, ← HTT.out.at_ i0, List.getD_eq_getElem?_getD, List.getElem?_eq_getElem hi2, hx]; rfl
          rw [hxt] at hdd
          obtain ⟨⟨⟨dl, dh⟩, de⟩, hd⟩ : ∃ d, distR C P' R' c9.a y mc md me = d := ⟨_, rfl⟩
          rw [hd] at HDI hdd
          simp only at hdd
          have hi3 : (i0 : Int) < (l.length : Int) := by omega
          clear hd hxt hx hcl9 hI9 hOP9 hOR9 hOl9 hOP hOR hOl hKX9 hbW hbM hbA hE8 hE5 hE2 hwk2 hwk9 hEw8 HTT HCL9 HIL HcC HFC hy
          obtain ⟨k0, k1, k2⟩ := box3' gbW
          obtain ⟨m0, m1, m2, m3, m4⟩ := box5 gbM
          go_wp2_with fail
          with_reducible refine (HDI.out _ (Ext.refl _)).mono ?_
          rintro e wd ⟨rfl, hX10⟩
          have hbT := heap_alloc_new wd (.cells #[.int .i64 dl, .int .i64 dh] 30)
          have hE11 := hX10.alloc (.cells #[.int .i64 dl, .int .i64 dh] 30)
          obtain ⟨T, hT⟩ : ∃ T, wd.heap.size = T := ⟨_, rfl⟩
          clear k0 k1 k2 m0 m1 m2 m3 m4
          go_upto_region 21 with fail
          rw [hT] at hbT
          obtain ⟨w11, hw11⟩ : ∃ w11, wd.alloc (.cells #[.int .i64 dl, .int .i64 dh] 30) = w11 := ⟨_, rfl⟩
          rw [hw11] at hbT hE11 ⊢
          clear hw11 hX10 hT HDI
          rcases hdd with rfl | ⟨rfl, n1, n2, n3, ⟨b1, b2, b3, b4⟩, b5, b6, b7, b8⟩
          · go_wp2_with fail
            with_reducible refine (sanity_any _ _ (Ext.refl _)).mono ?_
            rintro e w12 ⟨rfl, hX12⟩
            go_wp2_with fail
            go_ret
            exact ⟨rfl, hX.trans ((hE9.trans hE11).trans hX12)⟩
          · go_upto_region 23 with fail
            have g1 := intoZ_ge off (-me) me
            have g2 := intoZ_le (n := off) (show -me ≤ me by omega)
            have cI := regrow (w := w11) (fun w' _ => into_any off (-me) me w')
            generalize intoZ off (-me) me = d at cI g1 g2 b5 b6 b7 b8
            obtain ⟨cnt, hcnt⟩ : ∃ z, max 0 (100 * mc + md + d) = z := ⟨_, rfl⟩
            rw [hcnt] at b5 b6 b7 b8
            have HCNT := Lib.hid hcnt
            go_cut [29] (fun v wx => v = .int .i64 cnt ∧ Ext w11 wx)
            case first => as_aux_lemma =>
              obtain ⟨m0, m1, m2, m3, m4⟩ := box5 (hE11.block gbM)
              have m2 := cell_regrown m2
              have m3 := cell_regrown m3
              have m4 := cell_regrown m4
              have hmax := ite_max
              have e1 : IntKind.i64.wrap (100 * mc) = 100 * mc := wrap_in (by omega)
              have e2 : IntKind.i64.wrap (100 * mc + md) = 100 * mc + md := wrap_in (by omega)
              have e3 : IntKind.i64.wrap (100 * mc + md + d) = 100 * mc + md + d := wrap_in (by omega)
              have e4 : IntKind.i64.wrap (-me) = -me := wrap_in (by omega)
              refine wp_region_quiet_below (by kernel_rfl) (by kernel_rfl) ?_
              repeat (with_reducible refine wpQuiet_step (fun K hK => ?_); go_simp; first | (with_reducible refine hK _ ?_; clear hK K) | (rw [if_neg (by simp [undef])]; with_reducible refine hK _ ?_; clear hK K) | (apply Exists.intro; with_reducible refine ⟨fun _ => ?_, hK _ ?_⟩; (first | with_reducible exact cI _ _); clear hK K))
              refine wpQuiet_nil ?_
              intro _ hw'
              obtain ⟨⟨dq, osq⟩, hw''⟩ := hw'
              subst hw''
              have hXq : Ext w11 (Go.Sort.grow (redrawn w11 dq) osq) := below_regrown w11 dq osq
              go_wp2_with fail
              go_meet
              case rel => exact ⟨rfl, hXq⟩
            case rest =>
            obtain ⟨rfl, hX12⟩ := hcut
            obtain ⟨w12, rfl⟩ : ∃ w', w' = wc := ⟨_, rfl⟩
            have p0' := (hE11.trans hX12).cell p0
            obtain ⟨pr, hpr⟩ : ∃ z, cnt * x = z := ⟨_, rfl⟩
            rw [hpr] at b5 b6 b7 b8
            clear cI hcnt g1 g2
            go_wp2_with fail
            with_reducible refine (sanity_any _ _ (Ext.refl _)).mono ?_
            rintro e w13 ⟨rfl, hX13⟩
            obtain ⟨t0, t1⟩ := box2 ((hX12.trans hX13).block hbT)
            go_wp2_with fail
            go_ret
            exact ⟨rfl, hX.trans ((hE9.trans hE11).trans (hX12.trans hX13))⟩
  · go_wp2_with fail
    with_reducible refine (sanity_any _ _ (Ext.refl _)).mono ?_
    rintro e w2 ⟨rfl, hX2⟩
    go_wp2_with fail
    go_ret
    exact ⟨rfl, hX.trans (hE0.trans hX2)⟩
end Go.Proofs.Ytaggjclaehigjaa
