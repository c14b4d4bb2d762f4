/- Contracts of the specification's functions: worn, Shortest, Longest. -/
import Derived.Test.YtaggjclaehigjaaR18
namespace Go.Proofs.Ytaggjclaehigjaa
open Go.RowKit
theorem known_end {C P R : List Five} {id y : Int} {c : Five} (g : Good C P R) (hf : findC C id = some c) (h1 : c.b ≤ y) (h2 : y ≤ 4000) :
    (clY P R c y = true → knownC C P R id y = [.int .i64 0, .int .i64 0, .int .i64 0, .int .i64 0, .int .i64 9]) ∧
      (clY P R c y = false → ∃ l t, knownC C P R id y = [.int .i64 (loY P R c y), .int .i64 (hiY P R c y), .int .i64 l, .int .i64 t, .int .i64 0]) := by
  have hat : atE C P R id y = 0 := by
    unfold atE
    rw [if_pos (chk_zero.2 g), hf]
    simp only
    rw [if_pos (inB_iff.2 ⟨h1, h2⟩)]
  have hag := agE_at hat hf
  constructor
  · intro h
    have e : agE C P R id y = 9 := by rw [hag]; exact if_pos h
    rw [knownC_err (by rw [e]; decide), e]
  · intro h
    have e : agE C P R id y = 0 := by
      rw [hag]
      unfold clY at h
      rw [h]
      rfl
    refine ⟨(lmL c.e y (innZ P R c (spellZ R c y))).2, (lmH c.e y (innZ P R c (spellZ R c y))).2, ?_⟩
    rw [knownC_ok e hf, show (lmL c.e y (innZ P R c (spellZ R c y))).1 = limLo c.e y (innZ P R c (spellZ R c y)) from (refLo_rest _ _ _).1, show (lmH c.e y (innZ P R c (spellZ R c y))).1 = limHi c.e y (innZ P R c (spellZ R c y)) from (refHi_rest _ _ _).1]
    rfl
theorem Own.slice_form {T k base : Nat} {enc : Int → List Value} (hk : ∀ x, (enc x).length = k) {w : World} {v : Value} {l : List Int} (h : Own T k enc base w v l) : ∃ a n c, v = .slice a n c := by
  obtain ⟨a, c, e, _⟩ := h.sl hk
  exact ⟨a, _, c, e⟩
theorem box3w {w : World} {B T : Nat} {a b c : Value} {ro : Nat × Nat} (h : w.heap[B]? = some (.cells #[a, b, c] T ro)) {u : Value} : (w.setCell ⟨B, 2, none⟩ u).heap[B]? = some (.cells #[a, b, u] T ro) := set_eq h
set_option maxRecDepth 100000 in
set_option maxHeartbeats 8000000 in
theorem rworn (W : World) (C P R : List Five) (v : Value) (id lo hi : Int) (gr : Bool) (w : World) (hX : Ext W w) (hv : Wk w v C P R) :
    Calls Try.prog 80 #[v, .int .i64 id, .agg #[.int .i64 lo, .int .i64 hi], .bool gr] w fun e w' => (∃ u, e = .returned (.agg #[.int .i64 (wornR C P R id lo hi gr).1, .int .i64 (wornR C P R id lo hi gr).2.1, u, .int .i64 (spanE C P R id lo hi)]) ∧ Own 3 1 enc1 w.heap.size w' u (wornR C P R id lo hi gr).2.2) ∧ Ext W w' := by
  have HYE := Lib.hid (fun w' (q : Ext w w') => ryears w' C P R v id lo hi w' (Ext.refl _) (hv.ext q))
  have HKN := Lib.hid (fun y w' (q : Ext w w') => rknown w' C P R v id y w' (Ext.refl _) (hv.ext q))
  obtain ⟨vC, vP, vR, rfl, -⟩ := hv
  have hX0 : Ext w (((w.alloc (.cells #[vC, vP, vR] 26)).alloc (.cells #[.int .i64 lo, .int .i64 hi] 30)).alloc (.cells #[.int .i64 0, .int .i64 0, .slice none 0 0, .int .i64 0] 67)) := (((Ext.refl w).alloc _).alloc _).alloc _
  have hb0 := (((Ext.refl _).alloc (.cells #[.int .i64 lo, .int .i64 hi] 30)).alloc (.cells #[.int .i64 0, .int .i64 0, .slice none 0 0, .int .i64 0] 67)).block (heap_alloc_new w (.cells #[vC, vP, vR] 26))
  have hb1 := ((Ext.refl _).alloc (.cells #[.int .i64 0, .int .i64 0, .slice none 0 0, .int .i64 0] 67)).block (heap_alloc_new (w.alloc (.cells #[vC, vP, vR] 26)) (.cells #[.int .i64 lo, .int .i64 hi] 30))
  have hb2 := heap_alloc_new ((w.alloc (.cells #[vC, vP, vR] 26)).alloc (.cells #[.int .i64 lo, .int .i64 hi] 30)) (.cells #[.int .i64 0, .int .i64 0, .slice none 0 0, .int .i64 0] 67)
  simp only [World.size_alloc] at hb1 hb2
  obtain ⟨B, hBB⟩ : ∃ B, w.heap.size = B := ⟨_, rfl⟩
  rw [hBB] at hb0 hb1 hb2
  go_enter Try.func80, Try.ntmps80
  go_wp2_with fail
  with_reducible refine (HYE.out _ hX0).mono ?_
  rintro e w1 ⟨rfl, hX1⟩
  have hE1 := hX0.trans hX1
  replace hb0 := hX1.block hb0
  replace hb1 := hX1.block hb1
  replace hb2 := hX1.block hb2
  clear HYE hX0 hX1
  by_cases h0 : yearsE C P R id lo hi = 0
  · rw [h0]
    obtain ⟨c, g, hf, y1, y2, y3, y4⟩ := years_zero h0
    have hcb := (okC_parts (good_okT g hf).2.1).2.1
    have HEND : Hid (∀ y, lo ≤ y → y ≤ hi → (clY P R c y = true → knownC C P R id y = [.int .i64 0, .int .i64 0, .int .i64 0, .int .i64 0, .int .i64 9]) ∧ (clY P R c y = false → ∃ l t, knownC C P R id y = [.int .i64 (loY P R c y), .int .i64 (hiY P R c y), .int .i64 l, .int .i64 t, .int .i64 0])) := fun y a b => known_end g hf (by omega) (by omega)
    have HCLA := Lib.hid (fun y a b d => span_clash (gr := gr) h0 hf (y := y) a b d)
    have HOKA := Lib.hid (span_ok (gr := gr) h0 hf)
    have hlo : 0 ≤ lo ∧ lo ≤ 4000 := by omega
    have hhi : 0 ≤ hi ∧ hi ≤ 4000 := by omega
    clear h0 g hf hcb y1 y3
    obtain ⟨s0, s1⟩ := box2 hb1
    obtain ⟨k0, k1, k2⟩ := box3' hb0
    have zS := lt_of_cell s0
    have zK := lt_of_cell k0
    have hz2 : B + 1 + 1 < w1.heap.size := (Array.getElem?_eq_some_iff.1 hb2).1
    have hbD := heap_alloc_new w1 (.cells #[.int .i64 id, .int .i64 lo, .slice none 0 0] 46)
    replace hb0 := ((Ext.refl w1).alloc (.cells #[.int .i64 id, .int .i64 lo, .slice none 0 0] 46)).block hb0
    replace hb1 := ((Ext.refl w1).alloc (.cells #[.int .i64 id, .int .i64 lo, .slice none 0 0] 46)).block hb1
    replace hb2 := ((Ext.refl w1).alloc (.cells #[.int .i64 id, .int .i64 lo, .slice none 0 0] 46)).block hb2
    have hE2 := hE1.alloc (.cells #[.int .i64 id, .int .i64 lo, .slice none 0 0] 46)
    have hszD : (w1.alloc (.cells #[.int .i64 id, .int .i64 lo, .slice none 0 0] 46)).heap.size = w1.heap.size + 1 := by simp
    obtain ⟨D, hD⟩ : ∃ D, w1.heap.size = D := ⟨_, rfl⟩
    have zSD : B + 1 < D := hD ▸ zS
    have zBD : B + 1 + 1 < D := hD ▸ hz2
    go_wp2_with fail
    rw [hD] at hbD hszD
    obtain ⟨w2, hw2⟩ : ∃ w2, w1.alloc (.cells #[.int .i64 id, .int .i64 lo, .slice none 0 0] 46) = w2 := ⟨_, rfl⟩
    rw [hw2] at hb0 hb1 hb2 hbD hE2 hszD ⊢
    have hwD : w.heap.size ≤ D := by omega
    clear hw2 hE1 s0 s1 k0 k1 k2 zS zK hz2 hD
    go_loopw [11] (fun i wr => ∃ (k : Nat) (u : Value), i = .int .i64 (lo + k) ∧ lo + k ≤ hi + 1 ∧ Ext w wr ∧ wr.heap[B]? = some (.cells #[vC, vP, vR] 26) ∧ wr.heap[B + 1]? = some (.cells #[.int .i64 lo, .int .i64 hi] 30) ∧ wr.heap[B + 1 + 1]? = some (.cells #[.int .i64 0, .int .i64 0, .slice none 0 0, .int .i64 0] 67) ∧
        wr.heap[D]? = some (.cells #[.int .i64 id, .int .i64 lo, u] 46) ∧ Own 3 1 enc1 (D + 1) wr u (lens (endY P R c gr) lo k) ∧ Hid (∀ y, lo ≤ y → y < lo + k → clY P R c y = false)) (fun i _ => (hi + 1 - intOf i).toNat)
    case atStart => exact ⟨0, .slice none 0 0, by simp, by omega, hE2, hb0, hb1, hb2, hbD, Own.nil _ _ _ _ _, fun y a b => absurd b (by omega)⟩
    case round =>
      clear hb0 hb1 hb2 hbD hE2 hszD
      obtain ⟨k, u, rfl, hk, hE, hb0, hb1, hb2, hbD, hO, HN⟩ := hrel
      obtain ⟨ua, un, uc, rfl⟩ := Own.slice_form enc1_len hO
      obtain ⟨s0, s1⟩ := box2 hb1
      obtain ⟨k0, k1, k2⟩ := box3' hb0
      obtain ⟨y, hy⟩ : ∃ y, lo + (k : Int) = y := ⟨_, rfl⟩
      rw [hy] at hk ⊢
      have hy0 : lo ≤ y ∧ 0 ≤ y ∧ y ≤ 4001 := by omega
      by_cases hlt : y ≤ hi
      · obtain ⟨hcl1, hcl2⟩ := HEND.out y hy0.1 hlt
        have HKY := Lib.hid (HKN.out y)
        have HLS := Lib.hid (lens_succ (endY P R c gr) lo k)
        rw [hy] at HLS HN
        have hll := lens_len (endY P R c gr) lo k
        have hk400 : k ≤ 400 := by omega
        cases hcl : clY P R c y
        · obtain ⟨l, t, hkn⟩ := hcl2 hcl
          rw [hkn] at HKY
          clear hcl1 hcl2 hkn
          go_wp2_with fail
          with_reducible refine (HKY.out _ hE).mono ?_
          rintro e w3 ⟨rfl, hX3⟩
          have KC : List Value := []
          clear KC
          have hE3 := hE.trans hX3
          have hO3 := hO.ext hX3
          replace hb0 := hX3.block hb0
          replace hb1 := hX3.block hb1
          replace hb2 := hX3.block hb2
          replace hbD := hX3.block hbD
          clear s0 s1 k0 k1 k2 hX3 hE hO
          obtain ⟨p0, p1, p2⟩ := box3' hbD
          have zD := lt_of_cell p0
          cases gr
          · replace HLS : Hid (lens (endY P R c false) lo (k + 1) = lens (endY P R c false) lo k ++ [loY P R c y]) := HLS
            have hbK := heap_alloc_new w3 (.cells #[.int .i64 (loY P R c y), .int .i64 (hiY P R c y), .int .i64 l, .int .i64 t, .int .i64 0] 111)
            generalize loY P R c y = ny at HLS hbK ⊢
            generalize hiY P R c y = my at HLS hbK ⊢
            clear hbK
            go_wp2_with (at_builtin; with_reducible refine app_many 44 3 1 8 (.int .i64 0) enc1 enc1_len enc1_one Try.underlying44 infoI rfl (by decide) (by decide) rfl (.tmp 54) (.tmp 56) rfl (D + 1) (.slice ua un uc) (lens (endY P R c false) lo k) rfl (hO3.ext (((Ext.refl _).alloc _).alloc _)) _ [ny] rfl (Sl.mk1 (by simp) rfl) (by simp; omega) (by simp; omega) ?_; intro v6 w6 hO6 hg6 hE6 hb6'; have hb0' := block_keep (hO3.ext (((Ext.refl _).alloc _).alloc _)) hg6 ((((Ext.refl _).alloc _).alloc _).block hb0) (by decide); have hb1' := block_keep (hO3.ext (((Ext.refl _).alloc _).alloc _)) hg6 ((((Ext.refl _).alloc _).alloc _).block hb1) (by decide); have hb2' := block_keep (hO3.ext (((Ext.refl _).alloc _).alloc _)) hg6 ((((Ext.refl _).alloc _).alloc _).block hb2) (by decide); have hbD' := block_keep (hO3.ext (((Ext.refl _).alloc _).alloc _)) hg6 ((((Ext.refl _).alloc _).alloc _).block hbD) (by decide); have hE7 := hE6 w (by omega) ((hE3.alloc _).alloc _); obtain ⟨va, vn, vc, rfl⟩ := Own.slice_form enc1_len hO6; obtain ⟨q0, q1, q2⟩ := box3' hbD'; have zQ := lt_of_cell q0; have fQ := frozen_cells ⟨_, hbD'⟩ 2; clear hb6' hE6 hg6)
            go_roundw
            case rel => exact ⟨k + 1, _, congrArg (Value.int .i64) (by omega), by omega, hE7.setCell (by show w.heap.size ≤ D; omega) _, set_ne hb0' (by omega), set_ne hb1' (by omega), set_ne hb2' (by omega), box3w hbD', by rw [HLS.out]; exact Own.kx hO6 ((KX.refl _ _).set _ _) hbD' (by decide), fun z a b => by
                by_cases e : z = y
                · rw [e]; exact hcl
                · exact HN.out z a (by omega)⟩
            case measure => simp [intOf]; omega
          · replace HLS : Hid (lens (endY P R c true) lo (k + 1) = lens (endY P R c true) lo k ++ [hiY P R c y]) := HLS
            have hbK := heap_alloc_new w3 (.cells #[.int .i64 (loY P R c y), .int .i64 (hiY P R c y), .int .i64 l, .int .i64 t, .int .i64 0] 111)
            generalize loY P R c y = ny at HLS hbK ⊢
            generalize hiY P R c y = my at HLS hbK ⊢
            clear hbK
            go_wp2_with (at_builtin; with_reducible refine app_many 44 3 1 8 (.int .i64 0) enc1 enc1_len enc1_one Try.underlying44 infoI rfl (by decide) (by decide) rfl (.tmp 54) (.tmp 56) rfl (D + 1) (.slice ua un uc) (lens (endY P R c true) lo k) rfl (hO3.ext (((Ext.refl _).alloc _).alloc _)) _ [my] rfl (Sl.mk1 (by simp) rfl) (by simp; omega) (by simp; omega) ?_; intro v6 w6 hO6 hg6 hE6 hb6'; have hb0' := block_keep (hO3.ext (((Ext.refl _).alloc _).alloc _)) hg6 ((((Ext.refl _).alloc _).alloc _).block hb0) (by decide); have hb1' := block_keep (hO3.ext (((Ext.refl _).alloc _).alloc _)) hg6 ((((Ext.refl _).alloc _).alloc _).block hb1) (by decide); have hb2' := block_keep (hO3.ext (((Ext.refl _).alloc _).alloc _)) hg6 ((((Ext.refl _).alloc _).alloc _).block hb2) (by decide); have hbD' := block_keep (hO3.ext (((Ext.refl _).alloc _).alloc _)) hg6 ((((Ext.refl _).alloc _).alloc _).block hbD) (by decide); have hE7 := hE6 w (by omega) ((hE3.alloc _).alloc _); obtain ⟨va, vn, vc, rfl⟩ := Own.slice_form enc1_len hO6; obtain ⟨q0, q1, q2⟩ := box3' hbD'; have zQ := lt_of_cell q0; have fQ := frozen_cells ⟨_, hbD'⟩ 2; clear hb6' hE6 hg6)
            go_roundw
            case rel => exact ⟨k + 1, _, congrArg (Value.int .i64) (by omega), by omega, hE7.setCell (by show w.heap.size ≤ D; omega) _, set_ne hb0' (by omega), set_ne hb1' (by omega), set_ne hb2' (by omega), box3w hbD', by rw [HLS.out]; exact Own.kx hO6 ((KX.refl _ _).set _ _) hbD' (by decide), fun z a b => by
                by_cases e : z = y
                · rw [e]; exact hcl
                · exact HN.out z a (by omega)⟩
            case measure => simp [intOf]; omega
        · have HS := Lib.hid (HCLA.out y hy0.1 hlt hcl)
          rw [hcl1 hcl] at HKY
          clear hcl1 hcl2
          go_wp2_with fail
          with_reducible refine (HKY.out _ hE).mono ?_
          rintro e w3 ⟨rfl, hX3⟩
          have hE3 := hE.trans hX3
          replace hb2 := hX3.block hb2
          clear s0 s1 k0 k1 k2 hX3 hE
          obtain ⟨r0, r1, r2, r3⟩ := box4 hb2
          have zR2 := lt_of_cell r0
          have f0 := frozen_cells ⟨_, hb2⟩ 0
          have f1 := frozen_cells ⟨_, hb2⟩ 1
          have f2 := frozen_cells ⟨_, hb2⟩ 2
          have f3 := frozen_cells ⟨_, hb2⟩ 3
          go_wp2_with fail
          refine bodyPost_ret (v := .agg #[.int .i64 0, .int .i64 0, (.slice none 0 0), .int .i64 9]) (by simp [results, Try.results80, r0, r1, r2, r3, zR2, go_sem]) rfl ⟨⟨_, by rw [HS.out.1, HS.out.2], by rw [HS.out.2]; exact Own.nil _ _ _ _ _⟩, hX.trans ?_⟩
          repeat (first | exact hE3 | refine Ext.alloc ?_ _ | refine Ext.setCell ?_ (by show w.heap.size ≤ B + 1 + 1; omega) _)
      · obtain ⟨p0, p1, p2⟩ := box3' hbD
        have hyh : y = hi + 1 := by omega
        have HS : Hid (spanE C P R id lo hi = 0 ∧ wornR C P R id lo hi gr = (id, lo, lens (endY P R c gr) lo k)) := by
          have := HOKA.out (fun z a b => HN.out z a (by omega))
          rw [show (hi - lo + 1).toNat = k by omega] at this
          exact this
        clear HN HEND HCLA HOKA hyh hy
        obtain ⟨r0, r1, r2, r3⟩ := box4 hb2
        have zR2 := lt_of_cell r0
        have f0 := frozen_cells ⟨_, hb2⟩ 0
        have f1 := frozen_cells ⟨_, hb2⟩ 1
        have f2 := frozen_cells ⟨_, hb2⟩ 2
        have f3 := frozen_cells ⟨_, hb2⟩ 3
        go_wp2_with fail
        refine bodyPost_ret (v := .agg #[.int .i64 id, .int .i64 lo, .slice ua un uc, .int .i64 0]) (by simp [results, Try.results80, r0, r1, r2, r3, go_sem]) rfl ⟨⟨_, by rw [HS.out.1, HS.out.2], by rw [HS.out.2]; exact (Own.kx hO (((((KX.refl _ _).set _ _).set _ _).set _ _).set _ _) hb2 (by decide)).mono (by omega)⟩, hX.trans ?_⟩
        repeat (first | exact hE | refine Ext.alloc ?_ _ | refine Ext.setCell ?_ (by show w.heap.size ≤ B + 1 + 1; omega) _)
  · obtain ⟨e1, e2⟩ := span_err (gr := gr) h0
    have HS1 := Lib.hid e1
    have HS2 := Lib.hid e2
    have hnb : (yearsE C P R id lo hi == 0) = false := by simpa using h0
    generalize yearsE C P R id lo hi = n at HS1 hnb ⊢
    have hnb2 : (n != 0) = true := by simp [bne, hnb]
    clear h0 e1 e2 HKN
    obtain ⟨r0, r1, r2, r3⟩ := box4 hb2
    have zR2 := lt_of_cell r0
    have f0 := frozen_cells ⟨_, hb2⟩ 0
    have f1 := frozen_cells ⟨_, hb2⟩ 1
    have f2 := frozen_cells ⟨_, hb2⟩ 2
    have f3 := frozen_cells ⟨_, hb2⟩ 3
    go_wp2_with fail
    refine bodyPost_ret (v := .agg #[.int .i64 0, .int .i64 0, (.slice none 0 0), .int .i64 n]) (by simp [results, Try.results80, r0, r1, r2, r3, go_sem]) rfl ⟨⟨_, by rw [HS1.out, HS2.out], by rw [HS2.out]; exact Own.nil _ _ _ _ _⟩, hX.trans ?_⟩
    repeat (first | exact hE1 | refine Ext.alloc ?_ _ | refine Ext.setCell ?_ (by show w.heap.size ≤ B + 1 + 1; omega) _)
set_option maxRecDepth 100000 in
set_option maxHeartbeats 4000000 in
theorem rShortest (W : World) (C P R : List Five) (v : Value) (id lo hi : Int) (w : World) (hX : Ext W w) (hv : Wk w v C P R) :
    Calls Try.prog 40 #[v, .int .i64 id, .agg #[.int .i64 lo, .int .i64 hi]] w fun e w' => (∃ u, e = .returned (.agg #[.int .i64 (wornR C P R id lo hi false).1, .int .i64 (wornR C P R id lo hi false).2.1, u, .int .i64 (spanE C P R id lo hi)]) ∧ Own 3 1 enc1 w.heap.size w' u (wornR C P R id lo hi false).2.2) ∧ Ext W w' := by
  have HW := Lib.hid (fun w' (q : Ext w w') => rworn w' C P R v id lo hi false w' (Ext.refl _) (hv.ext q))
  obtain ⟨vC, vP, vR, rfl, -⟩ := hv
  generalize wornR C P R id lo hi false = x at HW ⊢
  generalize spanE C P R id lo hi = n at HW ⊢
  obtain ⟨x1, x2, x3⟩ := x
  have hX0 : Ext w (((w.alloc (.cells #[vC, vP, vR] 26)).alloc (.cells #[.int .i64 lo, .int .i64 hi] 30)).alloc (.cells #[.int .i64 0, .int .i64 0, .slice none 0 0, .int .i64 0] 67)) := (((Ext.refl w).alloc _).alloc _).alloc _
  have hb2 := heap_alloc_new ((w.alloc (.cells #[vC, vP, vR] 26)).alloc (.cells #[.int .i64 lo, .int .i64 hi] 30)) (.cells #[.int .i64 0, .int .i64 0, .slice none 0 0, .int .i64 0] 67)
  simp only [World.size_alloc] at hb2
  obtain ⟨B, hBB⟩ : ∃ B, w.heap.size = B := ⟨_, rfl⟩
  rw [hBB] at hb2
  go_enter Try.func40, Try.ntmps40
  go_wp2_with fail
  with_reducible refine (HW.out _ hX0).mono ?_
  rintro e w1 ⟨⟨u, rfl, hI⟩, hX1⟩
  obtain ⟨ua, un, uc, rfl⟩ := Own.slice_form enc1_len hI
  have hE1 := hX0.trans hX1
  replace hb2 := hX1.block hb2
  obtain ⟨r0, r1, r2, r3⟩ := box4 hb2
  have f0 := frozen_cells ⟨_, hb2⟩ 0
  have f1 := frozen_cells ⟨_, hb2⟩ 1
  have f2 := frozen_cells ⟨_, hb2⟩ 2
  have f3 := frozen_cells ⟨_, hb2⟩ 3
  have HI := Lib.hid hI
  have hw0 := hX0.le
  clear hI hX1
  go_wp2_with fail
  refine bodyPost_ret (v := .agg #[.int .i64 x1, .int .i64 x2, .slice ua un uc, .int .i64 n]) (by simp [results, Try.results40, r0, r1, r2, r3, go_sem]) rfl ⟨⟨_, rfl, ?_⟩, hX.trans ?_⟩
  · exact (Own.kx HI.out (((((KX.refl _ _).set _ _).set _ _).set _ _).set _ _) hb2 (by decide)).mono hw0
  · repeat (first | exact hE1 | refine Ext.setCell ?_ (by show w.heap.size ≤ B + 1 + 1; omega) _)
set_option maxRecDepth 100000 in
set_option maxHeartbeats 4000000 in
theorem rLongest (W : World) (C P R : List Five) (v : Value) (id lo hi : Int) (w : World) (hX : Ext W w) (hv : Wk w v C P R) :
    Calls Try.prog 42 #[v, .int .i64 id, .agg #[.int .i64 lo, .int .i64 hi]] w fun e w' => (∃ u, e = .returned (.agg #[.int .i64 (wornR C P R id lo hi true).1, .int .i64 (wornR C P R id lo hi true).2.1, u, .int .i64 (spanE C P R id lo hi)]) ∧ Own 3 1 enc1 w.heap.size w' u (wornR C P R id lo hi true).2.2) ∧ Ext W w' := by
  have HW := Lib.hid (fun w' (q : Ext w w') => rworn w' C P R v id lo hi true w' (Ext.refl _) (hv.ext q))
  obtain ⟨vC, vP, vR, rfl, -⟩ := hv
  generalize wornR C P R id lo hi true = x at HW ⊢
  generalize spanE C P R id lo hi = n at HW ⊢
  obtain ⟨x1, x2, x3⟩ := x
  have hX0 : Ext w (((w.alloc (.cells #[vC, vP, vR] 26)).alloc (.cells #[.int .i64 lo, .int .i64 hi] 30)).alloc (.cells #[.int .i64 0, .int .i64 0, .slice none 0 0, .int .i64 0] 67)) := (((Ext.refl w).alloc _).alloc _).alloc _
  have hb2 := heap_alloc_new ((w.alloc (.cells #[vC, vP, vR] 26)).alloc (.cells #[.int .i64 lo, .int .i64 hi] 30)) (.cells #[.int .i64 0, .int .i64 0, .slice none 0 0, .int .i64 0] 67)
  simp only [World.size_alloc] at hb2
  obtain ⟨B, hBB⟩ : ∃ B, w.heap.size = B := ⟨_, rfl⟩
  rw [hBB] at hb2
  go_enter Try.func42, Try.ntmps42
  go_wp2_with fail
  with_reducible refine (HW.out _ hX0).mono ?_
  rintro e w1 ⟨⟨u, rfl, hI⟩, hX1⟩
  obtain ⟨ua, un, uc, rfl⟩ := Own.slice_form enc1_len hI
  have hE1 := hX0.trans hX1
  replace hb2 := hX1.block hb2
  obtain ⟨r0, r1, r2, r3⟩ := box4 hb2
  have f0 := frozen_cells ⟨_, hb2⟩ 0
  have f1 := frozen_cells ⟨_, hb2⟩ 1
  have f2 := frozen_cells ⟨_, hb2⟩ 2
  have f3 := frozen_cells ⟨_, hb2⟩ 3
  have HI := Lib.hid hI
  have hw0 := hX0.le
  clear hI hX1
  go_wp2_with fail
  refine bodyPost_ret (v := .agg #[.int .i64 x1, .int .i64 x2, .slice ua un uc, .int .i64 n]) (by simp [results, Try.results42, r0, r1, r2, r3, go_sem]) rfl ⟨⟨_, rfl, ?_⟩, hX.trans ?_⟩
  · exact (Own.kx HI.out (((((KX.refl _ _).set _ _).set _ _).set _ _).set _ _) hb2 (by decide)).mono hw0
  · repeat (first | exact hE1 | refine Ext.setCell ?_ (by show w.heap.size ≤ B + 1 + 1; omega) _)
end Go.Proofs.Ytaggjclaehigjaa
