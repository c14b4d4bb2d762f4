/- Plain law and walk of the law ChainageIsSharp. -/
import Derived.Test.YtaggjclaehigjaaRF
import Derived.Test.YtaggjclaehigjaaK11
import Derived.Test.YtaggjclaehigjaaK12
namespace Go.Proofs.Ytaggjclaehigjaa
theorem sorted_ex (l : List Th) : ∃ ts : List Th, ts.Perm l ∧ SortedT ts := by
  refine ⟨l.mergeSort (fun s t => !decide (cmpT t s < 0)), List.mergeSort_perm _ _, ?_⟩
  have tr : ∀ x y z : Th, (!decide (cmpT y x < 0)) = true → (!decide (cmpT z y < 0)) = true → (!decide (cmpT z x < 0)) = true := by
    intro x y z h1 h2
    simp only [Bool.not_eq_true', decide_eq_false_iff_not, cmpT_neg] at *
    omega
  have tot : ∀ x y : Th, ((!decide (cmpT y x < 0)) || (!decide (cmpT x y < 0))) = true := by
    intro x y
    simp only [Bool.or_eq_true, Bool.not_eq_true', decide_eq_false_iff_not, cmpT_neg]
    omega
  have := List.pairwise_mergeSort tr tot l
  unfold SortedT
  refine this.imp ?_
  intro a b h
  simpa using h
/-- where no pair contradicts itself no spell does -/
theorem no_pairs {C P R : List Five} {id : Int} {c : Five} (h0 : chk C P R = 0) (hf : findC C id = some c) (h : clsL C P R (clF P R) = []) : fitCl P R c = false := by
  have g := chk_zero.1 h0
  unfold clsL at h
  rw [if_pos h0, List.flatMap_eq_nil_iff] at h
  have hn := h c (List.mem_of_find?_eq_some hf)
  obtain ⟨ts, hp, hs⟩ := sorted_ex (thAll P R c)
  have hc : ClC P R c (sortP (prS (splitS c.e ts))) := ⟨ts, hp, hs, rfl⟩
  rw [← clF_eq g hf hc] at hn
  have hn2 : prS (splitS c.e ts) = [] := by
    have hl : (sortP (prS (splitS c.e ts))).length = (prS (splitS c.e ts)).length := (List.mergeSort_perm _ _).length_eq
    rw [hn] at hl
    exact List.eq_nil_of_length_eq_zero hl.symm
  unfold prS at hn2
  rw [List.flatMap_eq_nil_iff] at hn2
  unfold fitCl
  rw [List.any_eq_false]
  intro y hy
  obtain ⟨h1, h2⟩ := starts_rng g hf y hy
  obtain ⟨k, s, e1, e2, e3, e4, e5, e6⟩ := spells_pick g hf hp hs h1 h2
  have hm : s ∈ splitS c.e ts := List.mem_of_getElem? e1
  have h3 := pairsOf_nil.1 (hn2 s hm)
  rw [e5, clashesB_perm e6, e4] at h3
  rw [h3]
  decide
theorem sharp_law {C P R : List Five} {id lo hi : Int} (h0 : chk C P R = 0) (h : clsL C P R (clF P R) = []) (hs : spanE C P R id lo hi = 0) :
    ∃ f g : Int → Int, (0 ≤ lo ∧ lo ≤ hi ∧ hi ≤ 4000 ∧ hi - lo + 1 ≤ 400) ∧ wornR C P R id lo hi false = (id, lo, lens f lo (hi - lo + 1).toNat) ∧ wornR C P R id lo hi true = (id, lo, lens g lo (hi - lo + 1).toNat) ∧
      fitsR C P R id lo (lens f lo (hi - lo + 1).toNat) = (-1, true) ∧ fitsR C P R id lo (lens g lo (hi - lo + 1).toNat) = (-1, true) ∧ ∀ i : Nat, i < (hi - lo + 1).toNat → longR C P R id (lo + i) = ((f (lo + i), g (lo + i)), 0) := by
  have hy : yearsE C P R id lo hi = 0 := by
    by_cases hy : yearsE C P R id lo hi = 0
    · exact hy
    · rw [(span_err (gr := false) hy).1] at hs
      exact absurd hs hy
  obtain ⟨c, g, hf, y1, y2, y3, y4⟩ := years_zero hy
  have hcb := (okC_parts (good_okT g hf).2.1).2.1
  have hcl := no_pairs h0 hf h
  have hno : ∀ y, lo ≤ y → y ≤ hi → clY P R c y = false := fun y a b => no_clash hcl (by omega) (by omega)
  have hn : (lens (loY P R c) lo (hi - lo + 1).toNat) ≠ [] ∧ (lens (hiY P R c) lo (hi - lo + 1).toNat) ≠ [] := by
    constructor <;> (intro e; have := congrArg List.length e; rw [lens_len] at this; simp at this; omega)
  refine ⟨loY P R c, hiY P R c, ⟨by omega, y2, y3, y4⟩, (span_ok hy hf hno).2, (span_ok hy hf hno).2, ?_, ?_, ?_⟩
  · rw [fits_good hf h0 hn.1 y1 (by omega) (by rw [lens_len]; omega), if_neg (by rw [hcl]; decide)]
    exact sharp_fit g hf hcl y1 (by omega) (.inl rfl)
  · rw [fits_good hf h0 hn.2 y1 (by omega) (by rw [lens_len]; omega), if_neg (by rw [hcl]; decide)]
    exact sharp_fit g hf hcl y1 (by omega) (.inr rfl)
  · intro i hi
    have hat : atE C P R id (lo + i) = 0 := by
      unfold atE
      rw [if_pos h0, hf]
      simp only
      rw [if_pos (inB_iff.2 ⟨by omega, by omega⟩)]
    have e : agE C P R id (lo + i) = 0 := by
      rw [agE_at hat hf]
      have := hno (lo + i) (by omega) (by omega)
      unfold clY at this
      rw [this]
      rfl
    unfold longR
    rw [if_pos e, hf]
    rfl
open Go.RowKit
theorem neq_sp3 : ∀ (a b : Int) (w : World), (binOp .neq 30 (.agg #[.int .i64 a, .int .i64 b]) (.agg #[.int .i64 a, .int .i64 b])).run Try.prog w = .ok (.bool false) w := by
  intro a b w
  have h1 : (a == a) = true := by simp
  have h2 : (b == b) = true := by simp
  go_simp
set_option maxRecDepth 100000 in
set_option maxHeartbeats 8000000 in
theorem lawSharp (W : World) (C P R : List Five) (v : Value) (id lo hi : Int) (w : World) (hX : Ext W w) (hv : Wk w v C P R) :
    Calls Try.prog 12 #[v, .int .i64 id, .agg #[.int .i64 lo, .int .i64 hi]] w fun e w' => e = .returned (.bool true) ∧ Ext W w' := by
  have HF := Lib.hid (fun w' (q : Ext w w') => few_any w' C P R v w' (Ext.refl _) (hv.ext q))
  have HCL := Lib.hid (fun w' (q : Ext w w') => clash_any w' C P R v w' (Ext.refl _) (hv.ext q))
  have HA := Lib.hid (fun w' (q : Ext w w') => Shortest_any w' C P R v id lo hi w' (Ext.refl _) (hv.ext q))
  have HC := Lib.hid (fun w' (q : Ext w w') => Longest_any w' C P R v id lo hi w' (Ext.refl _) (hv.ext q))
  have HFI := Lib.hid (fun L vL w' (q : Ext w w') (hL : Ints w' vL L) => Fits_any w' C P R v id lo L vL w' (Ext.refl _) (hv.ext q) hL)
  have HLO := Lib.hid (fun y w' (q : Ext w w') => Long_any w' C P R v id y w' (Ext.refl _) (hv.ext q))
  have HLAW := Lib.hid (fun a b c => sharp_law (C := C) (P := P) (R := R) (id := id) (lo := lo) (hi := hi) a b c)
  obtain ⟨vC, vP, vR, rfl, -, hP, hR, hn0⟩ := hv
  obtain ⟨aP, capP, rfl, hlP, hmP, -⟩ := hP.parts
  obtain ⟨aR, capR, rfl, hlR, hmR, -⟩ := hR.parts
  unfold maxLen at hmP hmR
  have hPR : (P.length : Int) + (R.length : Int) ≤ 9223372036854775807 := by omega
  have e64 : IntKind.i64.wrap ((P.length : Int) + (R.length : Int)) = (P.length : Int) + (R.length : Int) := wrap_in (by omega)
  obtain ⟨x, hx⟩ : ∃ x, wornR C P R id lo hi false = x := ⟨_, rfl⟩
  obtain ⟨y, hy⟩ : ∃ y, wornR C P R id lo hi true = y := ⟨_, rfl⟩
  obtain ⟨n, hn⟩ : ∃ n, spanE C P R id lo hi = n := ⟨_, rfl⟩
  obtain ⟨m, hm⟩ : ∃ m, chk C P R = m := ⟨_, rfl⟩
  obtain ⟨x1, x2, x3⟩ := x
  obtain ⟨y1, y2, y3⟩ := y
  rw [hx, hn] at HA
  rw [hy, hn] at HC
  rw [hm] at HCL
  rw [hx, hy, hn, hm] at HLAW
  generalize fewB C P R = f at HF
  generalize clsL C P R (clF P R) = q at HCL HLAW
  clear hP hR hlP hlR hmP hmR hx hy hn hm hn0
  have hX0 : Ext w ((w.alloc (.cells #[vC, .slice aP P.length capP, .slice aR R.length capR] 26)).alloc (.cells #[.int .i64 lo, .int .i64 hi] 30)) := ((Ext.refl w).alloc _).alloc _
  have hb0 := ((Ext.refl _).alloc (.cells #[.int .i64 lo, .int .i64 hi] 30)).block (heap_alloc_new w (.cells #[vC, .slice aP P.length capP, .slice aR R.length capR] 26))
  have hb1 := heap_alloc_new (w.alloc (.cells #[vC, .slice aP P.length capP, .slice aR R.length capR] 26)) (.cells #[.int .i64 lo, .int .i64 hi] 30)
  rw [World.size_alloc] at hb1
  obtain ⟨B, hBB⟩ : ∃ B, w.heap.size = B := ⟨_, rfl⟩
  rw [hBB] at hb0 hb1
  go_enter Try.func12, Try.ntmps12
  go_upto_region 1 with fail
  obtain ⟨wa, hwa⟩ : ∃ wa, (w.alloc (.cells #[vC, .slice aP P.length capP, .slice aR R.length capR] 26)).alloc (.cells #[.int .i64 lo, .int .i64 hi] 30) = wa := ⟨_, rfl⟩
  rw [hwa] at hX0 hb0 hb1 ⊢
  clear hwa
  go_cut [52] (fun v wx => ∃ b, v = .bool b ∧ Ext w wx ∧ wx.heap[B]? = some (.cells #[vC, .slice aP P.length capP, .slice aR R.length capR] 26) ∧ wx.heap[B + 1]? = some (.cells #[.int .i64 lo, .int .i64 hi] 30))
  case first => as_aux_lemma =>
    obtain ⟨k0, k1, k2⟩ := box3' hb0
    have hcs : f = false ∨ (f = true ∧ 30 < (P.length : Int) + (R.length : Int)) ∨ (f = true ∧ ¬ 30 < (P.length : Int) + (R.length : Int) ∧ lo < 0) ∨ (f = true ∧ ¬ 30 < (P.length : Int) + (R.length : Int) ∧ ¬ lo < 0 ∧ 4000 < hi) ∨ (f = true ∧ ¬ 30 < (P.length : Int) + (R.length : Int) ∧ ¬ lo < 0 ∧ ¬ 4000 < hi) := by
      cases f <;> simp <;> omega
    rcases hcs with rfl | ⟨rfl, g1⟩ | ⟨rfl, g1, g2⟩ | ⟨rfl, g1, g2, g3⟩ | ⟨rfl, g1, g2, g3⟩
    all_goals
      go_wp2_with (go_at_call 14; with_reducible refine (HF.out _ hX0).mono ?_; rintro e w2 ⟨rfl, hX2⟩; have hE2 := hX0.trans hX2; have hb2 := hX2.block hb0; have hb3 := hX2.block hb1; obtain ⟨k0, k1, k2⟩ := box3' hb2; obtain ⟨s0, s1⟩ := box2 hb3)
      go_meet
      case rel => exact ⟨_, rfl, hE2, hb2, hb3⟩
  case rest =>
  obtain ⟨b, rfl, hE0, hb0, hb1⟩ := hcut
  obtain ⟨w0', rfl⟩ : ∃ w', w' = wc := ⟨_, rfl⟩
  clear hX0 HF
  cases b
  · go_upto_region 3 with fail
    go_cut [9, 10] (fun v u wx => ∃ t : Bool, v = .bool t ∧ u = .int .i64 m ∧ (t = false → q = []) ∧ Ext w wx ∧ wx.heap[B]? = some (.cells #[vC, .slice aP P.length capP, .slice aR R.length capR] 26) ∧ wx.heap[B + 1]? = some (.cells #[.int .i64 lo, .int .i64 hi] 30))
    case first => as_aux_lemma =>
      obtain ⟨k0, k1, k2⟩ := box3' hb0
      cases q
      · go_wp2_with (go_at_call 29; with_reducible refine (HCL.out _ hE0).mono ?_; rintro e w2 ⟨rfl, hX2⟩; unfold clashV; have hE2 := hE0.trans hX2; have hb2 := hX2.block hb0; have hb3 := hX2.block hb1)
        go_meet
        case rel => exact ⟨_, rfl, rfl, by simp, hE2, hb2, hb3⟩
      · go_wp2_with (go_at_call 29; with_reducible refine (HCL.out _ hE0).mono ?_; rintro e w2 ⟨rfl, hX2⟩; unfold clashV; have hE2 := hE0.trans hX2; have hb2 := hX2.block hb0; have hb3 := hX2.block hb1)
        go_meet
        case rel => exact ⟨true, rfl, rfl, by simp, hE2, hb2, hb3⟩
    case rest =>
    clear hE0 hb0 hb1
    obtain ⟨t, rfl, rfl, hq, hE0, hb0, hb1⟩ := hcut
    obtain ⟨w0, rfl⟩ : ∃ w', w' = wc := ⟨_, rfl⟩
    clear HCL
    obtain ⟨k0, k1, k2⟩ := box3' hb0
    obtain ⟨s0, s1⟩ := box2 hb1
    go_wp2_with fail
    with_reducible refine (HA.out _ hE0).mono ?_
    rintro e w1' ⟨⟨u1, rfl, hI1⟩, hX1⟩
    obtain ⟨ua1, uc1, rfl, -⟩ := Ints.parts (hI1.sl enc1_len)
    have hE1 := (hE0.trans hX1).alloc (.cells #[.int .i64 x1, .int .i64 x2, .slice ua1 x3.length uc1] 46)
    replace hb0 := ((Ext.refl w1').alloc (.cells #[.int .i64 x1, .int .i64 x2, .slice ua1 x3.length uc1] 46)).block (hX1.block hb0)
    replace hb1 := ((Ext.refl w1').alloc (.cells #[.int .i64 x1, .int .i64 x2, .slice ua1 x3.length uc1] 46)).block (hX1.block hb1)
    replace hI1 := hI1.ext ((Ext.refl _).alloc (.cells #[.int .i64 x1, .int .i64 x2, .slice ua1 x3.length uc1] 46))
    have hc1 := heap_alloc_new w1' (.cells #[.int .i64 x1, .int .i64 x2, .slice ua1 x3.length uc1] 46)
    obtain ⟨k0, k1, k2⟩ := box3' hb0
    obtain ⟨s0, s1⟩ := box2 hb1
    obtain ⟨A1, hA1⟩ : ∃ A, w1'.heap.size = A := ⟨_, rfl⟩
    clear hX1 k0 k1 k2 s0 s1
    go_upto_region 5 with fail
    rw [hA1] at hc1
    obtain ⟨w1, hw1⟩ : ∃ w0, w1'.alloc (.cells #[.int .i64 x1, .int .i64 x2, .slice ua1 x3.length uc1] 46) = w0 := ⟨_, rfl⟩
    rw [hw1] at hE1 hc1 hI1 hb0 hb1  ⊢
    clear hw1 hA1
    obtain ⟨k0, k1, k2⟩ := box3' hb0
    obtain ⟨s0, s1⟩ := box2 hb1
    go_wp2_with fail
    with_reducible refine (HC.out _ hE1).mono ?_
    rintro e w2' ⟨⟨u2, rfl, hI2⟩, hX2⟩
    obtain ⟨ua2, uc2, rfl, -⟩ := Ints.parts (hI2.sl enc1_len)
    have hE2 := (hE1.trans hX2).alloc (.cells #[.int .i64 y1, .int .i64 y2, .slice ua2 y3.length uc2] 46)
    replace hb0 := ((Ext.refl w2').alloc (.cells #[.int .i64 y1, .int .i64 y2, .slice ua2 y3.length uc2] 46)).block (hX2.block hb0)
    replace hb1 := ((Ext.refl w2').alloc (.cells #[.int .i64 y1, .int .i64 y2, .slice ua2 y3.length uc2] 46)).block (hX2.block hb1)
    replace hc1 := ((Ext.refl w2').alloc (.cells #[.int .i64 y1, .int .i64 y2, .slice ua2 y3.length uc2] 46)).block (hX2.block hc1)
    replace hI1 := ((hI1.ext hX2).ext ((Ext.refl _).alloc (.cells #[.int .i64 y1, .int .i64 y2, .slice ua2 y3.length uc2] 46)))
    replace hI2 := hI2.ext ((Ext.refl _).alloc (.cells #[.int .i64 y1, .int .i64 y2, .slice ua2 y3.length uc2] 46))
    have hc2 := heap_alloc_new w2' (.cells #[.int .i64 y1, .int .i64 y2, .slice ua2 y3.length uc2] 46)
    obtain ⟨k0, k1, k2⟩ := box3' hb0
    obtain ⟨s0, s1⟩ := box2 hb1
    obtain ⟨A2, hA2⟩ : ∃ A, w2'.heap.size = A := ⟨_, rfl⟩
    clear hX2 k0 k1 k2 s0 s1
    go_upto_region 6 with fail
    rw [hA2] at hc2
    obtain ⟨w2, hw2⟩ : ∃ w0, w2'.alloc (.cells #[.int .i64 y1, .int .i64 y2, .slice ua2 y3.length uc2] 46) = w0 := ⟨_, rfl⟩
    rw [hw2] at hE2 hc2 hI2 hb0 hb1 hc1 hI1 ⊢
    clear hw2 hA2
    clear HA HC
    have hbad : (¬ m = 0) ∨ (m = 0 ∧ t = true) ∨ (m = 0 ∧ t = false ∧ ¬ n = 0) ∨ (m = 0 ∧ t = false ∧ n = 0) := by
      cases t <;> simp <;> omega
    rcases hbad with h1 | ⟨rfl, rfl⟩ | ⟨rfl, rfl, h3⟩ | ⟨rfl, rfl, rfl⟩
    · have g1 : (m == 0) = false := by simpa using h1
      have g2 : (m != 0) = true := by simp [bne, g1]
      go_wp2_with fail
      with_reducible refine (sanity_any _ _ (Ext.refl _)).mono ?_
      rintro e w3 ⟨rfl, hX3⟩
      go_wp2_with fail
      go_ret
      exact ⟨rfl, hX.trans (hE2.trans hX3)⟩
    · go_wp2_with fail
      with_reducible refine (sanity_any _ _ (Ext.refl _)).mono ?_
      rintro e w3 ⟨rfl, hX3⟩
      go_wp2_with fail
      go_ret
      exact ⟨rfl, hX.trans (hE2.trans hX3)⟩
    · have g1 : (n == 0) = false := by simpa using h3
      have g2 : (n != 0) = true := by simp [bne, g1]
      go_wp2_with fail
      with_reducible refine (sanity_any _ _ (Ext.refl _)).mono ?_
      rintro e w3 ⟨rfl, hX3⟩
      go_wp2_with fail
      go_ret
      exact ⟨rfl, hX.trans (hE2.trans hX3)⟩
    · obtain ⟨ff, gg, ⟨z1, z2, z3, z4⟩, ex, ey, fx, fy, HLG⟩ := HLAW.out rfl (hq rfl) rfl
      simp only [Prod.mk.injEq] at ex ey
      obtain ⟨rfl, rfl, rfl⟩ : id = x1 ∧ lo = x2 ∧ lens ff lo (hi - lo + 1).toNat = x3 := ⟨ex.1.symm, ex.2.1.symm, ex.2.2.symm⟩
      obtain ⟨rfl, rfl, rfl⟩ : id = y1 ∧ lo = y2 ∧ lens gg lo (hi - lo + 1).toNat = y3 := ⟨ey.1.symm, ey.2.1.symm, ey.2.2.symm⟩
      have HLG := Lib.hid HLG
      have HI1 := Lib.hid (hI1.sl enc1_len)
      have HI2 := Lib.hid (hI2.sl enc1_len)
      have HF1 := Lib.hid (fun w' (q : Ext w2 w') => HFI.out (lens ff lo (hi - lo + 1).toNat) _ w' (hE2.trans q) (HI1.out.ext q))
      have HF2 := Lib.hid (fun w' (q : Ext w2 w') => HFI.out (lens gg lo (hi - lo + 1).toNat) _ w' (hE2.trans q) (HI2.out.ext q))
      rw [fx] at HF1
      rw [fy] at HF2
      obtain ⟨_, _, e1, -, -, hP1⟩ := Ints.parts HI1.out
      cases e1
      obtain ⟨_, _, e2, -, -, hP2⟩ := Ints.parts HI2.out
      cases e2
      have HP1 := Lib.hid hP1
      have HP2 := Lib.hid hP2
      have hl1 := lens_len ff lo (hi - lo + 1).toNat
      have hl2 := lens_len gg lo (hi - lo + 1).toNat
      have HA1 : Hid (∀ k, (h : k < (lens ff lo (hi - lo + 1).toNat).length) → (lens ff lo (hi - lo + 1).toNat)[k] = ff (lo + k)) := fun k h => by simp [lens]
      have HA2 : Hid (∀ k, (h : k < (lens gg lo (hi - lo + 1).toNat).length) → (lens gg lo (hi - lo + 1).toNat)[k] = gg (lo + k)) := fun k h => by simp [lens]
      clear hI1 hI2 HFI fx fy hP1 hP2 hq HI1 HI2
      generalize lens ff lo (hi - lo + 1).toNat = L1 at HF1 HP1 HA1 hl1 hc1 ⊢
      generalize lens gg lo (hi - lo + 1).toNat = L2 at HF2 HP2 HA2 hl2 hc2 ⊢
      obtain ⟨mm, hmm⟩ : ∃ mm, (hi - lo + 1).toNat = mm := ⟨_, rfl⟩
      rw [hmm] at hl1 hl2 HLG
      have HM1 := Lib.hid hl1
      have HM2 := Lib.hid hl2
      have eL : (L2.length : Int) = (L1.length : Int) := by omega
      have eN : hi - lo + 1 = (L1.length : Int) := by omega
      have HN := Lib.hid eN
      have hLb : (L1.length : Int) ≤ 400 := by omega
      clear hmm hl1 hl2
      have qN := neq_sp3
      obtain ⟨k0, k1, k2⟩ := box3' hb0
      obtain ⟨s0, s1⟩ := box2 hb1
      obtain ⟨a0, a1, a2⟩ := box3' hc1
      obtain ⟨b0, b1, b2⟩ := box3' hc2
      go_wp2_with (first
        | (go_at_call 26; with_reducible refine (HF1.out _ (Ext.refl _)).mono ?_; rintro e w3 ⟨rfl, hX3⟩; obtain ⟨k0, k1, k2⟩ := box3' (hX3.block hb0); obtain ⟨b0, b1, b2⟩ := box3' (hX3.block hc2))
        | (go_at_call 26; with_reducible refine (HF2.out _ hX3).mono ?_; rintro e w4 ⟨rfl, hX4⟩; have hX5 := hX3.trans hX4; obtain ⟨k0, k1, k2⟩ := box3' (hX5.block hb0); obtain ⟨s0, s1⟩ := box2 (hX5.block hb1); obtain ⟨a0, a1, a2⟩ := box3' (hX5.block hc1); obtain ⟨b0, b1, b2⟩ := box3' (hX5.block hc2)))
      have hE5 := hE2.trans hX5
      replace hb0 := hX5.block hb0
      replace hb1 := hX5.block hb1
      replace hc1 := hX5.block hc1
      replace hc2 := hX5.block hc2
      have HP1 := Lib.hid (fun w' (q : Ext w4 w') k (h : k < L1.length) => int_at HP1.out (hX5.trans q) h)
      have HP2 := Lib.hid (fun w' (q : Ext w4 w') k (h : k < L2.length) => int_at HP2.out (hX5.trans q) h)
      clear HF1 HF2 hX3 hX4 hX5 eN k0 k1 k2 s0 s1 a0 a1 a2 b0 b1 b2 hE2
      go_loopw [136] (fun i wr => ∃ k : Nat, k ≤ L1.length ∧ i = .int .i64 k ∧ Ext w4 wr) (fun i _ => L1.length - (intOf i).toNat)
      case atStart => exact ⟨0, Nat.zero_le _, rfl, Ext.refl _⟩
      case round =>
        obtain ⟨k, hk, rfl, hE⟩ := hrel
        replace hb0 := hE.block hb0
        replace hb1 := hE.block hb1
        replace hc1 := hE.block hc1
        replace hc2 := hE.block hc2
        by_cases hlt : k < L1.length
        · have hlt2 : k < L2.length := by omega
          have HLK := HLO
          have hlg := HLG.out k (by have := HM1.out; omega)
          have HY := Lib.hid (HLO.out (lo + (k : Int)))
          rw [hlg] at HY
          obtain ⟨_, _, p, hp, e1, p0⟩ := HP1.out wr hE k hlt
          obtain ⟨_, _, r, hr, e2, r0⟩ := HP2.out wr hE k hlt2
          cases e1
          cases e2
          have e3 : ff (lo + (k : Int)) = p := by rw [hp, HA1.out k hlt]
          have e4 : gg (lo + (k : Int)) = r := by rw [hr, HA2.out k hlt2]
          rw [e3, e4] at HY
          have hk0 : 0 ≤ (k : Int) ∧ (k : Int) ≤ 400 := by omega
          have hk1 : (k : Int) < (L1.length : Int) := by omega
          have hlo2 : 0 ≤ lo ∧ lo ≤ 4000 := by omega
          clear hlg hp hr e3 e4 HLK
          obtain ⟨k0, k1, k2⟩ := box3' hb0
          obtain ⟨s0, s1⟩ := box2 hb1
          obtain ⟨yy, hyy⟩ : ∃ y, lo + (k : Int) = y := ⟨_, rfl⟩
          rw [hyy] at HY
          go_upto_region 15 with fail
          go_wp2_with fail
          with_reducible refine (HY.out _ (hE5.trans hE)).mono ?_
          rintro e w6 ⟨rfl, hX6⟩
          have hbT := heap_alloc_new w6 (.cells #[.int .i64 p, .int .i64 r] 30)
          have hE7 := hX6.alloc (.cells #[.int .i64 p, .int .i64 r] 30)
          obtain ⟨T, hT⟩ : ∃ T, w6.heap.size = T := ⟨_, rfl⟩
          go_upto_region 16 with fail
          rw [hT] at hbT
          obtain ⟨w7, hw7⟩ : ∃ w7, w6.alloc (.cells #[.int .i64 p, .int .i64 r] 30) = w7 := ⟨_, rfl⟩
          rw [hw7] at hbT hE7 ⊢
          clear hw7 k0 k1 k2 s0 s1 hX6
          obtain ⟨t0, t1⟩ := box2 hbT
          obtain ⟨a0, a1, a2⟩ := box3' (hE7.block hc1)
          obtain ⟨b0, b1, b2⟩ := box3' (hE7.block hc2)
          have p0 := hE7.cell p0
          have r0 := hE7.cell r0
          have zt := lt_of_cell t0
          have za := lt_of_cell a2
          have zb := lt_of_cell b2
          have zp := lt_of_cell p0
          have zr := lt_of_cell r0
          go_quiet (fail)
          go_wp2_with fail
          go_roundw
          case rel => exact ⟨k + 1, by omega, by go_num, (hE.trans hE7).drewN _⟩
          case measure => simp [intOf]; omega
        · obtain rfl : k = L1.length := by omega
          go_wp2_with fail
          with_reducible refine (sanity_any _ _ (Ext.refl _)).mono ?_
          rintro e w6 ⟨rfl, hX6⟩
          go_wp2_with fail
          go_ret
          exact ⟨rfl, hX.trans ((hE5.trans hE).trans hX6)⟩
  · go_wp2_with fail
    with_reducible refine (sanity_any _ _ (Ext.refl _)).mono ?_
    rintro e w2 ⟨rfl, hX2⟩
    go_wp2_with fail
    go_ret
    exact ⟨rfl, hX.trans (hE0.trans hX2)⟩
end Go.Proofs.Ytaggjclaehigjaa
