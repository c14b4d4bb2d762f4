/- Plain words of Shortest and Longest. Contracts of the specification's functions: years. Contracts of the specification's functions: worn, Shortest, Longest. Plain law of Shortest and Longest: the spells in their order have all years, each once. -/
import Derived.Test.YtaggjclaehigjaaR11
import Derived.Test.YtaggjclaehigjaaPF
namespace Go.Proofs.Ytaggjclaehigjaa
/-- the first error of a chain and years -/
def yearsE (C P R : List Five) (id lo hi : Int) : Int :=
  if chk C P R = 0 then (match findC C id with
    | none => 5
    | some c => if spB lo hi c.b 4000 then (if 400 < hi - lo + 1 then 2 else 0) else 1) else chk C P R
/-- an end of Long in a year -/
def endY (P R : List Five) (c : Five) (gr : Bool) : Int → Int := if gr then hiY P R c else loY P R c
def clY (P R : List Five) (c : Five) (y : Int) : Bool := clashesB c.e (innZ P R c (spellZ R c y))
/-- the error of Shortest and Longest -/
def spanE (C P R : List Five) (id lo hi : Int) : Int :=
  if yearsE C P R id lo hi = 0 then (match findC C id with
    | none => 0
    | some c => if (List.range (hi - lo + 1).toNat).any (fun i => clY P R c (lo + (i : Nat))) then 9 else 0) else yearsE C P R id lo hi
/-- what Shortest and Longest return -/
def wornR (C P R : List Five) (id lo hi : Int) (gr : Bool) : Int × Int × List Int :=
  if spanE C P R id lo hi = 0 then (match findC C id with
    | none => (0, 0, [])
    | some c => (id, lo, lens (endY P R c gr) lo (hi - lo + 1).toNat)) else (0, 0, [])
theorem years_zero {C P R : List Five} {id lo hi : Int} (h : yearsE C P R id lo hi = 0) : ∃ c, Good C P R ∧ findC C id = some c ∧ c.b ≤ lo ∧ lo ≤ hi ∧ hi ≤ 4000 ∧ hi - lo + 1 ≤ 400 := by
  unfold yearsE at h
  by_cases h0 : chk C P R = 0
  · rw [if_pos h0] at h
    cases hf : findC C id with
    | none => rw [hf] at h; simp at h
    | some c =>
      rw [hf] at h
      simp only at h
      by_cases h1 : spB lo hi c.b 4000 = true
      · rw [if_pos h1] at h
        by_cases h2 : 400 < hi - lo + 1
        · rw [if_pos h2] at h; simp at h
        · have := spB_iff.1 h1
          exact ⟨c, chk_zero.1 h0, rfl, this.1, this.2.1, this.2.2, by omega⟩
      · rw [if_neg h1] at h; simp at h
  · rw [if_neg h0] at h
    exact absurd h h0
theorem span_err {C P R : List Five} {id lo hi : Int} {gr : Bool} (h : yearsE C P R id lo hi ≠ 0) : spanE C P R id lo hi = yearsE C P R id lo hi ∧ wornR C P R id lo hi gr = (0, 0, []) := by
  have e : spanE C P R id lo hi = yearsE C P R id lo hi := by unfold spanE; rw [if_neg h]
  exact ⟨e, by unfold wornR; rw [if_neg (by rw [e]; exact h)]⟩
theorem span_clash {C P R : List Five} {id lo hi : Int} {gr : Bool} {c : Five} (h : yearsE C P R id lo hi = 0) (hf : findC C id = some c) {y : Int} (h1 : lo ≤ y) (h2 : y ≤ hi) (hc : clY P R c y = true) : spanE C P R id lo hi = 9 ∧ wornR C P R id lo hi gr = (0, 0, []) := by
  have e : spanE C P R id lo hi = 9 := by
    unfold spanE
    rw [if_pos h, hf]
    simp only
    rw [if_pos]
    rw [List.any_eq_true]
    refine ⟨(y - lo).toNat, List.mem_range.2 (by omega), ?_⟩
    rw [show lo + (((y - lo).toNat : Nat) : Int) = y by omega]
    exact hc
  exact ⟨e, by unfold wornR; rw [if_neg (by rw [e]; decide)]⟩
theorem span_ok {C P R : List Five} {id lo hi : Int} {gr : Bool} {c : Five} (h : yearsE C P R id lo hi = 0) (hf : findC C id = some c) (hc : ∀ y, lo ≤ y → y ≤ hi → clY P R c y = false) : spanE C P R id lo hi = 0 ∧ wornR C P R id lo hi gr = (id, lo, lens (endY P R c gr) lo (hi - lo + 1).toNat) := by
  have e : spanE C P R id lo hi = 0 := by
    unfold spanE
    rw [if_pos h, hf]
    simp only
    rw [if_neg]
    rw [Bool.not_eq_true, List.any_eq_false]
    intro i hi
    have := List.mem_range.1 hi
    rw [hc (lo + i) (by omega) (by omega)]
    decide
  exact ⟨e, by unfold wornR; rw [if_pos e, hf]⟩
theorem lens_succ (f : Int → Int) (Y : Int) (n : Nat) : lens f Y (n + 1) = lens f Y n ++ [f (Y + n)] := by
  unfold lens
  rw [List.range_succ, List.map_append]
  rfl
theorem lens_zero (f : Int → Int) (Y : Int) : lens f Y 0 = [] := rfl
open Go.RowKit
set_option maxRecDepth 100000 in
set_option maxHeartbeats 4000000 in
theorem ryears (W : World) (C P R : List Five) (v : Value) (id lo hi : Int) (w : World) (hX : Ext W w) (hv : Wk w v C P R) :
    Calls Try.prog 109 #[v, .int .i64 id, .agg #[.int .i64 lo, .int .i64 hi]] w fun e w' => e = .returned (.int .i64 (yearsE C P R id lo hi)) ∧ Ext W w' := by
  have HCK := Lib.hid (fun w' (q : Ext w w') => rCheck w' C P R v w' (Ext.refl _) (hv.ext q))
  have HCA := Lib.hid (fun w' (q : Ext w w') => rchainAt w' C P R v id w' (Ext.refl _) (hv.ext q))
  obtain ⟨vC, vP, vR, rfl, hC, -⟩ := hv
  obtain ⟨a, cap, rfl, hl, hm, hc⟩ := hC.parts
  have HC := Lib.hid hc
  clear hC hc hm
  have hX0 : Ext w ((w.alloc (.cells #[.slice a C.length cap, vP, vR] 26)).alloc (.cells #[.int .i64 lo, .int .i64 hi] 30)) := ((Ext.refl w).alloc _).alloc _
  have hb0 := ((Ext.refl _).alloc (.cells #[.int .i64 lo, .int .i64 hi] 30)).block (heap_alloc_new w (.cells #[.slice a C.length cap, vP, vR] 26))
  have hb1 := heap_alloc_new (w.alloc (.cells #[.slice a C.length cap, vP, vR] 26)) (.cells #[.int .i64 lo, .int .i64 hi] 30)
  rw [World.size_alloc] at hb1
  obtain ⟨B, hBB⟩ : ∃ B, w.heap.size = B := ⟨_, rfl⟩
  rw [hBB] at hb0 hb1
  go_enter Try.func109, Try.ntmps109
  go_wp2_with fail
  with_reducible refine (HCK.out _ hX0).mono ?_
  rintro e w1 ⟨rfl, hX1⟩
  have hE1 := hX0.trans hX1
  replace hb0 := hX1.block hb0
  replace hb1 := hX1.block hb1
  obtain ⟨k0, k1, k2⟩ := box3' hb0
  clear HCK hX0 hX1
  by_cases h0 : chk C P R = 0
  · rw [h0]
    go_wp2_with fail
    with_reducible refine (HCA.out _ hE1).mono ?_
    rintro e w2 ⟨rfl, hX2⟩
    have hE2 := hE1.trans hX2
    replace hb0 := hX2.block hb0
    replace hb1 := hX2.block hb1
    obtain ⟨k0, -, -⟩ := box3' hb0
    obtain ⟨s0, s1⟩ := box2 hb1
    clear HCA hE1 hX2 hb0 hb1
    rcases idx_find (fun c => c.a == id) C with ⟨hi', hf2⟩ | ⟨k, hk, hi', hf2⟩
    · rw [hi']
      have HR : Hid (yearsE C P R id lo hi = 5) := by show _ = _; unfold yearsE; rw [if_pos h0, show findC C id = none from hf2]
      clear hf2 hi' h0
      go_wp2_with fail
      go_ret
      exact ⟨by rw [HR.out]; rfl, hX.trans hE2⟩
    · rw [hi']
      obtain ⟨b, off, c, hx, rfl, q0, q1, q2, q3, q4⟩ := five_at HC.out hE2 hk
      rw [← hx] at hf2
      have hf : findC C id = some c := hf2
      have hcb := (okC_parts (good_okT (chk_zero.1 h0) hf).2.1).2.1
      have HR : Hid (yearsE C P R id lo hi = if spB lo hi c.b 4000 then (if 400 < hi - lo + 1 then 2 else 0) else 1) := by show _ = _; unfold yearsE; rw [if_pos h0, hf]
      clear hx hf hf2 hi' h0 HC
      have hk0 : (0 : Int) ≤ (k : Int) := by omega
      have hk1 : (k : Int) < (C.length : Int) := by omega
      have k0r := cell_regrown k0
      have s0r := cell_regrown s0
      have s1r := cell_regrown s1
      have q1r := cell_regrown q1
      have rw1 := regrow (w := w2) (fun w' _ => rwithin w' lo hi c.b 4000 w' (Ext.refl _))
      clear k0 q0 q1 q2 q3 q4
      go_wp2_with fail
      cases hs : spB lo hi c.b 4000
      all_goals
        rw [hs] at HR rw1
        refine wp_region_quiet_below (by kernel_rfl) (by kernel_rfl) ?_
        repeat (with_reducible refine wpQuiet_step (fun K hK => ?_); go_simp; first | (with_reducible refine hK _ ?_; clear hK K) | (rw [if_neg (by simp [undef])]; with_reducible refine hK _ ?_; clear hK K) | (apply Exists.intro; with_reducible refine ⟨fun _ => ?_, hK _ ?_⟩; (first | with_reducible exact rw1 _ _); clear hK K))
        refine wpQuiet_nil ?_
        intro _ hw'
        obtain ⟨⟨dq, osq⟩, hw''⟩ := hw'
        subst hw''
        have hXq : Ext w2 (Go.Sort.grow (redrawn w2 dq) osq) := below_regrown w2 dq osq
      · go_wp2_with fail
        go_ret
        exact ⟨by rw [HR.out]; rfl, hX.trans (hE2.trans hXq)⟩
      · have hE3 := hE2.trans hXq
        have t0 := hXq.cell s0
        have t1 := hXq.cell s1
        have hsp := spB_iff.1 hs
        obtain ⟨p1, p2, p3⟩ := hsp
        clear k0r s0r s1r q1r rw1 hXq s0 s1 hs
        change Exit.then _ _ Exit.normal _ (Go.Sort.grow (redrawn w2 dq) osq)
        generalize Go.Sort.grow (redrawn w2 dq) osq = w4 at hE3 t0 t1 ⊢
        by_cases hl4 : 400 < hi - lo + 1
        · rw [if_pos rfl, if_pos hl4] at HR
          go_wp2_with fail
          go_ret
          exact ⟨by rw [HR.out]; rfl, hX.trans hE3⟩
        · rw [if_pos rfl, if_neg hl4] at HR
          go_wp2_with fail
          go_ret
          exact ⟨by rw [HR.out]; rfl, hX.trans hE3⟩
  · have HR : Hid (yearsE C P R id lo hi = chk C P R) := by show _ = _; unfold yearsE; rw [if_neg h0]
    have hnb : (chk C P R == 0) = false := by simpa using h0
    generalize chk C P R = n at HR hnb ⊢
    have hnb2 : (n != 0) = true := by simp [bne, hnb]
    clear h0
    go_wp2_with fail
    go_ret
    exact ⟨by rw [HR.out]; rfl, hX.trans hE1⟩
end Go.Proofs.Ytaggjclaehigjaa
namespace Go.Proofs.Ytaggjclaehigjaa
open Go.RowKit
theorem known_end {C P R : List Five} {id y : Int} {c : Five} (g : Good C P R) (hf : findC C id = some c) (h1 : c.b ≤ y) (h2 : y ≤ 4000) :
    (clY P R c y = true → knownC C P R id y = [.int .i64 0, .int .i64 0, .int .i64 0, .int .i64 0, .int .i64 9]) ∧
      (clY P R c y = false → ∃ l t, knownC C P R id y = [.int .i64 (loY P R c y), .int .i64 (hiY P R c y), .int .i64 l, .int .i64 t, .int .i64 0]) := by
  have hat : atE C P R id y = 0 := by
    unfold atE
    rw [if_pos (chk_zero.2 g), hf]
    simp only
    rw [if_pos (inB_iff.2 ⟨h1, h2⟩)]
  have hag := agE_at hat hf
  constructor
  · intro h
    have e : agE C P R id y = 9 := by rw [hag]; exact if_pos h
    rw [knownC_err (by rw [e]; decide), e]
  · intro h
    have e : agE C P R id y = 0 := by
      rw [hag]
      unfold clY at h
      rw [h]
      rfl
    refine ⟨(lmL c.e y (innZ P R c (spellZ R c y))).2, (lmH c.e y (innZ P R c (spellZ R c y))).2, ?_⟩
    rw [knownC_ok e hf, show (lmL c.e y (innZ P R c (spellZ R c y))).1 = limLo c.e y (innZ P R c (spellZ R c y)) from (refLo_rest _ _ _).1, show (lmH c.e y (innZ P R c (spellZ R c y))).1 = limHi c.e y (innZ P R c (spellZ R c y)) from (refHi_rest _ _ _).1]
    rfl
theorem Own.slice_form {T k base : Nat} {enc : Int → List Value} (hk : ∀ x, (enc x).length = k) {w : World} {v : Value} {l : List Int} (h : Own T k enc base w v l) : ∃ a n c, v = .slice a n c := by
  obtain ⟨a, c, e, _⟩ := h.sl hk
  exact ⟨a, _, c, e⟩
theorem box3w {w : World} {B T : Nat} {a b c : Value} {ro : Nat × Nat} (h : w.heap[B]? = some (.cells #[a, b, c] T ro)) {u : Value} : (w.setCell ⟨B, 2, none⟩ u).heap[B]? = some (.cells #[a, b, u] T ro) := set_eq h
set_option maxRecDepth 100000 in
set_option maxHeartbeats 8000000 in
theorem rworn (W : World) (C P R : List Five) (v : Value) (id lo hi : Int) (gr : Bool) (w : World) (hX : Ext W w) (hv : Wk w v C P R) :
    Calls Try.prog 80 #[v, .int .i64 id, .agg #[.int .i64 lo, .int .i64 hi], .bool gr] w fun e w' => (∃ u, e = .returned (.agg #[.int .i64 (wornR C P R id lo hi gr).1, .int .i64 (wornR C P R id lo hi gr).2.1, u, .int .i64 (spanE C P R id lo hi)]) ∧ Own 3 1 enc1 w.heap.size w' u (wornR C P R id lo hi gr).2.2) ∧ Ext W w' := by
  have HYE := Lib.hid (fun w' (q : Ext w w') => ryears w' C P R v id lo hi w' (Ext.refl _) (hv.ext q))
  have HKN := Lib.hid (fun y w' (q : Ext w w') => rknown w' C P R v id y w' (Ext.refl _) (hv.ext q))
  obtain ⟨vC, vP, vR, rfl, -⟩ := hv
  have hX0 : Ext w (((w.alloc (.cells #[vC, vP, vR] 26)).alloc (.cells #[.int .i64 lo, .int .i64 hi] 30)).alloc (.cells #[.int .i64 0, .int .i64 0, .slice none 0 0, .int .i64 0] 67)) := (((Ext.refl w).alloc _).alloc _).alloc _
  have hb0 := (((Ext.refl _).alloc (.cells #[.int .i64 lo, .int .i64 hi] 30)).alloc (.cells #[.int .i64 0, .int .i64 0, .slice none 0 0, .int .i64 0] 67)).block (heap_alloc_new w (.cells #[vC, vP, vR] 26))
  have hb1 := ((Ext.refl _).alloc (.cells #[.int .i64 0, .int .i64 0, .slice none 0 0, .int .i64 0] 67)).block (heap_alloc_new (w.alloc (.cells #[vC, vP, vR] 26)) (.cells #[.int .i64 lo, .int .i64 hi] 30))
  have hb2 := heap_alloc_new ((w.alloc (.cells #[vC, vP, vR] 26)).alloc (.cells #[.int .i64 lo, .int .i64 hi] 30)) (.cells #[.int .i64 0, .int .i64 0, .slice none 0 0, .int .i64 0] 67)
  simp only [World.size_alloc] at hb1 hb2
  obtain ⟨B, hBB⟩ : ∃ B, w.heap.size = B := ⟨_, rfl⟩
  rw [hBB] at hb0 hb1 hb2
  go_enter Try.func80, Try.ntmps80
  go_wp2_with fail
  with_reducible refine (HYE.out _ hX0).mono ?_
  rintro e w1 ⟨rfl, hX1⟩
  have hE1 := hX0.trans hX1
  replace hb0 := hX1.block hb0
  replace hb1 := hX1.block hb1
  replace hb2 := hX1.block hb2
  clear HYE hX0 hX1
  by_cases h0 : yearsE C P R id lo hi = 0
  · rw [h0]
    obtain ⟨c, g, hf, y1, y2, y3, y4⟩ := years_zero h0
    have hcb := (okC_parts (good_okT g hf).2.1).2.1
    have HEND : Hid (∀ y, lo ≤ y → y ≤ hi → (clY P R c y = true → knownC C P R id y = [.int .i64 0, .int .i64 0, .int .i64 0, .int .i64 0, .int .i64 9]) ∧ (clY P R c y = false → ∃ l t, knownC C P R id y = [.int .i64 (loY P R c y), .int .i64 (hiY P R c y), .int .i64 l, .int .i64 t, .int .i64 0])) := fun y a b => known_end g hf (by omega) (by omega)
    have HCLA := Lib.hid (fun y a b d => span_clash (gr := gr) h0 hf (y := y) a b d)
    have HOKA := Lib.hid (span_ok (gr := gr) h0 hf)
    have hlo : 0 ≤ lo ∧ lo ≤ 4000 := by omega
    have hhi : 0 ≤ hi ∧ hi ≤ 4000 := by omega
    clear h0 g hf hcb y1 y3
    obtain ⟨s0, s1⟩ := box2 hb1
    obtain ⟨k0, k1, k2⟩ := box3' hb0
    have zS := lt_of_cell s0
    have zK := lt_of_cell k0
    have hz2 : B + 1 + 1 < w1.heap.size := (Array.getElem?_eq_some_iff.1 hb2).1
    have hbD := heap_alloc_new w1 (.cells #[.int .i64 id, .int .i64 lo, .slice none 0 0] 46)
    replace hb0 := ((Ext.refl w1).alloc (.cells #[.int .i64 id, .int .i64 lo, .slice none 0 0] 46)).block hb0
    replace hb1 := ((Ext.refl w1).alloc (.cells #[.int .i64 id, .int .i64 lo, .slice none 0 0] 46)).block hb1
    replace hb2 := ((Ext.refl w1).alloc (.cells #[.int .i64 id, .int .i64 lo, .slice none 0 0] 46)).block hb2
    have hE2 := hE1.alloc (.cells #[.int .i64 id, .int .i64 lo, .slice none 0 0] 46)
    have hszD : (w1.alloc (.cells #[.int .i64 id, .int .i64 lo, .slice none 0 0] 46)).heap.size = w1.heap.size + 1 := by simp
    obtain ⟨D, hD⟩ : ∃ D, w1.heap.size = D := ⟨_, rfl⟩
    have zSD : B + 1 < D := hD ▸ zS
    have zBD : B + 1 + 1 < D := hD ▸ hz2
    go_wp2_with fail
    rw [hD] at hbD hszD
    obtain ⟨w2, hw2⟩ : ∃ w2, w1.alloc (.cells #[.int .i64 id, .int .i64 lo, .slice none 0 0] 46) = w2 := ⟨_, rfl⟩
    rw [hw2] at hb0 hb1 hb2 hbD hE2 hszD ⊢
    have hwD : w.heap.size ≤ D := by omega
    clear hw2 hE1 s0 s1 k0 k1 k2 zS zK hz2 hD
    go_loopw [11] (fun i wr => ∃ (k : Nat) (u : Value), i = .int .i64 (lo + k) ∧ lo + k ≤ hi + 1 ∧ Ext w wr ∧ wr.heap[B]? = some (.cells #[vC, vP, vR] 26) ∧ wr.heap[B + 1]? = some (.cells #[.int .i64 lo, .int .i64 hi] 30) ∧ wr.heap[B + 1 + 1]? = some (.cells #[.int .i64 0, .int .i64 0, .slice none 0 0, .int .i64 0] 67) ∧
        wr.heap[D]? = some (.cells #[.int .i64 id, .int .i64 lo, u] 46) ∧ Own 3 1 enc1 (D + 1) wr u (lens (endY P R c gr) lo k) ∧ Hid (∀ y, lo ≤ y → y < lo + k → clY P R c y = false)) (fun i _ => (hi + 1 - intOf i).toNat)
    case atStart => exact ⟨0, .slice none 0 0, by simp, by omega, hE2, hb0, hb1, hb2, hbD, Own.nil _ _ _ _ _, fun y a b => absurd b (by omega)⟩
    case round =>
      clear hb0 hb1 hb2 hbD hE2 hszD
      obtain ⟨k, u, rfl, hk, hE, hb0, hb1, hb2, hbD, hO, HN⟩ := hrel
      obtain ⟨ua, un, uc, rfl⟩ := Own.slice_form enc1_len hO
      obtain ⟨s0, s1⟩ := box2 hb1
      obtain ⟨k0, k1, k2⟩ := box3' hb0
      obtain ⟨y, hy⟩ : ∃ y, lo + (k : Int) = y := ⟨_, rfl⟩
      rw [hy] at hk ⊢
      have hy0 : lo ≤ y ∧ 0 ≤ y ∧ y ≤ 4001 := by omega
      by_cases hlt : y ≤ hi
      · obtain ⟨hcl1, hcl2⟩ := HEND.out y hy0.1 hlt
        have HKY := Lib.hid (HKN.out y)
        have HLS := Lib.hid (lens_succ (endY P R c gr) lo k)
        rw [hy] at HLS HN
        have hll := lens_len (endY P R c gr) lo k
        have hk400 : k ≤ 400 := by omega
        cases hcl : clY P R c y
        · obtain ⟨l, t, hkn⟩ := hcl2 hcl
          rw [hkn] at HKY
          clear hcl1 hcl2 hkn
          go_wp2_with fail
          with_reducible refine (HKY.out _ hE).mono ?_
          rintro e w3 ⟨rfl, hX3⟩
          have KC : List Value := []
          clear KC
          have hE3 := hE.trans hX3
          have hO3 := hO.ext hX3
          replace hb0 := hX3.block hb0
          replace hb1 := hX3.block hb1
          replace hb2 := hX3.block hb2
          replace hbD := hX3.block hbD
          clear s0 s1 k0 k1 k2 hX3 hE hO
          obtain ⟨p0, p1, p2⟩ := box3' hbD
          have zD := lt_of_cell p0
          cases gr
          · replace HLS : Hid (lens (endY P R c false) lo (k + 1) = lens (endY P R c false) lo k ++ [loY P R c y]) := HLS
            have hbK := heap_alloc_new w3 (.cells #[.int .i64 (loY P R c y), .int .i64 (hiY P R c y), .int .i64 l, .int .i64 t, .int .i64 0] 111)
            generalize loY P R c y = ny at HLS hbK ⊢
            generalize hiY P R c y = my at HLS hbK ⊢
            clear hbK
            go_wp2_with (at_builtin; with_reducible refine app_many 44 3 1 8 (.int .i64 0) enc1 enc1_len enc1_one Try.underlying44 infoI rfl (by decide) (by decide) rfl (.tmp 54) (.tmp 56) rfl (D + 1) (.slice ua un uc) (lens (endY P R c false) lo k) rfl (hO3.ext (((Ext.refl _).alloc _).alloc _)) _ [ny] rfl (Sl.mk1 (by simp) rfl) (by simp; omega) (by simp; omega) ?_; intro v6 w6 hO6 hg6 hE6 hb6'; have hb0' := block_keep (hO3.ext (((Ext.refl _).alloc _).alloc _)) hg6 ((((Ext.refl _).alloc _).alloc _).block hb0) (by decide); have hb1' := block_keep (hO3.ext (((Ext.refl _).alloc _).alloc _)) hg6 ((((Ext.refl _).alloc _).alloc _).block hb1) (by decide); have hb2' := block_keep (hO3.ext (((Ext.refl _).alloc _).alloc _)) hg6 ((((Ext.refl _).alloc _).alloc _).block hb2) (by decide); have hbD' := block_keep (hO3.ext (((Ext.refl _).alloc _).alloc _)) hg6 ((((Ext.refl _).alloc _).alloc _).block hbD) (by decide); have hE7 := hE6 w (by omega) ((hE3.alloc _).alloc _); obtain ⟨va, vn, vc, rfl⟩ := Own.slice_form enc1_len hO6; obtain ⟨q0, q1, q2⟩ := box3' hbD'; have zQ := lt_of_cell q0; have fQ := frozen_cells ⟨_, hbD'⟩ 2; clear hb6' hE6 hg6)
            go_roundw
            case rel => exact ⟨k + 1, _, congrArg (Value.int .i64) (by omega), by omega, hE7.setCell (by show w.heap.size ≤ D; omega) _, set_ne hb0' (by omega), set_ne hb1' (by omega), set_ne hb2' (by omega), box3w hbD', by rw [HLS.out]; exact Own.kx hO6 ((KX.refl _ _).set _ _) hbD' (by decide), fun z a b => by
                by_cases e : z = y
                · rw [e]; exact hcl
                · exact HN.out z a (by omega)⟩
            case measure => simp [intOf]; omega
          · replace HLS : Hid (lens (endY P R c true) lo (k + 1) = lens (endY P R c true) lo k ++ [hiY P R c y]) := HLS
            have hbK := heap_alloc_new w3 (.cells #[.int .i64 (loY P R c y), .int .i64 (hiY P R c y), .int .i64 l, .int .i64 t, .int .i64 0] 111)
            generalize loY P R c y = ny at HLS hbK ⊢
            generalize hiY P R c y = my at HLS hbK ⊢
            clear hbK
            go_wp2_with (at_builtin; with_reducible refine app_many 44 3 1 8 (.int .i64 0) enc1 enc1_len enc1_one Try.underlying44 infoI rfl (by decide) (by decide) rfl (.tmp 54) (.tmp 56) rfl (D + 1) (.slice ua un uc) (lens (endY P R c true) lo k) rfl (hO3.ext (((Ext.refl _).alloc _).alloc _)) _ [my] rfl (Sl.mk1 (by simp) rfl) (by simp; omega) (by simp; omega) ?_; intro v6 w6 hO6 hg6 hE6 hb6'; have hb0' := block_keep (hO3.ext (((Ext.refl _).alloc _).alloc _)) hg6 ((((Ext.refl _).alloc _).alloc _).block hb0) (by decide); have hb1' := block_keep (hO3.ext (((Ext.refl _).alloc _).alloc _)) hg6 ((((Ext.refl _).alloc _).alloc _).block hb1) (by decide); have hb2' := block_keep (hO3.ext (((Ext.refl _).alloc _).alloc _)) hg6 ((((Ext.refl _).alloc _).alloc _).block hb2) (by decide); have hbD' := block_keep (hO3.ext (((Ext.refl _).alloc _).alloc _)) hg6 ((((Ext.refl _).alloc _).alloc _).block hbD) (by decide); have hE7 := hE6 w (by omega) ((hE3.alloc _).alloc _); obtain ⟨va, vn, vc, rfl⟩ := Own.slice_form enc1_len hO6; obtain ⟨q0, q1, q2⟩ := box3' hbD'; have zQ := lt_of_cell q0; have fQ := frozen_cells ⟨_, hbD'⟩ 2; clear hb6' hE6 hg6)
            go_roundw
            case rel => exact ⟨k + 1, _, congrArg (Value.int .i64) (by omega), by omega, hE7.setCell (by show w.heap.size ≤ D; omega) _, set_ne hb0' (by omega), set_ne hb1' (by omega), set_ne hb2' (by omega), box3w hbD', by rw [HLS.out]; exact Own.kx hO6 ((KX.refl _ _).set _ _) hbD' (by decide), fun z a b => by
                by_cases e : z = y
                · rw [e]; exact hcl
                · exact HN.out z a (by omega)⟩
            case measure => simp [intOf]; omega
        · have HS := Lib.hid (HCLA.out y hy0.1 hlt hcl)
          rw [hcl1 hcl] at HKY
          clear hcl1 hcl2
          go_wp2_with fail
          with_reducible refine (HKY.out _ hE).mono ?_
          rintro e w3 ⟨rfl, hX3⟩
          have hE3 := hE.trans hX3
          replace hb2 := hX3.block hb2
          clear s0 s1 k0 k1 k2 hX3 hE
          obtain ⟨r0, r1, r2, r3⟩ := box4 hb2
          have zR2 := lt_of_cell r0
          have f0 := frozen_cells ⟨_, hb2⟩ 0
          have f1 := frozen_cells ⟨_, hb2⟩ 1
          have f2 := frozen_cells ⟨_, hb2⟩ 2
          have f3 := frozen_cells ⟨_, hb2⟩ 3
          go_wp2_with fail
          refine bodyPost_ret (v := .agg #[.int .i64 0, .int .i64 0, (.slice none 0 0), .int .i64 9]) (by simp [results, Try.results80, r0, r1, r2, r3, zR2, go_sem]) rfl ⟨⟨_, by rw [HS.out.1, HS.out.2], by rw [HS.out.2]; exact Own.nil _ _ _ _ _⟩, hX.trans ?_⟩
          repeat (first | exact hE3 | refine Ext.alloc ?_ _ | refine Ext.setCell ?_ (by show w.heap.size ≤ B + 1 + 1; omega) _)
      · obtain ⟨p0, p1, p2⟩ := box3' hbD
        have hyh : y = hi + 1 := by omega
        have HS : Hid (spanE C P R id lo hi = 0 ∧ wornR C P R id lo hi gr = (id, lo, lens (endY P R c gr) lo k)) := by
          have := HOKA.out (fun z a b => HN.out z a (by omega))
          rw [show (hi - lo + 1).toNat = k by omega] at this
          exact this
        clear HN HEND HCLA HOKA hyh hy
        obtain ⟨r0, r1, r2, r3⟩ := box4 hb2
        have zR2 := lt_of_cell r0
        have f0 := frozen_cells ⟨_, hb2⟩ 0
        have f1 := frozen_cells ⟨_, hb2⟩ 1
        have f2 := frozen_cells ⟨_, hb2⟩ 2
        have f3 := frozen_cells ⟨_, hb2⟩ 3
        go_wp2_with fail
        refine bodyPost_ret (v := .agg #[.int .i64 id, .int .i64 lo, .slice ua un uc, .int .i64 0]) (by simp [results, Try.results80, r0, r1, r2, r3, go_sem]) rfl ⟨⟨_, by rw [HS.out.1, HS.out.2], by rw [HS.out.2]; exact (Own.kx hO (((((KX.refl _ _).set _ _).set _ _).set _ _).set _ _) hb2 (by decide)).mono (by omega)⟩, hX.trans ?_⟩
        repeat (first | exact hE | refine Ext.alloc ?_ _ | refine Ext.setCell ?_ (by show w.heap.size ≤ B + 1 + 1; omega) _)
  · obtain ⟨e1, e2⟩ := span_err (gr := gr) h0
    have HS1 := Lib.hid e1
    have HS2 := Lib.hid e2
    have hnb : (yearsE C P R id lo hi == 0) = false := by simpa using h0
    generalize yearsE C P R id lo hi = n at HS1 hnb ⊢
    have hnb2 : (n != 0) = true := by simp [bne, hnb]
    clear h0 e1 e2 HKN
    obtain ⟨r0, r1, r2, r3⟩ := box4 hb2
    have zR2 := lt_of_cell r0
    have f0 := frozen_cells ⟨_, hb2⟩ 0
    have f1 := frozen_cells ⟨_, hb2⟩ 1
    have f2 := frozen_cells ⟨_, hb2⟩ 2
    have f3 := frozen_cells ⟨_, hb2⟩ 3
    go_wp2_with fail
    refine bodyPost_ret (v := .agg #[.int .i64 0, .int .i64 0, (.slice none 0 0), .int .i64 n]) (by simp [results, Try.results80, r0, r1, r2, r3, go_sem]) rfl ⟨⟨_, by rw [HS1.out, HS2.out], by rw [HS2.out]; exact Own.nil _ _ _ _ _⟩, hX.trans ?_⟩
    repeat (first | exact hE1 | refine Ext.alloc ?_ _ | refine Ext.setCell ?_ (by show w.heap.size ≤ B + 1 + 1; omega) _)
set_option maxRecDepth 100000 in
set_option maxHeartbeats 4000000 in
theorem rShortest (W : World) (C P R : List Five) (v : Value) (id lo hi : Int) (w : World) (hX : Ext W w) (hv : Wk w v C P R) :
    Calls Try.prog 40 #[v, .int .i64 id, .agg #[.int .i64 lo, .int .i64 hi]] w fun e w' => (∃ u, e = .returned (.agg #[.int .i64 (wornR C P R id lo hi false).1, .int .i64 (wornR C P R id lo hi false).2.1, u, .int .i64 (spanE C P R id lo hi)]) ∧ Own 3 1 enc1 w.heap.size w' u (wornR C P R id lo hi false).2.2) ∧ Ext W w' := by
  have HW := Lib.hid (fun w' (q : Ext w w') => rworn w' C P R v id lo hi false w' (Ext.refl _) (hv.ext q))
  obtain ⟨vC, vP, vR, rfl, -⟩ := hv
  generalize wornR C P R id lo hi false = x at HW ⊢
  generalize spanE C P R id lo hi = n at HW ⊢
  obtain ⟨x1, x2, x3⟩ := x
  have hX0 : Ext w (((w.alloc (.cells #[vC, vP, vR] 26)).alloc (.cells #[.int .i64 lo, .int .i64 hi] 30)).alloc (.cells #[.int .i64 0, .int .i64 0, .slice none 0 0, .int .i64 0] 67)) := (((Ext.refl w).alloc _).alloc _).alloc _
  have hb2 := heap_alloc_new ((w.alloc (.cells #[vC, vP, vR] 26)).alloc (.cells #[.int .i64 lo, .int .i64 hi] 30)) (.cells #[.int .i64 0, .int .i64 0, .slice none 0 0, .int .i64 0] 67)
  simp only [World.size_alloc] at hb2
  obtain ⟨B, hBB⟩ : ∃ B, w.heap.size = B := ⟨_, rfl⟩
  rw [hBB] at hb2
  go_enter Try.func40, Try.ntmps40
  go_wp2_with fail
  with_reducible refine (HW.out _ hX0).mono ?_
  rintro e w1 ⟨⟨u, rfl, hI⟩, hX1⟩
  obtain ⟨ua, un, uc, rfl⟩ := Own.slice_form enc1_len hI
  have hE1 := hX0.trans hX1
  replace hb2 := hX1.block hb2
  obtain ⟨r0, r1, r2, r3⟩ := box4 hb2
  have f0 := frozen_cells ⟨_, hb2⟩ 0
  have f1 := frozen_cells ⟨_, hb2⟩ 1
  have f2 := frozen_cells ⟨_, hb2⟩ 2
  have f3 := frozen_cells ⟨_, hb2⟩ 3
  have HI := Lib.hid hI
  have hw0 := hX0.le
  clear hI hX1
  go_wp2_with fail
  refine bodyPost_ret (v := .agg #[.int .i64 x1, .int .i64 x2, .slice ua un uc, .int .i64 n]) (by simp [results, Try.results40, r0, r1, r2, r3, go_sem]) rfl ⟨⟨_, rfl, ?_⟩, hX.trans ?_⟩
  · exact (Own.kx HI.out (((((KX.refl _ _).set _ _).set _ _).set _ _).set _ _) hb2 (by decide)).mono hw0
  · repeat (first | exact hE1 | refine Ext.setCell ?_ (by show w.heap.size ≤ B + 1 + 1; omega) _)
set_option maxRecDepth 100000 in
set_option maxHeartbeats 4000000 in
theorem rLongest (W : World) (C P R : List Five) (v : Value) (id lo hi : Int) (w : World) (hX : Ext W w) (hv : Wk w v C P R) :
    Calls Try.prog 42 #[v, .int .i64 id, .agg #[.int .i64 lo, .int .i64 hi]] w fun e w' => (∃ u, e = .returned (.agg #[.int .i64 (wornR C P R id lo hi true).1, .int .i64 (wornR C P R id lo hi true).2.1, u, .int .i64 (spanE C P R id lo hi)]) ∧ Own 3 1 enc1 w.heap.size w' u (wornR C P R id lo hi true).2.2) ∧ Ext W w' := by
  have HW := Lib.hid (fun w' (q : Ext w w') => rworn w' C P R v id lo hi true w' (Ext.refl _) (hv.ext q))
  obtain ⟨vC, vP, vR, rfl, -⟩ := hv
  generalize wornR C P R id lo hi true = x at HW ⊢
  generalize spanE C P R id lo hi = n at HW ⊢
  obtain ⟨x1, x2, x3⟩ := x
  have hX0 : Ext w (((w.alloc (.cells #[vC, vP, vR] 26)).alloc (.cells #[.int .i64 lo, .int .i64 hi] 30)).alloc (.cells #[.int .i64 0, .int .i64 0, .slice none 0 0, .int .i64 0] 67)) := (((Ext.refl w).alloc _).alloc _).alloc _
  have hb2 := heap_alloc_new ((w.alloc (.cells #[vC, vP, vR] 26)).alloc (.cells #[.int .i64 lo, .int .i64 hi] 30)) (.cells #[.int .i64 0, .int .i64 0, .slice none 0 0, .int .i64 0] 67)
  simp only [World.size_alloc] at hb2
  obtain ⟨B, hBB⟩ : ∃ B, w.heap.size = B := ⟨_, rfl⟩
  rw [hBB] at hb2
  go_enter Try.func42, Try.ntmps42
  go_wp2_with fail
  with_reducible refine (HW.out _ hX0).mono ?_
  rintro e w1 ⟨⟨u, rfl, hI⟩, hX1⟩
  obtain ⟨ua, un, uc, rfl⟩ := Own.slice_form enc1_len hI
  have hE1 := hX0.trans hX1
  replace hb2 := hX1.block hb2
  obtain ⟨r0, r1, r2, r3⟩ := box4 hb2
  have f0 := frozen_cells ⟨_, hb2⟩ 0
  have f1 := frozen_cells ⟨_, hb2⟩ 1
  have f2 := frozen_cells ⟨_, hb2⟩ 2
  have f3 := frozen_cells ⟨_, hb2⟩ 3
  have HI := Lib.hid hI
  have hw0 := hX0.le
  clear hI hX1
  go_wp2_with fail
  refine bodyPost_ret (v := .agg #[.int .i64 x1, .int .i64 x2, .slice ua un uc, .int .i64 n]) (by simp [results, Try.results42, r0, r1, r2, r3, go_sem]) rfl ⟨⟨_, rfl, ?_⟩, hX.trans ?_⟩
  · exact (Own.kx HI.out (((((KX.refl _ _).set _ _).set _ _).set _ _).set _ _) hb2 (by decide)).mono hw0
  · repeat (first | exact hE1 | refine Ext.setCell ?_ (by show w.heap.size ≤ B + 1 + 1; omega) _)
end Go.Proofs.Ytaggjclaehigjaa
namespace Go.Proofs.Ytaggjclaehigjaa
structure RowS (P R : List Five) (c : Five) (S : List SpE) (j : Nat) (s : SpE) : Prop where
  le : s.lo ≤ s.hi
  hi : s.hi = if h : j + 1 < S.length then S[j + 1].lo - 1 else 4000
  yr : c.b ≤ s.lo ∧ s.hi ≤ 4000
  sp : ∀ y, s.lo ≤ y → y ≤ s.hi → spellZ R c y = (s.lo, s.hi)
  we : s.w = c.e
  fs : s.fs.Perm (innZ P R c (s.lo, s.hi))
theorem spells_row {C P R : List Five} {id : Int} {c : Five} (g : Good C P R) (hf : findC C id = some c) {S : List SpE} {ts : List Th} (hp : ts.Perm (thAll P R c)) (hs : SortedT ts) (hm : S.map SpE.sp = splitS c.e ts) :
    (∃ h : 0 < S.length, S[0].lo = c.b) ∧ ∀ j, (hj : j < S.length) → RowS P R c S j S[j] := by
  obtain ⟨t, r, rfl, hb, hty⟩ := head_beg g hf hp hs
  have hL := splitS_l c.e t r hb
  have hlen : (splitS c.e (t :: r)).length = S.length := by rw [← hm]; simp
  have hat : ∀ j, (hj : j < S.length) → (splitS c.e (t :: r))[j]'(by omega) = S[j].sp := fun j hj => by simp only [← hm, List.getElem_map]
  have hls := hL.lo
  constructor
  · have h0 : 0 < (splitS c.e (t :: r)).length := by
      have : ((splitS c.e (t :: r)).map Sp.lo).length = (((t :: r).filter begB).map Th.y).length := by rw [hls]
      simp [hb] at this
      omega
    refine ⟨by omega, ?_⟩
    have e : ((splitS c.e (t :: r)).map Sp.lo)[0]? = some t.y := by rw [hls]; simp [hb]
    rw [List.getElem?_map, List.getElem?_eq_getElem h0, hat 0 (by omega)] at e
    have e2 : S[0].sp.lo = t.y := by simpa using e
    rw [← hty, ← e2]
    rfl
  · intro j hj
    have hj' : j < (splitS c.e (t :: r)).length := by omega
    have hh := hi_at hL hj'
    obtain ⟨y0, h1, h2, h3, h4, h5⟩ := spell_at2 g hf hp hs hj'
    rw [hat j hj] at hh h3 h4 h5
    have h3' : (S[j].lo, S[j].hi) = spellZ R c y0 := h3
    have hsl := spell_le (R := R) h1 h2
    rw [← h3'] at hsl h5
    simp only at hsl
    refine ⟨by omega, ?_, ⟨hsl.1, hsl.2.2.2⟩, fun y a b => ?_, h4, ?_⟩
    · have hh' : S[j].hi = _ := hh
      rw [hh']
      by_cases h : j + 1 < S.length
      · rw [dif_pos (by omega), dif_pos h, hat (j + 1) h]
        rfl
      · rw [dif_neg (by omega), dif_neg h]
    · rw [spellZ_same h1 h2 (by rw [← h3']; exact a) (by rw [← h3']; exact b), h3']
    · have e : S[j].fs = S[j].sp.ts.map Th.f := by simp [SpE.fs, SpE.sp, List.map_map]
      rw [e]
      exact h5
/-- the first year that was not yet come to, ahead of spell j -/
def PosS (S : List SpE) (lo hi : Int) (j : Nat) (n : Int) : Prop := n = if h : j < S.length then max lo (min (hi + 1) S[j].lo) else hi + 1
theorem pos_zero {S : List SpE} {lo hi b : Int} (h : ∃ h : 0 < S.length, S[0].lo = b) (hb : b ≤ lo) (hl : lo ≤ hi) : PosS S lo hi 0 lo := by
  obtain ⟨h0, e⟩ := h
  unfold PosS
  rw [dif_pos h0, e]
  omega
theorem pos_end {S : List SpE} {lo hi n : Int} (h : PosS S lo hi S.length n) : n = hi + 1 := by
  unfold PosS at h
  rw [dif_neg (by omega)] at h
  exact h
theorem pos_skip {P R : List Five} {c : Five} {S : List SpE} {lo hi n : Int} {j : Nat} (hj : j < S.length) (hr : RowS P R c S j S[j]) (hr2 : ∀ i, (hi : i < S.length) → RowS P R c S i S[i]) (hl : lo ≤ hi) (hh : hi ≤ 4000) (h : PosS S lo hi j n) (hc : ¬ (max lo S[j].lo ≤ min hi S[j].hi)) : PosS S lo hi (j + 1) n := by
  unfold PosS at *
  rw [dif_pos hj] at h
  have h1 := hr.hi
  have h2 := hr.le
  by_cases hj1 : j + 1 < S.length
  · rw [dif_pos hj1] at h1 ⊢
    have h3 := (hr2 _ hj1).le
    omega
  · rw [dif_neg hj1] at h1 ⊢
    omega
theorem pos_go {P R : List Five} {c : Five} {S : List SpE} {lo hi n : Int} {j : Nat} (hj : j < S.length) (hr : RowS P R c S j S[j]) (hl : lo ≤ hi) (hh : hi ≤ 4000) (h : PosS S lo hi j n) (hc : max lo S[j].lo ≤ min hi S[j].hi) : n = max lo S[j].lo ∧ PosS S lo hi (j + 1) (min hi S[j].hi + 1) := by
  unfold PosS at *
  rw [dif_pos hj] at h
  have h1 := hr.hi
  have h2 := hr.le
  refine ⟨by omega, ?_⟩
  by_cases hj1 : j + 1 < S.length
  · rw [dif_pos hj1] at h1 ⊢
    omega
  · rw [dif_neg hj1] at h1 ⊢
    omega
/-- a spell that contradicts itself -/
theorem row_cl {P R : List Five} {c : Five} {S : List SpE} {j : Nat} {s : SpE} (h : RowS P R c S j s) {y : Int} (h1 : s.lo ≤ y) (h2 : y ≤ s.hi) : clS s = clashesB c.e (innZ P R c (spellZ R c y)) := by
  have e : clS s = clashesB s.w s.fs := by unfold clS; exact clS_eq s
  rw [e, h.we, clashesB_perm h.fs, h.sp y h1 h2]
theorem row_lo {P R : List Five} {c : Five} {S : List SpE} {j : Nat} {s : SpE} (h : RowS P R c S j s) {y : Int} (h1 : s.lo ≤ y) (h2 : y ≤ s.hi) : limLo s.w y s.fs = loY P R c y := by
  rw [h.we, limLo_perm h.fs]
  unfold loY
  rw [h.sp y h1 h2]
theorem row_hi {P R : List Five} {c : Five} {S : List SpE} {j : Nat} {s : SpE} (h : RowS P R c S j s) {y : Int} (h1 : s.lo ≤ y) (h2 : y ≤ s.hi) : limHi s.w y s.fs = hiY P R c y := by
  rw [h.we, limHi_perm h.fs]
  unfold hiY
  rw [h.sp y h1 h2]
end Go.Proofs.Ytaggjclaehigjaa
