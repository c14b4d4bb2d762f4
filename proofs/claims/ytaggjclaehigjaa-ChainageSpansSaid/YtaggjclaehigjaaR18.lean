/- Plain words of Shortest and Longest. Contracts of the specification's functions: years. -/
import Derived.Test.YtaggjclaehigjaaR11
import Derived.Test.YtaggjclaehigjaaPF
namespace Go.Proofs.Ytaggjclaehigjaa
/-- the first error of a chain and years -/
def yearsE (C P R : List Five) (id lo hi : Int) : Int :=
  if chk C P R = 0 then (match findC C id with
    | none => 5
    | some c => if spB lo hi c.b 4000 then (if 400 < hi - lo + 1 then 2 else 0) else 1) else chk C P R
/-- an end of Long in a year -/
def endY (P R : List Five) (c : Five) (gr : Bool) : Int → Int := if gr then hiY P R c else loY P R c
def clY (P R : List Five) (c : Five) (y : Int) : Bool := clashesB c.e (innZ P R c (spellZ R c y))
/-- the error of Shortest and Longest -/
def spanE (C P R : List Five) (id lo hi : Int) : Int :=
  if yearsE C P R id lo hi = 0 then (match findC C id with
    | none => 0
    | some c => if (List.range (hi - lo + 1).toNat).any (fun i => clY P R c (lo + (i : Nat))) then 9 else 0) else yearsE C P R id lo hi
/-- what Shortest and Longest return -/
def wornR (C P R : List Five) (id lo hi : Int) (gr : Bool) : Int × Int × List Int :=
  if spanE C P R id lo hi = 0 then (match findC C id with
    | none => (0, 0, [])
    | some c => (id, lo, lens (endY P R c gr) lo (hi - lo + 1).toNat)) else (0, 0, [])
theorem years_zero {C P R : List Five} {id lo hi : Int} (h : yearsE C P R id lo hi = 0) : ∃ c, Good C P R ∧ findC C id = some c ∧ c.b ≤ lo ∧ lo ≤ hi ∧ hi ≤ 4000 ∧ hi - lo + 1 ≤ 400 := by
  unfold yearsE at h
  by_cases h0 : chk C P R = 0
  · rw [if_pos h0] at h
    cases hf : findC C id with
    | none => rw [hf] at h; simp at h
    | some c =>
      rw [hf] at h
      simp only at h
      by_cases h1 : spB lo hi c.b 4000 = true
      · rw [if_pos h1] at h
        by_cases h2 : 400 < hi - lo + 1
        · rw [if_pos h2] at h; simp at h
        · have := spB_iff.1 h1
          exact ⟨c, chk_zero.1 h0, rfl, this.1, this.2.1, this.2.2, by omega⟩
      · rw [if_neg h1] at h; simp at h
  · rw [if_neg h0] at h
    exact absurd h h0
theorem span_err {C P R : List Five} {id lo hi : Int} {gr : Bool} (h : yearsE C P R id lo hi ≠ 0) : spanE C P R id lo hi = yearsE C P R id lo hi ∧ wornR C P R id lo hi gr = (0, 0, []) := by
  have e : spanE C P R id lo hi = yearsE C P R id lo hi := by unfold spanE; rw [if_neg h]
  exact ⟨e, by unfold wornR; rw [if_neg (by rw [e]; exact h)]⟩
theorem span_clash {C P R : List Five} {id lo hi : Int} {gr : Bool} {c : Five} (h : yearsE C P R id lo hi = 0) (hf : findC C id = some c) {y : Int} (h1 : lo ≤ y) (h2 : y ≤ hi) (hc : clY P R c y = true) : spanE C P R id lo hi = 9 ∧ wornR C P R id lo hi gr = (0, 0, []) := by
  have e : spanE C P R id lo hi = 9 := by
    unfold spanE
    rw [if_pos h, hf]
    simp only
    rw [if_pos]
    rw [List.any_eq_true]
    refine ⟨(y - lo).toNat, List.mem_range.2 (by omega), ?_⟩
    rw [show lo + (((y - lo).toNat : Nat) : Int) = y by omega]
    exact hc
  exact ⟨e, by unfold wornR; rw [if_neg (by rw [e]; decide)]⟩
theorem span_ok {C P R : List Five} {id lo hi : Int} {gr : Bool} {c : Five} (h : yearsE C P R id lo hi = 0) (hf : findC C id = some c) (hc : ∀ y, lo ≤ y → y ≤ hi → clY P R c y = false) : spanE C P R id lo hi = 0 ∧ wornR C P R id lo hi gr = (id, lo, lens (endY P R c gr) lo (hi - lo + 1).toNat) := by
  have e : spanE C P R id lo hi = 0 := by
    unfold spanE
    rw [if_pos h, hf]
    simp only
    rw [if_neg]
    rw [Bool.not_eq_true, List.any_eq_false]
    intro i hi
    have := List.mem_range.1 hi
    rw [hc (lo + i) (by omega) (by omega)]
    decide
  exact ⟨e, by unfold wornR; rw [if_pos e, hf]⟩
theorem lens_succ (f : Int → Int) (Y : Int) (n : Nat) : lens f Y (n + 1) = lens f Y n ++ [f (Y + n)] := by
  unfold lens
  rw [List.range_succ, List.map_append]
  rfl
theorem lens_zero (f : Int → Int) (Y : Int) : lens f Y 0 = [] := rfl
open Go.RowKit
set_option maxRecDepth 100000 in
set_option maxHeartbeats 4000000 in
theorem ryears (W : World) (C P R : List Five) (v : Value) (id lo hi : Int) (w : World) (hX : Ext W w) (hv : Wk w v C P R) :
    Calls Try.prog 109 #[v, .int .i64 id, .agg #[.int .i64 lo, .int .i64 hi]] w fun e w' => e = .returned (.int .i64 (yearsE C P R id lo hi)) ∧ Ext W w' := by
  have HCK := Lib.hid (fun w' (q : Ext w w') => rCheck w' C P R v w' (Ext.refl _) (hv.ext q))
  have HCA := Lib.hid (fun w' (q : Ext w w') => rchainAt w' C P R v id w' (Ext.refl _) (hv.ext q))
  obtain ⟨vC, vP, vR, rfl, hC, -⟩ := hv
  obtain ⟨a, cap, rfl, hl, hm, hc⟩ := hC.parts
  have HC := Lib.hid hc
  clear hC hc hm
  have hX0 : Ext w ((w.alloc (.cells #[.slice a C.length cap, vP, vR] 26)).alloc (.cells #[.int .i64 lo, .int .i64 hi] 30)) := ((Ext.refl w).alloc _).alloc _
  have hb0 := ((Ext.refl _).alloc (.cells #[.int .i64 lo, .int .i64 hi] 30)).block (heap_alloc_new w (.cells #[.slice a C.length cap, vP, vR] 26))
  have hb1 := heap_alloc_new (w.alloc (.cells #[.slice a C.length cap, vP, vR] 26)) (.cells #[.int .i64 lo, .int .i64 hi] 30)
  rw [World.size_alloc] at hb1
  obtain ⟨B, hBB⟩ : ∃ B, w.heap.size = B := ⟨_, rfl⟩
  rw [hBB] at hb0 hb1
  go_enter Try.func109, Try.ntmps109
  go_wp2_with fail
  with_reducible refine (HCK.out _ hX0).mono ?_
  rintro e w1 ⟨rfl, hX1⟩
  have hE1 := hX0.trans hX1
  replace hb0 := hX1.block hb0
  replace hb1 := hX1.block hb1
  obtain ⟨k0, k1, k2⟩ := box3' hb0
  clear HCK hX0 hX1
  by_cases h0 : chk C P R = 0
  · rw [h0]
    go_wp2_with fail
    with_reducible refine (HCA.out _ hE1).mono ?_
    rintro e w2 ⟨rfl, hX2⟩
    have hE2 := hE1.trans hX2
    replace hb0 := hX2.block hb0
    replace hb1 := hX2.block hb1
    obtain ⟨k0, -, -⟩ := box3' hb0
    obtain ⟨s0, s1⟩ := box2 hb1
    clear HCA hE1 hX2 hb0 hb1
    rcases idx_find (fun c => c.a == id) C with ⟨hi', hf2⟩ | ⟨k, hk, hi', hf2⟩
    · rw [hi']
      have HR : Hid (yearsE C P R id lo hi = 5) := by show _ = _; unfold yearsE; rw [if_pos h0, show findC C id = none from hf2]
      clear hf2 hi' h0
      go_wp2_with fail
      go_ret
      exact ⟨by rw [HR.out]; rfl, hX.trans hE2⟩
    · rw [hi']
      obtain ⟨b, off, c, hx, rfl, q0, q1, q2, q3, q4⟩ := five_at HC.out hE2 hk
      rw [← hx] at hf2
      have hf : findC C id = some c := hf2
      have hcb := (okC_parts (good_okT (chk_zero.1 h0) hf).2.1).2.1
      have HR : Hid (yearsE C P R id lo hi = if spB lo hi c.b 4000 then (if 400 < hi - lo + 1 then 2 else 0) else 1) := by show _ = _; unfold yearsE; rw [if_pos h0, hf]
      clear hx hf hf2 hi' h0 HC
      have hk0 : (0 : Int) ≤ (k : Int) := by omega
      have hk1 : (k : Int) < (C.length : Int) := by omega
      have k0r := cell_regrown k0
      have s0r := cell_regrown s0
      have s1r := cell_regrown s1
      have q1r := cell_regrown q1
      have rw1 := regrow (w := w2) (fun w' _ => rwithin w' lo hi c.b 4000 w' (Ext.refl _))
      clear k0 q0 q1 q2 q3 q4
      go_wp2_with fail
      cases hs : spB lo hi c.b 4000
      all_goals
        rw [hs] at HR rw1
        refine wp_region_quiet_below (by kernel_rfl) (by kernel_rfl) ?_
        repeat (with_reducible refine wpQuiet_step (fun K hK => ?_); go_simp; first | (with_reducible refine hK _ ?_; clear hK K) | (rw [if_neg (by simp [undef])]; with_reducible refine hK _ ?_; clear hK K) | (apply Exists.intro; with_reducible refine ⟨fun _ => ?_, hK _ ?_⟩; (first | with_reducible exact rw1 _ _); clear hK K))
        refine wpQuiet_nil ?_
        intro _ hw'
        obtain ⟨⟨dq, osq⟩, hw''⟩ := hw'
        subst hw''
        have hXq : Ext w2 (Go.Sort.grow (redrawn w2 dq) osq) := below_regrown w2 dq osq
      · go_wp2_with fail
        go_ret
        exact ⟨by rw [HR.out]; rfl, hX.trans (hE2.trans hXq)⟩
      · have hE3 := hE2.trans hXq
        have t0 := hXq.cell s0
        have t1 := hXq.cell s1
        have hsp := spB_iff.1 hs
        obtain ⟨p1, p2, p3⟩ := hsp
        clear k0r s0r s1r q1r rw1 hXq s0 s1 hs
        change Exit.then _ _ Exit.normal _ (Go.Sort.grow (redrawn w2 dq) osq)
        generalize Go.Sort.grow (redrawn w2 dq) osq = w4 at hE3 t0 t1 ⊢
        by_cases hl4 : 400 < hi - lo + 1
        · rw [if_pos rfl, if_pos hl4] at HR
          go_wp2_with fail
          go_ret
          exact ⟨by rw [HR.out]; rfl, hX.trans hE3⟩
        · rw [if_pos rfl, if_neg hl4] at HR
          go_wp2_with fail
          go_ret
          exact ⟨by rw [HR.out]; rfl, hX.trans hE3⟩
  · have HR : Hid (yearsE C P R id lo hi = chk C P R) := by show _ = _; unfold yearsE; rw [if_neg h0]
    have hnb : (chk C P R == 0) = false := by simpa using h0
    generalize chk C P R = n at HR hnb ⊢
    have hnb2 : (n != 0) = true := by simp [bne, hnb]
    clear h0
    go_wp2_with fail
    go_ret
    exact ⟨by rw [HR.out]; rfl, hX.trans hE1⟩
end Go.Proofs.Ytaggjclaehigjaa
