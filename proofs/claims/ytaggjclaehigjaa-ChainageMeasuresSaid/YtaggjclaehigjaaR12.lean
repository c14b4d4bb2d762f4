/- Contracts of the specification's functions: Measured, Links, Distance. -/
import Derived.Test.YtaggjclaehigjaaK7
import Derived.Test.YtaggjclaehigjaaR11
namespace Go.Proofs.Ytaggjclaehigjaa
open Go.RowKit
theorem box5' {w : World} {B T : Nat} {a b c d e : Value} {ro : Nat × Nat} (h : w.heap[B]? = some (.cells #[a, b, c, d, e] T ro)) : w.cell? ⟨B, 0, none⟩ = some a ∧ w.cell? ⟨B, 1, none⟩ = some b ∧ w.cell? ⟨B, 2, none⟩ = some c ∧ w.cell? ⟨B, 3, none⟩ = some d ∧ w.cell? ⟨B, 4, none⟩ = some e :=
  ⟨cell_at h 0, cell_at h 1, cell_at h 2, cell_at h 3, cell_at h 4⟩
/-- the first error of a measure -/
def meaE (C P R : List Five) (m : Five) : Int := if chk C P R = 0 then (match findC C m.a with | some c => if okM c m.b m.c m.d m.e then 0 else 1 | none => 1) else chk C P R
set_option maxRecDepth 100000 in
set_option maxHeartbeats 8000000 in
theorem rMeasured (W : World) (C P R : List Five) (v : Value) (m : Five) (w : World) (hX : Ext W w) (hv : Wk w v C P R) :
    Calls Try.prog 76 #[v, v5 m] w fun e w' => e = .returned (.int .i64 (meaE C P R m)) ∧ Ext W w' := by
  have HCK := Lib.hid (fun w' (q : Ext w w') => rCheck w' C P R v w' (Ext.refl _) (hv.ext q))
  have HCA := Lib.hid (fun w' (q : Ext w w') => rchainAt w' C P R v m.a w' (Ext.refl _) (hv.ext q))
  obtain ⟨vC, vP, vR, rfl, hC, hP, hR, hn⟩ := hv
  obtain ⟨a, cap, rfl, hl, hm, hc⟩ := hC.parts
  have HC := Lib.hid hc
  clear hC hP hR hc hm
  have hX0 : Ext w ((w.alloc (.cells #[.slice a C.length cap, vP, vR] 26)).alloc (.cells #[.int .i64 m.a, .int .i64 m.b, .int .i64 m.c, .int .i64 m.d, .int .i64 m.e] 41)) := ((Ext.refl w).alloc _).alloc _
  have hb0 := ((Ext.refl _).alloc (.cells #[.int .i64 m.a, .int .i64 m.b, .int .i64 m.c, .int .i64 m.d, .int .i64 m.e] 41)).block (heap_alloc_new w (.cells #[.slice a C.length cap, vP, vR] 26))
  have hb1 := heap_alloc_new (w.alloc (.cells #[.slice a C.length cap, vP, vR] 26)) (.cells #[.int .i64 m.a, .int .i64 m.b, .int .i64 m.c, .int .i64 m.d, .int .i64 m.e] 41)
  rw [World.size_alloc] at hb1
  obtain ⟨B, hBB⟩ : ∃ B, w.heap.size = B := ⟨_, rfl⟩
  rw [hBB] at hb0 hb1
  go_enter Try.func76, Try.ntmps76
  go_wp2_with fail
  with_reducible refine (HCK.out _ hX0).mono ?_
  rintro e w1 ⟨rfl, hX1⟩
  have hE1 := hX0.trans hX1
  have hb0 := hX1.block hb0
  have hb1 := hX1.block hb1
  obtain ⟨c0, c1, c2⟩ := box3' hb0
  obtain ⟨m0, m1, m2, m3, m4⟩ := box5' hb1
  clear HCK hX0 hX1
  by_cases h0 : chk C P R = 0
  · rw [h0]
    go_wp2_with fail
    with_reducible refine (HCA.out _ hE1).mono ?_
    rintro e w2 ⟨rfl, hX2⟩
    have hE2 := hE1.trans hX2
    have hb0 := hX2.block hb0
    have hb1 := hX2.block hb1
    obtain ⟨c0, c1, c2⟩ := box3' hb0
    obtain ⟨m0, m1, m2, m3, m4⟩ := box5' hb1
    have c0 := cell_regrown c0
    have m1 := cell_regrown m1
    have m2 := cell_regrown m2
    have m3 := cell_regrown m3
    have m4 := cell_regrown m4
    clear HCA hE1 hX2 hb0 hb1 c1 c2 m0
    rcases idx_find (fun c => c.a == m.a) C with ⟨hi, hf2⟩ | ⟨k, hk, hi, hf2⟩
    · rw [hi]
      have HR : Hid (meaE C P R m = 1) := by show _ = _; unfold meaE; rw [if_pos h0, show findC C m.a = none from hf2]
      clear hf2 hi h0
      go_wp2_with fail
      refine wp_region_quiet_below (by kernel_rfl) (by kernel_rfl) ?_
      repeat (with_reducible refine wpQuiet_step (fun K hK => ?_); go_simp; first | (with_reducible refine hK _ ?_; clear hK K) | (rw [if_neg (by simp [undef])]; with_reducible refine hK _ ?_; clear hK K))
      refine wpQuiet_nil ?_
      intro _ hw'
      obtain ⟨⟨dq, osq⟩, hw''⟩ := hw'
      subst hw''
      have hXq : Ext w2 (Go.Sort.grow (redrawn w2 dq) osq) := below_regrown w2 dq osq
      go_wp2_with fail
      go_ret
      exact ⟨by rw [HR.out]; rfl, hX.trans (hE2.trans hXq)⟩
    · rw [hi]
      obtain ⟨b, off, x, hx, rfl, q0, q1, q2, q3, q4⟩ := five_at HC.out hE2 hk
      rw [← hx] at hf2
      have hk0 : (0 : Int) ≤ (k : Int) := by omega
      have hk1 : (k : Int) < (C.length : Int) := by omega
      have hmax : (if (k : Int) < 0 then (0 : Int) else (k : Int)) = (k : Int) := if_neg (by omega)
      have q1 := cell_regrown q1
      have HR : Hid (meaE C P R m = if okM x m.b m.c m.d m.e then 0 else 1) := by show _ = _; unfold meaE; rw [if_pos h0, show findC C m.a = some x from hf2]
      unfold okM at HR
      have g1 := regrow (w := w2) (fun w' _ => rin' m.b x.b 4000 w')
      have g2 := regrow (w := w2) (fun w' _ => rin' m.c 0 100000 w')
      have g3 := regrow (w := w2) (fun w' _ => rin' m.d 0 99 w')
      have g4 := regrow (w := w2) (fun w' _ => rin' m.e 0 100000 w')
      generalize inB m.b x.b 4000 = p1 at g1 HR
      generalize inB m.c 0 100000 = p2 at g2 HR
      generalize inB m.d 0 99 = p3 at g3 HR
      generalize inB m.e 0 100000 = p4 at g4 HR
      clear hx hi hf2 h0 q0 q2 q3 q4
      have hcs : p1 = false ∨ (p1 = true ∧ p2 = false) ∨ (p1 = true ∧ p2 = true ∧ p3 = false) ∨ (p1 = true ∧ p2 = true ∧ p3 = true ∧ p4 = false) ∨ (p1 = true ∧ p2 = true ∧ p3 = true ∧ p4 = true) := by
        cases p1 <;> cases p2 <;> cases p3 <;> cases p4 <;> simp
      rcases hcs with rfl | ⟨rfl, rfl⟩ | ⟨rfl, rfl, rfl⟩ | ⟨rfl, rfl, rfl, rfl⟩ | ⟨rfl, rfl, rfl, rfl⟩
      all_goals as_aux_lemma =>
        go_wp2_with fail
        refine wp_region_quiet_below (by kernel_rfl) (by kernel_rfl) ?_
        repeat (with_reducible refine wpQuiet_step (fun K hK => ?_); go_simp; first | (with_reducible refine hK _ ?_; clear hK K) | (rw [if_neg (by simp [undef])]; with_reducible refine hK _ ?_; clear hK K) | (apply Exists.intro; with_reducible refine ⟨fun _ => ?_, hK _ ?_⟩; (first | with_reducible exact g1 _ _ | with_reducible exact g2 _ _ | with_reducible exact g3 _ _ | with_reducible exact g4 _ _); clear hK K))
        refine wpQuiet_nil ?_
        intro _ hw'
        obtain ⟨⟨dq, osq⟩, hw''⟩ := hw'
        subst hw''
        have hXq : Ext w2 (Go.Sort.grow (redrawn w2 dq) osq) := below_regrown w2 dq osq
        go_wp2_with fail
        go_ret
        exact ⟨by rw [HR.out]; rfl, hX.trans (hE2.trans hXq)⟩
  · have HR : Hid (meaE C P R m = chk C P R) := by show _ = _; unfold meaE; rw [if_neg h0]
    have hnb : (chk C P R == 0) = false := by simpa using h0
    generalize chk C P R = n at HR hnb ⊢
    have hnb2 : (n != 0) = true := by simp [bne, hnb]
    clear h0
    go_wp2_with fail
    go_ret
    exact ⟨by rw [HR.out]; rfl, hX.trans hE1⟩
end Go.Proofs.Ytaggjclaehigjaa
