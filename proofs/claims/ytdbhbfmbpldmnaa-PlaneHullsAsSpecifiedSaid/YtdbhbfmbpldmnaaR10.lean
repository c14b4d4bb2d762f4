/- Contracts of the reference's low and ahead. -/
import Derived.Test.YtdbhbfmbpldmnaaU3
import Derived.Test.YtdbhbfmbpldmnaaR1
import Derived.Lib.QuietBelow
import Derived.Test.YtdbhbfmbpldmnaaX8
namespace Go.Proofs.Ytdbhbfmbpldmnaa
open Go.RowKit Go.Sort
set_option maxRecDepth 100000 in
set_option maxHeartbeats 4000000 in
theorem rlow_any (W : World) (px py ox oy : Int) (w : World) (hX : Ext W w) : Calls Try.prog 136 #[spV px py, spV ox oy] w fun e w' => e = .returned (.int .i64 (lowZ (px, py) (ox, oy))) ∧ Ext W w' := by
  have hc : py < oy ∨ (py = oy ∧ px < ox) ∨ (py = oy ∧ ¬ px < ox) ∨ oy < py := by omega
  rcases hc with h | ⟨rfl, h2⟩ | ⟨rfl, h2⟩ | h
  · have e : lowZ (px, py) (ox, oy) = 1 := by unfold lowZ; rw [if_pos (by simp only; omega)]
    rw [e]
    go_enter Try.func136, Try.ntmps136
    go_wp2_with fail
    go_ret
    exact ⟨rfl, (hX.alloc _).alloc _⟩
  · have e : lowZ (px, py) (ox, py) = 1 := by unfold lowZ; exact if_pos (Or.inr ⟨rfl, h2⟩)
    rw [e]
    go_enter Try.func136, Try.ntmps136
    go_wp2_with fail
    go_ret
    exact ⟨rfl, (hX.alloc _).alloc _⟩
  · have e : lowZ (px, py) (ox, py) = 0 := by unfold lowZ; rw [if_neg (by simp only; omega)]
    rw [e]
    go_enter Try.func136, Try.ntmps136
    go_wp2_with fail
    go_ret
    exact ⟨rfl, (hX.alloc _).alloc _⟩
  · have e : lowZ (px, py) (ox, oy) = 0 := by unfold lowZ; rw [if_neg (by simp only; omega)]
    have d1 : ¬ py < oy := by omega
    have d2 : (py == oy) = false := by rw [beq_eq_false_iff_ne]; omega
    rw [e]
    clear e
    go_enter Try.func136, Try.ntmps136
    go_wp2_with fail
    go_ret
    exact ⟨rfl, (hX.alloc _).alloc _⟩
set_option maxRecDepth 100000 in
set_option maxHeartbeats 8000000 in
theorem rahead_any (W : World) (ox oy px py qx qy : Int) (w : World) (hX : Ext W w) (h1 : okc ox = true) (h2 : okc oy = true) (h3 : okc px = true) (h4 : okc py = true) (h5 : okc qx = true) (h6 : okc qy = true) :
    Calls Try.prog 114 #[spV ox oy, spV px py, spV qx qy] w fun e w' => e = .returned (.bool (aheadB (ox, oy) (px, py) (qx, qy))) ∧ Ext W w' := by
  have i1 := fun w => rlow_any w px py ox oy w (Ext.refl _)
  have i2 := fun w => rlow_any w qx qy ox oy w (Ext.refl _)
  obtain ⟨r, hr⟩ : ∃ r, aheadB (ox, oy) (px, py) (qx, qy) = r := ⟨_, rfl⟩
  have ha := hr
  unfold aheadB at ha
  obtain ⟨a, hla⟩ : ∃ a, lowZ (px, py) (ox, oy) = a := ⟨_, rfl⟩
  obtain ⟨b, hlb⟩ : ∃ a, lowZ (qx, qy) (ox, oy) = a := ⟨_, rfl⟩
  obtain ⟨T, hT⟩ : ∃ a, twz ox oy px py qx qy = a := ⟨_, rfl⟩
  obtain ⟨S1, hS1⟩ : ∃ a, dsz ox oy px py = a := ⟨_, rfl⟩
  obtain ⟨S2, hS2⟩ : ∃ a, dsz ox oy qx qy = a := ⟨_, rfl⟩
  rw [hla] at i1
  rw [hlb] at i2
  rw [hla, hlb, show tw (ox, oy) (px, py) (qx, qy) = T from hT, show sqd (ox, oy) (px, py) = S1 from hS1, show sqd (ox, oy) (qx, qy) = S2 from hS2] at ha
  rw [hr]
  have HT := Lib.hid hT
  have HS1 := Lib.hid hS1
  have HS2 := Lib.hid hS2
  have HAa := Lib.hid ha
  have j1 := Lib.hid i1
  have j2 := Lib.hid i2
  clear hr ha hla hlb hT hS1 hS2 i1 i2
  go_enter Try.func114, Try.ntmps114
  go_wp2_with fail
  have bO := ((BoxN.new w 23 (spC (ox, oy))).ext ((Ext.refl _).alloc (.cells (spC (px, py)) 23))).ext ((Ext.refl _).alloc (.cells (spC (qx, qy)) 23))
  have bP := (BoxN.new (w.alloc (.cells (spC (ox, oy)) 23)) 23 (spC (px, py))).ext ((Ext.refl _).alloc (.cells (spC (qx, qy)) 23))
  have bQ := BoxN.new ((w.alloc (.cells (spC (ox, oy)) 23)).alloc (.cells (spC (px, py)) 23)) 23 (spC (qx, qy))
  rw [World.size_alloc] at bP
  rw [World.size_alloc, World.size_alloc] at bQ
  have hW := ((hX.alloc (.cells (spC (ox, oy)) 23)).alloc (.cells (spC (px, py)) 23)).alloc (.cells (spC (qx, qy)) 23)
  change Calls _ _ _ (((w.alloc (.cells (spC (ox, oy)) 23)).alloc (.cells (spC (px, py)) 23)).alloc (.cells (spC (qx, qy)) 23)) _
  generalize ((w.alloc (.cells (spC (ox, oy)) 23)).alloc (.cells (spC (px, py)) 23)).alloc (.cells (spC (qx, qy)) 23) = w0 at bO bP bQ hW ⊢
  generalize w.heap.size + 1 + 1 = Q at bQ ⊢
  generalize w.heap.size + 1 = P at bP ⊢
  generalize w.heap.size = O at bO ⊢
  clear hX
  with_reducible refine (j1.out w0).mono ?_
  rintro en w1 ⟨rfl, hX⟩
  replace hW := hW.trans hX
  replace bO := bO.ext hX
  replace bP := bP.ext hX
  replace bQ := bQ.ext hX
  clear hX
  obtain ⟨o0, o1, -⟩ := bO.box2
  obtain ⟨q0, q1, -⟩ := bQ.box2
  simp only at o0 o1 q0 q1
  go_wp2_with fail
  clear o0 o1 q0 q1
  with_reducible refine (j2.out w1).mono ?_
  rintro en w2 ⟨rfl, hX⟩
  replace hW := hW.trans hX
  replace bO := bO.ext hX
  replace bP := bP.ext hX
  replace bQ := bQ.ext hX
  clear hX
  by_cases e : a = b
  · have HAb := HAa.out
    rw [if_pos e] at HAb
    have d : (a != b) = false := by simp [e]
    have HAc := Lib.hid HAb
    clear HAb e
    obtain ⟨o0, o1, -⟩ := bO.box2
    obtain ⟨p0, p1, -⟩ := bP.box2
    obtain ⟨q0, q1, -⟩ := bQ.box2
    simp only at o0 o1 p0 p1 q0 q1
    go_wp2_with fail
    clear o0 o1 p0 p1 q0 q1
    with_reducible refine (rTwice w2 ox oy px py qx qy _ (Ext.refl _) h1 h2 h3 h4 h5 h6).mono ?_
    rintro en w3 ⟨rfl, hX⟩
    rw [HT.out]
    replace hW := hW.trans hX
    replace bO := bO.ext hX
    replace bP := bP.ext hX
    replace bQ := bQ.ext hX
    clear hX d
    by_cases e : T = 0
    · have HAb := HAc.out
      rw [if_pos e] at HAb
      have d : (T != 0) = false := by simp [e]
      have HAd := Lib.hid HAb
      clear HAb e HT
      obtain ⟨o0, o1, -⟩ := bO.box2
      obtain ⟨p0, p1, -⟩ := bP.box2
      obtain ⟨q0, q1, -⟩ := bQ.box2
      have o0 := cell_regrown o0
      have o1 := cell_regrown o1
      have p0 := cell_regrown p0
      have p1 := cell_regrown p1
      have q0 := cell_regrown q0
      have q1 := cell_regrown q1
      have cS1 := regrow (w := w3) (fun w' => rSquare w' ox oy px py w' (Ext.refl _) h1 h2 h3 h4)
      have cS2 := regrow (w := w3) (fun w' => rSquare w' ox oy qx qy w' (Ext.refl _) h1 h2 h5 h6)
      rw [HS1.out] at cS1
      rw [HS2.out] at cS2
      go_wp2_with fail
      refine wp_region_quiet_below (by kernel_rfl) (by kernel_rfl) ?_
      repeat (with_reducible refine wpQuiet_step (fun K hK => ?_); go_simp; first | (with_reducible refine hK _ ?_; clear hK K) | (apply Exists.intro; with_reducible refine ⟨fun _ => ?_, hK _ ?_⟩; (first | with_reducible exact cS1 _ _ | with_reducible exact cS2 _ _); clear hK K))
      refine wpQuiet_nil ?_
      intro _ hw'
      obtain ⟨⟨dq, osq⟩, hw''⟩ := hw'
      subst hw''
      have hXq : Ext w3 (Go.Sort.grow (redrawn w3 dq) osq) := below_regrown w3 dq osq
      have hW := hW.trans hXq
      change Exit.then _ _ Exit.normal _ (Go.Sort.grow (redrawn w3 dq) osq)
      generalize Go.Sort.grow (redrawn w3 dq) osq = w4 at hW ⊢
      clear hXq o0 o1 p0 p1 q0 q1 cS1 cS2
      go_wp2_with fail
      go_ret
      exact ⟨ret_bool HAd.out, hW⟩
    · have HAb := HAc.out
      rw [if_neg e] at HAb
      have d : (T != 0) = true := by simp [e]
      have HAd := Lib.hid HAb
      clear HAb e HT
      go_wp2_with fail
      go_ret
      exact ⟨ret_bool HAd.out, hW⟩
  · have HAb := HAa.out
    rw [if_neg e] at HAb
    have d : (a != b) = true := by simp [e]
    have HAc := Lib.hid HAb
    clear HAb e
    go_wp2_with fail
    go_ret
    exact ⟨ret_bool HAc.out, hW⟩
end Go.Proofs.Ytdbhbfmbpldmnaa
