/- Contract of half, of the closure that Around sorts with. Plain law: the order in which points are seen is a strict weak order. Contract of Around. -/
import Derived.Test.YtdbhbfmbpldmnaaX6
import Derived.Lib.QuietBelow
import Derived.Test.YtdbhbfmbpldmnaaX8
import Derived.Test.YtdbhbfmbpldmnaaP2
import Derived.Deep.DeepCutAuto
import Derived.Test.YtdbhbfmbpldmnaaQQ
import Derived.Test.YtdbhbfmbpldmnaaSS
import Derived.Test.YtdbhbfmbpldmnaaC4
namespace Go.Proofs.Ytdbhbfmbpldmnaa
open Go.RowKit
def hfZ (x y : Int) : Int := if 0 < y ∨ (y = 0 ∧ 0 < x) then 0 else 1
set_option maxHeartbeats 800000 in
theorem half_any (W : World) (x y : Int) (w : World) (hX : Ext W w) : Calls Try.prog 113 #[spV x y] w fun e w' => e = .returned (.int .i64 (hfZ x y)) ∧ Ext W w' := by
  have hc : 0 < y ∨ (y = 0 ∧ 0 < x) ∨ (y = 0 ∧ ¬ 0 < x) ∨ y < 0 := by omega
  rcases hc with h | ⟨h, h2⟩ | ⟨h, h2⟩ | h
  · have e : hfZ x y = 0 := by unfold hfZ; rw [if_pos (.inl h)]
    have d1 : decide (0 < y) = true := decide_eq_true h
    rw [e]
    go_enter Try.func113, Try.ntmps113
    go_wp2_with fail
    go_ret
    exact ⟨rfl, hX.alloc _⟩
  · have e : hfZ x y = 0 := by unfold hfZ; rw [if_pos (.inr ⟨h, h2⟩)]
    rw [e]
    subst h
    have d2 : decide (0 < x) = true := decide_eq_true h2
    go_enter Try.func113, Try.ntmps113
    go_wp2_with fail
    go_ret
    exact ⟨rfl, hX.alloc _⟩
  · have e : hfZ x y = 1 := by unfold hfZ; rw [if_neg (by omega)]
    rw [e]
    subst h
    have d2 : decide (0 < x) = false := decide_eq_false h2
    go_enter Try.func113, Try.ntmps113
    go_wp2_with fail
    go_ret
    exact ⟨rfl, hX.alloc _⟩
  · have e : hfZ x y = 1 := by unfold hfZ; rw [if_neg (by omega)]
    have d1 : decide (0 < y) = false := decide_eq_false (by omega)
    have d2 : decide (y = 0) = false := decide_eq_false (by omega)
    have d3 : (y == 0) = false := by rw [beq_eq_false_iff_ne]; omega
    rw [e]
    go_enter Try.func113, Try.ntmps113
    go_wp2_with fail
    go_ret
    exact ⟨rfl, hX.alloc _⟩
def cfZ (o p q : Int × Int) : Int :=
  if hfZ (p.1 - o.1) (p.2 - o.2) = hfZ (q.1 - o.1) (q.2 - o.2) then
    (if twz o.1 o.2 p.1 p.2 q.1 q.2 = 0 then sgz (dsz p.1 p.2 o.1 o.2 - dsz q.1 q.2 o.1 o.2) else -sgz (twz o.1 o.2 p.1 p.2 q.1 q.2))
  else hfZ (p.1 - o.1) (p.2 - o.2) - hfZ (q.1 - o.1) (q.2 - o.2)
theorem dsz_in (ax ay bx b_y : Int) (h1 : okc ax = true) (h2 : okc ay = true) (h3 : okc bx = true) (h4 : okc b_y = true) : -17592186044416 ≤ dsz ax ay bx b_y ∧ dsz ax ay bx b_y ≤ 17592186044416 := by
  rw [okc_iff] at h1 h2 h3 h4
  have a := mul_bd (a := ax - bx) (b := ax - bx) (A := 2097152) (B := 2097152) (by omega) (by omega) (by omega) (by omega)
  have b := mul_bd (a := ay - b_y) (b := ay - b_y) (A := 2097152) (B := 2097152) (by omega) (by omega) (by omega) (by omega)
  unfold dsz
  omega
set_option maxRecDepth 100000 in
set_option maxHeartbeats 16000000 in
theorem around1_any (W : World) (L O b off n cap : Nat) (ox oy px py qx qy : Int) (i k : Nat) (w : World) (hX : Ext W w)
    (hL : w.cell? ⟨L, 0, none⟩ = some (.slice (some ⟨b, off, none⟩) n cap)) (hO0 : w.cell? ⟨O, 0, none⟩ = some (.int .i64 ox)) (hO1 : w.cell? ⟨O, 1, none⟩ = some (.int .i64 oy))
    (hi : i < n) (hk : k < n) (hi0 : w.cell? ⟨b, off + i * 2, none⟩ = some (.int .i64 px)) (hi1 : w.cell? ⟨b, off + i * 2 + 1, none⟩ = some (.int .i64 py))
    (hk0 : w.cell? ⟨b, off + k * 2, none⟩ = some (.int .i64 qx)) (hk1 : w.cell? ⟨b, off + k * 2 + 1, none⟩ = some (.int .i64 qy))
    (ko : okc ox = true) (ko2 : okc oy = true) (kp : okc px = true) (kp2 : okc py = true) (kq : okc qx = true) (kq2 : okc qy = true) :
    Calls Try.prog 112 #[.int .i64 i, .int .i64 k, .pointer (some ⟨L, 0, none⟩), .pointer (some ⟨O, 0, none⟩)] w fun e w' => e = .returned (.int .i64 (cfZ (ox, oy) (px, py) (qx, qy))) ∧ Ext W w' := by
  have m1 := (okc_iff ox).1 ko
  have m2 := (okc_iff oy).1 ko2
  have m3 := (okc_iff px).1 kp
  have m4 := (okc_iff py).1 kp2
  have m5 := (okc_iff qx).1 kq
  have m6 := (okc_iff qy).1 kq2
  have lL := lt_of_cell hL
  have lO := lt_of_cell hO0
  have lb := lt_of_cell hi0
  simp only at lL lO lb
  have zi : (i : Int) < (n : Int) := by omega
  have zk : (k : Int) < (n : Int) := by omega
  go_enter Try.func112, Try.ntmps112
  go_wp2_with fail
  have hK2 : ∀ w', Ext w w' → Ext w w' ∧ w'.cell? ⟨L, 0, none⟩ = some (.slice (some ⟨b, off, none⟩) n cap) ∧ w'.cell? ⟨O, 0, none⟩ = some (.int .i64 ox) ∧ w'.cell? ⟨O, 1, none⟩ = some (.int .i64 oy) ∧ w'.cell? ⟨b, off + i * 2, none⟩ = some (.int .i64 px) ∧ w'.cell? ⟨b, off + i * 2 + 1, none⟩ = some (.int .i64 py) ∧ w'.cell? ⟨b, off + k * 2, none⟩ = some (.int .i64 qx) ∧ w'.cell? ⟨b, off + k * 2 + 1, none⟩ = some (.int .i64 qy) := fun w' x => ⟨x, x.cell hL, x.cell hO0, x.cell hO1, x.cell hi0, x.cell hi1, x.cell hk0, x.cell hk1⟩
  have HK2 := Lib.hid hK2
  clear hK2
  have hX0 := Ext.refl w
  obtain ⟨ax, hax⟩ : ∃ z, px - ox = z := ⟨_, rfl⟩
  obtain ⟨ay, hay⟩ : ∃ z, py - oy = z := ⟨_, rfl⟩
  obtain ⟨bx, hbx⟩ : ∃ z, qx - ox = z := ⟨_, rfl⟩
  obtain ⟨b_y, hby⟩ : ∃ z, qy - oy = z := ⟨_, rfl⟩
  have w1 : IntKind.i64.wrap ax = ax := by rw [IntKind.wrap_i64]; omega
  have w2 : IntKind.i64.wrap ay = ay := by rw [IntKind.wrap_i64]; omega
  have w3 : IntKind.i64.wrap bx = bx := by rw [IntKind.wrap_i64]; omega
  have w4 : IntKind.i64.wrap b_y = b_y := by rw [IntKind.wrap_i64]; omega
  go_cut [7, 8] (fun v u wx => ∃ M N, v = .pointer (some ⟨M, 0, none⟩) ∧ u = .pointer (some ⟨N, 0, none⟩) ∧ Sp2 wx M ax ay ∧ Sp2 wx N bx b_y ∧ Ext w wx)
  case first =>
    go_region_held3 (fun w' => Ext w w' ∧ w'.cell? ⟨L, 0, none⟩ = some (.slice (some ⟨b, off, none⟩) n cap) ∧ w'.cell? ⟨O, 0, none⟩ = some (.int .i64 ox) ∧ w'.cell? ⟨O, 1, none⟩ = some (.int .i64 oy) ∧ w'.cell? ⟨b, off + i * 2, none⟩ = some (.int .i64 px) ∧ w'.cell? ⟨b, off + i * 2 + 1, none⟩ = some (.int .i64 py) ∧ w'.cell? ⟨b, off + k * 2, none⟩ = some (.int .i64 qx) ∧ w'.cell? ⟨b, off + k * 2 + 1, none⟩ = some (.int .i64 qy)) (first | exact HK2.out _ (by assumption) | exact HK2.out _ (Ext.alloc (by assumption) _) | exact HK2.out _ (Ext.alloc (Ext.alloc (by assumption) _) _) | exact HK2.out _ (Ext.drew (Ext.alloc (by assumption) _)) | (refine HK2.out _ ?_; repeat (first | assumption | refine Ext.drew ?_ | refine Ext.alloc ?_ _ | refine Ext.setCell ?_ ?_ _ | exact Ext.le (by assumption) | exact Nat.le_refl _ | exact Nat.le_trans (Ext.le (by assumption)) (Nat.le_succ _)))) (fail)
    all_goals (try go_wp2_with fail)
    all_goals go_meet
    · exact ⟨_, _, rfl, rfl, (sp_new _ _ _ _).alloc _, sp_new1 _ _ _ _ _, ((hX0.alloc _).alloc _).drew⟩
    · exact ⟨_, _, rfl, rfl, sp_new1 _ _ _ _ _, (sp_new _ _ _ _).alloc _, ((hX0.alloc _).alloc _).drew⟩
  case rest =>
  obtain ⟨M, N, rfl, rfl, ⟨c0, c1⟩, ⟨d0, d1⟩, hX1⟩ := hcut
  clear hX0
  obtain ⟨h1, hh1⟩ : ∃ z, hfZ ax ay = z := ⟨_, rfl⟩
  obtain ⟨h2, hh2⟩ : ∃ z, hfZ bx b_y = z := ⟨_, rfl⟩
  have hb1 : h1 = 0 ∨ h1 = 1 := by rw [← hh1]; unfold hfZ; split <;> omega
  have hb2 : h2 = 0 ∨ h2 = 1 := by rw [← hh2]; unfold hfZ; split <;> omega
  have HZ : Hid (cfZ (ox, oy) (px, py) (qx, qy) = if h1 = h2 then (if twz ox oy px py qx qy = 0 then sgz (dsz px py ox oy - dsz qx qy ox oy) else -sgz (twz ox oy px py qx qy)) else h1 - h2) := by
    unfold Hid cfZ
    simp only [hax, hay, hbx, hby, hh1, hh2]
  have hT : twz ox oy px py qx qy = ax * b_y - ay * bx := by unfold twz; rw [← hax, ← hay, ← hbx, ← hby]
  have hA := regrow (w := wc) (fun w' => half_any w' ax ay w' (Ext.refl _))
  have hB := regrow (w := wc) (fun w' => half_any w' bx b_y w' (Ext.refl _))
  rw [hh1] at hA
  rw [hh2] at hB
  have r0 := cell_regrown c0
  have r1 := cell_regrown c1
  have r2 := cell_regrown d0
  have r3 := cell_regrown d1
  by_cases heq : h1 = h2
  · have HZ2 : Hid (cfZ (ox, oy) (px, py) (qx, qy) = if twz ox oy px py qx qy = 0 then sgz (dsz px py ox oy - dsz qx qy ox oy) else -sgz (twz ox oy px py qx qy)) := by unfold Hid; rw [HZ.out, if_pos heq]
    have hne : (h1 != h2) = false := by rw [bne_eq_false_iff_eq]; exact heq
    clear HZ hb1 hb2 hh1 hh2
    have HEQ := Lib.hid heq
    clear heq
    have b1 := mul_bd (a := ax) (b := b_y) (A := 2097152) (B := 2097152) (by omega) (by omega) (by omega) (by omega)
    have b2 := mul_bd (a := ay) (b := bx) (A := 2097152) (B := 2097152) (by omega) (by omega) (by omega) (by omega)
    obtain ⟨v1, hv1⟩ : ∃ z, ax * b_y = z := ⟨_, rfl⟩
    obtain ⟨v2, hv2⟩ : ∃ z, ay * bx = z := ⟨_, rfl⟩
    rw [hv1] at b1 hT
    rw [hv2] at b2 hT
    obtain ⟨T, hT2⟩ : ∃ z, twz ox oy px py qx qy = z := ⟨_, rfl⟩
    rw [hT2] at HZ2 hT
    have hT3 : v1 - v2 = T := hT.symm
    have wv1 : wrap64 v1 = v1 := IntWalk.wrap64_in _ (by omega)
    have wv2 : wrap64 v2 = v2 := IntWalk.wrap64_in _ (by omega)
    have wvs : wrap64 (v1 - v2) = T := (IntWalk.wrap64_in _ (by omega)).trans hT3
    clear hT
    have wT2 : wrap64 T = T := IntWalk.wrap64_in _ (by omega)
    have wT : IntKind.i64.wrap T = T := by rw [IntKind.wrap_i64]; omega
    go_wp2_with fail
    refine wp_region_quiet_below (by kernel_rfl) (by kernel_rfl) ?_
    repeat (quiet_step (first | with_reducible exact hA _ _ | with_reducible exact hB _ _))
    refine wpQuiet_nil ?_
    intro _ hw'
    obtain ⟨⟨dq, osq⟩, hw''⟩ := hw'
    subst hw''
    have hXq : Ext wc (Go.Sort.grow (redrawn wc dq) osq) := below_regrown wc dq osq
    change Exit.then _ _ Exit.normal _ (Go.Sort.grow (redrawn wc dq) osq)
    generalize Go.Sort.grow (redrawn wc dq) osq = wy at hXq ⊢
    have hX2 := hX1.trans hXq
    have c0 := hXq.cell c0
    have c1 := hXq.cell c1
    have d0 := hXq.cell d0
    have d1 := hXq.cell d1
    clear hA hB r0 r1 r2 r3 hXq hne
    by_cases hT0 : T = 0
    · subst hT0
      have HZ3 : Hid (cfZ (ox, oy) (px, py) (qx, qy) = sgz (dsz px py ox oy - dsz qx qy ox oy)) := by unfold Hid; rw [HZ2.out, if_pos rfl]
      clear HZ2
      have hD1 := dsz_in px py ox oy kp kp2 ko ko2
      have hD2 := dsz_in qx qy ox oy kq kq2 ko ko2
      have e0 := cell_regrown (hX2.cell hL)
      have e1 := cell_regrown (hX2.cell hO0)
      have e2 := cell_regrown (hX2.cell hO1)
      have e3 := cell_regrown (hX2.cell hi0)
      have e4 := cell_regrown (hX2.cell hi1)
      have e5 := cell_regrown (hX2.cell hk0)
      have e6 := cell_regrown (hX2.cell hk1)
      have hA := regrow (w := wy) (fun w' => dist_any w' px py ox oy w' (Ext.refl _) kp kp2 ko ko2)
      have hB := regrow (w := wy) (fun w' => dist_any w' qx qy ox oy w' (Ext.refl _) kq kq2 ko ko2)
      obtain ⟨D1, hd1⟩ : ∃ z, dsz px py ox oy = z := ⟨_, rfl⟩
      obtain ⟨D2, hd2⟩ : ∃ z, dsz qx qy ox oy = z := ⟨_, rfl⟩
      rw [hd1] at hA hD1 HZ3
      rw [hd2] at hB hD2 HZ3
      have wd : IntKind.i64.wrap (D1 - D2) = D1 - D2 := by rw [IntKind.wrap_i64]; omega
      have hC := regrow (w := wy) (fun w' => sign_any w' (D1 - D2) w' (Ext.refl _))
      clear hd1 hd2
      go_wp2_with fail
      refine wp_region_quiet_below (by kernel_rfl) (by kernel_rfl) ?_
      repeat (quiet_step (first | with_reducible exact hA _ _ | with_reducible exact hB _ _ | with_reducible exact hC _ _))
      refine wpQuiet_nil ?_
      intro _ hw'
      obtain ⟨⟨dq, osq⟩, hw''⟩ := hw'
      subst hw''
      have hXq : Ext wy (Go.Sort.grow (redrawn wy dq) osq) := below_regrown wy dq osq
      change Exit.then _ _ Exit.normal _ (Go.Sort.grow (redrawn wy dq) osq)
      generalize Go.Sort.grow (redrawn wy dq) osq = wz at hXq ⊢
      go_wp2_with fail
      go_ret
      exact ⟨by rw [HZ3.out]; rfl, hX.trans (hX2.trans hXq)⟩
    · have HZ3 : Hid (cfZ (ox, oy) (px, py) (qx, qy) = -sgz T) := by unfold Hid; rw [HZ2.out, if_neg hT0]
      have hs := sgz_range T
      obtain ⟨S, hS⟩ : ∃ z, sgz T = z := ⟨_, rfl⟩
      rw [hS] at HZ3 hs
      have wd : IntKind.i64.wrap (-S) = -S := by rw [IntKind.wrap_i64]; omega
      clear HZ2
      go_wp2_with fail
      refine (sign_any _ _ _ (Ext.refl _)).mono ?_
      rintro en wz ⟨rfl, hXq⟩
      rw [hS]
      go_wp2_with fail
      go_ret
      exact ⟨by rw [HZ3.out]; rfl, hX.trans (hX2.trans hXq)⟩
  · have HZ2 : Hid (cfZ (ox, oy) (px, py) (qx, qy) = h1 - h2) := by unfold Hid; rw [HZ.out, if_neg heq]
    have wh : IntKind.i64.wrap (h1 - h2) = h1 - h2 := by rw [IntKind.wrap_i64]; omega
    have hne : (h1 != h2) = true := by rw [bne_iff_ne]; exact heq
    clear HZ hT hb1 hb2
    go_wp2_with fail
    refine wp_region_quiet_below (by kernel_rfl) (by kernel_rfl) ?_
    repeat (quiet_step (first | with_reducible exact hA _ _ | with_reducible exact hB _ _))
    refine wpQuiet_nil ?_
    intro _ hw'
    obtain ⟨⟨dq, osq⟩, hw''⟩ := hw'
    subst hw''
    have hXq : Ext wc (Go.Sort.grow (redrawn wc dq) osq) := below_regrown wc dq osq
    change Exit.then _ _ Exit.normal _ (Go.Sort.grow (redrawn wc dq) osq)
    generalize Go.Sort.grow (redrawn wc dq) osq = wy at hXq ⊢
    have hX2 := hX1.trans hXq
    have c0 := hXq.cell c0
    have c1 := hXq.cell c1
    have d0 := hXq.cell d0
    have d1 := hXq.cell d1
    clear hA hB r0 r1 r2 r3 hXq
    have hA := regrow (w := wy) (fun w' => half_any w' ax ay w' (Ext.refl _))
    have hB := regrow (w := wy) (fun w' => half_any w' bx b_y w' (Ext.refl _))
    rw [hh1] at hA
    rw [hh2] at hB
    have r0 := cell_regrown c0
    have r1 := cell_regrown c1
    have r2 := cell_regrown d0
    have r3 := cell_regrown d1
    clear hh1 hh2
    go_wp2_with fail
    refine wp_region_quiet_below (by kernel_rfl) (by kernel_rfl) ?_
    repeat (quiet_step (first | with_reducible exact hA _ _ | with_reducible exact hB _ _))
    refine wpQuiet_nil ?_
    intro _ hw'
    obtain ⟨⟨dq, osq⟩, hw''⟩ := hw'
    subst hw''
    have hXq : Ext wy (Go.Sort.grow (redrawn wy dq) osq) := below_regrown wy dq osq
    change Exit.then _ _ Exit.normal _ (Go.Sort.grow (redrawn wy dq) osq)
    generalize Go.Sort.grow (redrawn wy dq) osq = wz at hXq ⊢
    go_wp2_with fail
    go_ret
    exact ⟨by rw [HZ2.out]; rfl, hX.trans (hX2.trans hXq)⟩
end Go.Proofs.Ytdbhbfmbpldmnaa
namespace Go.Proofs.Ytdbhbfmbpldmnaa
open Go.Sort
/-- p is seen ahead of q -/
def seeP (o p q : Int × Int) : Prop := hfZ (p.1 - o.1) (p.2 - o.2) < hfZ (q.1 - o.1) (q.2 - o.2) ∨ (hfZ (p.1 - o.1) (p.2 - o.2) = hfZ (q.1 - o.1) (q.2 - o.2) ∧ (0 < tw o p q ∨ (tw o p q = 0 ∧ sqd p o < sqd q o)))
theorem cfZ_neg (o p q : Int × Int) : cfZ o p q < 0 ↔ seeP o p q := by
  unfold cfZ seeP
  rw [show twz o.1 o.2 p.1 p.2 q.1 q.2 = tw o p q from rfl, show dsz p.1 p.2 o.1 o.2 = sqd p o from rfl, show dsz q.1 q.2 o.1 o.2 = sqd q o from rfl]
  have hs : ∀ n : Int, (sgz n < 0 ↔ n < 0) ∧ (-sgz n < 0 ↔ 0 < n) := by intro n; unfold sgz; (repeat' split) <;> omega
  have h1 := hs (tw o p q)
  have h2 := hs (sqd p o - sqd q o)
  split
  · split
    · rw [h2.1]; omega
    · rw [h1.2]; omega
  · omega
theorem half_cases (x y : Int) (h : ¬ (x = 0 ∧ y = 0)) : (hfZ x y = 0 ∧ (0 < y ∨ (y = 0 ∧ 0 < x))) ∨ (hfZ x y = 1 ∧ (0 < -y ∨ (-y = 0 ∧ 0 < -x))) := by
  unfold hfZ
  split
  · exact .inl ⟨rfl, by assumption⟩
  · exact .inr ⟨rfl, by omega⟩
theorem see_turn {o p q r : Int × Int} (hp : p ≠ o) (hq : q ≠ o) (hr : r ≠ o) (h1 : hfZ (p.1 - o.1) (p.2 - o.2) = hfZ (q.1 - o.1) (q.2 - o.2)) (h2 : hfZ (q.1 - o.1) (q.2 - o.2) = hfZ (r.1 - o.1) (r.2 - o.2)) :
    (0 ≤ tw o p q → 0 ≤ tw o q r → 0 ≤ tw o p r) ∧ (0 < tw o p q → 0 ≤ tw o q r → 0 < tw o p r) ∧ (0 ≤ tw o p q → 0 < tw o q r → 0 < tw o p r) ∧
    (tw o p q ≤ 0 → tw o q r ≤ 0 → tw o p r ≤ 0) ∧ (tw o p q < 0 → tw o q r ≤ 0 → tw o p r < 0) ∧ (tw o p q ≤ 0 → tw o q r < 0 → tw o p r < 0) := by
  have nz : ∀ a : Int × Int, a ≠ o → ¬ (a.1 - o.1 = 0 ∧ a.2 - o.2 = 0) := by
    intro a ha h
    exact ha (Prod.ext (by omega) (by omega))
  have ex : tw o p r * (q.2 - o.2) = tw o p q * (r.2 - o.2) + tw o q r * (p.2 - o.2) := by unfold tw twz; grind
  have ey : tw o p r * (q.1 - o.1) = tw o p q * (r.1 - o.1) + tw o q r * (p.1 - o.1) := by unfold tw twz; grind
  rcases half_cases _ _ (nz p hp) with ⟨a1, a2⟩ | ⟨a1, a2⟩ <;> rcases half_cases _ _ (nz q hq) with ⟨b1, b2⟩ | ⟨b1, b2⟩ <;> rcases half_cases _ _ (nz r hr) with ⟨c1, c2⟩ | ⟨c1, c2⟩
  all_goals first
  | (exfalso; omega)
  | skip
  · refine ⟨fun k1 k2 => comb_nonneg b2 c2 a2 ex ey k1 k2, fun k1 k2 => comb_pos b2 c2 a2 ex ey k1 k2, fun k1 k2 => comb_pos b2 a2 c2 (by rw [ex]; omega) (by rw [ey]; omega) k2 k1, fun k1 k2 => ?_, fun k1 k2 => ?_, fun k1 k2 => ?_⟩
    · have := comb_nonneg (s := -tw o p r) (p1 := -tw o p q) (p2 := -tw o q r) b2 c2 a2 (by grind) (by grind) (by omega) (by omega); omega
    · have := comb_pos (s := -tw o p r) (p1 := -tw o p q) (p2 := -tw o q r) b2 c2 a2 (by grind) (by grind) (by omega) (by omega); omega
    · have := comb_pos (s := -tw o p r) (p1 := -tw o q r) (p2 := -tw o p q) b2 a2 c2 (by grind) (by grind) (by omega) (by omega); omega
  · refine ⟨fun k1 k2 => comb_nonneg b2 c2 a2 (by grind) (by grind) k1 k2, fun k1 k2 => comb_pos b2 c2 a2 (by grind) (by grind) k1 k2, fun k1 k2 => comb_pos b2 a2 c2 (by grind) (by grind) k2 k1, fun k1 k2 => ?_, fun k1 k2 => ?_, fun k1 k2 => ?_⟩
    · have := comb_nonneg (s := -tw o p r) (p1 := -tw o p q) (p2 := -tw o q r) b2 c2 a2 (by grind) (by grind) (by omega) (by omega); omega
    · have := comb_pos (s := -tw o p r) (p1 := -tw o p q) (p2 := -tw o q r) b2 c2 a2 (by grind) (by grind) (by omega) (by omega); omega
    · have := comb_pos (s := -tw o p r) (p1 := -tw o q r) (p2 := -tw o p q) b2 a2 c2 (by grind) (by grind) (by omega) (by omega); omega
theorem seeP_trans {o p q r : Int × Int} (hp : p ≠ o) (hq : q ≠ o) (hr : r ≠ o) (h : seeP o p q) (k : seeP o q r) : seeP o p r := by
  unfold seeP at *
  rcases h with h | ⟨h1, h2⟩ <;> rcases k with k | ⟨k1, k2⟩
  · exact .inl (by omega)
  · exact .inl (by omega)
  · exact .inl (by omega)
  · have t := see_turn hp hq hr h1 k1
    refine .inr ⟨h1.trans k1, ?_⟩
    rcases h2 with h2 | ⟨h2, h3⟩ <;> rcases k2 with k2 | ⟨k2, k3⟩
    · exact .inl (t.2.1 h2 (by omega))
    · exact .inl (t.2.1 h2 (by omega))
    · exact .inl (t.2.2.1 (by omega) k2)
    · have a := t.1 (by omega) (by omega)
      have b := t.2.2.2.1 (by omega) (by omega)
      exact .inr ⟨by omega, by omega⟩
theorem seeP_ntrans {o p q r : Int × Int} (hp : p ≠ o) (hq : q ≠ o) (hr : r ≠ o) (h : ¬ seeP o p q) (k : ¬ seeP o q r) : ¬ seeP o p r := by
  unfold seeP at *
  by_cases e1 : hfZ (p.1 - o.1) (p.2 - o.2) = hfZ (q.1 - o.1) (q.2 - o.2)
  · by_cases e2 : hfZ (q.1 - o.1) (q.2 - o.2) = hfZ (r.1 - o.1) (r.2 - o.2)
    · have t := see_turn hp hq hr e1 e2
      have h1 : tw o p q < 0 ∨ (tw o p q = 0 ∧ sqd q o ≤ sqd p o) := by omega
      have h2 : tw o q r < 0 ∨ (tw o q r = 0 ∧ sqd r o ≤ sqd q o) := by omega
      rcases h1 with h1 | ⟨h1, h1'⟩ <;> rcases h2 with h2 | ⟨h2, h2'⟩
      · have := t.2.2.2.2.1 h1 (by omega); omega
      · have := t.2.2.2.2.1 h1 (by omega); omega
      · have := t.2.2.2.2.2 (by omega) h2; omega
      · have a := t.1 (by omega) (by omega)
        have b := t.2.2.2.1 (by omega) (by omega)
        omega
    · omega
  · omega
theorem seeP_irrefl (o p : Int × Int) : ¬ seeP o p p := by
  unfold seeP
  rw [tw_self2]
  omega
theorem see_swo {α : Type} (o : Int × Int) (f : α → Int × Int) (h : ∀ x, f x ≠ o) : SWO (ltOf fun x y => cfZ o (f x) (f y)) where
  irrefl x := by
    have : ¬ cfZ o (f x) (f x) < 0 := fun k => seeP_irrefl _ _ ((cfZ_neg _ _ _).1 k)
    exact decide_eq_false this
  trans x y z a b := by
    have a := of_decide_eq_true a
    have b := of_decide_eq_true b
    exact decide_eq_true ((cfZ_neg _ _ _).2 (seeP_trans (h x) (h y) (h z) ((cfZ_neg _ _ _).1 a) ((cfZ_neg _ _ _).1 b)))
  ntrans x y z a b := by
    have a := of_decide_eq_false a
    have b := of_decide_eq_false b
    exact decide_eq_false (fun c => seeP_ntrans (h x) (h y) (h z) (fun k => a ((cfZ_neg _ _ _).2 k)) (fun k => b ((cfZ_neg _ _ _).2 k)) ((cfZ_neg _ _ _).1 c))
end Go.Proofs.Ytdbhbfmbpldmnaa
namespace Go.Proofs.Ytdbhbfmbpldmnaa
open Go.RowKit Go.Sort
/-- A slice value that holds a list of numbers. -/
def Ints (w : World) (v : Value) (l : List Nat) : Prop :=
  ∃ a cap, v = .slice a l.length cap ∧ l.length ≤ cap ∧ cap ≤ maxLen ∧ (l = [] ∨ ∃ b off, a = some ⟨b, off, none⟩ ∧ ∀ i, (h : i < l.length) → w.cell? ⟨b, off + i, none⟩ = some (.int .i64 (l[i] : Int)))
theorem Ints.ext {w w' : World} {v : Value} {l : List Nat} (h : Ints w v l) (x : Ext w w') : Ints w' v l := by
  obtain ⟨a, cap, hv, hl, hm, h⟩ := h
  refine ⟨a, cap, hv, hl, hm, h.imp id ?_⟩
  rintro ⟨b, off, ha, hc⟩
  exact ⟨b, off, ha, fun i hi => x.cell (hc i hi)⟩
def ints (l : List Nat) : List Value := l.map fun n : Nat => .int .i64 (n : Int)
def OwnI (base : Nat) (w : World) (v : Value) (l : List Nat) : Prop := w.ownsRow base 3 1 v l.length (ints l)
theorem OwnI.nil (base : Nat) (w : World) : OwnI base w (.slice none 0 0) [] := World.ownsRow_nil w base 3 1
theorem OwnI.ext {base : Nat} {w w' : World} {v : Value} {l : List Nat} (h : OwnI base w v l) (x : Ext w w') : OwnI base w' v l := by
  obtain ⟨h1, h2⟩ := h
  refine ⟨h1, ?_⟩
  rcases h2 with h2 | ⟨g, cap, cur, hv, hb, hg, r⟩
  · exact Or.inl h2
  · exact Or.inr ⟨g, cap, cur, hv, hb, (x.block g (Array.getElem?_eq_some_iff.1 hg).1).trans hg, r⟩
theorem info3 : (Try.prog.info? 3).map (fun i => (i.zero, i.size, i.bytes)) = some (some (.int .i64 0), 1, 8) := by kernel_rfl
/-- append of one number to a slice of the call's own -/
theorem app_int {ops : Array Oper} {rest : List Oper} {o : Oper} {a : Act} {w : World} {Q : Exit → Act → World → Prop} (hgd : o.guard = none) (s x : Operand)
    (ho : o.op = .call { callee := .builtin .append, args := #[s, x], argTypes := #[62, 62] }) (base : Nat) (v : Value) (l : List Nat) (hs : a.eval s = v) (hown : OwnI base w v l)
    (n : Nat) (p : Nat) (hx : a.eval x = .slice (some ⟨n, 0, none⟩) 1 1) (h1 : w.cell? ⟨n, 0, none⟩ = some (.int .i64 (p : Int)))
    (hlen : l.length ≤ 8000000000000) {W0 : World} (hE0 : Ext W0 w) (hbase0 : base ≤ W0.heap.size)
    (h : ∀ v' w', OwnI base w' v' (l ++ [p]) → (∀ W : World, W.heap.size ≤ base → Ext W w → Ext W w') → wpList Try.prog ops Q rest (a.put o.dst v') w') : wpList Try.prog ops Q (o :: rest) a w := by
  have hbase : base ≤ w.heap.size := Nat.le_trans hbase0 hE0.size
  obtain ⟨i0, hi, hz0, hz1, hz2⟩ := info_parts info3
  refine wpList_append_own _ hgd s x 62 ho base 3 i0 _ 1 8 Try.underlying62 hi hz0 hz1 hz2 rfl (by decide) v l.length (ints l) hs hown ⟨n, 0, none⟩ 1 1 [.int .i64 (p : Int)] hx rfl ?_ ?_ ?_ ?_ hbase ?_
  · intro j u hj
    match j, hj with
    | 0, hj => simpa [Addr.add, ← hj] using h1
    | j + 1, hj => simp at hj
  · intro u hu
    simp at hu
    subst hu
    rfl
  · simp only [maxLen]; omega
  · omega
  · intro v' w' ho' hg _
    refine h v' w' ?_ ?_
    · unfold OwnI
      rw [show ints (l ++ [p]) = ints l ++ [.int .i64 (p : Int)] from by simp [ints]]
      simpa using ho'
    · intro W hW hE
      refine Below.grown hE hg hE.size ?_
      intro k hk
      have := (World.ownsRow.lt hown k hk).1
      omega
/-- the row of the sort: the numbers from 0 on -/
theorem OwnI.row {n : Nat} {base : Nat} {w : World} {v : Value} (h : OwnI base w v (List.range (n + 1))) :
    ∃ g cap, v = .slice (some ⟨g, 0, none⟩) (n + 1) cap ∧ n + 1 ≤ cap ∧ cap ≤ maxLen ∧ base ≤ g ∧ g < w.heap.size ∧ RW (fun x : Fin (n + 1) => (x.1 : Int)) w g 0 (List.finRange (n + 1)).toArray w := by
  obtain ⟨h1, h2⟩ := h
  rcases h2 with ⟨hv, hn⟩ | ⟨g, cap, cur, hv, hb, hg, hle, hm, hsz, htk⟩
  · simp at hn
  · refine ⟨g, cap, by simpa using hv, by simpa using hle, hm, hb, (Array.getElem?_eq_some_iff.1 hg).1, KX.refl _ _, ⟨rfl, rfl, rfl⟩, fun i hi => ?_⟩
    have hi' : i < n + 1 := by simpa using hi
    have e : (List.finRange (n + 1)).toArray[i]! = (⟨i, hi'⟩ : Fin (n + 1)) := by
      rw [getElem!_pos (List.finRange (n + 1)).toArray i hi]
      simp
    rw [e]
    constructor
    · have hc : (ints (List.range (n + 1)))[i]? = some (.int .i64 (i : Int)) := by
        simp only [ints, List.getElem?_map]
        rw [List.getElem?_range hi']
        rfl
      rw [← htk, List.getElem?_take] at hc
      split at hc
      · unfold World.cell?
        simp only [hg]
        simpa using hc
      · cases hc
    · unfold World.frozen?
      simp [hg]
def arE (o : Int × Int) (l : List (Int × Int)) : Int := if 200 < l.length then 2 else if (l.all okp && okp o && !decide (o ∈ l)) = true then 0 else 1
/-- r is the order in which the points of l are seen from o -/
def ArS (o : Int × Int) (l : List (Int × Int)) (r : List Nat) : Prop :=
  r.Perm (List.range l.length) ∧ r.Pairwise (fun i k => lt2 (ltOf fun i k : Nat => cfZ o (l.getD i (0, 0)) (l.getD k (0, 0))) id k i = false)
theorem KX.cell {R : Nat} {w0 w : World} (h : KX R w0 w) {b o : Nat} {v : Value} (hc : w0.cell? ⟨b, o, none⟩ = some v) (hb : b ≠ R) : w.cell? ⟨b, o, none⟩ = some v := by
  have e := h.2 b (lt_of_cell hc) hb
  unfold World.cell? at hc ⊢
  simp only [e] at hc ⊢
  exact hc
theorem getD_in {α : Type} {l : List α} {i : Nat} (d : α) (h : i < l.length) : l.getD i d = l[i] := by simp [h]
theorem fin_at (n i : Nat) (h : i < n + 1) : (List.finRange (n + 1)).toArray[i]! = (⟨i, h⟩ : Fin (n + 1)) := by
  rw [getElem!_pos (List.finRange (n + 1)).toArray i (by simpa using h)]
  simp
theorem RW.ext_of {α : Type} [Inhabited α] {v : α → Int} {w0 W w5 : World} {blk off : Nat} {d : Array α} (h : RW v w0 blk off d W) (x : Ext w5 w0) (hb : w5.heap.size ≤ blk) : Ext w5 W :=
  ⟨h.same.1.trans x.os, h.same.2.1.trans x.tape, h.same.2.2.trans x.output, Nat.le_trans x.le h.kx.1, fun k hk => (h.kx.2 k (Nat.lt_of_lt_of_le hk x.le) (by omega)).trans (x.block k hk)⟩
theorem ars_of {o : Int × Int} {l : List (Int × Int)} {n : Nat} (hn : l.length = n + 1) {d' : Array (Fin (n + 1))} (hp : PermIn 0 (n + 1) (List.finRange (n + 1)).toArray d')
    (hs : SortedIn (lt2 (ltOf fun x y : Fin (n + 1) => cfZ o (l.getD x.1 (0, 0)) (l.getD y.1 (0, 0))) (fun x => x.1)) 0 (n + 1) d') : ArS o l (d'.toList.map fun x => x.1) := by
  have hz : d'.size = n + 1 := by rw [hp.1]; simp
  constructor
  · have h := hp.2.2
    have ex : ∀ a : Array (Fin (n + 1)), a.size = n + 1 → (a.extract 0 (n + 1)).toList = a.toList := fun a ha => by
      rw [Array.toList_extract]
      simp [List.take_of_length_le, ha]
    rw [ex _ hz, ex _ (by simp)] at h
    have h2 := h.map (fun x : Fin (n + 1) => x.1)
    rw [hn]
    refine h2.trans (List.Perm.of_eq ?_)
    apply List.ext_getElem
    · simp
    · intro i h1 h2
      simp
  · rw [List.pairwise_map, List.pairwise_iff_getElem]
    intro i j hi hj hij
    have := hs i j (Nat.zero_le _) hij (by simpa [hz] using hj)
    rw [getElem!_pos d' i (by simpa using hi), getElem!_pos d' j (by simpa using hj)] at this
    exact this
set_option maxHeartbeats 1000000 in
theorem insSort_nil (W : World) (fv : Value) (w : World) (hX : Ext W w) : Calls Try.prog 149 #[.slice none 0 0, .int .i64 0, .int .i64 0, fv] w fun e w' => e = .returned (.tuple #[]) ∧ Ext W w' := by
  go_enter Try.func149, Try.ntmps149
  go_wp2_with fail
  go_loopw [8] (fun x wr => x = .int .i64 1 ∧ Ext W wr) (fun _ _ => 0)
  case atStart => exact ⟨rfl, hX⟩
  case round =>
    obtain ⟨rfl, hx⟩ := hrel
    go_wp2_with fail
    go_end0
    exact ⟨rfl, hx⟩
set_option maxHeartbeats 1000000 in
theorem stable_nil (W : World) (fv : Value) (w : World) (hX : Ext W w) : Calls Try.prog 135 #[.slice none 0 0, .int .i64 0, fv] w fun e w' => e = .returned (.tuple #[]) ∧ Ext W w' := by
  go_enter Try.func135, Try.ntmps135
  go_wp2_with fail
  go_loopw [7, 8] (fun x y wr => x = .int .i64 0 ∧ y = .int .i64 20 ∧ Ext W wr) (fun _ _ _ => 0)
  case atStart => exact ⟨rfl, rfl, hX⟩
  case round =>
    obtain ⟨rfl, rfl, hx⟩ := hrel
    go_wp2_with fail
    with_reducible refine (insSort_nil _ _ _ hx).mono ?_
    rintro en w2 ⟨rfl, hx2⟩
    go_wp2_with fail
    go_loopw [6] (fun x wr => x = .int .i64 20 ∧ Ext W wr) (fun _ _ => 0)
    case atStart => exact ⟨rfl, hx2⟩
    case round =>
      obtain ⟨rfl, hx3⟩ := hrel
      go_wp2_with fail
      go_end0
      exact ⟨rfl, hx3⟩
theorem sortStable_nil (W : World) (fv : Value) (w : World) (hX : Ext W w) : Calls Try.prog 111 #[.slice none 0 0, fv] w fun e w' => e = .returned (.tuple #[]) ∧ Ext W w' := by
  go_enter Try.func111, Try.ntmps111
  go_wp2_with fail
  with_reducible refine (stable_nil _ _ _ hX).mono ?_
  rintro en w2 ⟨rfl, hx2⟩
  go_wp2_with fail
  go_end0
  exact ⟨rfl, hx2⟩
set_option maxRecDepth 100000 in
set_option maxHeartbeats 8000000 in
theorem Around_any (W : World) (v : Value) (ox oy : Int) (l : List (Int × Int)) (w : World) (hX : Ext W w) (hv : Pts w v l) :
    Calls Try.prog 45 #[spV ox oy, v] w fun e w' => ∃ vv r, e = .returned (.tuple #[vv, .int .i64 (arE (ox, oy) l)]) ∧ Ints w' vv r ∧ Ext W w' ∧ ((arE (ox, oy) l ≠ 0 ∧ r = []) ∨ (arE (ox, oy) l = 0 ∧ ArS (ox, oy) l r)) := by
  obtain ⟨a0, cap0, hv1, hv2, hv3, hv4⟩ := id hv
  subst hv1
  by_cases hbig : 200 < l.length
  · have hbz : (200 : Int) < (l.length : Int) := by omega
    have hE : arE (ox, oy) l = 2 := by unfold arE; rw [if_pos hbig]
    rw [hE]
    go_enter Try.func45, Try.ntmps45
    go_wp2_with fail
    go_ret2
    exact ⟨_, [], rfl, ⟨none, 0, rfl, Nat.le_refl _, by simp [maxLen], .inl rfl⟩, (hX.alloc _).alloc _, .inl ⟨by omega, rfl⟩⟩
  have hbz : ¬ (200 : Int) < (l.length : Int) := by omega
  obtain ⟨p1, hp1⟩ : ∃ p, l.all okp = p := ⟨_, rfl⟩
  obtain ⟨p2, hp2⟩ : ∃ p, okp (ox, oy) = p := ⟨_, rfl⟩
  obtain ⟨p3, hp3⟩ : ∃ p, decide ((ox, oy) ∈ l) = p := ⟨_, rfl⟩
  have hE : Hid (arE (ox, oy) l = if (p1 && p2 && !p3) = true then 0 else 1) := by unfold Hid arE; rw [if_neg hbig, hp1, hp2, hp3]
  have P1 := Lib.hid hp1
  have P2 := Lib.hid hp2
  have P3 := Lib.hid hp3
  clear hp1 hp2 hp3
  have hv4' := Lib.hid hv4
  clear hv4
  go_enter Try.func45, Try.ntmps45
  go_wp2_with fail
  have hO := (BoxN.new w 23 #[.int .i64 ox, .int .i64 oy]).ext ((Ext.refl _).alloc (.cells #[.slice a0 l.length cap0] 39))
  have hL := BoxN.new (w.alloc (.cells #[.int .i64 ox, .int .i64 oy] 23)) 39 #[.slice a0 l.length cap0]
  have hX2 := ((Ext.refl w).alloc (.cells #[.int .i64 ox, .int .i64 oy] 23)).alloc (.cells #[.slice a0 l.length cap0] 39)
  rw [World.size_alloc] at hL
  have zO : w.heap.size ≤ w.heap.size := by omega
  have zL : w.heap.size ≤ w.heap.size + 1 := by omega
  have nOL : w.heap.size ≠ w.heap.size + 1 := by omega
  obtain ⟨w3, hw3⟩ : ∃ w3, ((w.alloc (.cells #[.int .i64 ox, .int .i64 oy] 23)).alloc (.cells #[.slice a0 l.length cap0] 39)) = w3 := ⟨_, rfl⟩
  change BoxN ((w.alloc (.cells #[.int .i64 ox, .int .i64 oy] 23)).alloc (.cells #[.slice a0 l.length cap0] 39)) _ _ _ at hL
  rw [hw3] at hO hL hX2 ⊢
  clear hw3
  have hW := hX
  generalize hqL : w.heap.size + 1 = L at hL zL nOL ⊢
  generalize hqO : w.heap.size = O at hO nOL ⊢
  clear hqL zO
  have hvb := hv.ext hX2
  refine (valid_any _ _ l _ (Ext.refl _) hvb).mono ?_
  rintro en w4 ⟨rfl, hY⟩
  rw [P1.out]
  have hX7 := hY
  clear hY
  have hK : ∀ w', Ext w3 w' → Ext w3 w' ∧ w'.cell? ⟨L, 0, none⟩ = some (.slice a0 l.length cap0) ∧ w'.cell? ⟨O, 0, none⟩ = some (.int .i64 ox) ∧ w'.cell? ⟨O, 1, none⟩ = some (.int .i64 oy) := fun w' x => ⟨x, (hL.ext x).cell 0, (hO.ext x).cell 0, (hO.ext x).cell 1⟩
  have HK := Lib.hid hK
  clear hK
  obtain ⟨_, q0, q1, q2⟩ := HK.out _ hX7
  cases p1 <;> cases p2 <;> cases p3
  all_goals
    go_wp2_with (first | (go_at_call 17; refine (Valid_any _ _ _ _ (Ext.refl _)).mono ?_; rintro en w' ⟨rfl, hY⟩; have hX7 := hX7.trans hY; obtain ⟨_, q0, q1, q2⟩ := HK.out _ hX7; rw [P2.out]) | (go_at_call 110; refine (contP_any _ _ l _ _ _ (Ext.refl _) (hvb.ext hX7)).mono ?_; rintro en w' ⟨rfl, hY⟩; have hX7 := hX7.trans hY; obtain ⟨_, q0, q1, q2⟩ := HK.out _ hX7; rw [P3.out]))
  all_goals (try (
    have hE1 : arE (ox, oy) l = 1 := by rw [hE.out]; rfl
    rw [hE1]
    go_ret2
    exact ⟨_, [], rfl, ⟨none, 0, rfl, Nat.le_refl _, by simp [maxLen], .inl rfl⟩, hW.trans (hX2.trans hX7), .inl ⟨by omega, rfl⟩⟩))
  have hE0 : arE (ox, oy) l = 0 := by rw [hE.out]; rfl
  have HE0 := Lib.hid hE0
  clear hE hE0
  have hr7 : Ext w w' := hX2.trans hX7
  generalize hww : w' = w5 at hX7 hr7 q0 q1 q2 ⊢
  clear hww
  go_loopw [28, 6] (fun x y wr => ∃ i : Nat, x = .int .i64 i ∧ i ≤ l.length ∧ OwnI w5.heap.size wr y (List.range i) ∧ (i = 0 → y = .slice none 0 0) ∧ Ext w5 wr) (fun x _ _ => l.length - (intOf x).toNat)
  case atStart => exact ⟨0, rfl, Nat.zero_le _, OwnI.nil _ _, fun _ => rfl, Ext.refl _⟩
  case round =>
    obtain ⟨i, rfl, hi, ho, hnil, hx⟩ := hrel
    by_cases hlt : i < l.length
    · have hltz : (i : Int) < (l.length : Int) := by omega
      go_wp2_with (at_builtin; refine app_int rfl (.tmp 31) (.tmp 33) rfl w5.heap.size _ _ rfl (OwnI.ext ho ((Ext.refl _).alloc _)) _ i rfl ?c1 ?c3 (hx.alloc _) (Nat.le_refl _) ?_)
      case c1 => go_simp
      case c3 => rw [List.length_range]; omega
      intro v' w1 ho1 hext
      go_wp2_with fail
      go_round
      case rel => exact ⟨i + 1, by simp, by omega, by rw [List.range_succ]; exact ho1, fun e => by omega, hext _ (Nat.le_refl _) (hx.alloc _)⟩
      case measure => simp [intOf]; omega
    · obtain rfl : i = l.length := by omega
      clear hlt
      by_cases h0 : l.length = 0
      · have e0 := hnil h0
        subst e0
        go_wp2_with fail
        refine (sortStable_nil _ _ _ (Ext.refl _)).mono ?_
        rintro en w6 ⟨rfl, hY⟩
        go_wp2_with fail
        go_ret2
        have hl : l = [] := List.eq_nil_of_length_eq_zero h0
        exact ⟨.slice none 0 0, [], by rw [HE0.out]; rfl, ⟨none, 0, rfl, Nat.le_refl _, by simp [maxLen], .inl rfl⟩, hW.trans (hr7.trans (hx.trans hY)), .inr ⟨HE0.out, by rw [hl]; exact ⟨List.Perm.refl _, List.Pairwise.nil⟩⟩⟩
      · obtain ⟨n, hn⟩ : ∃ n, l.length = n + 1 := ⟨l.length - 1, by omega⟩
        rw [hn] at ho
        obtain ⟨g, cap, e0, hc1, hc2, hg, hgl, S⟩ := OwnI.row ho
        subst e0
        obtain ⟨b, off, e1, hcc⟩ := hv4'.out.resolve_left (by intro e; rw [e] at hn; simp at hn)
        have hno : ∀ x : Fin (n + 1), l.getD x.1 (0, 0) ≠ (ox, oy) := by
          intro x e
          have hx1 : x.1 < l.length := by omega
          rw [getD_in _ hx1] at e
          have h3 := of_decide_eq_false P3.out
          exact h3 (e ▸ List.getElem_mem hx1)
        have hC : CmpOk (fun x : Fin (n + 1) => (x.1 : Int)) (fun x y => cfZ (ox, oy) (l.getD x.1 (0, 0)) (l.getD y.1 (0, 0))) wr g 0 (n + 1) (.pointer (some ⟨L, 0, none⟩)) (.pointer (some ⟨O, 0, none⟩)) := by
          intro Wc d' _ S' x y
          have hx1 : x.1 < l.length := by omega
          have hy1 : y.1 < l.length := by omega
          have k0 := hr7.trans hx
          have f0 := hx.cell q0
          have f1 := hx.cell q1
          have f2 := hx.cell q2
          have gx := k0.cell (hcc x.1 hx1).1
          have gx2 := k0.cell (hcc x.1 hx1).2
          have gy := k0.cell (hcc y.1 hy1).1
          have gy2 := k0.cell (hcc y.1 hy1).2
          have nb : b ≠ g := by have h1 := lt_of_cell (hcc x.1 hx1).1; have h2 := hr7.le; simp only at h1; omega
          have nL : L ≠ g := by have h1 := lt_of_cell q0; simp only at h1; omega
          have nO : O ≠ g := by have h1 := lt_of_cell q1; simp only at h1; omega
          rw [e1] at f0
          have okl : ∀ z : Fin (n + 1), okp (l.getD z.1 (0, 0)) = true := by
            intro z
            have hz1 : z.1 < l.length := by omega
            rw [getD_in _ hz1]
            exact List.all_eq_true.1 P1.out _ (List.getElem_mem hz1)
          have ax := okl x
          have ay := okl y
          have ao := P2.out
          simp only [okp, Bool.and_eq_true] at ax ay ao
          rw [← getD_in (0, 0) hx1] at gx gx2
          rw [← getD_in (0, 0) hy1] at gy gy2
          exact around1_any Wc L O b off l.length cap0 ox oy _ _ _ _ x.1 y.1 Wc (Ext.refl _) (S'.kx.cell f0 nL) (S'.kx.cell f1 nO) (S'.kx.cell f2 nO) hx1 hy1 (S'.kx.cell gx nb) (S'.kx.cell gx2 nb) (S'.kx.cell gy nb) (S'.kx.cell gy2 nb) ao.1 ao.2 ax.1 ax.2 ay.1 ay.2
        have hO2 : SWO (ltOf fun x y : Fin (n + 1) => cfZ (ox, oy) (l.getD x.1 (0, 0)) (l.getD y.1 (0, 0))) := see_swo (ox, oy) (fun x : Fin (n + 1) => l.getD x.1 (0, 0)) hno
        go_wp2_with fail
        refine (sortStable_any (fun x : Fin (n + 1) => (x.1 : Int)) _ (fun x : Fin (n + 1) => x.1) hO2 g 0 cap _ _ wr (n + 1) hC (by omega) (List.finRange (n + 1)).toArray _ (by simp) S (fun i j hij hj => by rw [fin_at n i (by omega), fin_at n j hj]; exact hij)).mono ?_
        rintro en w6 ⟨rfl, d', S', hpm, hso⟩
        go_wp2_with fail
        go_ret2
        have hz : d'.size = n + 1 := by rw [hpm.1]; simp
        refine ⟨.slice (some ⟨g, 0, none⟩) (n + 1) cap, d'.toList.map (fun x : Fin (n + 1) => x.1), by rw [HE0.out]; rfl, ⟨_, cap, by simp [hz], by simp [hz]; omega, hc2, .inr ⟨g, 0, rfl, fun i hi => ?_⟩⟩, hW.trans (hr7.trans (S'.ext_of hx hg)), .inr ⟨HE0.out, ?_⟩⟩
        · have hi' : i < d'.size := by simpa using hi
          have := (S'.row i hi').1
          rw [this]
          congr 3
          rw [getElem!_pos d' i hi']
          simp
        · exact ars_of hn hpm hso
end Go.Proofs.Ytdbhbfmbpldmnaa
