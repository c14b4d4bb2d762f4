/- Contract of Meet. -/
import Derived.Test.YtdbhbfmbpldmnaaX1
import Derived.Deep.DeepCutAuto
namespace Go.Proofs.Ytdbhbfmbpldmnaa
open Go.RowKit
set_option maxRecDepth 100000 in
set_option maxHeartbeats 16000000 in
theorem Meet_any (W : World) (a b c d e f g h : Int) (w : World) (hX : Ext W w) :
    Calls Try.prog 56 #[bxV a b c d, bxV e f g h] w fun en w' => en = .returned (bxT (meetR a b c d e f g h)) ∧ Ext W w' := by
  obtain ⟨p1, hp1⟩ : ∃ p, boxB a b c d = p := ⟨_, rfl⟩
  obtain ⟨p2, hp2⟩ : ∃ p, boxB e f g h = p := ⟨_, rfl⟩
  obtain ⟨p3, hp3⟩ : ∃ p, boxB (max a e) (min b f) (max c g) (min d h) = p := ⟨_, rfl⟩
  have HZ : Hid (meetR a b c d e f g h = if (p1 && p2 && p3) = true then ((max a e, min b f, max c g, min d h), true) else ((0, 0, 0, 0), false)) := by unfold Hid meetR; rw [hp1, hp2, hp3]
  have P1 := Lib.hid hp1
  have P2 := Lib.hid hp2
  have P3 := Lib.hid hp3
  clear hp1 hp2 hp3
  go_enter Try.func56, Try.ntmps56
  go_wp2_with fail
  have hA := (bx_new w a b c d 52).ext ((Ext.refl _).alloc (bxO e f g h))
  have hB := bx_new (w.alloc (bxO a b c d)) e f g h 52
  rw [World.size_alloc] at hB
  have hX2 := (hX.alloc (bxO a b c d)).alloc (bxO e f g h)
  have hz : ((w.alloc (bxO a b c d)).alloc (bxO e f g h)).heap.size = w.heap.size + 1 + 1 := by simp
  obtain ⟨w2, hw2⟩ : ∃ w2, (w.alloc (bxO a b c d)).alloc (bxO e f g h) = w2 := ⟨_, rfl⟩
  change Code.wp _ _ _ _ (((w.alloc (bxO a b c d)).alloc (bxO e f g h)).alloc (bxO 0 0 0 0))
  rw [hw2] at hA hB hX2 hz ⊢
  clear hw2 hX
  have hR := BoxN.new w2 52 #[.int .i64 0, .int .i64 0, .int .i64 0, .int .i64 0]
  rw [hz] at hR
  have hXR := (Ext.refl w2).alloc (bxO 0 0 0 0)
  have zR : w2.heap.size ≤ w.heap.size + 1 + 1 := by omega
  generalize w.heap.size + 1 + 1 = R at hR zR ⊢
  generalize w.heap.size + 1 = B at hB ⊢
  generalize w.heap.size = A at hA ⊢
  clear hz
  obtain ⟨w3, hw3⟩ : ∃ w3, w2.alloc (bxO 0 0 0 0) = w3 := ⟨_, rfl⟩
  change BoxN (w2.alloc (bxO 0 0 0 0)) R _ _ at hR
  rw [hw3] at hR hXR ⊢
  clear hw3
  have hK : ∀ w', Ext w3 w' → Ext w3 w' ∧ Bx w' A a b c d ∧ Bx w' B e f g h := fun w' x => ⟨x, hA.ext (hXR.trans x), hB.ext (hXR.trans x)⟩
  have HK := Lib.hid hK
  clear hK
  obtain ⟨_, ⟨q0, q1, q2, q3⟩, q4, q5, q6, q7⟩ := HK.out _ (Ext.refl _)
  go_cut [6] (fun v wx => ∃ M, v = .pointer (some ⟨M, 0, none⟩) ∧ Bx wx M (max a e) (min b f) (max c g) (min d h) ∧ Ext w3 wx)
  case first =>
    have hK2 : (∀ w', Ext w3 w' → Ext w3 w' ∧ A < w'.heap.size ∧ B < w'.heap.size ∧ (w'.cell? ⟨A, 0, none⟩ = some (.int .i64 a) ∧ w'.cell? ⟨A, 1, none⟩ = some (.int .i64 b) ∧ w'.cell? ⟨A, 2, none⟩ = some (.int .i64 c) ∧ w'.cell? ⟨A, 3, none⟩ = some (.int .i64 d)) ∧ w'.cell? ⟨B, 0, none⟩ = some (.int .i64 e) ∧ w'.cell? ⟨B, 1, none⟩ = some (.int .i64 f) ∧ w'.cell? ⟨B, 2, none⟩ = some (.int .i64 g) ∧ w'.cell? ⟨B, 3, none⟩ = some (.int .i64 h)) := (fun w' x => ⟨x, (hA.ext (hXR.trans x)).lt, (hB.ext (hXR.trans x)).lt, (HK.out w' x).2⟩)
    have HK2 := Lib.hid hK2
    clear hK2
    have hX1 := Ext.refl w3
    have hN := hR
    go_region_held3 (fun w' => Ext w3 w' ∧ A < w'.heap.size ∧ B < w'.heap.size ∧ (w'.cell? ⟨A, 0, none⟩ = some (.int .i64 a) ∧ w'.cell? ⟨A, 1, none⟩ = some (.int .i64 b) ∧ w'.cell? ⟨A, 2, none⟩ = some (.int .i64 c) ∧ w'.cell? ⟨A, 3, none⟩ = some (.int .i64 d)) ∧ w'.cell? ⟨B, 0, none⟩ = some (.int .i64 e) ∧ w'.cell? ⟨B, 1, none⟩ = some (.int .i64 f) ∧ w'.cell? ⟨B, 2, none⟩ = some (.int .i64 g) ∧ w'.cell? ⟨B, 3, none⟩ = some (.int .i64 h)) (first | exact HK2.out _ (by assumption) | exact HK2.out _ (Ext.drew (Ext.alloc (by assumption) _)) | exact HK2.out _ (Ext.drew (by assumption)) | exact HK2.out _ (Ext.alloc (by assumption) _) | exact HK2.out _ (Ext.refl _) | exact HK2.out _ (ext_four (by assumption) (Ext.le (by assumption)) _ _ _ _) | exact HK2.out _ (ext_four (by assumption) (Nat.le_refl _) _ _ _ _) | exact HK2.out _ (Ext.drew (Ext.refl _)))
      ((go_at_call 118; refine (meet_any _ _ _ _ _ _ (Ext.refl _)).mono ?_; rintro en w' ⟨rfl, hY⟩; (first | have hY := Ext.undrew hY | skip); have hX1 : Ext w3 w' := (by first | exact Ext.trans hX1 hY | exact Ext.trans (Ext.drew hX1) hY | exact Ext.trans (Ext.alloc hX1 _) hY | exact Ext.trans (Ext.alloc (Ext.drew hX1) _) hY); (first | have hN := BoxN.newE hY | (have hN := BoxN.ext hN hY) | (have hN := BoxN.ext hN (Ext.trans (Ext.drew (Ext.refl _)) hY))); clear hY; obtain ⟨n0, n1, n2, n3, n4⟩ := BoxN.box4 hN))
    all_goals (try go_wp2_with fail)
    all_goals go_meet
    · exact ⟨_, rfl, bx_new _ _ _ _ _ 52, Ext.alloc (by assumption) _⟩
    · exact ⟨_, rfl, box_four hN, ext_four (by assumption) (Ext.le (by assumption)) _ _ _ _⟩
    · exact ⟨_, rfl, box_four hN, ext_four (by assumption) (Nat.le_refl _) _ _ _ _⟩
  case rest =>
  obtain ⟨M, rfl, hM, hX4⟩ := hcut
  obtain ⟨⟨q0, q1, q2, q3⟩, q4, q5, q6, q7⟩ := (HK.out _ hX4).2
  obtain ⟨n0, n1, n2, n3, n4⟩ := BoxN.box4 (hR.ext hX4)
  obtain ⟨m0, m1, m2, m3⟩ := hM
  have hM' : Bx wc M (max a e) (min b f) (max c g) (min d h) := ⟨m0, m1, m2, m3⟩
  have HM := Lib.hid (fun w' (x : Ext wc w') => (⟨hX4.trans x, hM'.ext x⟩ : Ext w3 w' ∧ Bx w' M (max a e) (min b f) (max c g) (min d h)))
  clear hM'
  have hX7 := Ext.refl wc
  cases p1 <;> cases p2 <;> cases p3
  all_goals
    go_wp2_with (first | (go_at_call 64; refine (Proper_any _ _ _ _ _ _ (Ext.refl _)).mono ?_; rintro en w' ⟨rfl, hY⟩; have hX7 := hX7.trans hY; obtain ⟨_, m0, m1, m2, m3⟩ := HM.out _ hX7; obtain ⟨_, ⟨q0, q1, q2, q3⟩, q4, q5, q6, q7⟩ := HK.out _ (hX4.trans hX7); obtain ⟨n0, n1, n2, n3, n4⟩ := BoxN.box4 (hR.ext (hX4.trans hX7)); (first | rw [P1.out] | rw [P2.out] | rw [P3.out])))
  all_goals exact bodyPost_ret (v := bxT (meetR a b c d e f g h)) (by rw [HZ.out]; simp [results, Try.f56, go_sem, n0, n1, n2, n3]) rfl ⟨rfl, hX2.trans (ext_four (hXR.trans (hX4.trans hX7)) zR _ _ _ _)⟩
end Go.Proofs.Ytdbhbfmbpldmnaa
