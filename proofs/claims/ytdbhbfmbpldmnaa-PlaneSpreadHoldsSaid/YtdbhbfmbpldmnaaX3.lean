/- Contract of Cover. -/
import Derived.Test.YtdbhbfmbpldmnaaX1
import Derived.Deep.DeepCutAuto
namespace Go.Proofs.Ytdbhbfmbpldmnaa
open Go.RowKit
def coverR (a b c d e f g h : Int) : (Int × Int × Int × Int) × Bool :=
  if (boxB a b c d && boxB e f g h) = true then ((min a e, max b f, min c g, max d h), true) else ((0, 0, 0, 0), false)
set_option maxRecDepth 100000 in
set_option maxHeartbeats 16000000 in
theorem Cover_any (W : World) (a b c d e f g h : Int) (w : World) (hX : Ext W w) :
    Calls Try.prog 58 #[bxV a b c d, bxV e f g h] w fun en w' => en = .returned (bxT (coverR a b c d e f g h)) ∧ Ext W w' := by
  obtain ⟨p1, hp1⟩ : ∃ p, boxB a b c d = p := ⟨_, rfl⟩
  obtain ⟨p2, hp2⟩ : ∃ p, boxB e f g h = p := ⟨_, rfl⟩
  have HZ : Hid (coverR a b c d e f g h = if (p1 && p2) = true then ((min a e, max b f, min c g, max d h), true) else ((0, 0, 0, 0), false)) := by unfold Hid coverR; rw [hp1, hp2]
  have P1 := Lib.hid hp1
  have P2 := Lib.hid hp2
  clear hp1 hp2
  go_enter Try.func58, Try.ntmps58
  go_wp2_with fail
  have hA := (bx_new w a b c d 52).ext ((Ext.refl _).alloc (bxO e f g h))
  have hB := bx_new (w.alloc (bxO a b c d)) e f g h 52
  rw [World.size_alloc] at hB
  have hX2 := (hX.alloc (bxO a b c d)).alloc (bxO e f g h)
  have hz : ((w.alloc (bxO a b c d)).alloc (bxO e f g h)).heap.size = w.heap.size + 1 + 1 := by simp
  obtain ⟨w2, hw2⟩ : ∃ w2, (w.alloc (bxO a b c d)).alloc (bxO e f g h) = w2 := ⟨_, rfl⟩
  rw [hw2] at hA hB hX2 hz ⊢
  clear hw2 hX
  have hR := BoxN.new w2 52 #[.int .i64 0, .int .i64 0, .int .i64 0, .int .i64 0]
  rw [hz] at hR
  have hXR := (Ext.refl w2).alloc (bxO 0 0 0 0)
  have zR : w2.heap.size ≤ w.heap.size + 1 + 1 := by omega
  generalize w.heap.size + 1 + 1 = R at hR zR ⊢
  generalize w.heap.size + 1 = B at hB ⊢
  generalize w.heap.size = A at hA ⊢
  clear hz
  obtain ⟨w3, hw3⟩ : ∃ w3, w2.alloc (bxO 0 0 0 0) = w3 := ⟨_, rfl⟩
  change BoxN (w2.alloc (bxO 0 0 0 0)) R _ _ at hR
  rw [hw3] at hR hXR ⊢
  clear hw3
  have hK : ∀ w', Ext w3 w' → Ext w3 w' ∧ Bx w' A a b c d ∧ Bx w' B e f g h := fun w' x => ⟨x, hA.ext (hXR.trans x), hB.ext (hXR.trans x)⟩
  have HK := Lib.hid hK
  clear hK
  obtain ⟨_, ⟨q0, q1, q2, q3⟩, q4, q5, q6, q7⟩ := HK.out _ (Ext.refl _)
  obtain ⟨n0, n1, n2, n3, n4⟩ := BoxN.box4 hR
  have hX7 := Ext.refl w3
  cases p1 <;> cases p2
  all_goals
    go_wp2_with (first | (go_at_call 64; refine (Proper_any _ _ _ _ _ _ (Ext.refl _)).mono ?_; rintro en w' ⟨rfl, hY⟩; have hX7 := hX7.trans hY; obtain ⟨_, ⟨q0, q1, q2, q3⟩, q4, q5, q6, q7⟩ := HK.out _ hX7; obtain ⟨n0, n1, n2, n3, n4⟩ := BoxN.box4 (hR.ext hX7); (first | rw [P1.out] | rw [P2.out])))
  all_goals (try exact bodyPost_ret (v := bxT (coverR a b c d e f g h)) (by rw [HZ.out]; simp [results, Try.f58, go_sem, n0, n1, n2, n3]) rfl ⟨rfl, hX2.trans (ext_four (hXR.trans hX7) zR _ _ _ _)⟩)
  have hX8 := hXR.trans hX7
  have hK2 : (∀ w', Ext w2 w' → Ext w2 w' ∧ A < w'.heap.size ∧ B < w'.heap.size ∧ (w'.cell? ⟨A, 0, none⟩ = some (.int .i64 a) ∧ w'.cell? ⟨A, 1, none⟩ = some (.int .i64 b) ∧ w'.cell? ⟨A, 2, none⟩ = some (.int .i64 c) ∧ w'.cell? ⟨A, 3, none⟩ = some (.int .i64 d)) ∧ w'.cell? ⟨B, 0, none⟩ = some (.int .i64 e) ∧ w'.cell? ⟨B, 1, none⟩ = some (.int .i64 f) ∧ w'.cell? ⟨B, 2, none⟩ = some (.int .i64 g) ∧ w'.cell? ⟨B, 3, none⟩ = some (.int .i64 h)) := (fun w' x => ⟨x, (hA.ext x).lt, (hB.ext x).lt, hA.ext x, hB.ext x⟩)
  have HK2 := Lib.hid hK2
  clear hK2
  go_region_held3 (fun w' => Ext w2 w' ∧ A < w'.heap.size ∧ B < w'.heap.size ∧ (w'.cell? ⟨A, 0, none⟩ = some (.int .i64 a) ∧ w'.cell? ⟨A, 1, none⟩ = some (.int .i64 b) ∧ w'.cell? ⟨A, 2, none⟩ = some (.int .i64 c) ∧ w'.cell? ⟨A, 3, none⟩ = some (.int .i64 d)) ∧ w'.cell? ⟨B, 0, none⟩ = some (.int .i64 e) ∧ w'.cell? ⟨B, 1, none⟩ = some (.int .i64 f) ∧ w'.cell? ⟨B, 2, none⟩ = some (.int .i64 g) ∧ w'.cell? ⟨B, 3, none⟩ = some (.int .i64 h)) (first | exact HK2.out _ (by assumption) | exact HK2.out _ (Ext.drew (by assumption)) | exact HK2.out _ (ext_four (by assumption) zR _ _ _ _))
      ((go_at_call 115; refine (cover_any _ _ _ _ _ _ (Ext.refl _)).mono ?_; rintro en w' ⟨rfl, hY⟩; (first | have hY := Ext.undrew hY | skip); have hX7 := hX7.trans hY; have hX8 := hXR.trans hX7; obtain ⟨n0, n1, n2, n3, n4⟩ := BoxN.box4 (hR.ext hX7)))
  all_goals (try go_wp2_with fail)
  all_goals exact bodyPost_ret (v := bxT (coverR a b c d e f g h)) (by rw [HZ.out]; simp [results, Try.f58, go_sem, n0, n1, n2, n3]) rfl ⟨rfl, hX2.trans (ext_four (hXR.trans hX7) zR _ _ _ _)⟩
end Go.Proofs.Ytdbhbfmbpldmnaa
