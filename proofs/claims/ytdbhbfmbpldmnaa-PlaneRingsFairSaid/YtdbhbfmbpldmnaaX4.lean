/- Contracts of Corners, chosen, apart. -/
import Derived.Test.YtdbhbfmbpldmnaaX1
namespace Go.Proofs.Ytdbhbfmbpldmnaa
open Go.RowKit
def cnr (x0 x1 y0 y1 : Int) : Nat → Int × Int
  | 0 => (x0, y0)
  | 1 => (x1, y0)
  | 2 => (x1, y1)
  | _ => (x0, y1)
def cnR (x0 x1 y0 y1 : Int) (i : Nat) : Int × Int := if boxB x0 x1 y0 y1 = true then cnr x0 x1 y0 y1 i else (0, 0)
abbrev cnV (f : Nat → Int × Int) : Value := .agg #[.int .i64 (f 0).1, .int .i64 (f 0).2, .int .i64 (f 1).1, .int .i64 (f 1).2, .int .i64 (f 2).1, .int .i64 (f 2).2, .int .i64 (f 3).1, .int .i64 (f 3).2]
abbrev cnO : Obj := .cells #[.int .i64 0, .int .i64 0, .int .i64 0, .int .i64 0, .int .i64 0, .int .i64 0, .int .i64 0, .int .i64 0] 82
theorem BoxN.box8 {w : World} {A : Nat} {a b c d e f g h : Value} {T : TypeId} (k : BoxN w A #[a, b, c, d, e, f, g, h] T) : w.cell? ⟨A, 0, none⟩ = some a ∧ w.cell? ⟨A, 1, none⟩ = some b ∧ w.cell? ⟨A, 2, none⟩ = some c ∧ w.cell? ⟨A, 3, none⟩ = some d ∧ w.cell? ⟨A, 4, none⟩ = some e ∧ w.cell? ⟨A, 5, none⟩ = some f ∧ w.cell? ⟨A, 6, none⟩ = some g ∧ w.cell? ⟨A, 7, none⟩ = some h ∧ ∀ o, w.frozen? ⟨A, o, none⟩ = false := ⟨k.cell 0, k.cell 1, k.cell 2, k.cell 3, k.cell 4, k.cell 5, k.cell 6, k.cell 7, k.frozen⟩
theorem ext_eight {w0 w : World} {R : Nat} (h : Ext w0 w) (hR : w0.heap.size ≤ R) (u0 u1 u2 u3 u4 u5 u6 u7 : Value) : Ext w0 ((((((((w.setCell ⟨R, 0, none⟩ u0).setCell ⟨R, 1, none⟩ u1).setCell ⟨R, 2, none⟩ u2).setCell ⟨R, 3, none⟩ u3).setCell ⟨R, 4, none⟩ u4).setCell ⟨R, 5, none⟩ u5).setCell ⟨R, 6, none⟩ u6).setCell ⟨R, 7, none⟩ u7) :=
  (((((ext_four h hR u0 u1 u2 u3).setCell (p := ⟨R, 4, none⟩) hR _).setCell (p := ⟨R, 5, none⟩) hR _).setCell (p := ⟨R, 6, none⟩) hR _).setCell (p := ⟨R, 7, none⟩) hR _)
set_option maxRecDepth 100000 in
set_option maxHeartbeats 4000000 in
theorem Corners_any (W : World) (a b c d : Int) (w : World) (hX : Ext W w) :
    Calls Try.prog 68 #[bxV a b c d] w fun en w' => en = .returned (cnV (cnR a b c d)) ∧ Ext W w' := by
  obtain ⟨p1, hp1⟩ : ∃ p, boxB a b c d = p := ⟨_, rfl⟩
  have HZ : Hid (cnR a b c d = fun i => if p1 = true then cnr a b c d i else (0, 0)) := by unfold Hid; funext i; unfold cnR; rw [hp1]
  have P1 := Lib.hid hp1
  clear hp1
  go_enter Try.func68, Try.ntmps68
  go_wp2_with fail
  have hA := bx_new w a b c d 52
  have hX2 := hX.alloc (bxO a b c d)
  have hz : (w.alloc (bxO a b c d)).heap.size = w.heap.size + 1 := by simp
  obtain ⟨w2, hw2⟩ : ∃ w2, w.alloc (bxO a b c d) = w2 := ⟨_, rfl⟩
  rw [hw2] at hA hX2 hz ⊢
  clear hw2 hX
  have hR := BoxN.new w2 82 #[.int .i64 0, .int .i64 0, .int .i64 0, .int .i64 0, .int .i64 0, .int .i64 0, .int .i64 0, .int .i64 0]
  rw [hz] at hR
  have hXR := (Ext.refl w2).alloc cnO
  have zR : w2.heap.size ≤ w.heap.size + 1 := by omega
  generalize w.heap.size + 1 = R at hR zR ⊢
  generalize w.heap.size = A at hA ⊢
  clear hz
  obtain ⟨w3, hw3⟩ : ∃ w3, w2.alloc cnO = w3 := ⟨_, rfl⟩
  change BoxN (w2.alloc cnO) R _ _ at hR
  rw [hw3] at hR hXR ⊢
  clear hw3
  refine (Proper_any _ _ _ _ _ _ (Ext.refl _)).mono ?_
  rintro en w' ⟨rfl, hY⟩
  obtain ⟨q0, q1, q2, q3⟩ := hA.ext (hXR.trans hY)
  obtain ⟨n0, n1, n2, n3, n4, n5, n6, n7, n8⟩ := BoxN.box8 (hR.ext hY)
  rw [P1.out]
  cases p1
  all_goals
    go_wp2_with fail
    exact bodyPost_ret (v := cnV (cnR a b c d)) (by rw [HZ.out]; simp [results, Try.f68, go_sem, cnr, n0, n1, n2, n3, n4, n5, n6, n7]) rfl ⟨rfl, hX2.trans (ext_eight (hXR.trans hY) zR _ _ _ _ _ _ _ _)⟩
set_option maxHeartbeats 400000 in
theorem apart_any (W : World) (a b c d : Int) (w : World) (hX : Ext W w) (ka : okc a = true) (kb : okc b = true) (kc : okc c = true) (kd : okc d = true) :
    Calls Try.prog 116 #[spV a b, spV c d] w fun e w' => e = .returned (spV (max 0 (max (a - d) (c - b))) (max (b - c) (d - a))) ∧ Ext W w' := by
  have h1 := (okc_iff a).1 ka
  have h2 := (okc_iff b).1 kb
  have h3 := (okc_iff c).1 kc
  have h4 := (okc_iff d).1 kd
  have hmin := ite_min
  have hmax := ite_max
  go_enter Try.func116, Try.ntmps116
  go_wp2
  all_goals first
  | exact bodyPost_ret (v := spV (max 0 (c - b)) (max (b - c) (d - a))) (by simp [results, Try.f116, go_sem]) rfl ⟨by rw [show max 0 (max (a - d) (c - b)) = max 0 (c - b) from by omega], ((hX.alloc _).alloc _).alloc _⟩
  | exact bodyPost_ret (v := spV (max (a - d) (c - b)) (max (b - c) (d - a))) (by simp [results, Try.f116, go_sem]) rfl ⟨by rw [show max 0 (max (a - d) (c - b)) = max (a - d) (c - b) from by omega], ((hX.alloc _).alloc _).alloc _⟩
set_option maxHeartbeats 400000 in
theorem chosenS_any (W : World) (p : Bool) (a b c d : Int) (w : World) (hX : Ext W w) :
    Calls Try.prog 120 #[.bool p, spV a b, spV c d] w fun e w' => e = .returned (if p = true then spV a b else spV c d) ∧ Ext W w' := by
  go_enter Try.func120, Try.ntmps120
  cases p
  all_goals
    go_wp2
    first
    | exact bodyPost_ret (v := spV a b) (by simp [results, Try.f120, go_sem]) rfl ⟨rfl, ((hX.alloc _).alloc _).alloc _⟩
    | exact bodyPost_ret (v := spV c d) (by simp [results, Try.f120, go_sem]) rfl ⟨rfl, ((hX.alloc _).alloc _).alloc _⟩
set_option maxHeartbeats 400000 in
theorem chosenP_any (W : World) (p : Bool) (a b : Addr) (w : World) (hX : Ext W w) :
    Calls Try.prog 121 #[.bool p, .pointer (some a), .pointer (some b)] w fun e w' => e = .returned (.pointer (some (if p = true then a else b))) ∧ Ext W w' := by
  go_enter Try.func121, Try.ntmps121
  cases p
  all_goals
    go_wp2
    go_ret
    exact ⟨rfl, hX⟩
end Go.Proofs.Ytdbhbfmbpldmnaa
