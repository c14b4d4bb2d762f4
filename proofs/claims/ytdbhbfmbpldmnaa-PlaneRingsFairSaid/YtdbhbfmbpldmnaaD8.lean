/- Contracts of the statements' own helpers: at, square, sanity. -/
import Derived.Test.YtdbhbfmbpldmnaaD7
import Derived.Test.YtdbhbfmbpldmnaaG
namespace Go.Proofs.Ytdbhbfmbpldmnaa
open Go.RowKit
abbrev ptV (x y : Int) : Value := .agg #[.int .i64 x, .int .i64 y]
theorem at_any (W : World) (x y : Int) (w : World) (hX : Ext W w) :
    Calls Try.prog 74 #[.int .i64 x, .int .i64 y] w fun e w' => e = .returned (ptV x y) ∧ Ext W w' := by
  go_enter Try.func74, Try.ntmps74
  go_wp2
  exact bodyPost_ret (v := ptV x y) (by simp [results, Try.f74, go_sem]) rfl ⟨rfl, by repeat (first | assumption | refine Ext.alloc ?_ _ | refine Ext.setCell ?_ (by simp; exact hX.le) _)⟩
def RetPts (W : World) (l : List (Int × Int)) (e : Ending) (w : World) : Prop := ∃ v, e = .returned v ∧ Pts w v l ∧ Ext W w
theorem square_any (W : World) (w : World) (hX : Ext W w) :
    Calls Try.prog 75 #[] w (RetPts W [(0, 0), (4, 0), (4, 3), (0, 3)]) := by
  go_enter Try.func75, Try.ntmps75
  go_wp2_with (go_at_call 74; refine (at_any _ _ _ _ (by first | assumption | exact Ext.refl _)).mono ?_; rintro e w1 ⟨rfl, hX1⟩)
  go_ret
  exact ⟨_, rfl, Pts_mk (l := [(0, 0), (4, 0), (4, 3), (0, 3)]) rfl rfl rfl (by simp [maxLen]), Ext.alloc (by assumption) _⟩
abbrev sqL : List (Int × Int) := [(0, 0), (4, 0), (4, 3), (0, 3)]
theorem mt1 : mtZ 0 0 4 0 2 (-1) 2 1 = 2 := by decide +kernel
theorem mt2 : mtZ 0 0 4 0 4 0 4 3 = 1 := by decide +kernel
theorem mt3 : mtZ 0 0 4 0 2 0 9 0 = 3 := by decide +kernel
theorem mt4 : mtZ 0 0 4 0 5 0 9 0 = 0 := by decide +kernel
theorem sq1 : areaR sqL = (24, 0) := by decide +kernel
theorem sq2 : whereR sqL (1, 1) = (1, 0) := by decide +kernel
theorem sq3 : whereR sqL (4, 2) = (0, 0) := by decide +kernel
theorem sq4 : whereR sqL (5, 5) = (-1, 0) := by decide +kernel
theorem sq5 : simpleR [(0, 0), (4, 0), (0, 3), (4, 3)] = (false, 0) := by decide +kernel
theorem tu1 : turnZ 0 0 4 0 2 1 = 1 := by decide +kernel
theorem tu2 : turnZ 0 0 4 0 8 0 = 0 := by decide +kernel
theorem di1 : distZ 0 0 3 4 = 25 := by decide +kernel
theorem ro1 : rootZ 26 = 5 := by decide +kernel
def San (wb : World) (A : Nat) : Prop := A < wb.heap.size ∧ wb.cell? ⟨A, 0, none⟩ = some (.int .i64 0) ∧ wb.cell? ⟨A, 1, none⟩ = some (.int .i64 0) ∧ wb.cell? ⟨A, 2, none⟩ = some (.int .i64 4) ∧ wb.cell? ⟨A, 3, none⟩ = some (.int .i64 0)
theorem san_new (w : World) : San (w.alloc (.cells #[.int .i64 0, .int .i64 0, .int .i64 4, .int .i64 0] 34)) w.heap.size := by
  refine ⟨by simp, ?_, ?_, ?_, ?_⟩ <;> exact cell_new w [.int .i64 0, .int .i64 0, .int .i64 4, .int .i64 0] 34 _
theorem san_keep {wb w' : World} {A : Nat} (hS : San wb A) (h : Ext wb w') : Ext wb w' ∧ w'.cell? ⟨A, 0, none⟩ = some (.int .i64 0) ∧ w'.cell? ⟨A, 1, none⟩ = some (.int .i64 0) ∧ w'.cell? ⟨A, 2, none⟩ = some (.int .i64 4) ∧ w'.cell? ⟨A, 3, none⟩ = some (.int .i64 0) :=
  ⟨h, h.cell hS.2.1, h.cell hS.2.2.1, h.cell hS.2.2.2.1, h.cell hS.2.2.2.2⟩
set_option maxRecDepth 100000 in
set_option maxHeartbeats 1600000 in
theorem sanity_any (W : World) (w : World) (hX : Ext W w) :
    Calls Try.prog 16 #[] w fun e w' => e = .returned (.bool true) ∧ Ext W w' := by
  go_enter Try.func16, Try.ntmps16
  go_wp2_with (go_at_call 74; refine (at_any w _ _ _ (by first | assumption | exact Ext.refl _)).mono ?_; rintro e w1 ⟨rfl, hX1⟩)
  have hS := san_new w1
  have hXb := hX.trans (hX1.alloc (.cells #[.int .i64 0, .int .i64 0, .int .i64 4, .int .i64 0] 34))
  obtain ⟨wb, hwb⟩ : ∃ wb, w1.alloc (.cells #[.int .i64 0, .int .i64 0, .int .i64 4, .int .i64 0] 34) = wb := ⟨_, rfl⟩
  rw [hwb] at hS hXb ⊢
  clear hwb
  generalize w1.heap.size = A at hS ⊢
  go_region_held3 (fun w' => Ext wb w' ∧ w'.cell? ⟨A, 0, none⟩ = some (.int .i64 0) ∧ w'.cell? ⟨A, 1, none⟩ = some (.int .i64 0) ∧ w'.cell? ⟨A, 2, none⟩ = some (.int .i64 4) ∧ w'.cell? ⟨A, 3, none⟩ = some (.int .i64 0)) (first | exact san_keep hS (by assumption) | exact san_keep hS (Ext.drew (by assumption)) | exact san_keep hS (Ext.refl _) | exact san_keep hS (Ext.drew (Ext.refl _)))
    (first | (go_at_call 74; refine (at_any _ _ _ _ (by first | assumption | exact And.left (by assumption) | exact Ext.refl _)).mono ?_; rintro e w' ⟨rfl, hX1⟩) | (go_at_call 28; refine (Meeting_any _ _ _ _ _ _ _ _ _ _ (by first | assumption | exact And.left (by assumption))).mono ?_; rintro e w' ⟨rfl, hX1⟩; rw [mt1]))
  go_wp2_with fail
  go_region_held3 (fun w' => Ext wb w' ∧ w'.cell? ⟨A, 0, none⟩ = some (.int .i64 0) ∧ w'.cell? ⟨A, 1, none⟩ = some (.int .i64 0) ∧ w'.cell? ⟨A, 2, none⟩ = some (.int .i64 4) ∧ w'.cell? ⟨A, 3, none⟩ = some (.int .i64 0)) (first | exact san_keep hS (by assumption) | exact san_keep hS (Ext.drew (by assumption)) | exact san_keep hS (Ext.refl _) | exact san_keep hS (Ext.drew (Ext.refl _)))
    (first | (go_at_call 74; refine (at_any _ _ _ _ (by first | assumption | exact And.left (by assumption) | exact Ext.refl _)).mono ?_; rintro e w' ⟨rfl, hX1⟩) | (go_at_call 28; refine (Meeting_any _ _ _ _ _ _ _ _ _ _ (by first | assumption | exact And.left (by assumption))).mono ?_; rintro e w' ⟨rfl, hX1⟩; rw [mt2]))
  go_wp2_with fail
  go_region_held3 (fun w' => Ext wb w' ∧ w'.cell? ⟨A, 0, none⟩ = some (.int .i64 0) ∧ w'.cell? ⟨A, 1, none⟩ = some (.int .i64 0) ∧ w'.cell? ⟨A, 2, none⟩ = some (.int .i64 4) ∧ w'.cell? ⟨A, 3, none⟩ = some (.int .i64 0)) (first | exact san_keep hS (by assumption) | exact san_keep hS (Ext.drew (by assumption)) | exact san_keep hS (Ext.refl _) | exact san_keep hS (Ext.drew (Ext.refl _)))
    (first | (go_at_call 74; refine (at_any _ _ _ _ (by first | assumption | exact And.left (by assumption) | exact Ext.refl _)).mono ?_; rintro e w' ⟨rfl, hX1⟩) | (go_at_call 28; refine (Meeting_any _ _ _ _ _ _ _ _ _ _ (by first | assumption | exact And.left (by assumption))).mono ?_; rintro e w' ⟨rfl, hX1⟩; rw [mt3]))
  go_wp2_with fail
  go_region_held3 (fun w' => Ext wb w' ∧ w'.cell? ⟨A, 0, none⟩ = some (.int .i64 0) ∧ w'.cell? ⟨A, 1, none⟩ = some (.int .i64 0) ∧ w'.cell? ⟨A, 2, none⟩ = some (.int .i64 4) ∧ w'.cell? ⟨A, 3, none⟩ = some (.int .i64 0)) (first | exact san_keep hS (by assumption) | exact san_keep hS (Ext.drew (by assumption)) | exact san_keep hS (Ext.refl _) | exact san_keep hS (Ext.drew (Ext.refl _)))
    (first | (go_at_call 74; refine (at_any _ _ _ _ (by first | assumption | exact And.left (by assumption) | exact Ext.refl _)).mono ?_; rintro e w' ⟨rfl, hX1⟩) | (go_at_call 28; refine (Meeting_any _ _ _ _ _ _ _ _ _ _ (by first | assumption | exact And.left (by assumption))).mono ?_; rintro e w' ⟨rfl, hX1⟩; rw [mt4]))
  go_wp2_with fail
  have hY := hXb.trans hX1
  refine (square_any W _ hY).mono ?_
  rintro e w2 ⟨v, rfl, hv, hY⟩
  go_wp2_with fail
  refine (Area_any W _ sqL _ hY hv).mono ?_
  rintro e w3 ⟨rfl, hY⟩
  rw [sq1]
  go_wp2_with fail
  refine (square_any W _ hY).mono ?_
  rintro e w2 ⟨v, rfl, hv, hY⟩
  go_wp2_with fail
  refine (at_any _ _ _ _ (Ext.refl _)).mono ?_
  rintro e w' ⟨rfl, hE⟩
  replace hv := hv.ext hE
  replace hY := hY.trans hE
  go_wp2_with fail
  refine (Where_any W _ sqL _ _ _ hY hv).mono ?_
  rintro e w3 ⟨rfl, hY⟩
  rw [sq2]
  go_wp2_with fail
  refine (square_any W _ hY).mono ?_
  rintro e w2 ⟨v, rfl, hv, hY⟩
  go_wp2_with fail
  refine (at_any _ _ _ _ (Ext.refl _)).mono ?_
  rintro e w' ⟨rfl, hE⟩
  replace hv := hv.ext hE
  replace hY := hY.trans hE
  go_wp2_with fail
  refine (Where_any W _ sqL _ _ _ hY hv).mono ?_
  rintro e w3 ⟨rfl, hY⟩
  rw [sq3]
  go_wp2_with fail
  refine (square_any W _ hY).mono ?_
  rintro e w2 ⟨v, rfl, hv, hY⟩
  go_wp2_with fail
  refine (at_any _ _ _ _ (Ext.refl _)).mono ?_
  rintro e w' ⟨rfl, hE⟩
  replace hv := hv.ext hE
  replace hY := hY.trans hE
  go_wp2_with fail
  refine (Where_any W _ sqL _ _ _ hY hv).mono ?_
  rintro e w3 ⟨rfl, hY⟩
  rw [sq4]
  go_wp2_with fail
  refine (at_any W _ _ _ hY).mono ?_
  rintro e w' ⟨rfl, hY⟩
  go_wp2_with fail
  refine (at_any W _ _ _ hY).mono ?_
  rintro e w' ⟨rfl, hY⟩
  go_wp2_with fail
  refine (at_any W _ _ _ hY).mono ?_
  rintro e w' ⟨rfl, hY⟩
  go_wp2_with fail
  refine (at_any W _ _ _ hY).mono ?_
  rintro e w' ⟨rfl, hY⟩
  go_wp2_with fail
  refine (Simple_any W _ [(0, 0), (4, 0), (0, 3), (4, 3)] _ (hY.alloc _) (Pts_mk rfl rfl rfl (by simp [maxLen]))).mono ?_
  rintro e w3 ⟨rfl, hY⟩
  rw [sq5]
  go_wp2_with fail
  refine (at_any W _ _ _ hY).mono ?_
  rintro e w' ⟨rfl, hY⟩
  go_wp2_with fail
  refine (at_any W _ _ _ hY).mono ?_
  rintro e w' ⟨rfl, hY⟩
  go_wp2_with fail
  refine (at_any W _ _ _ hY).mono ?_
  rintro e w' ⟨rfl, hY⟩
  go_wp2_with fail
  refine (Turn_any W _ _ _ _ _ _ _ hY).mono ?_
  rintro e w' ⟨rfl, hY⟩
  rw [tu1]
  go_wp2_with fail
  refine (at_any W _ _ _ hY).mono ?_
  rintro e w' ⟨rfl, hY⟩
  go_wp2_with fail
  refine (at_any W _ _ _ hY).mono ?_
  rintro e w' ⟨rfl, hY⟩
  go_wp2_with fail
  refine (at_any W _ _ _ hY).mono ?_
  rintro e w' ⟨rfl, hY⟩
  go_wp2_with fail
  refine (Turn_any W _ _ _ _ _ _ _ hY).mono ?_
  rintro e w' ⟨rfl, hY⟩
  rw [tu2]
  go_wp2_with fail
  refine (at_any W _ _ _ hY).mono ?_
  rintro e w' ⟨rfl, hY⟩
  go_wp2_with fail
  refine (at_any W _ _ _ hY).mono ?_
  rintro e w' ⟨rfl, hY⟩
  go_wp2_with fail
  refine (Dist_any W _ _ _ _ _ hY).mono ?_
  rintro e w' ⟨rfl, hY⟩
  rw [di1]
  go_wp2_with fail
  refine (Root_any W _ _ hY (by decide)).mono ?_
  rintro e w' ⟨rfl, hY⟩
  rw [ro1]
  go_wp2_with fail
  go_ret
  exact ⟨rfl, hY⟩
end Go.Proofs.Ytdbhbfmbpldmnaa
