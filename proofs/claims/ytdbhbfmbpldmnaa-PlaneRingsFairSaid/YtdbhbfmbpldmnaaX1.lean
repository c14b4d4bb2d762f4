/- Contracts of meet, cover; boxes in memory. -/
import Derived.Test.YtdbhbfmbpldmnaaX0
namespace Go.Proofs.Ytdbhbfmbpldmnaa
open Go.RowKit
set_option maxHeartbeats 400000 in
theorem meet_any (W : World) (a b c d : Int) (w : World) (hX : Ext W w) :
    Calls Try.prog 118 #[spV a b, spV c d] w fun e w' => e = .returned (spV (max a c) (min b d)) ∧ Ext W w' := by
  have hmin := ite_min
  have hmax := ite_max
  go_enter Try.func118, Try.ntmps118
  go_wp2
  exact bodyPost_ret (v := spV (max a c) (min b d)) (by simp [results, Try.f118, go_sem]) rfl ⟨rfl, ((hX.alloc _).alloc _).alloc _⟩
set_option maxHeartbeats 400000 in
theorem cover_any (W : World) (a b c d : Int) (w : World) (hX : Ext W w) :
    Calls Try.prog 115 #[spV a b, spV c d] w fun e w' => e = .returned (spV (min a c) (max b d)) ∧ Ext W w' := by
  have hmin := ite_min
  have hmax := ite_max
  go_enter Try.func115, Try.ntmps115
  go_wp2
  exact bodyPost_ret (v := spV (min a c) (max b d)) (by simp [results, Try.f115, go_sem]) rfl ⟨rfl, ((hX.alloc _).alloc _).alloc _⟩
/-- a box (four numbers) in a block of its own -/
def Bx (w : World) (A : Nat) (a b c d : Int) : Prop := w.cell? ⟨A, 0, none⟩ = some (.int .i64 a) ∧ w.cell? ⟨A, 1, none⟩ = some (.int .i64 b) ∧ w.cell? ⟨A, 2, none⟩ = some (.int .i64 c) ∧ w.cell? ⟨A, 3, none⟩ = some (.int .i64 d)
theorem Bx.ext {w w' : World} {A : Nat} {a b c d : Int} (h : Bx w A a b c d) (x : Ext w w') : Bx w' A a b c d := ⟨x.cell h.1, x.cell h.2.1, x.cell h.2.2.1, x.cell h.2.2.2⟩
theorem Bx.lt {w : World} {A : Nat} {a b c d : Int} (h : Bx w A a b c d) : A < w.heap.size := lt_of_cell h.1
theorem bx_new (w : World) (a b c d : Int) (T : Nat) : Bx (w.alloc (.cells #[.int .i64 a, .int .i64 b, .int .i64 c, .int .i64 d] T)) w.heap.size a b c d := by
  have e := fun i => cell_new w [.int .i64 a, .int .i64 b, .int .i64 c, .int .i64 d] T i
  exact ⟨e 0, e 1, e 2, e 3⟩
theorem BoxN.bx {w : World} {A : Nat} {a b c d : Int} {T : TypeId} (h : BoxN w A #[.int .i64 a, .int .i64 b, .int .i64 c, .int .i64 d] T) : Bx w A a b c d := ⟨h.cell 0, h.cell 1, h.cell 2, h.cell 3⟩
theorem Ext.undrew {w w' : World} (h : Ext w.drew w') : Ext w w' := (Ext.drew (Ext.refl w)).trans h
theorem BoxN.newE {X w' : World} {cs : Array Value} {T : TypeId} (h : Ext (X.alloc (.cells cs T)) w') : BoxN w' X.heap.size cs T := (BoxN.new X T cs).ext h
theorem BoxN.box4 {w : World} {A : Nat} {a b c d : Int} {T : TypeId} (h : BoxN w A #[.int .i64 a, .int .i64 b, .int .i64 c, .int .i64 d] T) : w.cell? ⟨A, 0, none⟩ = some (.int .i64 a) ∧ w.cell? ⟨A, 1, none⟩ = some (.int .i64 b) ∧ w.cell? ⟨A, 2, none⟩ = some (.int .i64 c) ∧ w.cell? ⟨A, 3, none⟩ = some (.int .i64 d) ∧ ∀ o, w.frozen? ⟨A, o, none⟩ = false := ⟨h.cell 0, h.cell 1, h.cell 2, h.cell 3, h.frozen⟩
abbrev bxO (a b c d : Int) : Obj := .cells #[.int .i64 a, .int .i64 b, .int .i64 c, .int .i64 d] 52
/-- four stores into the result's block -/
theorem ext_four {w0 w : World} {R : Nat} (h : Ext w0 w) (hR : w0.heap.size ≤ R) (u0 u1 u2 u3 : Value) : Ext w0 ((((w.setCell ⟨R, 0, none⟩ u0).setCell ⟨R, 1, none⟩ u1).setCell ⟨R, 2, none⟩ u2).setCell ⟨R, 3, none⟩ u3) :=
  (((h.setCell (p := ⟨R, 0, none⟩) hR _).setCell (p := ⟨R, 1, none⟩) hR _).setCell (p := ⟨R, 2, none⟩) hR _).setCell (p := ⟨R, 3, none⟩) hR _
theorem box_four {w : World} {A : Nat} {x0 x1 x2 x3 : Value} {a b c d : Int} {T : TypeId} (h : BoxN w A #[x0, x1, x2, x3] T) : Bx ((((w.setCell ⟨A, 0, none⟩ (.int .i64 a)).setCell ⟨A, 1, none⟩ (.int .i64 b)).setCell ⟨A, 2, none⟩ (.int .i64 c)).setCell ⟨A, 3, none⟩ (.int .i64 d)) A a b c d :=
  BoxN.bx (T := T) ((((h.set 0 (.int .i64 a)).set 1 (.int .i64 b)).set 2 (.int .i64 c)).set 3 (.int .i64 d))
def meetR (a b c d e f g h : Int) : (Int × Int × Int × Int) × Bool :=
  if (boxB a b c d && boxB e f g h && boxB (max a e) (min b f) (max c g) (min d h)) = true then ((max a e, min b f, max c g, min d h), true) else ((0, 0, 0, 0), false)
abbrev bxT (r : (Int × Int × Int × Int) × Bool) : Value := .tuple #[bxV r.1.1 r.1.2.1 r.1.2.2.1 r.1.2.2.2, .bool r.2]
end Go.Proofs.Ytdbhbfmbpldmnaa
