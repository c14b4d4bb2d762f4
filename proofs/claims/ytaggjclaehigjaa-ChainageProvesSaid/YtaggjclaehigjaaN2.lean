/- Contract of the comparison of pairs. -/
import Derived.Shelf.SlSortCmp.WholeK
import Derived.Test.YtaggjclaehigjaaU
import Derived.Sort.WalkB2
import Derived.Sort.WalkB12
namespace Go.Proofs.Ytaggjclaehigjaa
open Go.RowKit Go.Sort Go.Shelf
/-- pairs in order -/
def cmpP (p q : Int × Int) : Int := if cmpZ p.1 q.1 = 0 then cmpZ p.2 q.2 else cmpZ p.1 q.1
set_option maxRecDepth 100000 in
set_option maxHeartbeats 2000000 in
theorem compare2_any (p q : Int × Int) (A B : Nat) (w : World) (p0 : w.cell? ⟨A, 0, none⟩ = some (.int .i64 p.1)) (p1 : w.cell? ⟨A, 1, none⟩ = some (.int .i64 p.2)) (q0 : w.cell? ⟨B, 0, none⟩ = some (.int .i64 q.1)) (q1 : w.cell? ⟨B, 1, none⟩ = some (.int .i64 q.2)) :
    Calls Try.prog 108 #[.slice (some ⟨A, 0, none⟩) 2 2, .slice (some ⟨B, 0, none⟩) 2 2] w fun e w' => e = .returned (.int .i64 (cmpP p q)) ∧ w = w' := by
  obtain ⟨a, b⟩ := p
  obtain ⟨c, d⟩ := q
  simp only at p0 p1 q0 q1
  have hC : Hid (cmpP (a, b) (c, d) = if cmpZ a c = 0 then cmpZ b d else cmpZ a c) := rfl
  generalize cmpP (a, b) (c, d) = r at hC ⊢
  have HC1 := Lib.hid (compare_any a c w)
  have HC2 := Lib.hid (compare_any b d w)
  generalize cmpZ a c = m1 at hC HC1
  generalize cmpZ b d = m2 at hC HC2
  go_enter Try.func108, Try.ntmps108
  go_wp2_with fail
  go_loopw [11] (fun i wr => ∃ k : Nat, k ≤ 2 ∧ i = .int .i64 k ∧ (0 < k → m1 = 0) ∧ (1 < k → m2 = 0) ∧ wr = w) (fun i _ => 2 - (intOf i).toNat)
  case atStart => exact ⟨0, by omega, rfl, by omega, by omega, by trivial⟩
  case round =>
    obtain ⟨k, hk, rfl, h1, h2, rfl⟩ := hrel
    have h1 := Lib.hid h1
    have h2 := Lib.hid h2
    rcases (by omega : k = 0 ∨ k = 1 ∨ k = 2) with rfl | rfl | rfl
    · cases e1 : (m1 == 0)
      · go_wp2_with (go_at_call 100; with_reducible refine (HC1.out).mono ?_; rintro e w' ⟨rfl, rfl⟩)
        go_ret
        exact ⟨by rw [hC.out, if_neg (by simpa using e1)]; rfl, rfl⟩
      · go_wp2_with (go_at_call 100; with_reducible refine (HC1.out).mono ?_; rintro e w' ⟨rfl, rfl⟩)
        go_roundw
        case rel => exact ⟨1, by omega, by go_num, fun _ => by simpa using e1, by omega, by trivial⟩
        case measure => simp [intOf]
    · cases e1 : (m2 == 0)
      · go_wp2_with (go_at_call 100; with_reducible refine (HC2.out).mono ?_; rintro e w' ⟨rfl, rfl⟩)
        go_ret
        exact ⟨by rw [hC.out, if_pos (h1.out (by omega))]; rfl, rfl⟩
      · go_wp2_with (go_at_call 100; with_reducible refine (HC2.out).mono ?_; rintro e w' ⟨rfl, rfl⟩)
        go_roundw
        case rel => exact ⟨2, by omega, by go_num, fun _ => h1.out (by omega), fun _ => by simpa using e1, by trivial⟩
        case measure => simp [intOf]
    · go_wp2_with fail
      go_ret
      exact ⟨by rw [hC.out, if_pos (h1.out (by omega)), h2.out (by omega)]; rfl, rfl⟩
set_option maxRecDepth 100000 in
set_option maxHeartbeats 2000000 in
theorem cmpP_any (p q : Int × Int) (w : World) :
    Calls Try.prog 107 #[.agg #[.int .i64 p.1, .int .i64 p.2], .agg #[.int .i64 q.1, .int .i64 q.2]] w fun e w' => e = .returned (.int .i64 (cmpP p q)) ∧ ∃ n os', w' = grow (w.drewN n) os' := by
  go_enter Try.func107, Try.ntmps107
  go_wp2_with fail
  have p0 : ((w.alloc (.cells #[.int .i64 p.1, .int .i64 p.2] 131)).alloc (.cells #[.int .i64 q.1, .int .i64 q.2] 131)).cell? ⟨w.heap.size, 0, none⟩ = some (.int .i64 p.1) := ((Ext.refl _).alloc _).cell (cell_new w [_, _] _ 0)
  have p1 : ((w.alloc (.cells #[.int .i64 p.1, .int .i64 p.2] 131)).alloc (.cells #[.int .i64 q.1, .int .i64 q.2] 131)).cell? ⟨w.heap.size, 1, none⟩ = some (.int .i64 p.2) := ((Ext.refl _).alloc _).cell (cell_new w [_, _] _ 1)
  have q0 := cell_new (w.alloc (.cells #[.int .i64 p.1, .int .i64 p.2] 131)) [.int .i64 q.1, .int .i64 q.2] 131 0
  have q1 := cell_new (w.alloc (.cells #[.int .i64 p.1, .int .i64 p.2] 131)) [.int .i64 q.1, .int .i64 q.2] 131 1
  rw [World.size_alloc] at q0 q1
  simp only [List.getElem?_cons_succ, List.getElem?_cons_zero] at q0 q1
  have HF : Hid (((w.alloc (.cells #[.int .i64 p.1, .int .i64 p.2] 131)).alloc (.cells #[.int .i64 q.1, .int .i64 q.2] 131)) = grow (w.drewN 0) #[.cells #[.int .i64 p.1, .int .i64 p.2] 131, .cells #[.int .i64 q.1, .int .i64 q.2] 131]) := by show _ = _; rw [alloc_eq_grow, alloc_eq_grow, grow_grow]; rfl
  obtain ⟨w2, hw2⟩ : ∃ w2, ((w.alloc (.cells #[.int .i64 p.1, .int .i64 p.2] 131)).alloc (.cells #[.int .i64 q.1, .int .i64 q.2] 131)) = w2 := ⟨_, rfl⟩
  rw [hw2] at p0 p1 q0 q1 HF ⊢
  clear hw2
  have HQ : ∀ n, Calls Try.prog 108 #[.slice (some ⟨w.heap.size, 0, none⟩) 2 2, .slice (some ⟨w.heap.size + 1, 0, none⟩) 2 2] (w2.drewN n) fun e w'' => e = .returned (.int .i64 (cmpP p q)) ∧ ∃ m, w'' = w2.drewN m := fun n => (compare2_any p q _ _ (w2.drewN n) p0 p1 q0 q1).mono (fun e w' h => ⟨h.1, n, h.2.symm⟩)
  obtain ⟨r, hr⟩ : ∃ r, cmpP p q = r := ⟨_, rfl⟩
  rw [hr] at HQ
  have HR := Lib.hid hr
  clear hr
  go_quiet (with_reducible exact HQ _)
  go_wp2_with fail
  go_ret
  refine ⟨by rw [HR.out]; rfl, nq, #[.cells #[.int .i64 p.1, .int .i64 p.2] 131, .cells #[.int .i64 q.1, .int .i64 q.2] 131], ?_⟩
  rw [HF.out]
  rfl
end Go.Proofs.Ytaggjclaehigjaa
