/- Contracts of the specification's functions: limits. -/
import Derived.Test.YtaggjclaehigjaaR7
import Derived.Deep.DeepCutAuto
namespace Go.Proofs.Ytaggjclaehigjaa
open Go.RowKit
def lmL (z y : Int) (l : List Four) : Int × Int := l.foldl (refLo z y) (9000, 0)
def lmH (z y : Int) (l : List Four) : Int × Int := l.foldl (refHi z y) (12000, 0)
theorem lmL_succ {z y : Int} {l : List Four} {k : Nat} (hk : k < l.length) {x : Four} (hx : x = l[k]) : lmL z y (l.take (k + 1)) = refLo z y (lmL z y (l.take k)) x := by
  unfold lmL
  rw [List.take_succ_eq_append_getElem hk, List.foldl_append, ← hx]
  rfl
theorem lmH_succ {z y : Int} {l : List Four} {k : Nat} (hk : k < l.length) {x : Four} (hx : x = l[k]) : lmH z y (l.take (k + 1)) = refHi z y (lmH z y (l.take k)) x := by
  unfold lmH
  rw [List.take_succ_eq_append_getElem hk, List.foldl_append, ← hx]
  rfl
abbrev limC (p q : Int × Int) : Array Value := #[.int .i64 p.1, .int .i64 q.1, .int .i64 p.2, .int .i64 q.2]
set_option maxRecDepth 100000 in
set_option maxHeartbeats 4000000 in
theorem rlimits (W : World) (l : List Four) (v : Value) (z y : Int) (w : World) (hX : Ext W w) (hv : Sl 4 encF w v l) (hl : ∀ t ∈ l, OkF t) (hw : 0 ≤ z ∧ z ≤ 1000) (hy : 0 ≤ y ∧ y ≤ 4000) (hn : l.length ≤ 1000) :
    Calls Try.prog 95 #[v, .int .i64 z, .int .i64 y] w fun e w' => e = .returned (.agg (limC (lmL z y l) (lmH z y l))) ∧ Ext W w' := by
  have hmin := ite_min
  obtain ⟨a, cap, rfl, hl1, hm, hc⟩ := Fours.parts hv
  have HC := Lib.hid hc
  have HL := Lib.hid hl
  clear hc hm hv hl
  have hb0 := ((Ext.refl _).alloc (.cells #[.int .i64 9000, .int .i64 12000, .int .i64 0, .int .i64 0] 109)).block (heap_alloc_new w (.cells #[.int .i64 0, .int .i64 0, .int .i64 0, .int .i64 0] 109))
  have hb1 := heap_alloc_new (w.alloc (.cells #[.int .i64 0, .int .i64 0, .int .i64 0, .int .i64 0] 109)) (.cells #[.int .i64 9000, .int .i64 12000, .int .i64 0, .int .i64 0] 109)
  rw [World.size_alloc] at hb1
  have hE0 : Ext w ((w.alloc (.cells #[.int .i64 0, .int .i64 0, .int .i64 0, .int .i64 0] 109)).alloc (.cells #[.int .i64 9000, .int .i64 12000, .int .i64 0, .int .i64 0] 109)) := ((Ext.refl w).alloc _).alloc _
  go_enter Try.func95, Try.ntmps95
  go_wp2_with fail
  obtain ⟨wa, hwa⟩ : ∃ wa, (w.alloc (.cells #[.int .i64 0, .int .i64 0, .int .i64 0, .int .i64 0] 109)).alloc (.cells #[.int .i64 9000, .int .i64 12000, .int .i64 0, .int .i64 0] 109) = wa := ⟨_, rfl⟩
  rw [hwa] at hb0 hb1 hE0 ⊢
  clear hwa
  obtain ⟨B, hBB⟩ : ∃ B, w.heap.size = B := ⟨_, rfl⟩
  rw [hBB] at hb0 hb1 ⊢
  go_loopw [8, 9, 10] (fun i _ _ wr => ∃ k : Nat, k ≤ l.length ∧ i = .int .i64 k ∧ Ext w wr ∧ wr.heap[B]? = some (.cells #[.int .i64 0, .int .i64 0, .int .i64 0, .int .i64 0] 109) ∧ wr.heap[B + 1]? = some (.cells (limC (lmL z y (l.take k)) (lmH z y (l.take k))) 109)) (fun i _ _ _ => l.length - (intOf i).toNat)
  case atStart => exact ⟨0, Nat.zero_le _, rfl, hE0, hb0, hb1⟩
  case round =>
    clear hb0 hb1 hE0
    obtain ⟨k, hk, rfl, hE, hb0, hb1⟩ := hrel
    by_cases hlt : k < l.length
    · obtain ⟨b, off, x, hx, rfl, c0, c1, c2, c3⟩ := four_at HC.out hE hlt
      have ox : OkF x := HL.out x (by rw [hx]; exact List.getElem_mem hlt)
      have HS1 := Lib.hid (lmL_succ (z := z) (y := y) hlt hx)
      have HS2 := Lib.hid (lmH_succ (z := z) (y := y) hlt hx)
      obtain ⟨⟨lo, low⟩, h1⟩ : ∃ p, lmL z y (l.take k) = p := ⟨_, rfl⟩
      obtain ⟨⟨hi, top⟩, h2⟩ : ∃ p, lmH z y (l.take k) = p := ⟨_, rfl⟩
      rw [h1] at HS1 hb1
      rw [h2] at HS2 hb1
      unfold refLo at HS1
      unfold refHi at HS2
      have HX : Hid (∀ w' : World, Ext w w' → w'.cell? ⟨b, off + k * 4, none⟩ = some (.int .i64 x.i) ∧ w'.cell? ⟨b, off + k * 4 + 1, none⟩ = some (.int .i64 x.y) ∧ w'.cell? ⟨b, off + k * 4 + 2, none⟩ = some (.int .i64 x.lo) ∧ w'.cell? ⟨b, off + k * 4 + 3, none⟩ = some (.int .i64 x.hi)) := fun w' q => by
        rcases HC.out with h | ⟨b', off', ha, h⟩
        · simp [h] at hlt
        · cases ha
          rw [hx]
          exact (h k hlt).ext q
      clear hx h1 h2
      have hbB := lt_of_cell (HX.out w (Ext.refl _)).1
      have hbne : ¬ b = B + 1 := by simp only at hbB; omega
      have cL := Lib.hid (fun w' => rlo x z y w' ox hw hy)
      have cH := Lib.hid (fun w' => rhi x z y w' ox hw hy)
      generalize loZ z y x = m at cL HS1
      generalize hiZ z y x = n at cH HS2
      have hk0 : (0 : Int) ≤ (k : Int) := by omega
      have hk1 : (k : Int) < (l.length : Int) := by omega
      obtain ⟨e0, e1, e2, e3⟩ := box4 hb1
      go_upto_if 37 with (first | (go_at_call 119; with_reducible refine (cL.out _).mono ?_; rintro e w2 ⟨rfl, hX2⟩; obtain ⟨d0, d1, d2, d3⟩ := HX.out _ (hE.trans hX2)) | (go_at_call 120; with_reducible refine (cH.out _).mono ?_; rintro e w3 ⟨rfl, hX3⟩; have hE3 := (hE.trans hX2).trans hX3; obtain ⟨f0, f1, f2, f3⟩ := HX.out _ hE3; have g1 := hX3.block (hX2.block hb1); obtain ⟨e0, e1, e2, e3⟩ := box4 g1; have z0 := frozen_cells ⟨_, g1⟩ 0; have z1 := frozen_cells ⟨_, g1⟩ 1; have z2 := frozen_cells ⟨_, g1⟩ 2; have z3 := frozen_cells ⟨_, g1⟩ 3))
      have g0' := hX3.block (hX2.block hb0)
      clear hb0 hb1 hX2 hX3 hE cL cH d0 d1 d2 d3
      have HP : Hid (∀ p, (if lo < m then (m, x.i) else if m = lo ∧ 9000 < m then (lo, min low x.i) else (lo, low)) = p → lmL z y (l.take (k + 1)) = p) := fun p h => by rw [HS1.out]; exact h
      have HQ : Hid (∀ p, (if n < hi then (n, x.i) else if n = hi ∧ n < 12000 then (hi, min top x.i) else (hi, top)) = p → lmH z y (l.take (k + 1)) = p) := fun p h => by rw [HS2.out]; exact h
      clear HS1 HS2
      go_cut [9] (fun v wx => v = .int .i64 m ∧ Ext w wx ∧ wx.heap[B]? = some (.cells #[.int .i64 0, .int .i64 0, .int .i64 0, .int .i64 0] 109) ∧ wx.heap[B + 1]? = some (.cells (limC (lmL z y (l.take (k + 1))) (hi, top)) 109))
      case first =>
        by_cases a1 : lo < m
        · have HP1 := Lib.hid (HP.out (m, x.i) (if_pos a1))
          go_wp2_with fail
          go_meet
          case rel => exact ⟨rfl, (hE3.setCell (by show w.heap.size ≤ B + 1; omega) _).setCell (by show w.heap.size ≤ B + 1; omega) _, set_ne (set_ne g0' (by omega)) (by omega), by rw [HP1.out]; exact set_eq (set_eq g1)⟩
        · by_cases a2 : m = lo
          · by_cases a3 : 9000 < m
            · have HP1 := Lib.hid (HP.out (lo, min low x.i) (by rw [if_neg a1, if_pos ⟨a2, a3⟩]))
              have a2b : (m == lo) = true := by simpa using a2
              go_wp2_with fail
              go_region
              all_goals
                go_wp2_with fail
                go_meet
                case rel => exact ⟨by rw [a2], (hE3.setCell (by show w.heap.size ≤ B + 1; omega) _).drew, set_ne g0' (by omega), by rw [HP1.out]; exact set_eq g1⟩
            · have HP1 := Lib.hid (HP.out (lo, low) (by rw [if_neg a1, if_neg (fun h => a3 h.2)]))
              have a2b : (m == lo) = true := by simpa using a2
              go_wp2_with fail
              go_meet
              case rel => exact ⟨by rw [a2], hE3, g0', by rw [HP1.out]; exact g1⟩
          · have HP1 := Lib.hid (HP.out (lo, low) (by rw [if_neg a1, if_neg (fun h => a2 h.1)]))
            have a2b : (m == lo) = false := by simpa using a2
            go_wp2_with fail
            go_meet
            case rel => exact ⟨rfl, hE3, g0', by rw [HP1.out]; exact g1⟩
      case rest =>
        obtain ⟨rfl, hE4, g0, g1⟩ := hcut
        clear hE3 g0' f0 f1 f2 f3 e0 e1 e2 e3 z0 z1 z2 z3
        generalize hp : lmL z y (l.take (k + 1)) = p at g1
        obtain ⟨p1, p2⟩ := p
        have HPP := Lib.hid hp
        clear hp HP
        obtain ⟨e0, e1, e2, e3⟩ := box4 g1
        obtain ⟨f0, f1, f2, f3⟩ := HX.out _ hE4
        have z0 := frozen_cells ⟨_, g1⟩ 0
        have z1 := frozen_cells ⟨_, g1⟩ 1
        have z2 := frozen_cells ⟨_, g1⟩ 2
        have z3 := frozen_cells ⟨_, g1⟩ 3
        simp only at e0 e1 e2 e3
        by_cases a1 : n < hi
        · have HP1 := Lib.hid (HQ.out (n, x.i) (if_pos a1))
          go_wp2_with fail
          go_roundw
          case rel => exact ⟨k + 1, by omega, by go_num, (hE4.setCell (by show w.heap.size ≤ B + 1; omega) _).setCell (by show w.heap.size ≤ B + 1; omega) _, set_ne (set_ne g0 (by omega)) (by omega), by rw [HPP.out, HP1.out]; exact set_eq (set_eq g1)⟩
          case measure => simp [intOf]; omega
        · by_cases a2 : n = hi
          · by_cases a3 : n < 12000
            · have HP1 := Lib.hid (HQ.out (hi, min top x.i) (by rw [if_neg a1, if_pos ⟨a2, a3⟩]))
              have a2b : (n == hi) = true := by simpa using a2
              go_wp2_with fail
              go_region
              all_goals
                go_wp2_with fail
                go_roundw
                case rel => exact ⟨k + 1, by omega, by go_num, (hE4.setCell (by show w.heap.size ≤ B + 1; omega) _).drew, set_ne g0 (by omega), by rw [HPP.out, HP1.out]; exact set_eq g1⟩
                case measure => simp [intOf]; omega
            · have HP1 := Lib.hid (HQ.out (hi, top) (by rw [if_neg a1, if_neg (fun h => a3 h.2)]))
              have a2b : (n == hi) = true := by simpa using a2
              go_wp2_with fail
              go_roundw
              case rel => exact ⟨k + 1, by omega, by go_num, hE4, g0, by rw [HPP.out, HP1.out]; exact g1⟩
              case measure => simp [intOf]; omega
          · have HP1 := Lib.hid (HQ.out (hi, top) (by rw [if_neg a1, if_neg (fun h => a2 h.1)]))
            have a2b : (n == hi) = false := by simpa using a2
            go_wp2_with fail
            go_roundw
            case rel => exact ⟨k + 1, by omega, by go_num, hE4, g0, by rw [HPP.out, HP1.out]; exact g1⟩
            case measure => simp [intOf]; omega
    · obtain rfl : k = l.length := by omega
      rw [List.take_length] at hb1
      obtain ⟨e0, e1, e2, e3⟩ := box4 hb1
      obtain ⟨r0, r1, r2, r3⟩ := box4 hb0
      have z0 := frozen_cells ⟨_, hb0⟩ 0
      have z1 := frozen_cells ⟨_, hb0⟩ 1
      have z2 := frozen_cells ⟨_, hb0⟩ 2
      have z3 := frozen_cells ⟨_, hb0⟩ 3
      go_wp2_with fail
      refine bodyPost_ret (v := .agg (limC (lmL z y l) (lmH z y l))) (by simp [results, Try.results95, r0, r1, r2, r3, go_sem]) rfl ⟨rfl, ?_⟩
      exact hX.trans ((((hE.setCell (by show w.heap.size ≤ B; omega) _).setCell (by show w.heap.size ≤ B; omega) _).setCell (by show w.heap.size ≤ B; omega) _).setCell (by show w.heap.size ≤ B; omega) _)
end Go.Proofs.Ytaggjclaehigjaa
