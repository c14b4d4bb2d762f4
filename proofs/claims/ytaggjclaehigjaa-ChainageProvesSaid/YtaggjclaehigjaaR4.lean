/- Contracts of the specification's functions: chains. -/
import Derived.Test.YtaggjclaehigjaaR3
namespace Go.Proofs.Ytaggjclaehigjaa
open Go.RowKit
theorem ids_mem {l : List Five} {k j : Nat} (hj : j < k) (hk : k ≤ l.length) : (l[j]'(by omega)).a ∈ ids l k := by
  unfold ids
  exact List.mem_map.2 ⟨l[j], List.mem_iff_getElem.2 ⟨j, by simp; omega, by simp⟩, rfl⟩
theorem ids_not {l : List Five} {k : Nat} {y : Int} (h : ∀ j, (hj : j < k) → (h : j < l.length) → (l[j].a == y) = false) : ¬ y ∈ ids l k := by
  unfold ids
  intro hm
  obtain ⟨x, hx, rfl⟩ := List.mem_map.1 hm
  obtain ⟨j, hj, rfl⟩ := List.mem_iff_getElem.1 hx
  simp only [List.length_take] at hj
  have := h j (by omega) (by omega)
  simp at this
theorem scan_ret {f : Nat → Int} {n k : Nat} (hz : scan f k = 0) (hk : k < n) {m : Int} (h : f k = m) (h0 : m ≠ 0) : Ending.returned (.int .i64 m) = .returned (.int .i64 (scan f n)) := by
  rw [scan_hit hz (by rw [h]; exact h0) hk, h]
set_option maxRecDepth 100000 in
set_option maxHeartbeats 4000000 in
theorem rchains (W : World) (C : List Five) (v : Value) (w : World) (hX : Ext W w) (hv : Fives w v C) :
    Calls Try.prog 58 #[v] w fun e w' => e = .returned (.int .i64 (scan (errC C) C.length)) ∧ Ext W w' := by
  obtain ⟨a, cap, rfl, hl, hm, hc⟩ := hv.parts
  have HC := Lib.hid hc
  unfold maxLen at hm
  have hml : C.length ≤ 9223372036854775807 := by omega
  clear hc hm hv
  go_enter Try.func58, Try.ntmps58
  go_wp2_with fail
  go_loopw [3] (fun i wr => ∃ k : Nat, k ≤ C.length ∧ i = .int .i64 k ∧ Ext w wr ∧ Hid (scan (errC C) k = 0)) (fun i _ => C.length - (intOf i).toNat)
  case atStart => exact ⟨0, Nat.zero_le _, rfl, Ext.refl _, rfl⟩
  case round =>
    obtain ⟨k, hk, rfl, hE, HZ⟩ := hrel
    by_cases hlt : k < C.length
    · obtain ⟨b, off, x, hx, rfl, c0, c1, c2, c3, c4⟩ := five_at HC.out hE hlt
      have HX := Lib.hid hx
      clear hx
      have HE : Hid (∀ n : Int, errC C k = n → n ≠ 0 → Ending.returned (.int .i64 n) = .returned (.int .i64 (scan (errC C) C.length))) := fun n h h0 => scan_ret HZ.out hlt h h0
      have hcs : inB x.a 1 1099511627776 = false ∨ (inB x.a 1 1099511627776 = true ∧ inB x.b 0 4000 = false) ∨ (inB x.a 1 1099511627776 = true ∧ inB x.b 0 4000 = true ∧ spB x.c x.d 9000 12000 = false) ∨
          (inB x.a 1 1099511627776 = true ∧ inB x.b 0 4000 = true ∧ spB x.c x.d 9000 12000 = true ∧ inB x.e 0 1000 = false) ∨ (inB x.a 1 1099511627776 = true ∧ inB x.b 0 4000 = true ∧ spB x.c x.d 9000 12000 = true ∧ inB x.e 0 1000 = true) := by
        cases inB x.a 1 1099511627776 <;> cases inB x.b 0 4000 <;> cases spB x.c x.d 9000 12000 <;> cases inB x.e 0 1000 <;> simp
      rcases hcs with h1 | ⟨h1, h2⟩ | ⟨h1, h2, h3⟩ | ⟨h1, h2, h3, h4⟩ | ⟨h1, h2, h3, h4⟩
      case inr.inr.inr.inr => as_aux_lemma =>
        have HO : Hid (okC x = true) := okC_t h1 h2 h3 h4
        go_wp2_with (first
          | (go_at_call 51; with_reducible refine (rin _ _ _ _).mono ?_; rintro e w' ⟨rfl, rfl⟩)
          | (go_at_call 93; with_reducible refine (rwithin _ _ _ _ _ _ (Ext.refl _)).mono ?_; rintro e w2 ⟨rfl, hX2⟩; have hr2 := hX2.rule; have hz2 : wr.heap.size < w2.heap.size := (by have := hX2.le; simp at this; omega)))
        have dx : w2.cell? ⟨wr.heap.size, 0, none⟩ = some (.int .i64 x.a) := hX2.cell (At5_new wr 53 x).1
        have hW2 : Ext w w2 := (hE.alloc _).trans hX2
        clear hr2 hz2 hX2 c0 c1 c2 c3 c4 hE
        generalize wr.heap.size = B at dx ⊢
        go_loopw [5] (fun i w3 => ∃ j : Nat, j ≤ k ∧ i = .int .i64 j ∧ Ext w2 w3 ∧ Hid (∀ i, (hi : i < j) → (h : i < C.length) → (C[i].a == x.a) = false)) (fun i _ => k - (intOf i).toNat)
        case atStart => exact ⟨0, Nat.zero_le _, rfl, Ext.refl _, fun i hi => absurd hi (by omega)⟩
        case round =>
          obtain ⟨j, hj, rfl, hE3, HN⟩ := hrel
          have dx3 := hE3.cell dx
          by_cases hjk : j < k
          · have hjl : j < C.length := by omega
            obtain ⟨b', off', y, hy, e0, g0, g1, g2, g3, g4⟩ := five_at HC.out (hW2.trans hE3) hjl
            cases e0
            have HY := Lib.hid hy
            clear hy
            cases hp : (y.a == x.a)
            · go_wp2_with fail
              go_quiet (fail)
              go_wp2_with fail
              refine ⟨⟨j + 1, by omega, by go_num, hE3.drewN _, fun i hi h => ?_⟩, by simp [intOf]; omega⟩
              by_cases e : i = j
              · subst e; rw [← HY.out]; exact hp
              · exact HN.out i (by omega) h
            · go_wp2_with fail
              go_quiet (fail)
              go_wp2_with fail
              go_ret
              refine ⟨HE.out 6 ?_ (by decide), hX.trans (hW2.trans (hE3.drewN _))⟩
              rw [errC_ok hlt HX.out HO.out, if_pos]
              have := ids_mem (l := C) hjk (by omega)
              rw [← HY.out] at this
              rw [← beq_iff_eq.1 hp]
              exact this
          · obtain rfl : j = k := by omega
            go_wp2_with fail
            refine ⟨⟨j + 1, by omega, by go_num, hW2.trans hE3, ?_⟩, by simp [intOf]; omega⟩
            show scan _ _ = 0
            rw [scan, if_pos HZ.out, errC_ok hlt HX.out HO.out, if_neg (ids_not HN.out)]
      all_goals as_aux_lemma =>
        have HO : Hid (okC x = false) := by first | exact okC_f1 h1 | exact okC_f2 h2 | exact okC_f3 h3 | exact okC_f4 h4
        go_wp2_with (first
          | (go_at_call 51; with_reducible refine (rin _ _ _ _).mono ?_; rintro e w' ⟨rfl, rfl⟩)
          | (go_at_call 93; with_reducible refine (rwithin _ _ _ _ _ _ (Ext.refl _)).mono ?_; rintro e w2 ⟨rfl, hX2⟩; have hr2 := hX2.rule; have hz2 : wr.heap.size < w2.heap.size := (by have := hX2.le; simp at this; omega)))
        go_ret
        exact ⟨HE.out 1 (errC_arg hlt HX.out HO.out) (by decide), by first | exact hX.trans ((hE.alloc _).trans hX2) | exact hX.trans (hE.alloc _)⟩
    · obtain rfl : k = C.length := by omega
      go_wp2_with fail
      go_ret
      exact ⟨ret_i HZ.out.symm, hX.trans hE⟩
end Go.Proofs.Ytaggjclaehigjaa
