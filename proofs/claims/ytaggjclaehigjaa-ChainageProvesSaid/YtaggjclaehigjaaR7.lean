/- Contracts of the specification's functions: lo, hi, clash, clashes. -/
import Derived.Test.YtaggjclaehigjaaR6
import Derived.Test.YtaggjclaehigjaaP7
namespace Go.Proofs.Ytaggjclaehigjaa
open Go.RowKit
abbrev v4 (t : Four) : Value := .agg #[.int .i64 t.i, .int .i64 t.y, .int .i64 t.lo, .int .i64 t.hi]
theorem loZ_le {w y : Int} {t : Four} (h : t.y ≤ y) : loZ w y t = t.lo := by
  unfold loZ
  rw [Int.max_eq_left (by omega), Int.mul_zero, Int.sub_zero]
theorem loZ_gt {w y : Int} {t : Four} (h : ¬ t.y ≤ y) : loZ w y t = t.lo - w * (t.y - y) := by
  unfold loZ
  rw [Int.max_eq_right (by omega)]
theorem hiZ_ge {w y : Int} {t : Four} (h : y ≤ t.y) : hiZ w y t = t.hi := by
  unfold hiZ
  rw [Int.max_eq_left (by omega), Int.mul_zero, Int.add_zero]
theorem hiZ_lt {w y : Int} {t : Four} (h : ¬ y ≤ t.y) : hiZ w y t = t.hi + w * (y - t.y) := by
  unfold hiZ
  rw [Int.max_eq_right (by omega)]
theorem loZ_rng {w y : Int} {t : Four} (ht : OkF t) (hw : 0 ≤ w ∧ w ≤ 1000) (hy : 0 ≤ y ∧ y ≤ 4000) : -4000000 ≤ loZ w y t ∧ loZ w y t ≤ 12000 := by
  obtain ⟨h1, h2, h3, h4⟩ := ht
  unfold loZ
  have := mul_rng hw.1 hw.2 (show 0 ≤ max 0 (t.y - y) by omega) (show max 0 (t.y - y) ≤ 4000 by omega)
  omega
theorem hiZ_rng {w y : Int} {t : Four} (ht : OkF t) (hw : 0 ≤ w ∧ w ≤ 1000) (hy : 0 ≤ y ∧ y ≤ 4000) : 9000 ≤ hiZ w y t ∧ hiZ w y t ≤ 4020000 := by
  obtain ⟨h1, h2, h3, h4⟩ := ht
  unfold hiZ
  have := mul_rng hw.1 hw.2 (show 0 ≤ max 0 (y - t.y) by omega) (show max 0 (y - t.y) ≤ 4000 by omega)
  omega
set_option maxRecDepth 100000 in
set_option maxHeartbeats 1000000 in
theorem rlo (t : Four) (wr y : Int) (w : World) (ht : OkF t) (hw : 0 ≤ wr ∧ wr ≤ 1000) (hy : 0 ≤ y ∧ y ≤ 4000) :
    Calls Try.prog 119 #[v4 t, .int .i64 wr, .int .i64 y] w fun e w' => e = .returned (.int .i64 (loZ wr y t)) ∧ Ext w w' := by
  obtain ⟨h1, h2, h3, h4⟩ := ht
  by_cases h : t.y ≤ y
  · rw [loZ_le h]
    go_enter Try.func119, Try.ntmps119
    go_wp2
    go_ret
    exact ⟨rfl, (Ext.refl _).alloc _⟩
  · rw [loZ_gt h]
    have hm := mul_rng hw.1 hw.2 (show 0 ≤ t.y - y by omega) (show t.y - y ≤ 4000 by omega)
    obtain ⟨d, hd⟩ : ∃ d, t.y - y = d := ⟨_, rfl⟩
    rw [hd] at hm ⊢
    obtain ⟨p, hp⟩ : ∃ p, wr * d = p := ⟨_, rfl⟩
    rw [hp] at hm ⊢
    have e1 : IntKind.i64.wrap d = d := wrap_in (by omega)
    have e2 : IntKind.i64.wrap p = p := wrap_in (by omega)
    have e3 : IntKind.i64.wrap (t.lo - p) = t.lo - p := wrap_in (by omega)
    go_enter Try.func119, Try.ntmps119
    go_wp2
    go_ret
    exact ⟨rfl, (Ext.refl _).alloc _⟩
set_option maxRecDepth 100000 in
set_option maxHeartbeats 1000000 in
theorem rhi (t : Four) (wr y : Int) (w : World) (ht : OkF t) (hw : 0 ≤ wr ∧ wr ≤ 1000) (hy : 0 ≤ y ∧ y ≤ 4000) :
    Calls Try.prog 120 #[v4 t, .int .i64 wr, .int .i64 y] w fun e w' => e = .returned (.int .i64 (hiZ wr y t)) ∧ Ext w w' := by
  obtain ⟨h1, h2, h3, h4⟩ := ht
  by_cases h : y ≤ t.y
  · rw [hiZ_ge h]
    go_enter Try.func120, Try.ntmps120
    go_wp2
    go_ret
    exact ⟨rfl, (Ext.refl _).alloc _⟩
  · rw [hiZ_lt h]
    have hm := mul_rng hw.1 hw.2 (show 0 ≤ y - t.y by omega) (show y - t.y ≤ 4000 by omega)
    obtain ⟨d, hd⟩ : ∃ d, y - t.y = d := ⟨_, rfl⟩
    rw [hd] at hm ⊢
    obtain ⟨p, hp⟩ : ∃ p, wr * d = p := ⟨_, rfl⟩
    rw [hp] at hm ⊢
    have e1 : IntKind.i64.wrap d = d := wrap_in (by omega)
    have e2 : IntKind.i64.wrap p = p := wrap_in (by omega)
    have e3 : IntKind.i64.wrap (t.hi + p) = t.hi + p := wrap_in (by omega)
    go_enter Try.func120, Try.ntmps120
    go_wp2
    go_ret
    exact ⟨rfl, (Ext.refl _).alloc _⟩
theorem box4 {w : World} {B T : Nat} {a b c d : Value} {ro : Nat × Nat} (h : w.heap[B]? = some (.cells #[a, b, c, d] T ro)) : w.cell? ⟨B, 0, none⟩ = some a ∧ w.cell? ⟨B, 1, none⟩ = some b ∧ w.cell? ⟨B, 2, none⟩ = some c ∧ w.cell? ⟨B, 3, none⟩ = some d :=
  ⟨cell_at h 0, cell_at h 1, cell_at h 2, cell_at h 3⟩
set_option maxRecDepth 100000 in
set_option maxHeartbeats 2000000 in
theorem rclash (s t : Four) (wr : Int) (w : World) (hs : OkF s) (ht : OkF t) (hw : 0 ≤ wr ∧ wr ≤ 1000) :
    Calls Try.prog 103 #[v4 s, v4 t, .int .i64 wr] w fun e w' => e = .returned (.bool (clashB wr s t)) ∧ Ext w w' := by
  have hX0 : Ext w ((w.alloc (.cells #[.int .i64 s.i, .int .i64 s.y, .int .i64 s.lo, .int .i64 s.hi] 106)).alloc (.cells #[.int .i64 t.i, .int .i64 t.y, .int .i64 t.lo, .int .i64 t.hi] 106)) := ((Ext.refl w).alloc _).alloc _
  have hb0 := ((Ext.refl _).alloc (.cells #[.int .i64 t.i, .int .i64 t.y, .int .i64 t.lo, .int .i64 t.hi] 106)).block (heap_alloc_new w (.cells #[.int .i64 s.i, .int .i64 s.y, .int .i64 s.lo, .int .i64 s.hi] 106))
  have hb1 := heap_alloc_new (w.alloc (.cells #[.int .i64 s.i, .int .i64 s.y, .int .i64 s.lo, .int .i64 s.hi] 106)) (.cells #[.int .i64 t.i, .int .i64 t.y, .int .i64 t.lo, .int .i64 t.hi] 106)
  rw [World.size_alloc] at hb1
  go_enter Try.func103, Try.ntmps103
  go_wp2_with fail
  obtain ⟨wa, hwa⟩ : ∃ wa, (w.alloc (.cells #[.int .i64 s.i, .int .i64 s.y, .int .i64 s.lo, .int .i64 s.hi] 106)).alloc (.cells #[.int .i64 t.i, .int .i64 t.y, .int .i64 t.lo, .int .i64 t.hi] 106) = wa := ⟨_, rfl⟩
  rw [hwa] at hX0 hb0 hb1 ⊢
  clear hwa
  generalize w.heap.size = B at hb0 hb1 ⊢
  obtain ⟨p0, p1, p2, p3⟩ := box4 hb0
  obtain ⟨q0, q1, q2, q3⟩ := box4 hb1
  have p0 := cell_regrown p0
  have p1 := cell_regrown p1
  have p2 := cell_regrown p2
  have p3 := cell_regrown p3
  have q0 := cell_regrown q0
  have q1 := cell_regrown q1
  have q2 := cell_regrown q2
  have q3 := cell_regrown q3
  have cA := regrow (w := wa) (fun w' _ => rlo s wr t.y w' hs hw ht.1)
  have cB := regrow (w := wa) (fun w' _ => rlo t wr s.y w' ht hw hs.1)
  have HR : Hid (clashB wr s t = (decide (loZ wr t.y s > t.hi) || decide (loZ wr s.y t > s.hi))) := rfl
  generalize loZ wr t.y s = m at cA HR
  generalize loZ wr s.y t = n at cB HR
  by_cases k1 : t.hi < m
  · have HR1 : Hid (clashB wr s t = true) := by show _ = _; rw [HR.out]; simp [k1]
    refine wp_region_quiet_below (by kernel_rfl) (by kernel_rfl) ?_
    repeat (with_reducible refine wpQuiet_step (fun K hK => ?_); go_simp; first | (with_reducible refine hK _ ?_; clear hK K) | (rw [if_neg (by simp [undef])]; with_reducible refine hK _ ?_; clear hK K) | (apply Exists.intro; with_reducible refine ⟨fun _ => ?_, hK _ ?_⟩; (first | with_reducible exact cA _ _ | with_reducible exact cB _ _); clear hK K))
    refine wpQuiet_nil ?_
    intro _ hw'
    obtain ⟨⟨dq, osq⟩, hw''⟩ := hw'
    subst hw''
    have hXq : Ext wa (Go.Sort.grow (redrawn wa dq) osq) := below_regrown wa dq osq
    go_wp2_with fail
    go_ret
    exact ⟨by rw [HR1.out]; rfl, hX0.trans hXq⟩
  · have HR1 : Hid (clashB wr s t = decide (s.hi < n)) := by show _ = _; rw [HR.out]; simp [k1]
    refine wp_region_quiet_below (by kernel_rfl) (by kernel_rfl) ?_
    repeat (with_reducible refine wpQuiet_step (fun K hK => ?_); go_simp; first | (with_reducible refine hK _ ?_; clear hK K) | (rw [if_neg (by simp [undef])]; with_reducible refine hK _ ?_; clear hK K) | (apply Exists.intro; with_reducible refine ⟨fun _ => ?_, hK _ ?_⟩; (first | with_reducible exact cA _ _ | with_reducible exact cB _ _); clear hK K))
    refine wpQuiet_nil ?_
    intro _ hw'
    obtain ⟨⟨dq, osq⟩, hw''⟩ := hw'
    subst hw''
    have hXq : Ext wa (Go.Sort.grow (redrawn wa dq) osq) := below_regrown wa dq osq
    go_wp2_with fail
    go_ret
    exact ⟨by rw [HR1.out]; rfl, hX0.trans hXq⟩
theorem four_at {w wr : World} {a : Option Addr} {l : List Four} {k : Nat} (hc : l = [] ∨ ∃ b off, a = some ⟨b, off, none⟩ ∧ ∀ i, (h : i < l.length) → AtF w b (off + i * 4) l[i]) (hE : Ext w wr) (hk : k < l.length) :
    ∃ b off x, x = l[k] ∧ a = some ⟨b, off, none⟩ ∧ AtF wr b (off + k * 4) x := by
  obtain ⟨b, off, ha, h⟩ := hc.resolve_left (fun e => by simp [e] at hk)
  exact ⟨b, off, l[k], rfl, ha, (h k hk).ext hE⟩
set_option maxRecDepth 100000 in
set_option maxHeartbeats 4000000 in
theorem rclashes (W : World) (l : List Four) (v : Value) (z : Int) (w : World) (hX : Ext W w) (hv : Sl 4 encF w v l) (hl : ∀ t ∈ l, OkF t) (hw : 0 ≤ z ∧ z ≤ 1000) (hn : l.length ≤ 1000) :
    Calls Try.prog 70 #[v, .int .i64 z] w fun e w' => e = .returned (.bool (clashesB z l)) ∧ Ext W w' := by
  obtain ⟨a, cap, rfl, hl1, hm, hc⟩ := Fours.parts hv
  have HC := Lib.hid hc
  have HL := Lib.hid hl
  clear hc hm hv hl
  go_enter Try.func70, Try.ntmps70
  go_wp2_with fail
  go_loopw [5] (fun i wz => ∃ k : Nat, k ≤ l.length ∧ i = .int .i64 k ∧ Ext w wz ∧ Hid (∀ i, (hi : i < k) → (h : i < l.length) → ∀ j, (hj : j < i) → clashB z l[i] (l[j]'(by omega)) = false)) (fun i _ => l.length - (intOf i).toNat)
  case atStart => exact ⟨0, Nat.zero_le _, rfl, Ext.refl _, fun i hi => absurd hi (by omega)⟩
  case round =>
    obtain ⟨k, hk, rfl, hE, HN⟩ := hrel
    by_cases hlt : k < l.length
    · obtain ⟨b, off, x, hx, rfl, c0, c1, c2, c3⟩ := four_at HC.out hE hlt
      go_wp2_with fail
      clear c0 c1 c2 c3
      go_loopw [6, 7] (fun i _ wz => ∃ j : Nat, j ≤ k ∧ i = .int .i64 j ∧ Ext w wz ∧ Hid (∀ i, (hi : i < j) → (h : i < l.length) → clashB z l[k] l[i] = false)) (fun i _ _ => k - (intOf i).toNat)
      case atStart => exact ⟨0, Nat.zero_le _, rfl, hE, fun i hi => absurd hi (by omega)⟩
      case round =>
        clear hE
        obtain ⟨j, hj, rfl, hE, HM⟩ := hrel
        by_cases hjk : j < k
        · have hjl : j < l.length := by omega
          obtain ⟨b', off', x, hx, e0, c0, c1, c2, c3⟩ := four_at HC.out hE hlt
          cases e0
          obtain ⟨b', off', y, hy, e0, d0, d1, d2, d3⟩ := four_at HC.out hE hjl
          cases e0
          have c0 := cell_regrown c0
          have c1 := cell_regrown c1
          have c2 := cell_regrown c2
          have c3 := cell_regrown c3
          have d0 := cell_regrown d0
          have d1 := cell_regrown d1
          have d2 := cell_regrown d2
          have d3 := cell_regrown d3
          have ox : OkF x := HL.out x (by rw [hx]; exact List.getElem_mem hlt)
          have oy : OkF y := HL.out y (by rw [hy]; exact List.getElem_mem hjl)
          have cC := regrow (w := wr) (fun w' _ => rclash x y z w' ox oy hw)
          have hk0 : (0 : Int) ≤ (k : Int) := by omega
          have hk1 : (k : Int) < (l.length : Int) := by omega
          have hj0 : (0 : Int) ≤ (j : Int) := by omega
          have hj1 : (j : Int) < (l.length : Int) := by omega
          have HXY : Hid (clashB z l[k] l[j] = clashB z x y) := by show _ = _; rw [hx, hy]
          clear hx hy ox oy
          cases hcl : clashB z x y
          all_goals
            rw [hcl] at cC HXY
            go_wp2_with fail
            refine wp_region_quiet_below (by kernel_rfl) (by kernel_rfl) ?_
            repeat (with_reducible refine wpQuiet_step (fun K hK => ?_); go_simp; first | (with_reducible refine hK _ ?_; clear hK K) | (apply Exists.intro; with_reducible refine ⟨fun _ => ?_, hK _ ?_⟩; (first | with_reducible exact cC _ _); clear hK K))
            refine wpQuiet_nil ?_
            intro _ hw'
            obtain ⟨⟨dq, osq⟩, hw''⟩ := hw'
            subst hw''
            have hXq : Ext wr (Go.Sort.grow (redrawn wr dq) osq) := below_regrown wr dq osq
            go_wp2_with fail
          · refine ⟨⟨j + 1, by omega, by go_num, hE.trans hXq, fun i hi h => ?_⟩, by simp [intOf]; omega⟩
            by_cases e : i = j
            · subst e; exact HXY.out
            · exact HM.out i (by omega) h
          · go_ret
            exact ⟨by rw [clashesB_true hlt hjk HXY.out]; rfl, hX.trans (hE.trans hXq)⟩
        · obtain rfl : j = k := by omega
          go_wp2_with fail
          refine ⟨⟨j + 1, by omega, by go_num, hE, fun i hi h m hm => ?_⟩, by simp [intOf]; omega⟩
          by_cases e : i = j
          · subst e; exact HM.out m hm (by omega)
          · exact HN.out i (by omega) h m hm
    · obtain rfl : k = l.length := by omega
      go_wp2_with fail
      go_ret
      exact ⟨by rw [clashesB_false.2 (fun i hi j hj => HN.out i hi hi j hj)]; rfl, hX.trans hE⟩
end Go.Proofs.Ytaggjclaehigjaa
