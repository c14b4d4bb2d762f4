/- The walk of PlaneHullsHold: it returns true. -/
import Derived.Test.YtdbhbfmbpldmnaaP8
import Derived.Test.YtdbhbfmbpldmnaaUV
namespace Go.Proofs.Ytdbhbfmbpldmnaa
open Go.RowKit Go.Sort
theorem hu_cases' (l : List (Int × Int)) : huE l = 2 ∨ huE l = 1 ∨ (huE l = 0 ∧ 0 < l.length ∧ l.length ≤ 200 ∧ l.all okp = true) := by
  unfold huE
  split
  · exact .inl rfl
  · split
    · rename_i h1 h2; exact .inr (.inr ⟨rfl, by omega, by omega, h2⟩)
    · exact .inr (.inl rfl)
theorem turn_sg {a b c : Int × Int} (ha : okp a = true) (hb : okp b = true) (hc : okp c = true) : turnZ a.1 a.2 b.1 b.2 c.1 c.2 = sgz (tw a b c) := by
  unfold turnZ
  rw [show okp (a.1, a.2) = true from ha, show okp (b.1, b.2) = true from hb, show okp (c.1, c.2) = true from hc]
  rfl
set_option maxRecDepth 100000 in
set_option maxHeartbeats 4000000 in
theorem has_any (W : World) (v : Value) (l : List (Int × Int)) (px py : Int) (w : World) (hX : Ext W w) (hv : Pts w v l) (hp : (px, py) ∈ l) :
    Calls Try.prog 49 #[v, spV px py] w fun e w' => e = .returned (.bool true) ∧ Ext W w' := by
  have hlen := hv.len
  obtain ⟨a0, cap, rfl, hl, hm, hc⟩ := hv
  obtain ⟨b, off, rfl, hcc⟩ := hc.resolve_left (by intro e; rw [e] at hp; cases hp)
  have HC := Lib.hid hcc
  have HP := Lib.hid hp
  clear hcc hc hp
  go_enter Try.func49, Try.ntmps49
  go_wp2_with fail
  have bP := BoxN.new w 23 (spC (px, py))
  have hX2 := (Ext.refl w).alloc (.cells (spC (px, py)) 23)
  obtain ⟨w1, hw⟩ : ∃ w', w.alloc (.cells (spC (px, py)) 23) = w' := ⟨_, rfl⟩
  change Code.wp _ _ _ _ (w.alloc (.cells (spC (px, py)) 23))
  rw [hw] at bP hX2 ⊢
  clear hw
  generalize w.heap.size = P at bP ⊢
  go_loopw [5] (fun x wr => ∃ i : Nat, x = .int .i64 i ∧ i ≤ l.length ∧ (px, py) ∉ l.take i ∧ Ext w1 wr) (fun x _ => l.length - (intOf x).toNat)
  case atStart => exact ⟨0, rfl, Nat.zero_le _, by simp, Ext.refl _⟩
  case round =>
    obtain ⟨i, rfl, hi, hn, hx⟩ := hrel
    have HN := Lib.hid hn
    clear hn
    by_cases hlt : i < l.length
    · have hltz : (i : Int) < (l.length : Int) := by omega
      obtain ⟨c0, c1⟩ := HC.out i hlt
      obtain ⟨qx, qy, hq⟩ : ∃ x y, l[i] = (x, y) := ⟨_, _, rfl⟩
      rw [hq] at c0 c1
      have HQ := Lib.hid hq
      clear hq
      have d0 := (hX2.trans hx).cell c0
      have d1 := (hX2.trans hx).cell c1
      simp only at d0 d1
      obtain ⟨p0, p1, -⟩ := (bP.ext hx).box2
      have eqq := fun w => run_eql_pt qx qy px py w
      clear c0 c1
      by_cases e : qx = px ∧ qy = py
      · rw [decide_eq_true e] at eqq
        clear e
        go_wp2_with fail
        refine wp_region_quiet_lit (by kernel_rfl) (by kernel_rfl) ?_
        repeat (with_reducible refine wpQuiet_step (fun K hK => ?_); go_simp; first | (with_reducible refine hK _ ?_; clear hK K) | (rw [if_neg (by simp [undef])]; with_reducible refine hK _ ?_; clear hK K))
        refine wpQuiet_nil ?_
        intro _ hw'
        obtain ⟨nq, hw''⟩ := hw'
        subst hw''
        go_wp2_with fail
        go_ret
        exact ⟨rfl, hX.trans ((hX2.trans hx).drewN _)⟩
      · rw [decide_eq_false e] at eqq
        have HE := Lib.hid e
        clear e
        go_wp2_with fail
        refine wp_region_quiet_lit (by kernel_rfl) (by kernel_rfl) ?_
        repeat (with_reducible refine wpQuiet_step (fun K hK => ?_); go_simp; first | (with_reducible refine hK _ ?_; clear hK K) | (rw [if_neg (by simp [undef])]; with_reducible refine hK _ ?_; clear hK K))
        refine wpQuiet_nil ?_
        intro _ hw'
        obtain ⟨nq, hw''⟩ := hw'
        subst hw''
        go_wp2_with fail
        refine ⟨⟨i + 1, by simp, by omega, ?_, hx.drewN _⟩, by simp [intOf]; omega⟩
        rw [List.take_succ_eq_append_getElem hlt, List.mem_append]
        rintro (c | c)
        · exact HN.out c
        · rw [List.mem_singleton, HQ.out] at c
          exact HE.out ⟨(congrArg Prod.fst c).symm, (congrArg Prod.snd c).symm⟩
    · exfalso
      have c := HN.out
      rw [List.take_of_length_le (by omega)] at c
      exact c HP.out
set_option maxRecDepth 100000 in
set_option maxHeartbeats 32000000 in
theorem law11_any (W : World) (v : Value) (l : List (Int × Int)) (w : World) (hX : Ext W w) (hv : Pts w v l) :
    Calls Try.prog 11 #[v] w fun e w' => e = .returned (.bool true) ∧ Ext W w' := by
  have hv0 := hv
  have hlen := hv.len
  obtain ⟨a0, cap, rfl, hl, hm, hc⟩ := hv
  have HC := Lib.hid hc
  clear hc
  go_enter Try.func11, Try.ntmps11
  by_cases h40 : 40 < l.length
  · have hz : (40 : Int) < (l.length : Int) := by omega
    go_wp2_with fail
    with_reducible refine (boxes_any w _ (Ext.refl _)).mono ?_
    rintro en w1 ⟨rfl, hX1⟩
    go_wp2_with fail
    go_ret
    exact ⟨rfl, hX.trans hX1⟩
  have hz : ¬ (40 : Int) < (l.length : Int) := by omega
  go_wp2_with fail
  refine (Hull_any w _ l _ (Ext.refl _) hv0).mono ?_
  rintro en w1 ⟨vv, H, rfl, hr, hX1, hcase⟩
  have hlr := hr.len
  obtain ⟨a1, cap1, rfl, hl1, hm1, hc1⟩ := id hr
  have HC1 := Lib.hid hc1
  have HR := Lib.hid hr
  have HCS := Lib.hid hcase
  clear hc1 hr hcase
  rcases hu_cases' l with he | he | ⟨he, hpos, h200, hok⟩
  · rw [he]
    go_wp2_with fail
    with_reducible refine (boxes_any w1 _ (Ext.refl _)).mono ?_
    rintro en w2 ⟨rfl, hX2⟩
    go_wp2_with fail
    go_ret
    exact ⟨rfl, hX.trans (hX1.trans hX2)⟩
  · rw [he]
    go_wp2_with fail
    with_reducible refine (boxes_any w1 _ (Ext.refl _)).mono ?_
    rintro en w2 ⟨rfl, hX2⟩
    go_wp2_with fail
    go_ret
    exact ⟨rfl, hX.trans (hX1.trans hX2)⟩
  have hH : HullOf l H := by
    rcases HCS.out with ⟨h, _⟩ | ⟨_, h⟩
    · exact absurd he h
    · exact h
  have okl : ∀ q ∈ l, okp q = true := List.all_eq_true.1 hok
  have hE2 : huE H = 0 := by
    rcases hu_cases' H with h | h | ⟨h, _⟩
    · unfold huE at h
      have := hull_len hH
      have := hull_pos hH
      rw [if_neg (by omega)] at h
      split at h <;> cases h
    · unfold huE at h
      have := hull_len hH
      have := hull_pos hH
      rw [if_neg (by omega), if_pos (List.all_eq_true.2 (fun q hq => okl q (hull_mem hH q hq)))] at h
      cases h
    · exact h
  have HH := Lib.hid hH
  have OKL := Lib.hid okl
  have HE2 := Lib.hid hE2
  have hHl := hull_len hH
  have hHp := hull_pos hH
  rw [he]
  clear hH okl hE2 HCS hok he
  go_wp2_with fail
  refine (Hull_any w1 _ H _ (Ext.refl _) HR.out).mono ?_
  rintro en w2 ⟨vv2, H2, rfl, hr2, hX2, hcase2⟩
  rw [HE2.out]
  have hH2 : H2 = H := by
    rcases hcase2 with ⟨h, _⟩ | ⟨_, h⟩
    · exact absurd HE2.out h
    · exact h.uniq (hull_self HH.out)
  rw [hH2] at hr2
  clear hcase2 hH2 H2
  have HR2 := Lib.hid hr2
  clear hr2
  have hn0 : ((H.length : Int) == 0) = false := by rw [beq_eq_false_iff_ne]; omega
  have n0 : ((0 : Int) != 0) = false := rfl
  go_wp2_with fail
  have dH : Hid (decide (H = H) = true) := decide_eq_true rfl
  refine (samePts_any w2 _ _ H H _ (Ext.refl _) HR2.out (HR.out.ext hX2)).mono ?_
  rintro en w3 ⟨rfl, hX3⟩
  rw [dH.out]
  have hXA := hX1.trans (hX2.trans hX3)
  have hXB := hX2.trans hX3
  clear hX1 hX2 hX3
  obtain ⟨n, hn⟩ : ∃ n, H.length = n := ⟨_, rfl⟩
  have HNN := Lib.hid hn
  rw [hn] at hn0 hHl hHp hl1 hlr ⊢
  clear hn
  obtain ⟨b0, f0, rfl, hcl⟩ := HC.out.resolve_left (by intro e; rw [e] at hpos; simp at hpos)
  obtain ⟨b1, f1, rfl, hch⟩ := HC1.out.resolve_left (by intro e; have := HNN.out; rw [e] at this; simp at this; omega)
  have HCL := Lib.hid hcl
  have HCH := Lib.hid hch
  clear hcl hch HC HC1 HR HR2
  go_wp2_with fail
  go_loopw [8] (fun x wr => ∃ i : Nat, x = .int .i64 i ∧ i ≤ n ∧ Ext w3 wr) (fun x _ => n - (intOf x).toNat)
  case atStart => exact ⟨0, rfl, Nat.zero_le _, Ext.refl _⟩
  case round =>
    obtain ⟨i, rfl, hi, hx⟩ := hrel
    obtain ⟨wq, rfl⟩ : ∃ w', w' = wr := ⟨_, rfl⟩
    by_cases hlt : i < n
    · have hltz : (i : Int) < (n : Int) := by omega
      have hHn := HNN.out
      have cycn : ∀ m, m < n → (hm : m < H.length) → H[m] = cyc H m := fun m h hm => by unfold cyc; rw [hHn, Nat.mod_eq_of_lt h, getD_at hm]
      obtain ⟨j, hj⟩ : ∃ j, (i + 1) % n = j := ⟨_, rfl⟩
      obtain ⟨j2, hj2⟩ : ∃ j, (i + 2) % n = j := ⟨_, rfl⟩
      have hjn : j < n := by rw [← hj]; exact Nat.mod_lt _ (by omega)
      have hj2n : j2 < n := by rw [← hj2]; exact Nat.mod_lt _ (by omega)
      have e1 : cyc H j = cyc H (i + 1) := by unfold cyc; rw [hHn, ← hj, Nat.mod_mod]
      have e2 : cyc H j2 = cyc H (i + 2) := by unfold cyc; rw [hHn, ← hj2, Nat.mod_mod]
      obtain ⟨a2, a3⟩ := HCH.out i (by omega)
      obtain ⟨b2, b3⟩ := HCH.out j (by omega)
      obtain ⟨c2, c3⟩ := HCH.out j2 (by omega)
      rw [cycn i hlt] at a2 a3
      rw [cycn j hjn, e1] at b2 b3
      rw [cycn j2 hj2n, e2] at c2 c3
      obtain ⟨ax, ay, ha⟩ : ∃ x y, cyc H i = (x, y) := ⟨_, _, rfl⟩
      obtain ⟨bx, b_y, hb⟩ : ∃ x y, cyc H (i + 1) = (x, y) := ⟨_, _, rfl⟩
      obtain ⟨cx, cy, hc⟩ : ∃ x y, cyc H (i + 2) = (x, y) := ⟨_, _, rfl⟩
      rw [ha] at a2 a3
      rw [hb] at b2 b3
      rw [hc] at c2 c3
      have HA := Lib.hid ha
      have HB := Lib.hid hb
      have HCc := Lib.hid hc
      have hxw := hXB.trans hx
      have a2 := hxw.cell a2
      have a3 := hxw.cell a3
      have b2 := hxw.cell b2
      have b3 := hxw.cell b3
      have c2 := hxw.cell c2
      have c3 := hxw.cell c3
      simp only at a2 a3 b2 b3 c2 c3
      have al := lt_of_cell a2
      simp only at al
      have t1 : ((i : Int) + 1).tmod (n : Int) = (j : Int) := by
        rw [Int.tmod_eq_emod_of_nonneg (by omega), ← hj]
        simp
      have t2 : ((i : Int) + 1) % (n : Int) = (j : Int) := by rw [← hj]; simp
      have t5 : IntKind.i64.wrap ((i : Int) + 1) = (i : Int) + 1 := by rw [IntKind.wrap_i64]; omega
      have t7 : IntKind.i64.wrap (j : Int) = (j : Int) := by rw [IntKind.wrap_i64]; omega
      have hjz : (j : Int) < (n : Int) := by omega
      have T3 : Hid (((i : Int) + 2).tmod (n : Int) = (j2 : Int) ∧ ((i : Int) + 2) % (n : Int) = (j2 : Int) ∧ IntKind.i64.wrap ((i : Int) + 2) = (i : Int) + 2 ∧ IntKind.i64.wrap (j2 : Int) = (j2 : Int) ∧ (j2 : Int) < (n : Int)) := by
        refine ⟨?_, ?_, ?_, ?_, ?_⟩
        · rw [Int.tmod_eq_emod_of_nonneg (by omega), ← hj2]; simp
        · rw [← hj2]; simp
        · rw [IntKind.wrap_i64]; omega
        · rw [IntKind.wrap_i64]; omega
        · omega
      clear ha hb hc hj hj2 e1 e2 cycn hHn
      have C23 := Lib.hid (And.intro c2 c3)
      clear c2 c3
      go_wp2_with fail
      have bA := (BoxN.new wq 23 (spC (ax, ay))).ext ((Ext.refl _).alloc (.cells (spC (bx, b_y)) 23))
      have bB := BoxN.new (wq.alloc (.cells (spC (ax, ay)) 23)) 23 (spC (bx, b_y))
      rw [World.size_alloc] at bB
      have hX5 := ((Ext.refl wq).alloc (.cells (spC (ax, ay)) 23)).alloc (.cells (spC (bx, b_y)) 23)
      obtain ⟨w5, hw⟩ : ∃ w', (wq.alloc (.cells (spC (ax, ay)) 23)).alloc (.cells (spC (bx, b_y)) 23) = w' := ⟨_, rfl⟩
      change Code.wp _ _ _ _ ((wq.alloc (.cells (spC (ax, ay)) 23)).alloc (.cells (spC (bx, b_y)) 23))
      rw [hw] at bA bB hX5 ⊢
      clear hw
      generalize wq.heap.size + 1 = B at bB ⊢
      generalize wq.heap.size = A at bA ⊢
      clear a2 a3 b2 b3 al t1 t2 t5 t7
      have hx5 := hx.trans hX5
      go_cut [80] (fun v wx => v = .bool false ∧ Ext w5 wx)
      case first =>
        obtain ⟨a2, a3, -⟩ := bA.box2
        obtain ⟨b2, b3, -⟩ := bB.box2
        simp only at a2 a3 b2 b3
        have c2 := hX5.cell C23.out.1
        have c3 := hX5.cell C23.out.2
        have a2 := cell_regrown a2
        have a3 := cell_regrown a3
        have b2 := cell_regrown b2
        have b3 := cell_regrown b3
        have c2 := cell_regrown c2
        have c3 := cell_regrown c3
        have memA : (ax, ay) ∈ l := by rw [← HA.out]; exact hull_mem HH.out _ (cyc_mem (by have := HNN.out; omega) i)
        have cH : ∀ (x : Nat) (os : Array Obj), Calls Try.prog 49 #[.slice (some ⟨b0, f0, none⟩) l.length cap, spV ax ay] (Go.Sort.grow (redrawn w5 x) os) fun e w'' => e = .returned (.bool true) ∧ ∃ p : Regrown, w'' = Go.Sort.grow (redrawn w5 p.d) p.os := fun x os => Calls.regrown_of (has_any _ _ l ax ay _ (Ext.refl _) (hv0.ext ((hXA.trans hx5).trans (below_regrown w5 x os))) memA)
        clear memA
        by_cases h2 : 2 < n
        · have h2z : (2 : Int) < (n : Int) := by omega
          obtain ⟨t1, t2, t3, t4, t5⟩ := T3.out
          have cT := regrow (w := w5) (fun w' => Turn_any w' ax ay bx b_y cx cy w' (Ext.refl _))
          have hT : turnZ ax ay bx b_y cx cy = 1 := by
            have q := hull_left HH.out (by have := HNN.out; omega) i
            have m := fun k => OKL.out _ (hull_mem HH.out _ (cyc_mem (H := H) (by have := HNN.out; omega) k))
            have q2 := turn_sg (m i) (m (i + 1)) (m (i + 2))
            rw [HA.out, HB.out, HCc.out] at q q2
            rw [q2]
            unfold sgz
            rw [if_neg (by omega), if_pos q]
          rw [hT] at cT
          clear hT h2
          have n1 : ((1 : Int) != 1) = false := rfl
          have hnz : ¬ n = 0 := by omega
          have hnz2 : ¬ (n : Int) = 0 := by omega
          refine wp_region_quiet_below (by kernel_rfl) (by kernel_rfl) ?_
          repeat (with_reducible refine wpQuiet_step (fun K hK => ?_); go_simp; first | (with_reducible refine hK _ ?_; clear hK K) | (rw [if_neg (by simp [undef])]; with_reducible refine hK _ ?_; clear hK K) | (apply Exists.intro; with_reducible refine ⟨fun _ => ?_, hK _ ?_⟩; (first | with_reducible exact cH _ _ | with_reducible exact cT _ _); clear hK K))
          refine wpQuiet_nil ?_
          intro _ hw'
          obtain ⟨⟨dq, osq⟩, hw''⟩ := hw'
          subst hw''
          have hXq : Ext w5 (Go.Sort.grow (redrawn w5 dq) osq) := below_regrown w5 dq osq
          go_wp2_with fail
          go_meet
          exact ⟨rfl, hXq⟩
        · have h2z : ¬ (2 : Int) < (n : Int) := by omega
          clear h2
          refine wp_region_quiet_below (by kernel_rfl) (by kernel_rfl) ?_
          repeat (with_reducible refine wpQuiet_step (fun K hK => ?_); go_simp; first | (with_reducible refine hK _ ?_; clear hK K) | (rw [if_neg (by simp [undef])]; with_reducible refine hK _ ?_; clear hK K) | (apply Exists.intro; with_reducible refine ⟨fun _ => ?_, hK _ ?_⟩; (first | with_reducible exact cH _ _); clear hK K))
          refine wpQuiet_nil ?_
          intro _ hw'
          obtain ⟨⟨dq, osq⟩, hw''⟩ := hw'
          subst hw''
          have hXq : Ext w5 (Go.Sort.grow (redrawn w5 dq) osq) := below_regrown w5 dq osq
          go_wp2_with fail
          go_meet
          exact ⟨rfl, hXq⟩
      case rest =>
        obtain ⟨w6, rfl⟩ : ∃ w', w' = wc := ⟨_, rfl⟩
        obtain ⟨rfl, hX6⟩ := hcut
        have bA := bA.ext hX6
        have bB := bB.ext hX6
        have hx6 := hx5.trans hX6
        clear hX5 hx5 hX6 hxw hx T3 C23
        go_wp2_with fail
        go_loopw [11] (fun x wr => ∃ k : Nat, x = .int .i64 k ∧ k ≤ l.length ∧ Ext w6 wr) (fun x _ => l.length - (intOf x).toNat)
        case atStart => exact ⟨0, rfl, Nat.zero_le _, Ext.refl _⟩
        case round =>
          obtain ⟨k, rfl, hk, hy⟩ := hrel
          by_cases hkl : k < l.length
          · have hklz : (k : Int) < (l.length : Int) := by omega
            obtain ⟨d2, d3⟩ := HCL.out k hkl
            obtain ⟨qx, qy, hq⟩ : ∃ x y, l[k] = (x, y) := ⟨_, _, rfl⟩
            rw [hq] at d2 d3
            have hyw := (hXA.trans hx6).trans hy
            have d2 := hyw.cell d2
            have d3 := hyw.cell d3
            simp only at d2 d3
            have memQ : (qx, qy) ∈ l := by rw [← hq]; exact List.getElem_mem hkl
            have okq := OKL.out _ memQ
            have m := fun k => OKL.out _ (hull_mem HH.out _ (cyc_mem (H := H) (by have := HNN.out; omega) k))
            have tq := turn_sg (m i) (m (i + 1)) okq
            have rq := hull_right HH.out i (qx, qy) memQ
            have q1 := hull_one HH.out
            have q2 := hull_two HH.out
            have ma := m i
            have mb := m (i + 1)
            have ne2 : 2 ≤ n → cyc H i ≠ cyc H (i + 1) := fun h => (fun c => (hull_edge HH.out (by have := HNN.out; omega) i).2.1 c.symm)
            have q2' := fun h => q2 h i (qx, qy) memQ
            rw [HNN.out] at q1 q2'
            have q1' := fun h => q1 h (qx, qy) memQ
            have c01 : n = 1 → cyc H i = cyc H 0 := fun h => by unfold cyc; rw [HNN.out, h, Nat.mod_one, Nat.mod_one]
            rw [HA.out, HB.out] at tq rq q2' ne2
            rw [HA.out] at ma c01
            rw [HB.out] at mb
            obtain ⟨tz, htz⟩ : ∃ z, turnZ ax ay bx b_y qx qy = z := ⟨_, rfl⟩
            have tz0 : ¬ tz < 0 := by
              rw [← htz, tq]
              unfold sgz
              rw [if_neg (by omega)]
              split <;> omega
            have cT := regrow (w := wr) (fun w' => Turn_any w' ax ay bx b_y qx qy w' (Ext.refl _))
            rw [htz] at cT
            obtain ⟨a2, a3, -⟩ := (bA.ext hy).box2
            obtain ⟨b2, b3, -⟩ := (bB.ext hy).box2
            simp only at a2 a3 b2 b3
            have a2 := cell_regrown a2
            have a3 := cell_regrown a3
            have b2 := cell_regrown b2
            have b3 := cell_regrown b3
            have d2 := cell_regrown d2
            have d3 := cell_regrown d3
            clear hq hyw memQ tq rq q1 q2 m htz
            have hcase : n = 1 ∨ n = 2 ∨ 3 ≤ n := by omega
            rcases hcase with h1 | h1 | h1
            · have f1 : ((n : Int) == 1) = true := by rw [beq_iff_eq]; omega
              have f2 : ((n : Int) == 2) = false := by rw [beq_eq_false_iff_ne]; omega
              have e := (q1' h1).trans (c01 h1).symm
              have eqq := fun w => run_neq_pt qx qy ax ay w
              rw [decide_eq_true ⟨congrArg Prod.fst e, congrArg Prod.snd e⟩] at eqq
              simp only [Bool.not_true] at eqq
              clear e h1 q1' q2' c01 ne2 ma mb okq
              go_wp2_with fail
              refine wp_region_quiet_below (by kernel_rfl) (by kernel_rfl) ?_
              repeat (with_reducible refine wpQuiet_step (fun K hK => ?_); go_simp; first | (with_reducible refine hK _ ?_; clear hK K) | (rw [if_neg (by simp [undef])]; with_reducible refine hK _ ?_; clear hK K) | (apply Exists.intro; with_reducible refine ⟨fun _ => ?_, hK _ ?_⟩; (first | with_reducible exact cT _ _); clear hK K))
              refine wpQuiet_nil ?_
              intro _ hw'
              obtain ⟨⟨dq, osq⟩, hw''⟩ := hw'
              subst hw''
              have hXq : Ext wr (Go.Sort.grow (redrawn wr dq) osq) := below_regrown wr dq osq
              go_wp2_with fail
              exact ⟨⟨k + 1, by simp, by omega, hy.trans hXq⟩, by simp [intOf]; omega⟩
            · have f1 : ((n : Int) == 1) = false := by rw [beq_eq_false_iff_ne]; omega
              have f2 : ((n : Int) == 2) = true := by rw [beq_iff_eq]; omega
              have hOn : OnB ax ay bx b_y qx qy = true := by
                have pp : propB ax ay bx b_y = true := by
                  unfold propB
                  rw [ma, mb, decide_eq_true (ne2 (by omega))]
                  rfl
                unfold OnB
                rw [pp, okq, q2' h1]
                rfl
              have cO := regrow (w := wr) (fun w' => On_any w' ax ay bx b_y qx qy w' (Ext.refl _))
              rw [hOn] at cO
              clear hOn h1 q1' q2' c01 ne2 ma mb okq
              go_wp2_with fail
              refine wp_region_quiet_below (by kernel_rfl) (by kernel_rfl) ?_
              repeat (with_reducible refine wpQuiet_step (fun K hK => ?_); go_simp; first | (with_reducible refine hK _ ?_; clear hK K) | (rw [if_neg (by simp [undef])]; with_reducible refine hK _ ?_; clear hK K) | (apply Exists.intro; with_reducible refine ⟨fun _ => ?_, hK _ ?_⟩; (first | with_reducible exact cT _ _ | with_reducible exact cO _ _); clear hK K))
              refine wpQuiet_nil ?_
              intro _ hw'
              obtain ⟨⟨dq, osq⟩, hw''⟩ := hw'
              subst hw''
              have hXq : Ext wr (Go.Sort.grow (redrawn wr dq) osq) := below_regrown wr dq osq
              go_wp2_with fail
              exact ⟨⟨k + 1, by simp, by omega, hy.trans hXq⟩, by simp [intOf]; omega⟩
            · have f1 : ((n : Int) == 1) = false := by rw [beq_eq_false_iff_ne]; omega
              have f2 : ((n : Int) == 2) = false := by rw [beq_eq_false_iff_ne]; omega
              clear h1 q1' q2' c01 ne2 ma mb okq
              go_wp2_with fail
              refine wp_region_quiet_below (by kernel_rfl) (by kernel_rfl) ?_
              repeat (with_reducible refine wpQuiet_step (fun K hK => ?_); go_simp; first | (with_reducible refine hK _ ?_; clear hK K) | (rw [if_neg (by simp [undef])]; with_reducible refine hK _ ?_; clear hK K) | (apply Exists.intro; with_reducible refine ⟨fun _ => ?_, hK _ ?_⟩; (first | with_reducible exact cT _ _); clear hK K))
              refine wpQuiet_nil ?_
              intro _ hw'
              obtain ⟨⟨dq, osq⟩, hw''⟩ := hw'
              subst hw''
              have hXq : Ext wr (Go.Sort.grow (redrawn wr dq) osq) := below_regrown wr dq osq
              go_wp2_with fail
              exact ⟨⟨k + 1, by simp, by omega, hy.trans hXq⟩, by simp [intOf]; omega⟩
          · obtain rfl : k = l.length := by omega
            go_wp2_with fail
            exact ⟨⟨i + 1, by simp, by omega, hx6.trans hy⟩, by simp [intOf]; omega⟩
    · obtain rfl : n = i := by omega
      go_wp2_with fail
      with_reducible refine (boxes_any wq _ (Ext.refl _)).mono ?_
      rintro en w9 ⟨rfl, hX9⟩
      go_wp2_with fail
      go_ret
      exact ⟨rfl, hX.trans ((hXA.trans hx).trans hX9)⟩
end Go.Proofs.Ytdbhbfmbpldmnaa
