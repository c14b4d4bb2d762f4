/- Contracts of the specification's functions: Check. -/
import Derived.Test.YtaggjclaehigjaaR4
namespace Go.Proofs.Ytaggjclaehigjaa
open Go.RowKit
/-- the four cells from offset o of block b on -/
def AtF (w : World) (b o : Nat) (t : Four) : Prop :=
  w.cell? ⟨b, o, none⟩ = some (.int .i64 t.i) ∧ w.cell? ⟨b, o + 1, none⟩ = some (.int .i64 t.y) ∧ w.cell? ⟨b, o + 2, none⟩ = some (.int .i64 t.lo) ∧ w.cell? ⟨b, o + 3, none⟩ = some (.int .i64 t.hi)
theorem AtF.ext {w w' : World} {b o : Nat} {t : Four} (h : AtF w b o t) (k : Ext w w') : AtF w' b o t :=
  ⟨k.cell h.1, k.cell h.2.1, k.cell h.2.2.1, k.cell h.2.2.2⟩
theorem Fours.parts {w : World} {v : Value} {l : List Four} (h : Sl 4 encF w v l) : ∃ a cap, v = .slice a l.length cap ∧ l.length ≤ cap ∧ cap ≤ maxLen ∧
    (l = [] ∨ ∃ b off, a = some ⟨b, off, none⟩ ∧ ∀ i, (h : i < l.length) → AtF w b (off + i * 4) l[i]) := by
  obtain ⟨a, cap, hv, hl, hm, h⟩ := h
  refine ⟨a, cap, hv, hl, hm, h.imp id ?_⟩
  rintro ⟨b, off, ha, hc⟩
  refine ⟨b, off, ha, fun i hi => ?_⟩
  have := hc i hi
  exact ⟨this 0 _ rfl, this 1 _ rfl, this 2 _ rfl, this 3 _ rfl⟩
/-- where the things lie -/
structure ThAtI (w : World) (P R : List Five) (a1 a2 : Option Addr) (i : Nat) : Prop where
  at_ : ∃ b1 o1 b2 o2, a1 = some ⟨b1, o1, none⟩ ∧ a2 = some ⟨b2, o2, none⟩ ∧ ∀ j, j < P.length + R.length → AtF w b1 (o1 + j * 4) (f5 ((P ++ R).getD j default)) ∧ w.cell? ⟨b2, o2 + j, none⟩ = some (.int .i64 ((P ++ R).getD j default).b)
theorem things_parts {w : World} {P R : List Five} {v1 v2 : Value} (h1 : Sl 4 encF w v1 ((P ++ R).map f5)) (h2 : Sl 1 enc1 w v2 ((P ++ R).map (·.b))) :
    ∃ a1 c1 a2 c2, v1 = .slice a1 (P.length + R.length) c1 ∧ v2 = .slice a2 (P.length + R.length) c2 ∧ P.length + R.length ≤ c1 ∧ P.length + R.length ≤ c2 ∧ ∀ i, i < P.length + R.length → ThAtI w P R a1 a2 i := by
  obtain ⟨a1, c1, rfl, l1, m1, h1⟩ := Fours.parts h1
  obtain ⟨a2, c2, rfl, l2, m2, h2⟩ := Ints.parts h2
  simp only [List.length_map, List.length_append] at l1 l2 ⊢
  refine ⟨a1, c1, a2, c2, rfl, rfl, l1, l2, fun i hi => ⟨?_⟩⟩
  have hne : P ++ R ≠ [] := by
    intro e
    have := congrArg List.length e
    simp at this
    have e1 : P.length = 0 := by simp [this.1]
    have e2 : R.length = 0 := by simp [this.2]
    omega
  obtain ⟨b1, o1, rfl, g1⟩ := h1.resolve_left (by simpa using hne)
  obtain ⟨b2, o2, rfl, g2⟩ := h2.resolve_left (by simpa using hne)
  refine ⟨b1, o1, b2, o2, rfl, rfl, fun j hj => ?_⟩
  have hj' : j < (P ++ R).length := by simpa using hj
  have g : (P ++ R).getD j default = (P ++ R)[j] := by rw [List.getD_eq_getElem?_getD, List.getElem?_eq_getElem hj']; rfl
  have k1 := g1 j (by simpa using hj)
  have k2 := g2 j (by simpa using hj)
  simp only [List.getElem_map] at k1 k2
  rw [g]
  exact ⟨k1, k2⟩
set_option maxRecDepth 100000 in
set_option maxHeartbeats 8000000 in
theorem rCheck (W : World) (C P R : List Five) (v : Value) (w : World) (hX : Ext W w) (hv : Wk w v C P R) :
    Calls Try.prog 19 #[v] w fun e w' => e = .returned (.int .i64 (chk C P R)) ∧ Ext W w' := by
  have HV := Lib.hid hv
  obtain ⟨vC, vP, vR, rfl, hC, hP, hR, hn⟩ := hv
  obtain ⟨aC, capC, rfl, hlC, hmC, hcC⟩ := hC.parts
  obtain ⟨aP, capP, rfl, hlP, hmP, hcP⟩ := hP.parts
  obtain ⟨aR, capR, rfl, hlR, hmR, hcR⟩ := hR.parts
  have HC := Lib.hid hC
  clear hcC hcP hcR hC hP hR hmC hmP hmR
  by_cases hl1 : 20 < C.length
  · go_enter Try.func19, Try.ntmps19
    go_wp2_with fail
    go_ret
    exact ⟨ret_i (chk_limit (.inl hl1)).symm, hX.alloc _⟩
  by_cases hl2 : (60 : Int) < (P.length : Int) + (R.length : Int)
  · go_enter Try.func19, Try.ntmps19
    go_wp2_with fail
    go_ret
    exact ⟨ret_i (chk_limit (.inr (by omega))).symm, hX.alloc _⟩
  have HK := Lib.hid (chk_few (C := C) (P := P) (R := R) (by omega))
  have q1 : C.length ≤ 20 := by omega
  have q2 : (P.length : Int) + (R.length : Int) ≤ 60 := by omega
  clear hl1 hl2 hn
  have hX0 : Ext w (w.alloc (.cells #[.slice aC C.length capC, .slice aP P.length capP, .slice aR R.length capR] 26)) := (Ext.refl w).alloc _
  have hb0 : (w.alloc (.cells #[.slice aC C.length capC, .slice aP P.length capP, .slice aR R.length capR] 26)).cell? ⟨w.heap.size, 0, none⟩ = some (.slice aC C.length capC) := cell_new w [_, _, _] _ _
  have hb1 : (w.alloc (.cells #[.slice aC C.length capC, .slice aP P.length capP, .slice aR R.length capR] 26)).cell? ⟨w.heap.size, 1, none⟩ = some (.slice aP P.length capP) := cell_new w [_, _, _] _ _
  have hb2 : (w.alloc (.cells #[.slice aC C.length capC, .slice aP P.length capP, .slice aR R.length capR] 26)).cell? ⟨w.heap.size, 2, none⟩ = some (.slice aR R.length capR) := cell_new w [_, _, _] _ _
  by_cases h0 : scan (errC C) C.length = 0
  · have HKT := Lib.hid (HK.out.trans (chk3_tail (P := P) (R := R) h0))
    go_enter Try.func19, Try.ntmps19
    go_wp2_with (go_at_call 58; with_reducible refine (rchains _ C _ _ (Ext.refl _) (HC.out.ext hX0)).mono ?_; rintro e w1 ⟨rfl, hX1⟩; rw [h0]; have hb0 := hX1.cell hb0; have hb1 := hX1.cell hb1; have hb2 := hX1.cell hb2; have zB := lt_of_cell hb0)
    have hX01 := hX0.trans hX1
    clear hX1 hX0
    with_reducible refine (rthings w1 C P R _ _ (Ext.refl _) (HV.out.ext hX01) (by omega)).mono ?_
    rintro e w2 ⟨v1, v2, rfl, s1, s2, hX2⟩
    obtain ⟨a1, c1, a2, c2, rfl, rfl, l1, l2, hT⟩ := things_parts s1 s2
    have HT := Lib.hid hT
    have hW2 := hX01.trans hX2
    have b0 := hX2.cell (by assumption : w1.cell? ⟨w.heap.size, 0, none⟩ = _)
    have b1 := hX2.cell (by assumption : w1.cell? ⟨w.heap.size, 1, none⟩ = _)
    have b2 := hX2.cell (by assumption : w1.cell? ⟨w.heap.size, 2, none⟩ = _)
    clear s1 s2 hT hX2 hX01 zB
    go_wp2_with fail
    generalize w.heap.size = B at b0 b1 b2 ⊢
    clear hb0 hb1 hb2
    go_loopw [6] (fun i wr => ∃ k : Nat, k ≤ P.length + R.length ∧ i = .int .i64 k ∧ Ext w2 wr ∧ Hid (scan (errT C P R) k = 0)) (fun i _ => P.length + R.length - (intOf i).toNat)
    case atStart => exact ⟨0, Nat.zero_le _, rfl, Ext.refl _, rfl⟩
    case round =>
      obtain ⟨i, hi, rfl, hE, HZ⟩ := hrel
      have b0 := hE.cell b0
      have b1 := hE.cell b1
      have b2 := hE.cell b2
      have zB := lt_of_cell b0
      by_cases hlt : i < P.length + R.length
      · obtain ⟨bT, oT, bI, oI, rfl, rfl, hc⟩ := (HT.out i hlt).at_
        obtain ⟨x, hx⟩ : ∃ x, (P ++ R).getD i default = x := ⟨_, rfl⟩
        have HCC : Hid (∀ j, j < P.length + R.length → AtF wr bT (oT + j * 4) (f5 ((P ++ R).getD j default)) ∧ wr.cell? ⟨bI, oI + j, none⟩ = some (.int .i64 ((P ++ R).getD j default).b)) := fun j hj => ⟨(hc j hj).1.ext hE, hE.cell (hc j hj).2⟩
        have hx5 := HCC.out i hlt
        rw [hx] at hx5
        obtain ⟨⟨x0, x1, x2, x3⟩, x4⟩ := hx5
        simp only [f5] at x0 x1 x2 x3
        clear hc
        have HE : Hid (∀ n : Int, errT C P R i = n → n ≠ 0 → Ending.returned (.int .i64 n) = .returned (.int .i64 (chk C P R))) := fun n h h0 => by rw [HKT.out]; exact scan_ret HZ.out hlt h h0
        have HX := Lib.hid hx
        clear hx
        by_cases hp : i < P.length
        · have HO : Hid (∀ b, okT C x 0 = b → okT C x (if i < P.length then 0 else 1) = b) := fun b h => by rw [if_pos hp]; exact h
          have cF0 := regrow (w := wr) (fun w' q => rfits w' C P R _ x 0 w' (Ext.refl _) (HV.out.ext (hW2.trans (hE.trans q))) h0 (by decide))
          have b0' := b0
          have b0 := cell_regrown b0
          have b1' := b1
          have b1 := cell_regrown b1
          have b2 := cell_regrown b2
          have x0' := x0
          have x0 := cell_regrown x0
          have x1' := x1
          have x1 := cell_regrown x1
          have x2 := cell_regrown x2
          have x3 := cell_regrown x3
          have x4' := x4
          have x4 := cell_regrown x4
          have hi0 : (0 : Int) ≤ (i : Int) := by omega
          have hi1 : (i : Int) < ((P.length + R.length : Nat) : Int) := by omega
          cases ho : okT C x 0
          · have cF := cF0
            rw [ho] at cF
            clear cF0
            go_wp2_with fail
            refine wp_region_quiet_below (by kernel_rfl) (by kernel_rfl) ?_
            repeat (with_reducible refine wpQuiet_step (fun K hK => ?_); go_simp; first | (with_reducible refine hK _ ?_; clear hK K) | (rw [if_neg (by simp [undef])]; with_reducible refine hK _ ?_; clear hK K) | (apply Exists.intro; with_reducible refine ⟨fun _ => ?_, hK _ ?_⟩; (first | with_reducible exact cF _ _); clear hK K))
            refine wpQuiet_nil ?_
            intro _ hw'
            obtain ⟨⟨dq, osq⟩, hw''⟩ := hw'
            subst hw''
            have hXq : Ext wr (Go.Sort.grow (redrawn wr dq) osq) := below_regrown wr dq osq
            go_wp2_with fail
            go_ret
            exact ⟨HE.out 1 (errT_arg HX.out (HO.out _ ho)) (by decide), hX.trans (hW2.trans (hE.trans hXq))⟩
          · have cF := cF0
            rw [ho] at cF
            clear cF0
            go_wp2_with fail
            refine wp_region_quiet_below (by kernel_rfl) (by kernel_rfl) ?_
            repeat (with_reducible refine wpQuiet_step (fun K hK => ?_); go_simp; first | (with_reducible refine hK _ ?_; clear hK K) | (rw [if_neg (by simp [undef])]; with_reducible refine hK _ ?_; clear hK K) | (apply Exists.intro; with_reducible refine ⟨fun _ => ?_, hK _ ?_⟩; (first | with_reducible exact cF _ _); clear hK K))
            refine wpQuiet_nil ?_
            intro _ hw'
            obtain ⟨⟨dq, osq⟩, hw''⟩ := hw'
            subst hw''
            have hXq : Ext wr (Go.Sort.grow (redrawn wr dq) osq) := below_regrown wr dq osq
            clear x2 x3 b2
            go_wp2_with fail
            obtain ⟨w3, hw3⟩ : ∃ w3, Go.Sort.grow (redrawn wr dq) osq = w3 := ⟨_, rfl⟩
            have hX3 : Ext wr w3 := hw3 ▸ hXq
            try rw [hw3]
            clear hXq b0 b1 x0 x1 x4 cF
            go_loopw [9, 10] (fun j _ w4 => ∃ m : Nat, m ≤ i ∧ j = .int .i64 m ∧ Ext w3 w4 ∧ Hid (∀ k, k < m → hitT P R i k = false)) (fun j _ _ => i - (intOf j).toNat)
            case atStart => exact ⟨0, Nat.zero_le _, rfl, Ext.refl _, fun k hk => absurd hk (by omega)⟩
            case round =>
              obtain ⟨m, hm, rfl, hE4, HN⟩ := hrel
              have hE3 := hX3.trans hE4
              have b1 := hE3.cell b1'
              have x0 := hE3.cell x0'
              have x1 := hE3.cell x1'
              have x4 := hE3.cell x4'
              by_cases hmi : m < i
              · obtain ⟨y, hy⟩ : ∃ y, (P ++ R).getD m default = y := ⟨_, rfl⟩
                have hy5 := HCC.out m (by omega)
                rw [hy] at hy5
                have HH : Hid (hitT P R i m = (y.a == x.a || (decide (P.length ≤ i) && decide (P.length ≤ m) && (y.b == x.b) && (y.c == x.c)))) := by
                  show _ = _
                  unfold hitT
                  rw [hy, HX.out]
                obtain ⟨⟨y0, y1, -, -⟩, y4⟩ := hy5
                have y0 := hE3.cell y0
                have y1 := hE3.cell y1
                have y4 := hE3.cell y4
                simp only [f5] at y0 y1
                have hm0 : (0 : Int) ≤ (m : Int) := by omega
                have hm1 : (m : Int) < ((P.length + R.length : Nat) : Int) := by omega
                have hW4 := hW2.trans (hE.trans hE3)
                clear hy
                have HNN : Hid (hitT P R i m = false → ∀ k, k < m + 1 → hitT P R i k = false) := fun h k hk => by
                  by_cases e : k = m
                  · rw [e]; exact h
                  · exact HN.out k (by omega)
                clear HN
                have d1 : decide (P.length ≤ i) = false := by simp; omega
                cases e1 : (y.a == x.a)
                · go_wp2_with fail
                  go_quiet (fail)
                  go_wp2_with fail
                  go_quiet (fail)
                  go_wp2_with fail
                  exact ⟨⟨m + 1, by omega, by go_num, hE4.drewN _, HNN.out (by rw [HH.out, d1, e1]; simp)⟩, by simp [intOf]; omega⟩
                · go_wp2_with fail
                  go_quiet (fail)
                  go_wp2_with fail
                  go_quiet (fail)
                  go_wp2_with fail
                  go_ret
                  exact ⟨HE.out 6 (errT_hit HX.out (HO.out _ ho) hmi (by rw [HH.out, d1, e1]; simp)) (by decide), hX.trans ((hW4.drewN _).drewN _)⟩
              · obtain rfl : m = i := by omega
                go_wp2_with fail
                refine ⟨⟨m + 1, by omega, by go_num, hE.trans hE3, ?_⟩, by simp [intOf]; omega⟩
                show scan _ _ = 0
                rw [scan, if_pos HZ.out, errT_no HX.out (HO.out _ ho) HN.out]
        · have HO : Hid (∀ b, okT C x 1 = b → okT C x (if i < P.length then 0 else 1) = b) := fun b h => by rw [if_neg hp]; exact h
          have cF0 := regrow (w := wr) (fun w' q => rfits w' C P R _ x 1 w' (Ext.refl _) (HV.out.ext (hW2.trans (hE.trans q))) h0 (by decide))
          have b0' := b0
          have b0 := cell_regrown b0
          have b1' := b1
          have b1 := cell_regrown b1
          have b2 := cell_regrown b2
          have x0' := x0
          have x0 := cell_regrown x0
          have x1' := x1
          have x1 := cell_regrown x1
          have x2 := cell_regrown x2
          have x3 := cell_regrown x3
          have x4' := x4
          have x4 := cell_regrown x4
          have hi0 : (0 : Int) ≤ (i : Int) := by omega
          have hi1 : (i : Int) < ((P.length + R.length : Nat) : Int) := by omega
          cases ho : okT C x 1
          · have cF := cF0
            rw [ho] at cF
            clear cF0
            go_wp2_with fail
            refine wp_region_quiet_below (by kernel_rfl) (by kernel_rfl) ?_
            repeat (with_reducible refine wpQuiet_step (fun K hK => ?_); go_simp; first | (with_reducible refine hK _ ?_; clear hK K) | (rw [if_neg (by simp [undef])]; with_reducible refine hK _ ?_; clear hK K) | (apply Exists.intro; with_reducible refine ⟨fun _ => ?_, hK _ ?_⟩; (first | with_reducible exact cF _ _); clear hK K))
            refine wpQuiet_nil ?_
            intro _ hw'
            obtain ⟨⟨dq, osq⟩, hw''⟩ := hw'
            subst hw''
            have hXq : Ext wr (Go.Sort.grow (redrawn wr dq) osq) := below_regrown wr dq osq
            go_wp2_with fail
            go_ret
            exact ⟨HE.out 1 (errT_arg HX.out (HO.out _ ho)) (by decide), hX.trans (hW2.trans (hE.trans hXq))⟩
          · have cF := cF0
            rw [ho] at cF
            clear cF0
            go_wp2_with fail
            refine wp_region_quiet_below (by kernel_rfl) (by kernel_rfl) ?_
            repeat (with_reducible refine wpQuiet_step (fun K hK => ?_); go_simp; first | (with_reducible refine hK _ ?_; clear hK K) | (rw [if_neg (by simp [undef])]; with_reducible refine hK _ ?_; clear hK K) | (apply Exists.intro; with_reducible refine ⟨fun _ => ?_, hK _ ?_⟩; (first | with_reducible exact cF _ _); clear hK K))
            refine wpQuiet_nil ?_
            intro _ hw'
            obtain ⟨⟨dq, osq⟩, hw''⟩ := hw'
            subst hw''
            have hXq : Ext wr (Go.Sort.grow (redrawn wr dq) osq) := below_regrown wr dq osq
            clear x2 x3 b2
            go_wp2_with fail
            obtain ⟨w3, hw3⟩ : ∃ w3, Go.Sort.grow (redrawn wr dq) osq = w3 := ⟨_, rfl⟩
            have hX3 : Ext wr w3 := hw3 ▸ hXq
            try rw [hw3]
            clear hXq b0 b1 x0 x1 x4 cF
            go_loopw [9, 10] (fun j _ w4 => ∃ m : Nat, m ≤ i ∧ j = .int .i64 m ∧ Ext w3 w4 ∧ Hid (∀ k, k < m → hitT P R i k = false)) (fun j _ _ => i - (intOf j).toNat)
            case atStart => exact ⟨0, Nat.zero_le _, rfl, Ext.refl _, fun k hk => absurd hk (by omega)⟩
            case round =>
              obtain ⟨m, hm, rfl, hE4, HN⟩ := hrel
              have hE3 := hX3.trans hE4
              have b1 := hE3.cell b1'
              have x0 := hE3.cell x0'
              have x1 := hE3.cell x1'
              have x4 := hE3.cell x4'
              by_cases hmi : m < i
              · obtain ⟨y, hy⟩ : ∃ y, (P ++ R).getD m default = y := ⟨_, rfl⟩
                have hy5 := HCC.out m (by omega)
                rw [hy] at hy5
                have HH : Hid (hitT P R i m = (y.a == x.a || (decide (P.length ≤ i) && decide (P.length ≤ m) && (y.b == x.b) && (y.c == x.c)))) := by
                  show _ = _
                  unfold hitT
                  rw [hy, HX.out]
                obtain ⟨⟨y0, y1, -, -⟩, y4⟩ := hy5
                have y0 := hE3.cell y0
                have y1 := hE3.cell y1
                have y4 := hE3.cell y4
                simp only [f5] at y0 y1
                have hm0 : (0 : Int) ≤ (m : Int) := by omega
                have hm1 : (m : Int) < ((P.length + R.length : Nat) : Int) := by omega
                have hW4 := hW2.trans (hE.trans hE3)
                clear hy
                have HNN : Hid (hitT P R i m = false → ∀ k, k < m + 1 → hitT P R i k = false) := fun h k hk => by
                  by_cases e : k = m
                  · rw [e]; exact h
                  · exact HN.out k (by omega)
                clear HN
                have d1 : decide (P.length ≤ i) = true := by simp; omega
                by_cases hpm : P.length ≤ m
                · have d2 : decide (P.length ≤ m) = true := by simp; omega
                  cases e2 : (y.b == x.b)
                  · cases e1 : (y.a == x.a)
                    · go_wp2_with fail
                      go_quiet (fail)
                      go_wp2_with fail
                      go_quiet (fail)
                      go_wp2_with fail
                      exact ⟨⟨m + 1, by omega, by go_num, hE4.drewN _, HNN.out (by rw [HH.out, d1, d2, e2, e1]; simp)⟩, by simp [intOf]; omega⟩
                    · go_wp2_with fail
                      go_quiet (fail)
                      go_wp2_with fail
                      go_quiet (fail)
                      go_wp2_with fail
                      go_ret
                      exact ⟨HE.out 6 (errT_hit HX.out (HO.out _ ho) hmi (by rw [HH.out, d1, d2, e2, e1]; simp)) (by decide), hX.trans ((hW4.drewN _).drewN _)⟩
                  · cases e3 : (y.c == x.c)
                    · cases e1 : (y.a == x.a)
                      · go_wp2_with fail
                        go_quiet (fail)
                        go_wp2_with fail
                        go_quiet (fail)
                        go_wp2_with fail
                        exact ⟨⟨m + 1, by omega, by go_num, hE4.drewN _, HNN.out (by rw [HH.out, d1, d2, e2, e3, e1]; simp)⟩, by simp [intOf]; omega⟩
                      · go_wp2_with fail
                        go_quiet (fail)
                        go_wp2_with fail
                        go_quiet (fail)
                        go_wp2_with fail
                        go_ret
                        exact ⟨HE.out 6 (errT_hit HX.out (HO.out _ ho) hmi (by rw [HH.out, d1, d2, e2, e3, e1]; simp)) (by decide), hX.trans ((hW4.drewN _).drewN _)⟩
                    · cases e1 : (y.a == x.a)
                      · go_wp2_with fail
                        go_quiet (fail)
                        go_wp2_with fail
                        go_quiet (fail)
                        go_wp2_with fail
                        go_ret
                        exact ⟨HE.out 6 (errT_hit HX.out (HO.out _ ho) hmi (by rw [HH.out, d1, d2, e2, e3, e1]; simp)) (by decide), hX.trans ((hW4.drewN _).drewN _)⟩
                      · go_wp2_with fail
                        go_quiet (fail)
                        go_wp2_with fail
                        go_quiet (fail)
                        go_wp2_with fail
                        go_ret
                        exact ⟨HE.out 6 (errT_hit HX.out (HO.out _ ho) hmi (by rw [HH.out, d1, d2, e2, e3, e1]; simp)) (by decide), hX.trans ((hW4.drewN _).drewN _)⟩
                · have d2 : decide (P.length ≤ m) = false := by simp; omega
                  cases e1 : (y.a == x.a)
                  · go_wp2_with fail
                    go_quiet (fail)
                    go_wp2_with fail
                    go_quiet (fail)
                    go_wp2_with fail
                    exact ⟨⟨m + 1, by omega, by go_num, hE4.drewN _, HNN.out (by rw [HH.out, d1, d2, e1]; simp)⟩, by simp [intOf]; omega⟩
                  · go_wp2_with fail
                    go_quiet (fail)
                    go_wp2_with fail
                    go_quiet (fail)
                    go_wp2_with fail
                    go_ret
                    exact ⟨HE.out 6 (errT_hit HX.out (HO.out _ ho) hmi (by rw [HH.out, d1, d2, e1]; simp)) (by decide), hX.trans ((hW4.drewN _).drewN _)⟩
              · obtain rfl : m = i := by omega
                go_wp2_with fail
                refine ⟨⟨m + 1, by omega, by go_num, hE.trans hE3, ?_⟩, by simp [intOf]; omega⟩
                show scan _ _ = 0
                rw [scan, if_pos HZ.out, errT_no HX.out (HO.out _ ho) HN.out]
      · obtain rfl : i = P.length + R.length := by omega
        go_wp2_with fail
        go_ret
        exact ⟨ret_i (by rw [HKT.out]; exact HZ.out.symm), hX.trans (hW2.trans hE)⟩
  · have HKH := Lib.hid (HK.out.trans (chk3_head (P := P) (R := R) h0))
    have hnb : (scan (errC C) C.length == 0) = false := by simpa using h0
    generalize hg : scan (errC C) C.length = n at HKH hnb
    have hnb2 : (n != 0) = true := by simp [bne, hnb]
    go_enter Try.func19, Try.ntmps19
    go_wp2_with (go_at_call 58; with_reducible refine (rchains _ C _ _ (Ext.refl _) (HC.out.ext hX0)).mono ?_; rintro e w1 ⟨rfl, hX1⟩; rw [hg])
    go_ret
    exact ⟨ret_i HKH.out.symm, hX.trans (hX0.trans hX1)⟩
end Go.Proofs.Ytaggjclaehigjaa
