/- The walk of the law ChainageNarrows. -/
import Derived.Test.YtaggjclaehigjaaP22
import Derived.Test.YtaggjclaehigjaaGR
import Derived.Test.YtaggjclaehigjaaRS
import Derived.Test.YtaggjclaehigjaaWX
import Derived.BigQuiet
namespace Go.Proofs.Ytaggjclaehigjaa
open Go.RowKit
theorem eql_sp5 : ∀ (a b : Int) (w : World), (binOp .eql 30 (.agg #[.int .i64 a, .int .i64 b]) (.agg #[.int .i64 a, .int .i64 b])).run Try.prog w = .ok (.bool true) w := by
  intro a b w
  have h1 : (a == a) = true := by simp
  have h2 : (b == b) = true := by simp
  go_simp
theorem box5k {w : World} {B T : Nat} {a b c d e : Value} {ro : Nat × Nat} (h : w.heap[B]? = some (.cells #[a, b, c, d, e] T ro)) : w.cell? ⟨B, 0, none⟩ = some a ∧ w.cell? ⟨B, 1, none⟩ = some b ∧ w.cell? ⟨B, 2, none⟩ = some c ∧ w.cell? ⟨B, 3, none⟩ = some d ∧ w.cell? ⟨B, 4, none⟩ = some e :=
  box5 h
theorem long_err {C P R : List Five} {id y : Int} (h : (longR C P R id y).2 ≠ 0) : (longR C P R id y).1 = (0, 0) := by
  unfold longR at h ⊢
  split at h
  · rename_i h0
    rw [if_pos h0]
    split at h <;> simp at h
  · rename_i h0
    rw [if_neg h0]
theorem long_ag {C P R : List Five} {id y : Int} : (longR C P R id y).2 = agE C P R id y := by
  unfold longR
  split
  · rename_i h0
    obtain ⟨c, g, hf, hy⟩ := agE_zero h0
    rw [hf, h0]
  · rfl
theorem rest_ag {C P R : List Five} {id y : Int} : (restR C P R id y).2 = agE C P R id y := by
  unfold restR
  split
  · rename_i h0
    obtain ⟨c, g, hf, hy⟩ := agE_zero h0
    rw [hf, h0]
  · rfl
theorem Sl.clip {α : Type} {k : Nat} {enc : α → List Value} {w : World} {a : Option Addr} {cap : Nat} {l : List α} (h : Sl k enc w (.slice a l.length cap) l) : Sl k enc w (.slice a l.length l.length) l := by
  have hm := h.len
  obtain ⟨a', cap', hv, h1, h2, h3⟩ := h
  injection hv with e1 e2 e3
  subst e1
  exact ⟨a, l.length, rfl, Nat.le_refl _, hm, h3⟩
theorem rel7 {w w5 : World} {B D M base : Nat} {vC vP vR : Value} {a5 : Option Addr} {n5 c5 : Nat} {p : Five} {slo shi : Int} {L : List Five} {T1 T2 T3 : Nat} (hE : Ext w w5) (hM : w.heap.size ≤ M) (h0 : w5.heap[B]? = some (.cells #[vC, vP, vR] T1)) (z0 : B ≠ M)
    (h1 : w5.heap[B + 1]? = some (.cells #[.int .i64 p.a, .int .i64 p.b, .int .i64 p.c, .int .i64 p.d, .int .i64 p.e] T2)) (z1 : B + 1 ≠ M) (hD : w5.heap[D]? = some (.cells #[.int .i64 slo, .int .i64 shi] T3)) (zD : D ≠ M) (hM5 : w5.heap[M]? = some (.cells #[vC, vP, vR] 26)) (hO : Own 72 5 enc5 base w5 (.slice a5 n5 c5) L) :
    ∃ a n c, (.slice a5 n5 c5 : Value) = .slice a n c ∧ Ext w (w5.setCell ⟨M, 1, none⟩ (.slice a5 n5 c5)) ∧ (w5.setCell ⟨M, 1, none⟩ (.slice a5 n5 c5)).heap[B]? = some (.cells #[vC, vP, vR] T1) ∧
      (w5.setCell ⟨M, 1, none⟩ (.slice a5 n5 c5)).heap[B + 1]? = some (.cells #[.int .i64 p.a, .int .i64 p.b, .int .i64 p.c, .int .i64 p.d, .int .i64 p.e] T2) ∧ (w5.setCell ⟨M, 1, none⟩ (.slice a5 n5 c5)).heap[D]? = some (.cells #[.int .i64 slo, .int .i64 shi] T3) ∧
      (w5.setCell ⟨M, 1, none⟩ (.slice a5 n5 c5)).heap[M]? = some (.cells #[vC, .slice a n c, vR] 26) ∧ Fives (w5.setCell ⟨M, 1, none⟩ (.slice a5 n5 c5)) (.slice a n c) L :=
  ⟨_, _, _, rfl, hE.setCell hM _, set_ne h0 z0, set_ne h1 z1, set_ne hD zD, set_eq hM5, (hO.kx ((KX.refl M w5).set 1 _) hM5 (by decide)).sl enc5_len⟩
theorem fewB_len {C P R : List Five} (h : fewB C P R = true) : C.length ≤ 40 ∧ P.length + R.length ≤ 80 := by
  unfold fewB at h
  simpa using h
set_option maxRecDepth 100000 in
set_option maxHeartbeats 16000000 in
theorem lawNarrows (W : World) (C P R : List Five) (v : Value) (p : Five) (id y : Int) (w : World) (hX : Ext W w) (hv : Wk w v C P R) :
    Calls Try.prog 11 #[v, v5 p, .int .i64 id, .int .i64 y] w fun e w' => e = .returned (.bool true) ∧ Ext W w' := by
  have HF := Lib.hid (fun w' (q : Ext w w') => few_any w' C P R v w' (Ext.refl _) (hv.ext q))
  have HLO := Lib.hid (fun w' (q : Ext w w') => Long_any w' C P R v id y w' (Ext.refl _) (hv.ext q))
  have HRE := Lib.hid (fun w' (q : Ext w w') => RestsS w' C P R v id y w' (Ext.refl _) (hv.ext q))
  have HWI := Lib.hid (fun G vg w' (q : Ext w w') (hg : Ints w' vg G) => Without_any w' C P R G v vg w' (Ext.refl _) (hv.ext q) hg)
  have HL2 := Lib.hid (fun C P R v w' (h : Wk w' v C P R) => Long_any w' C P R v id y w' (Ext.refl _) h)
  have HC2 := Lib.hid (fun C P R v w' (h : Wk w' v C P R) => Check_any w' C P R v w' (Ext.refl _) h)
  have HLAG := Lib.hid (long_ag (C := C) (P := P) (R := R) (id := id) (y := y))
  have HLER := Lib.hid (fun h => long_err (C := C) (P := P) (R := R) (id := id) (y := y) h)
  obtain ⟨vC, vP, vR, rfl, hC, hP, hR, hn0⟩ := hv
  have HCS := Lib.hid hC
  have HPS := Lib.hid hP
  have HRS := Lib.hid hR
  obtain ⟨aC, capC, rfl, -⟩ := hC.parts
  obtain ⟨aP, capP, rfl, hlP, hmP, hcP⟩ := hP.parts
  obtain ⟨aR, capR, rfl, hlR, hmR, -⟩ := hR.parts
  have HcP := Lib.hid hcP
  unfold maxLen at hmP hmR
  have hPR : (P.length : Int) + (R.length : Int) ≤ 9223372036854775807 := by omega
  have e64 : IntKind.i64.wrap ((P.length : Int) + (R.length : Int)) = (P.length : Int) + (R.length : Int) := wrap_in (by omega)
  have hPn : aP = none → P = [] := fun e => by
    rcases hcP with h | ⟨b, off, h, _⟩
    · exact h
    · rw [e] at h; cases h
  have HPN : Hid (aP = none → P.length = 0) := fun e => by rw [hPn e]; rfl
  have HFL := Lib.hid (fun h => fewB_len (C := C) (P := P) (R := R) h)
  generalize fewB C P R = f at HF HFL
  clear hC hP hR hlR hmR hn0 hcP hPn hmP
  have hX0 : Ext w ((w.alloc (.cells #[.slice aC C.length capC, .slice aP P.length capP, .slice aR R.length capR] 26)).alloc (.cells #[.int .i64 p.a, .int .i64 p.b, .int .i64 p.c, .int .i64 p.d, .int .i64 p.e] 72)) := ((Ext.refl w).alloc _).alloc _
  have hb0 := ((Ext.refl _).alloc (.cells #[.int .i64 p.a, .int .i64 p.b, .int .i64 p.c, .int .i64 p.d, .int .i64 p.e] 72)).block (heap_alloc_new w (.cells #[.slice aC C.length capC, .slice aP P.length capP, .slice aR R.length capR] 26))
  have hb1 := heap_alloc_new (w.alloc (.cells #[.slice aC C.length capC, .slice aP P.length capP, .slice aR R.length capR] 26)) (.cells #[.int .i64 p.a, .int .i64 p.b, .int .i64 p.c, .int .i64 p.d, .int .i64 p.e] 72)
  rw [World.size_alloc] at hb1
  obtain ⟨B, hBB⟩ : ∃ B, w.heap.size = B := ⟨_, rfl⟩
  rw [hBB] at hb0 hb1
  go_enter Try.func11, Try.ntmps11
  go_upto_region 1 with fail
  obtain ⟨wa, hwa⟩ : ∃ wa, (w.alloc (.cells #[.slice aC C.length capC, .slice aP P.length capP, .slice aR R.length capR] 26)).alloc (.cells #[.int .i64 p.a, .int .i64 p.b, .int .i64 p.c, .int .i64 p.d, .int .i64 p.e] 72) = wa := ⟨_, rfl⟩
  rw [hwa] at hX0 hb0 hb1 ⊢
  clear hwa
  go_cut [36] (fun v wx => ∃ b, v = .bool b ∧ (b = false → f = true) ∧ Ext w wx ∧ wx.heap[B]? = some (.cells #[.slice aC C.length capC, .slice aP P.length capP, .slice aR R.length capR] 26) ∧ wx.heap[B + 1]? = some (.cells #[.int .i64 p.a, .int .i64 p.b, .int .i64 p.c, .int .i64 p.d, .int .i64 p.e] 72))
  case first => as_aux_lemma =>
    obtain ⟨k0, k1, k2⟩ := box3' hb0
    have hcs : f = false ∨ (f = true ∧ 30 < (P.length : Int) + (R.length : Int)) ∨ (f = true ∧ ¬ 30 < (P.length : Int) + (R.length : Int)) := by
      cases f <;> simp <;> omega
    rcases hcs with rfl | ⟨rfl, g1⟩ | ⟨rfl, g1⟩
    all_goals
      go_wp2_with (go_at_call 14; with_reducible refine (HF.out _ hX0).mono ?_; rintro e w2 ⟨rfl, hX2⟩; have hE2 := hX0.trans hX2; have hb2 := hX2.block hb0; have hb3 := hX2.block hb1; obtain ⟨k0, k1, k2⟩ := box3' hb2)
      go_meet
      case rel => exact ⟨_, rfl, by simp, hE2, hb2, hb3⟩
  case rest =>
  obtain ⟨b, rfl, hbf, hE0, hb0, hb1⟩ := hcut
  obtain ⟨w0, rfl⟩ : ∃ w', w' = wc := ⟨_, rfl⟩
  clear hX0 HF
  cases b
  · have hlen := HFL.out (hbf rfl)
    clear hbf HFL
    obtain ⟨r, hr⟩ : ∃ r, longR C P R id y = r := ⟨_, rfl⟩
    rw [hr] at HLO HLAG HLER
    obtain ⟨⟨slo, shi⟩, n⟩ := r
    have HR := Lib.hid hr
    clear hr
    obtain ⟨k0, k1, k2⟩ := box3' hb0
    go_wp2_with fail
    with_reducible refine (HLO.out _ hE0).mono ?_
    rintro e w1' ⟨rfl, hX1⟩
    have hE1 := (hE0.trans hX1).alloc (.cells #[.int .i64 slo, .int .i64 shi] 30)
    replace hb0 := ((Ext.refl w1').alloc (.cells #[.int .i64 slo, .int .i64 shi] 30)).block (hX1.block hb0)
    replace hb1 := ((Ext.refl w1').alloc (.cells #[.int .i64 slo, .int .i64 shi] 30)).block (hX1.block hb1)
    have hbD := heap_alloc_new w1' (.cells #[.int .i64 slo, .int .i64 shi] 30)
    obtain ⟨D, hD⟩ : ∃ A, w1'.heap.size = A := ⟨_, rfl⟩
    clear hX1 k0 k1 k2
    go_upto_region 4 with fail
    rw [hD] at hbD
    obtain ⟨w1, hw1⟩ : ∃ w0, w1'.alloc (.cells #[.int .i64 slo, .int .i64 shi] 30) = w0 := ⟨_, rfl⟩
    rw [hw1] at hE1 hbD hb0 hb1 ⊢
    clear hw1 hD HLO
    have q5 := eql_sp5
    by_cases hn : n = 0
    · subst hn
      have HAG : Hid (agE C P R id y = 0) := HLAG.out.symm
      clear HLAG HLER
      obtain ⟨k0, k1, k2⟩ := box3' hb0
      have zB1 := (Array.getElem?_eq_some_iff.1 hb1).1
      have zD := (Array.getElem?_eq_some_iff.1 hbD).1
      have hE2 := hE1.alloc (.cells #[.slice aC C.length capC, .slice aP P.length capP, .slice aR R.length capR] 26)
      have hb1' := hb1
      replace hb0 := ((Ext.refl w1).alloc (.cells #[.slice aC C.length capC, .slice aP P.length capP, .slice aR R.length capR] 26)).block hb0
      replace hb1 := ((Ext.refl w1).alloc (.cells #[.slice aC C.length capC, .slice aP P.length capP, .slice aR R.length capR] 26)).block hb1
      replace hbD := ((Ext.refl w1).alloc (.cells #[.slice aC C.length capC, .slice aP P.length capP, .slice aR R.length capR] 26)).block hbD
      have hbM := heap_alloc_new w1 (.cells #[.slice aC C.length capC, .slice aP P.length capP, .slice aR R.length capR] 26)
      obtain ⟨M, hM⟩ : ∃ A, w1.heap.size = A := ⟨_, rfl⟩
      have zBM : B < M := by rw [← hM]; exact lt_of_cell k0
      have zBM1 : B + 1 < M := by rw [← hM]; exact zB1
      have zDM : D < M := by rw [← hM]; exact zD
      go_upto_region 7 with fail
      rw [hM] at hbM
      have hq2 : Ext w1 (w1.alloc (.cells #[.slice aC C.length capC, .slice aP P.length capP, .slice aR R.length capR] 26)) := (Ext.refl _).alloc _
      have hqs : w1.heap.size ≤ M := by omega
      obtain ⟨w2, hw2⟩ : ∃ w0, w1.alloc (.cells #[.slice aC C.length capC, .slice aP P.length capP, .slice aR R.length capR] 26) = w0 := ⟨_, rfl⟩
      rw [hw2] at hE2 hbD hb0 hb1 hbM hq2 ⊢
      clear hw2 hM hE1
      have K0 := Lib.hid (And.intro k0 (And.intro k1 k2))
      have P0 := Lib.hid (box5 hb1')
      clear k0 k1 k2 hb1'
      have HPC := Lib.hid (fun w' (q : Ext w w') => (HPS.out.ext q).clip)
      go_cut [65] (fun u wx => ∃ a n c, u = .slice a n c ∧ Ext w wx ∧ wx.heap[B]? = some (.cells #[.slice aC C.length capC, .slice aP P.length capP, .slice aR R.length capR] 26) ∧ wx.heap[B + 1]? = some (.cells #[.int .i64 p.a, .int .i64 p.b, .int .i64 p.c, .int .i64 p.d, .int .i64 p.e] 72) ∧ wx.heap[D]? = some (.cells #[.int .i64 slo, .int .i64 shi] 30) ∧ wx.heap[M]? = some (.cells #[.slice aC C.length capC, .slice a n c, .slice aR R.length capR] 26) ∧ Fives wx (.slice a n c) (P ++ [p]))
      case first =>
        have hPc : (P.length : Int) ≤ (capP : Int) := by omega
        have hP0 : (0 : Int) ≤ (P.length : Int) := by omega
        have hK2 : ∀ w', Ext w1 w' → (fun w' => Ext w1 w' ∧ (B < w'.heap.size ∧ B + 1 < w'.heap.size) ∧ (w'.cell? ⟨B, 0, none⟩ = some (.slice aC C.length capC) ∧ w'.cell? ⟨B, 1, none⟩ = some (.slice aP P.length capP) ∧ w'.cell? ⟨B, 2, none⟩ = some (.slice aR R.length capR)) ∧ (w'.cell? ⟨B + 1, 0, none⟩ = some (.int .i64 p.a) ∧ w'.cell? ⟨B + 1, 1, none⟩ = some (.int .i64 p.b) ∧ w'.cell? ⟨B + 1, 2, none⟩ = some (.int .i64 p.c) ∧ w'.cell? ⟨B + 1, 3, none⟩ = some (.int .i64 p.d) ∧ w'.cell? ⟨B + 1, 4, none⟩ = some (.int .i64 p.e))) w' := fun w' x => ⟨x, ⟨lt_of_cell (x.cell K0.out.1), lt_of_cell (x.cell P0.out.1)⟩, ⟨x.cell K0.out.1, x.cell K0.out.2.1, x.cell K0.out.2.2⟩, ⟨x.cell P0.out.1, x.cell P0.out.2.1, x.cell P0.out.2.2.1, x.cell P0.out.2.2.2.1, x.cell P0.out.2.2.2.2⟩⟩
        have HK2 := Lib.hid hK2
        have HM2 := Lib.hid hbM
        clear hK2
        go_region_held3 (fun w' => Ext w1 w' ∧ (B < w'.heap.size ∧ B + 1 < w'.heap.size) ∧ (w'.cell? ⟨B, 0, none⟩ = some (.slice aC C.length capC) ∧ w'.cell? ⟨B, 1, none⟩ = some (.slice aP P.length capP) ∧ w'.cell? ⟨B, 2, none⟩ = some (.slice aR R.length capR)) ∧ (w'.cell? ⟨B + 1, 0, none⟩ = some (.int .i64 p.a) ∧ w'.cell? ⟨B + 1, 1, none⟩ = some (.int .i64 p.b) ∧ w'.cell? ⟨B + 1, 2, none⟩ = some (.int .i64 p.c) ∧ w'.cell? ⟨B + 1, 3, none⟩ = some (.int .i64 p.d) ∧ w'.cell? ⟨B + 1, 4, none⟩ = some (.int .i64 p.e))) (first | with_reducible exact HK2.out _ hq6 | with_reducible exact HK2.out _ hq5 | with_reducible exact HK2.out _ hq2 | with_reducible exact HK2.out _ hq2.drew | with_reducible exact HK2.out _ (hq2.alloc _) | with_reducible exact HK2.out _ (hq2.alloc _).drew | with_reducible exact HK2.out _ (hq2.drew.alloc _))
          ((first
            | (with_reducible refine step_full 23 72 5 40 (.agg #[.int .i64 0, .int .i64 0, .int .i64 0, .int .i64 0, .int .i64 0]) enc5 enc5_len enc5_one Try.underlying23 infoProof rfl (by decide) (by decide) rfl (.tmp 62) (.tmp 64) rfl aP P.length P.length P rfl rfl (HPC.out _ ((hE2.alloc _).drew)) HPN.out (.slice (some ⟨w2.heap.size, 0, none⟩) 1 1) [p] rfl ((Sl.mk1 rfl rfl).ext ((Ext.refl _).drew)) (by simp) (by simp) (by simp; omega) ?_; intro v5 w5 hO5 hE5; obtain ⟨a5, n5, c5, rfl⟩ := own_form hO5; have hEA := Ext.trans (Ext.drew ((Ext.refl w2).alloc (.cells #[.int .i64 p.a, .int .i64 p.b, .int .i64 p.c, .int .i64 p.d, .int .i64 p.e] 72))) hE5; have hq5 : Ext w1 w5 := Ext.trans hq2 hEA; have hbM5 := hEA.block HM2.out; obtain ⟨m0', m1', m2'⟩ := box3' hbM5; have fm' := frozen_cells ⟨_, hbM5⟩ 1; have zM' := lt_of_cell m0'; have hq6 : Ext w1 (w5.setCell ⟨M, 1, none⟩ (.slice a5 n5 c5)) := Ext.setCell hq5 hqs _)
            | (with_reducible refine step_full 23 72 5 40 (.agg #[.int .i64 0, .int .i64 0, .int .i64 0, .int .i64 0, .int .i64 0]) enc5 enc5_len enc5_one Try.underlying23 infoProof rfl (by decide) (by decide) rfl (.tmp 62) (.tmp 64) rfl aP P.length P.length P rfl rfl (HPC.out _ ((hE2.drew).alloc _)) HPN.out (.slice (some ⟨w2.heap.size, 0, none⟩) 1 1) [p] rfl (Sl.mk1 rfl rfl) (by simp) (by simp) (by simp; omega) ?_; intro v5 w5 hO5 hE5; obtain ⟨a5, n5, c5, rfl⟩ := own_form hO5; have hEA := Ext.trans (((Ext.refl w2).drew).alloc (.cells #[.int .i64 p.a, .int .i64 p.b, .int .i64 p.c, .int .i64 p.d, .int .i64 p.e] 72)) hE5; have hq5 : Ext w1 w5 := Ext.trans hq2 hEA; have hbM5 := hEA.block HM2.out; obtain ⟨m0', m1', m2'⟩ := box3' hbM5; have fm' := frozen_cells ⟨_, hbM5⟩ 1; have zM' := lt_of_cell m0'; have hq6 : Ext w1 (w5.setCell ⟨M, 1, none⟩ (.slice a5 n5 c5)) := Ext.setCell hq5 hqs _)))
        all_goals
          go_wp2_with fail
          go_meet
          case rel => with_reducible exact rel7 (hE2.trans hEA) (by omega) (hEA.block hb0) (by omega) (hEA.block hb1) (by omega) (hEA.block hbD) (by omega) hbM5 hO5
      case rest =>
      clear hb0 hb1 hbD hbM hE2 HPC K0 P0 hq2 hqs
      obtain ⟨a5, n5, c5, rfl, hE3, hb0, -, hbD, hbM, hS5⟩ := hcut
      obtain ⟨w3, rfl⟩ : ∃ w', w' = wc := ⟨_, rfl⟩
      have hWM : Wk w3 (.agg #[.slice aC C.length capC, .slice a5 n5 c5, .slice aR R.length capR]) C (P ++ [p]) R := ⟨_, _, _, rfl, HCS.out.ext hE3, hS5, HRS.out.ext hE3, by simp; omega⟩
      have HWM := Lib.hid hWM
      obtain ⟨r, hr⟩ : ∃ r, longR C (P ++ [p]) R id y = r := ⟨_, rfl⟩
      have HLM := Lib.hid (HL2.out C (P ++ [p]) R _ w3 hWM)
      have HAG2 := Lib.hid (long_ag (C := C) (P := P ++ [p]) (R := R) (id := id) (y := y))
      have HML := Lib.hid (fun h => more_long (C := C) (P := P) (R := R) (id := id) (y := y) (p := p) HAG.out h)
      have HME := Lib.hid (fun h1 h2 => more_err (C := C) (P := P) (R := R) (id := id) (y := y) (p := p) HAG.out h1 h2)
      rw [HR.out, hr] at HML
      rw [hr] at HLM HAG2
      obtain ⟨⟨tlo, thi⟩, m⟩ := r
      clear hr hS5 hWM
      obtain ⟨m0, m1, m2⟩ := box3' hbM
      go_wp2_with fail
      with_reducible refine HLM.out.mono ?_
      rintro e w4' ⟨rfl, hX4⟩
      have hE4 := (hE3.trans hX4).alloc (.cells #[.int .i64 tlo, .int .i64 thi] 30)
      have hY4 := hX4.alloc (.cells #[.int .i64 tlo, .int .i64 thi] 30)
      have hbT := heap_alloc_new w4' (.cells #[.int .i64 tlo, .int .i64 thi] 30)
      obtain ⟨T, hT⟩ : ∃ A, w4'.heap.size = A := ⟨_, rfl⟩
      clear m0 m1 m2 hX4
      go_upto_region 9 with fail
      rw [hT] at hbT
      obtain ⟨w4, hw4⟩ : ∃ w0, w4'.alloc (.cells #[.int .i64 tlo, .int .i64 thi] 30) = w0 := ⟨_, rfl⟩
      rw [hw4] at hE4 hY4 hbT ⊢
      clear hw4 hT HLM
      replace hb0 := hY4.block hb0
      replace hbD := hY4.block hbD
      replace hbM := hY4.block hbM
      replace HWM := Lib.hid (HWM.out.ext hY4)
      clear hY4 hE3
      go_cut [109] (fun v wx => v = .bool false ∧ Ext w4 wx)
      case first => as_aux_lemma =>
        obtain ⟨m0, m1, m2⟩ := box3' hbM
        obtain ⟨d0, d1⟩ := box2 hbD
        obtain ⟨t0, t1⟩ := box2 hbT
        have HA2 : m = agE C (P ++ [p]) R id y := HAG2.out
        have hcs : m = 0 ∨ m = 9 ∨ (¬ m = 0 ∧ ¬ m = 9) := by omega
        rcases hcs with rfl | rfl | ⟨h1, h2⟩
        · have g1 : slo ≤ tlo := (HML.out HA2.symm).1
          have g2 : thi ≤ shi := (HML.out HA2.symm).2.1
          have g3 : tlo ≤ thi := (HML.out HA2.symm).2.2
          have g1' : ¬ tlo < slo := by omega
          have g2' : ¬ shi < thi := by omega
          have g3' : ¬ thi < tlo := by omega
          clear HA2
          go_wp2_with fail
          go_meet
          case rel => exact ⟨rfl, Ext.refl _⟩
        · clear HA2
          go_wp2_with fail
          go_meet
          case rel => exact ⟨rfl, Ext.refl _⟩
        · have hck := HME.out (by rw [← HA2]; exact h1) (by rw [← HA2]; exact h2)
          have HCX := Lib.hid (HC2.out C (P ++ [p]) R _ w4 HWM.out)
          obtain ⟨z, hz⟩ : ∃ z, chk C (P ++ [p]) R = z := ⟨_, rfl⟩
          rw [hz] at hck HCX
          have e1 : (m == 0) = false := by simpa using h1
          have e2 : (m == 9) = false := by simpa using h2
          have e3 : (m != 0) = true := by simp [bne, e1]
          have e4 : (m != 9) = true := by simp [bne, e2]
          have e5 : (z == 0) = false := by simpa using hck
          clear HA2 h1 h2 hz hck
          go_wp2_with (go_at_call 18; with_reducible refine HCX.out.mono ?_; rintro e w5 ⟨rfl, hX5⟩)
          go_meet
          case rel => exact ⟨rfl, hX5⟩
      case rest =>
      obtain ⟨rfl, hX5⟩ := hcut
      obtain ⟨w5, rfl⟩ : ∃ w', w' = wc := ⟨_, rfl⟩
      have hE5 := hE4.trans hX5
      replace hb0 := hX5.block hb0
      replace hbD := hX5.block hbD
      clear hE4 hX5 hbM hbT HWM HML HME HAG2 HC2
      obtain ⟨r, hr⟩ : ∃ r, restR C P R id y = r := ⟨_, rfl⟩
      have HRA := Lib.hid (rest_ag (C := C) (P := P) (R := R) (id := id) (y := y))
      rw [HAG.out] at HRA
      rw [hr] at HRE HRA
      obtain ⟨⟨low, top⟩, rn⟩ := r
      obtain rfl : rn = 0 := HRA.out
      have HRR : Hid ((restR C P R id y).1 = (low, top)) := by show _ = _; rw [hr]
      clear hr HRA
      obtain ⟨k0, k1, k2⟩ := box3' hb0
      go_wp2_with (go_at_call 22; with_reducible refine (HRE.out _ hE5).mono ?_; rintro e w6 ⟨rfl, hX6⟩; have hE6 := hE5.trans hX6; replace hb0 := hX6.block hb0; replace hbD := hX6.block hbD; obtain ⟨k0, k1, k2⟩ := box3' hb0)
      clear k0 k1 k2 hX6 hE5 HRE
      have HE6 := Lib.hid hE6
      go_loopw [17, 121] (fun u i wr => ∃ k : Nat, k ≤ P.length ∧ i = .int .i64 k ∧ Ext w6 wr ∧ Own 3 1 enc1 w6.heap.size wr u (restI (P.take k) low top)) (fun _ i _ => P.length - (intOf i).toNat)
      case atStart => exact ⟨0, Nat.zero_le _, rfl, Ext.refl _, Own.nil _ _ _ _ _⟩
      case round =>
        obtain ⟨k, hk, rfl, hE, hO⟩ := hrel
        obtain ⟨ua, un, uc, rfl⟩ := Own.slice_form enc1_len hO
        have HO := Lib.hid hO
        by_cases hlt : k < P.length
        · obtain ⟨bb, oo, x, hx, rfl, q0, q1, q2, q3, q4⟩ := five_at HcP.out (hE6.trans hE) hlt
          have HX := Lib.hid hx
          have HLR : Hid ((restI (P.take k) low top).length ≤ 80) := by
            show _ ≤ _
            unfold restI
            rw [List.length_map]
            have := List.length_filter_le (fun x : Five => !(x.a == low) && !(x.a == top)) (P.take k)
            rw [List.length_take] at this
            omega
          clear hx hO
          cases h1 : (x.a == low)
          · have g1 : (x.a != low) = true := by simp [bne, h1]
            cases h2 : (x.a == top)
            · have g2 : (x.a != top) = true := by simp [bne, h2]
              have HY := Lib.hid (restI_yes (low := low) (top := top) hlt HX.out (by rw [h1, h2]; rfl))
              go_wp2_with (at_builtin; with_reducible refine app_many 44 3 1 8 (.int .i64 0) enc1 enc1_len enc1_one Try.underlying44 infoI rfl (by decide) (by decide) rfl (.tmp 135) (.tmp 138) rfl w6.heap.size (.slice ua un uc) (restI (P.take k) low top) rfl (HO.out.ext (((Ext.refl _).alloc _).alloc _)) _ [x.a] rfl (Sl.mk1 (by simp) rfl) (by have := HLR.out; simp; omega) (Nat.le_trans hE.le (((Ext.refl wr).alloc _).alloc _).le) ?_; intro v5 w7 hO7 hg7 hE7 hb7; obtain ⟨va, vn, vc, rfl⟩ := Own.slice_form enc1_len hO7; have hE8 := hE7 w6 (Nat.le_refl _) ((hE.alloc _).alloc _))
              go_roundw
              case rel => exact ⟨k + 1, by omega, by go_num, hE8, by rw [HY.out]; exact hO7⟩
              case measure => simp [intOf]; omega
            · have g2 : (x.a != top) = false := by simp [bne, h2]
              have HY := Lib.hid (restI_no (low := low) (top := top) hlt HX.out (by rw [h1, h2]; rfl))
              go_wp2_with fail
              go_roundw
              case rel => exact ⟨k + 1, by omega, by go_num, hE.alloc _, by rw [HY.out]; exact HO.out.ext ((Ext.refl _).alloc _)⟩
              case measure => simp [intOf]; omega
          · have g1 : (x.a != low) = false := by simp [bne, h1]
            have HY := Lib.hid (restI_no (low := low) (top := top) hlt HX.out (by rw [h1]; rfl))
            go_wp2_with fail
            go_roundw
            case rel => exact ⟨k + 1, by omega, by go_num, hE.alloc _, by rw [HY.out]; exact HO.out.ext ((Ext.refl _).alloc _)⟩
            case measure => simp [intOf]; omega
        · obtain rfl : k = P.length := by omega
          rw [List.take_length] at hO HO
          have hEw := hE6.trans hE
          replace hb0 := hE.block hb0
          replace hbD := hE.block hbD
          have HWX := Lib.hid (HWI.out (restI P low top) _ wr hEw (hO.sl enc1_len))
          have hck := (agE_at0 HAG.out).2
          have g := chk_zero.1 hck
          rw [with_ok hck low top] at HWX
          have hkw : keepW C P R (restI P low top) = (C, leftL (restI P low top) P, R) := by
            unfold keepW
            rw [if_pos (with_ok hck low top), rep_stay g]
          rw [hkw] at HWX
          have HLL := Lib.hid (less_long HAG.out HRR.out)
          have HSZ := Lib.hid (left_len (restI P low top) P)
          clear hO HO hck g hkw hlt hk HcP
          generalize leftL (restI P low top) P = P2 at HWX HLL HSZ
          obtain ⟨k0, k1, k2⟩ := box3' hb0
          go_wp2_with fail
          with_reducible refine HWX.out.mono ?_
          rintro e w7' ⟨⟨u1, u2, u3, rfl, hO7⟩, hX7⟩
          obtain ⟨a1, n1, c1, a2, n2, c2, a3, n3, c3, rfl, rfl, rfl⟩ := hO7.form
          have hY7 := hX7.alloc (.cells #[.slice a1 n1 c1, .slice a2 n2 c2, .slice a3 n3 c3] 26)
          have hbL := heap_alloc_new w7' (.cells #[.slice a1 n1 c1, .slice a2 n2 c2, .slice a3 n3 c3] 26)
          have hW7 := (hO7.wk (by have := HSZ.out; omega)).ext ((Ext.refl w7').alloc (.cells #[.slice a1 n1 c1, .slice a2 n2 c2, .slice a3 n3 c3] 26))
          obtain ⟨Q, hQ⟩ : ∃ A, w7'.heap.size = A := ⟨_, rfl⟩
          clear k0 k1 k2 hX7 hO7
          go_upto_region 20 with fail
          rw [hQ] at hbL
          obtain ⟨w7, hw7⟩ : ∃ w0, w7'.alloc (.cells #[.slice a1 n1 c1, .slice a2 n2 c2, .slice a3 n3 c3] 26) = w0 := ⟨_, rfl⟩
          rw [hw7] at hY7 hbL hW7 ⊢
          clear hw7 hQ
          have HLX := Lib.hid (HL2.out C P2 R _ w7 hW7)
          rw [HLL.out.2, HR.out] at HLX
          replace hbD := hY7.block hbD
          have hE7 := hEw.trans hY7
          obtain ⟨k0, k1, k2⟩ := box3' hbL
          clear hW7 hY7 hEw hE
          go_wp2_with fail
          with_reducible refine HLX.out.mono ?_
          rintro e w8' ⟨rfl, hX8⟩
          have hE8 := (hE7.trans hX8).alloc (.cells #[.int .i64 slo, .int .i64 shi] 30)
          have hbU := heap_alloc_new w8' (.cells #[.int .i64 slo, .int .i64 shi] 30)
          replace hbD := ((Ext.refl w8').alloc (.cells #[.int .i64 slo, .int .i64 shi] 30)).block (hX8.block hbD)
          obtain ⟨U, hU⟩ : ∃ A, w8'.heap.size = A := ⟨_, rfl⟩
          clear k0 k1 k2 hX8 hbL hE7
          go_upto_region 21 with fail
          rw [hU] at hbU
          obtain ⟨w8, hw8⟩ : ∃ w0, w8'.alloc (.cells #[.int .i64 slo, .int .i64 shi] 30) = w0 := ⟨_, rfl⟩
          rw [hw8] at hE8 hbU hbD ⊢
          clear hw8 hU
          go_wp2_with (go_at_call 15; with_reducible refine (sanity_any _ _ (Ext.refl _)).mono ?_; rintro e w9 ⟨rfl, hX9⟩; obtain ⟨d0, d1⟩ := box2 (hX9.block hbD); obtain ⟨t0, t1⟩ := box2 (hX9.block hbU))
          go_ret
          exact ⟨rfl, hX.trans (hE8.trans hX9)⟩
    · have hz := HLER.out hn
      simp only [Prod.mk.injEq] at hz
      obtain ⟨rfl, rfl⟩ := hz
      have g1 : (n == 0) = false := by simpa using hn
      have g2 : (n != 0) = true := by simp [bne, g1]
      clear HLER HLAG HR hn
      go_wp2_with (go_at_call 15; with_reducible refine (sanity_any _ _ (Ext.refl _)).mono ?_; rintro e w2 ⟨rfl, hX2⟩; obtain ⟨d0, d1⟩ := box2 (hX2.block hbD))
      go_ret
      exact ⟨rfl, hX.trans (hE1.trans hX2)⟩
  · go_wp2_with fail
    with_reducible refine (sanity_any _ _ (Ext.refl _)).mono ?_
    rintro e w2 ⟨rfl, hX2⟩
    go_wp2_with fail
    go_ret
    exact ⟨rfl, hX.trans (hE0.trans hX2)⟩
end Go.Proofs.Ytaggjclaehigjaa
