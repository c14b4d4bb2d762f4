/- Contracts of lengths, Shortest, Longest. -/
import Derived.Test.YtaggjclaehigjaaRS
import Derived.Deep.RegionHeld3
import Derived.Deep.DeepCutAuto
namespace Go.Proofs.Ytaggjclaehigjaa
open Go.RowKit
theorem kx_cell {R : Nat} {w0 w' : World} {b o : Nat} {u : Value} (h : KX R w0 w') (hb : b ≠ R) (hc : w0.cell? ⟨b, o, none⟩ = some u) : w'.cell? ⟨b, o, none⟩ = some u :=
  (World.cell?_of_block (h.2 b (lt_of_cell hc) hb)).trans hc
theorem KX.grow {α : Type} {T k R : Nat} {enc : α → List Value} {w0 w w' : World} {base : Nat} {v : Value} {l : List α} (h : KX R w0 w) (hO : Own T k enc base w v l) (hb : w0.heap.size ≤ base) (hg : w.grownBy w' v.ownBlock) : KX R w0 w' :=
  ⟨Nat.le_trans h.1 hg.size, fun b hb' hR => (hg.block b (Nat.lt_of_lt_of_le hb' h.1) (fun e => by have := (World.ownsRow.lt hO b e.symm).1; omega)).trans (h.2 b hb' hR)⟩
theorem not_three {w : World} {D o T : Nat} {ro : Nat × Nat} {a b c u : Value} (h : w.heap[D]? = some (.cells #[a, b, c] T ro)) (hc : w.cell? ⟨D, o + 3, none⟩ = some u) : False := by
  rw [cell_at h (o + 3)] at hc
  simp at hc
theorem step_app2 {α : Type} {ops : Array Oper} {o : Oper} {a : Act} {w : World} {K : Act → World → Prop} {E : Prop} {Q : Exit → Act → World → Prop} (st T k by_ : Nat) (z : Value) (enc : α → List Value) (hk : ∀ x, (enc x).length = k) (ho1 : ∀ x, ∀ u ∈ enc x, u.oneCell' = true)
    (hst : Try.prog.underlying st = some (.slice T)) (hinf : (Try.prog.info? T).map (fun i => (i.zero, i.size, i.bytes)) = some (some z, k, by_)) (hz : z.cells.size = k) (hk0 : 0 < k) (hby : by_ ≤ 80)
    (hgd : o.guard = none) (s x : Operand)
    (ho : o.op = .call { callee := .builtin .append, args := #[s, x], argTypes := #[st, st] }) (base : Nat) (v : Value) (l : List α) (hs : a.eval s = v) (hown : Own T k enc base w v l)
    (xv : Value) (y : List α) (hx : a.eval x = xv) (hy : Sl k enc w xv y)
    (hlen : l.length + y.length ≤ 1000000000000) (hbase : base ≤ w.heap.size)
    (h : ∀ v' w', Own T k enc base w' v' (l ++ y) → w.grownBy w' v.ownBlock → (∀ W : World, W.heap.size ≤ base → Ext W w → Ext W w') → (v'.ownBlock = v.ownBlock ∨ v'.ownBlock = some w.heap.size) → K (a.put o.dst v') w') :
    if Region.wanted o (yielded ops a.tmps) = true then Oper.wp Try.prog o a w K Q else E :=
  step_app st T k by_ z enc hk ho1 hst hinf hz hk0 hby hgd s x ho base v l hs hown xv y hx hy hlen hbase h
set_option maxRecDepth 100000 in
set_option maxHeartbeats 16000000 in
theorem lengths_any (W : World) (C P R : List Five) (v : Value) (id lo hi : Int) (gr : Bool) (fn : Nat) (hg : Enters fn) (hfn : ∀ (a b : Int) (w' : World), Calls Try.prog fn #[.agg #[.int .i64 a, .int .i64 b]] w' fun e w'' => e = .returned (.int .i64 (if gr then b else a)) ∧ Ext w' w'') (w : World) (hX : Ext W w) (hv : Wk w v C P R) :
    Calls Try.prog 78 #[v, .int .i64 id, .agg #[.int .i64 lo, .int .i64 hi], .func (.func fn) #[] #[]] w fun e w' => (∃ u, e = .returned (.tuple #[.agg #[.int .i64 (wornR C P R id lo hi gr).1, .int .i64 (wornR C P R id lo hi gr).2.1, u], .int .i64 (spanE C P R id lo hi)]) ∧ Own 3 1 enc1 w.heap.size w' u (wornR C P R id lo hi gr).2.2) ∧ Ext W w' := by
  have HFI : Hid (∀ w', Ext w w' → Calls Try.prog 55 #[v, .int .i64 id] w' fun e w'' => e = .returned (findV C id) ∧ Ext w' w'') := by
    intro w' q
    obtain ⟨vC, vP, vR, rfl, hC, -⟩ := hv
    exact find_any w' C _ _ _ _ _ (Ext.refl _) (hC.ext q)
  have HCK := Lib.hid (fun w' (q : Ext w w') => Check_any w' C P R v w' (Ext.refl _) (hv.ext q))
  have HFN := Lib.hid hfn
  have HV := Lib.hid hv
  have hg' := hg
  unfold Enters at hg'
  obtain ⟨vC, vP, vR, rfl, -⟩ := hv
  clear hfn
  have hX0 : Ext w (((w.alloc (.cells #[vC, vP, vR] 26)).alloc (.cells #[.int .i64 lo, .int .i64 hi] 30)).alloc (.cells #[.int .i64 0, .int .i64 0, .slice none 0 0] 46)) := (((Ext.refl w).alloc _).alloc _).alloc _
  have hb0 := (((Ext.refl _).alloc (.cells #[.int .i64 lo, .int .i64 hi] 30)).alloc (.cells #[.int .i64 0, .int .i64 0, .slice none 0 0] 46)).block (heap_alloc_new w (.cells #[vC, vP, vR] 26))
  have hb1 := ((Ext.refl _).alloc (.cells #[.int .i64 0, .int .i64 0, .slice none 0 0] 46)).block (heap_alloc_new (w.alloc (.cells #[vC, vP, vR] 26)) (.cells #[.int .i64 lo, .int .i64 hi] 30))
  have hb2 := heap_alloc_new ((w.alloc (.cells #[vC, vP, vR] 26)).alloc (.cells #[.int .i64 lo, .int .i64 hi] 30)) (.cells #[.int .i64 0, .int .i64 0, .slice none 0 0] 46)
  simp only [World.size_alloc] at hb1 hb2
  obtain ⟨B, hBB⟩ : ∃ B, w.heap.size = B := ⟨_, rfl⟩
  rw [hBB] at hb0 hb1 hb2
  go_enter Try.func78, Try.ntmps78
  go_wp2_with fail
  with_reducible refine (HCK.out _ hX0).mono ?_
  rintro e w1 ⟨rfl, hX1⟩
  have hE1 := hX0.trans hX1
  replace hb0 := hX1.block hb0
  replace hb1 := hX1.block hb1
  replace hb2 := hX1.block hb2
  clear HCK hX0 hX1
  by_cases h0 : chk C P R = 0
  · rw [h0]
    obtain ⟨k0, k1, k2⟩ := box3' hb0
    go_wp2_with fail
    with_reducible refine (HFI.out _ hE1).mono ?_
    rintro e w2 ⟨rfl, hX2⟩
    have hE2 := hE1.trans hX2
    replace hb0 := hX2.block hb0
    replace hb1 := hX2.block hb1
    replace hb2 := hX2.block hb2
    clear k0 k1 k2 hE1 hX2 HFI
    obtain ⟨s0, s1⟩ := box2 hb1
    have zB := lt_of_cell s0
    clear s0 s1
    cases hf : findC C id with
    | none =>
      rw [findV_none hf]
      have hye : yearsE C P R id lo hi = 5 := by unfold yearsE; rw [if_pos h0, hf]
      have HS : Hid (spanE C P R id lo hi = 5 ∧ wornR C P R id lo hi gr = (0, 0, [])) := by
        have := span_err (gr := gr) (show yearsE C P R id lo hi ≠ 0 by rw [hye]; decide)
        rw [hye] at this
        exact this
      clear hye
      clear hf h0 HFN HV
      have hbA := heap_alloc_new w2 (.cells #[.int .i64 zero5.a, .int .i64 zero5.b, .int .i64 zero5.c, .int .i64 zero5.d, .int .i64 zero5.e] 53)
      replace hb0 := ((Ext.refl w2).alloc (.cells #[.int .i64 zero5.a, .int .i64 zero5.b, .int .i64 zero5.c, .int .i64 zero5.d, .int .i64 zero5.e] 53)).block hb0
      replace hb1 := ((Ext.refl w2).alloc (.cells #[.int .i64 zero5.a, .int .i64 zero5.b, .int .i64 zero5.c, .int .i64 zero5.d, .int .i64 zero5.e] 53)).block hb1
      replace hb2 := ((Ext.refl w2).alloc (.cells #[.int .i64 zero5.a, .int .i64 zero5.b, .int .i64 zero5.c, .int .i64 zero5.d, .int .i64 zero5.e] 53)).block hb2
      have hE3 := hE2.alloc (.cells #[.int .i64 zero5.a, .int .i64 zero5.b, .int .i64 zero5.c, .int .i64 zero5.d, .int .i64 zero5.e] 53)
      obtain ⟨A, hA⟩ : ∃ A, w2.heap.size = A := ⟨_, rfl⟩
      have zBA : B + 1 < A := hA ▸ zB
      have zBA2 : B < A := by omega
      go_upto_region 5 with fail
      rw [hA] at hbA
      obtain ⟨w3, hw3⟩ : ∃ w3, w2.alloc (.cells #[.int .i64 zero5.a, .int .i64 zero5.b, .int .i64 zero5.c, .int .i64 zero5.d, .int .i64 zero5.e] 53) = w3 := ⟨_, rfl⟩
      rw [hw3] at hbA hb0 hb1 hb2 hE3 ⊢
      clear hw3 hE2 hA
      obtain ⟨k0, k1, k2⟩ := box3' hb0
      obtain ⟨s0, s1⟩ := box2 hb1
      obtain ⟨c0, c1, c2, c3, c4⟩ := box5 hbA
      obtain ⟨r0, r1, r2⟩ := box3' hb2
      have zR2 := lt_of_cell r0
      have f0 := frozen_cells ⟨_, hb2⟩ 0
      have f1 := frozen_cells ⟨_, hb2⟩ 1
      have f2 := frozen_cells ⟨_, hb2⟩ 2
      go_wp2_with fail
      refine bodyPost_ret (v := .tuple #[.agg #[.int .i64 0, .int .i64 0, .slice none 0 0], .int .i64 5]) (by simp [results, Try.results78, r0, r1, r2, go_sem]) rfl ⟨⟨_, by rw [HS.out.1, HS.out.2], by rw [HS.out.2]; exact Own.nil _ _ _ _ _⟩, hX.trans ?_⟩
      repeat (first | exact hE3 | refine Ext.drew ?_ | refine Ext.alloc ?_ _ | refine Ext.setCell ?_ (by show w.heap.size ≤ B + 1 + 1; omega) _)
    | some c =>
      rw [findV_some hf]
      have HF := Lib.hid hf
      have g := chk_zero.1 h0
      have hbA := heap_alloc_new w2 (.cells #[.int .i64 c.a, .int .i64 c.b, .int .i64 c.c, .int .i64 c.d, .int .i64 c.e] 53)
      replace hb0 := ((Ext.refl w2).alloc (.cells #[.int .i64 c.a, .int .i64 c.b, .int .i64 c.c, .int .i64 c.d, .int .i64 c.e] 53)).block hb0
      replace hb1 := ((Ext.refl w2).alloc (.cells #[.int .i64 c.a, .int .i64 c.b, .int .i64 c.c, .int .i64 c.d, .int .i64 c.e] 53)).block hb1
      replace hb2 := ((Ext.refl w2).alloc (.cells #[.int .i64 c.a, .int .i64 c.b, .int .i64 c.c, .int .i64 c.d, .int .i64 c.e] 53)).block hb2
      have hE3 := hE2.alloc (.cells #[.int .i64 c.a, .int .i64 c.b, .int .i64 c.c, .int .i64 c.d, .int .i64 c.e] 53)
      obtain ⟨A, hA⟩ : ∃ A, w2.heap.size = A := ⟨_, rfl⟩
      have zBA : B + 1 < A := hA ▸ zB
      have zBA2 : B < A := by omega
      go_upto_region 5 with fail
      rw [hA] at hbA
      obtain ⟨w3, hw3⟩ : ∃ w3, w2.alloc (.cells #[.int .i64 c.a, .int .i64 c.b, .int .i64 c.c, .int .i64 c.d, .int .i64 c.e] 53) = w3 := ⟨_, rfl⟩
      rw [hw3] at hbA hb0 hb1 hb2 hE3 ⊢
      clear hw3 hE2 hA
      obtain ⟨k0, k1, k2⟩ := box3' hb0
      obtain ⟨s0, s1⟩ := box2 hb1
      obtain ⟨c0, c1, c2, c3, c4⟩ := box5 hbA
      cases hs : spB lo hi c.b 4000
      · have hye : yearsE C P R id lo hi = 1 := by unfold yearsE; rw [if_pos h0, hf]; simp only; rw [hs]; rfl
        have HS : Hid (spanE C P R id lo hi = 1 ∧ wornR C P R id lo hi gr = (0, 0, [])) := by
          have := span_err (gr := gr) (show yearsE C P R id lo hi ≠ 0 by rw [hye]; decide)
          rw [hye] at this
          exact this
        clear hye
        
        clear hf h0 HFN HV g
        obtain ⟨r0, r1, r2⟩ := box3' hb2
        have zR2 := lt_of_cell r0
        have f0 := frozen_cells ⟨_, hb2⟩ 0
        have f1 := frozen_cells ⟨_, hb2⟩ 1
        have f2 := frozen_cells ⟨_, hb2⟩ 2
        go_wp2_with (go_at_call 54; with_reducible refine (inside_any _ _ _ _ _ _ (Ext.refl _)).mono ?_; rintro e w4 ⟨rfl, hX4⟩; rw [hs]; replace hb2 := hX4.block hb2; obtain ⟨r0, r1, r2⟩ := box3' hb2; have zR2 := lt_of_cell r0; have f0 := frozen_cells ⟨_, hb2⟩ 0; have f1 := frozen_cells ⟨_, hb2⟩ 1; have f2 := frozen_cells ⟨_, hb2⟩ 2)
        refine bodyPost_ret (v := .tuple #[.agg #[.int .i64 0, .int .i64 0, .slice none 0 0], .int .i64 1]) (by simp [results, Try.results78, r0, r1, r2, go_sem]) rfl ⟨⟨_, by rw [HS.out.1, HS.out.2], by rw [HS.out.2]; exact Own.nil _ _ _ _ _⟩, hX.trans ?_⟩
        repeat (first | exact (hE3.trans hX4) | refine Ext.drew ?_ | refine Ext.alloc ?_ _ | refine Ext.setCell ?_ (by show w.heap.size ≤ B + 1 + 1; omega) _)
      · obtain ⟨p1, p2, p3⟩ := spB_iff.1 hs
        have hcb := (okC_parts (good_okT g hf).2.1).2.1
        have hlo : 0 ≤ lo ∧ lo ≤ 4000 := by omega
        have hhi : 0 ≤ hi ∧ hi ≤ 4000 := by omega
        go_wp2_with fail
        with_reducible refine (inside_any _ _ _ _ _ _ (Ext.refl _)).mono ?_
        rintro e w4 ⟨rfl, hX4⟩
        rw [hs]
        have hE4 := hE3.trans hX4
        replace hb0 := hX4.block hb0
        replace hb1 := hX4.block hb1
        replace hb2 := hX4.block hb2
        replace hbA := hX4.block hbA
        clear k0 k1 k2 s0 s1 c0 c1 c2 c3 c4 hX4 hE3
        obtain ⟨s0, s1⟩ := box2 hb1
        by_cases hl4 : 400 < hi - lo + 1
        · have hye : yearsE C P R id lo hi = 2 := by unfold yearsE; rw [if_pos h0, hf]; simp only; rw [hs, if_pos rfl, if_pos hl4]
          have HS : Hid (spanE C P R id lo hi = 2 ∧ wornR C P R id lo hi gr = (0, 0, [])) := by
            have := span_err (gr := gr) (show yearsE C P R id lo hi ≠ 0 by rw [hye]; decide)
            rw [hye] at this
            exact this
          clear hye
          
          clear hf h0 HFN HV g hs hcb
          obtain ⟨r0, r1, r2⟩ := box3' hb2
          have zR2 := lt_of_cell r0
          have f0 := frozen_cells ⟨_, hb2⟩ 0
          have f1 := frozen_cells ⟨_, hb2⟩ 1
          have f2 := frozen_cells ⟨_, hb2⟩ 2
          go_wp2_with fail
          refine bodyPost_ret (v := .tuple #[.agg #[.int .i64 0, .int .i64 0, .slice none 0 0], .int .i64 2]) (by simp [results, Try.results78, r0, r1, r2, go_sem]) rfl ⟨⟨_, by rw [HS.out.1, HS.out.2], by rw [HS.out.2]; exact Own.nil _ _ _ _ _⟩, hX.trans ?_⟩
          repeat (first | exact hE4 | refine Ext.drew ?_ | refine Ext.alloc ?_ _ | refine Ext.setCell ?_ (by show w.heap.size ≤ B + 1 + 1; omega) _)
        · have hye : yearsE C P R id lo hi = 0 := by unfold yearsE; rw [if_pos h0, hf]; simp only; rw [hs, if_pos rfl, if_neg hl4]
          have HCLA := Lib.hid (fun y a b d => span_clash (gr := gr) hye hf (y := y) a b d)
          have HOKA := Lib.hid (span_ok (gr := gr) hye hf)
          have HSPL : Hid (∀ w', Ext w w' → Calls Try.prog 64 #[.agg #[vC, vP, vR], v5 c] w' (SpellsPost w' P R c)) := fun w' x =>
            spells_any w' C P R c _ w' (Ext.refl _) (HV.out.ext x) (by have := g.few; omega) (fun ts hp hs => by obtain ⟨t, r, e, hb, _⟩ := head_beg g hf hp hs; exact ⟨t, r, e, hb⟩) (fun t ht => (thAll_ok g hf t ht).1.1)
          clear hye h0 HV hf hs
          obtain ⟨k0, k1, k2⟩ := box3' hb0
          obtain ⟨c0, c1, c2, c3, c4⟩ := box5 hbA
          have zK := lt_of_cell k0
          have zA := lt_of_cell c0
          have zS := lt_of_cell s0
          have hz2 : B + 1 + 1 < w4.heap.size := (Array.getElem?_eq_some_iff.1 hb2).1
          have hbD := heap_alloc_new w4 (.cells #[.int .i64 id, .int .i64 lo, .slice none 0 0] 46)
          replace hb1 := ((Ext.refl w4).alloc (.cells #[.int .i64 id, .int .i64 lo, .slice none 0 0] 46)).block hb1
          replace hb2 := ((Ext.refl w4).alloc (.cells #[.int .i64 id, .int .i64 lo, .slice none 0 0] 46)).block hb2
          have hE5 := hE4.alloc (.cells #[.int .i64 id, .int .i64 lo, .slice none 0 0] 46)
          obtain ⟨D, hD⟩ : ∃ D, w4.heap.size = D := ⟨_, rfl⟩
          have zSD : B + 1 < D := hD ▸ zS
          have zBD : B + 1 + 1 < D := hD ▸ hz2
          have zKD : B < D := hD ▸ zK
          have zAD : A < D := hD ▸ zA
          have hwD : w.heap.size ≤ D := by omega
          go_wp2_with fail
          rw [hD] at hbD
          obtain ⟨w5, hw5⟩ : ∃ w5, w4.alloc (.cells #[.int .i64 id, .int .i64 lo, .slice none 0 0] 46) = w5 := ⟨_, rfl⟩
          rw [hw5] at hb1 hb2 hbD hE5 ⊢
          clear hw5 k0 k1 k2 s0 s1 c0 c1 c2 c3 c4 zK zS hz2 hD hb0 hbA hE4 zKD zAD
          with_reducible refine (HSPL.out _ hE5).mono ?_
          rintro e w6 ⟨v6, S, ts, rfl, hS, hp, hss, hm, hX6⟩
          have hE6 := hE5.trans hX6
          replace hb1 := hX6.block hb1
          replace hb2 := hX6.block hb2
          replace hbD := hX6.block hbD
          obtain ⟨hrow0, hrow⟩ := spells_row g HF.out hp hss hm
          have hoks := (spOk_all g HF.out hS hp hm).1
          obtain ⟨hok61, -⟩ := (spOk_all g HF.out hS hp hm).2
          obtain ⟨a3, cap3, rfl, hl3, hm3, hc3⟩ := hS.parts
          have HROW := Lib.hid hrow
          have HP0 := Lib.hid (pos_zero hrow0 (by omega) p2 : PosS S lo hi 0 lo)
          have HSC : Hid (∀ j, (hj : j < S.length) → ∃ b3 off3, a3 = some ⟨b3, off3, none⟩ ∧ ∀ w', KX D w6 w' → (w'.cell? ⟨b3, off3 + j * 4, none⟩ = some (.int .i64 S[j].lo) ∧ w'.cell? ⟨b3, off3 + j * 4 + 1, none⟩ = some (.int .i64 S[j].hi) ∧ w'.cell? ⟨b3, off3 + j * 4 + 2, none⟩ = some (.int .i64 S[j].w) ∧ w'.cell? ⟨b3, off3 + j * 4 + 3, none⟩ = some (.slice S[j].a S[j].n S[j].c)) ∧ SpOk w' S[j]) := by
            intro j hj
            obtain ⟨b3, off3, rfl, hc4⟩ := hc3.resolve_left (fun e => by rw [e] at hj; simp at hj)
            refine ⟨b3, off3, rfl, fun w' x => ?_⟩
            obtain ⟨d0, d1, d2, d3⟩ := hc4 j hj
            have hne : b3 ≠ D := by
              intro e
              subst e
              exact not_three hbD d3
            exact ⟨⟨kx_cell x hne d0, kx_cell x hne d1, kx_cell x hne d2, kx_cell x hne d3⟩, (hoks _ (List.getElem_mem hj)).kx x hbD (fun j T u => by match j with | 0 => simp | 1 => simp | 2 => simp | j + 3 => simp) (by simp)⟩
          have hszw : w.heap.size ≤ w6.heap.size := hE6.le
          clear HSPL hS hp hss hm hX6 hrow0 hrow hoks hc3 hl3 hm3 HF g hE5 hg
          go_wp2_with fail
          go_loopw [59] (fun i wr => ∃ (j k : Nat) (u : Value), j ≤ S.length ∧ i = .int .i64 j ∧ lo + k ≤ hi + 1 ∧ Hid (PosS S lo hi j (lo + k)) ∧ (Ext w wr ∧ KX D w6 wr ∧ wr.heap[B + 1]? = some (.cells #[.int .i64 lo, .int .i64 hi] 30) ∧ wr.heap[B + 1 + 1]? = some (.cells #[.int .i64 0, .int .i64 0, .slice none 0 0] 46) ∧ wr.heap[D]? = some (.cells #[.int .i64 id, .int .i64 lo, u] 46) ∧ Own 3 1 enc1 w6.heap.size wr u (lens (endY P R c gr) lo k)) ∧ Hid (∀ y, lo ≤ y → y < lo + (k : Int) → clY P R c y = false)) (fun i _ => S.length - (intOf i).toNat)
          case atStart => exact ⟨0, 0, .slice none 0 0, Nat.zero_le _, rfl, by omega, by have := HP0.out; show PosS S lo hi 0 (lo + ((0 : Nat) : Int)); simpa using this, ⟨hE6, KX.refl _ _, hb1, hb2, hbD, Own.nil _ _ _ _ _⟩, fun y a b => absurd b (by omega)⟩
          case round =>
            clear hb1 hb2 hbD hE6
            obtain ⟨j, k, u, hj, rfl, hk, HPS, ⟨hE, hKX, hb1, hb2, hbD, hO⟩, HN⟩ := hrel
            obtain ⟨ua, un, uc, rfl⟩ := Own.slice_form enc1_len hO
            by_cases hlt : j < S.length
            · obtain ⟨b3, off3, rfl, hcs⟩ := HSC.out j hlt
              obtain ⟨⟨d0, d1, d2, d3⟩, hok⟩ := hcs wr hKX
              have HSK := Lib.hid (fun w' q => (hcs w' q).2)
              have hrw := HROW.out j hlt
              have HSKIP := Lib.hid (fun h => pos_skip (n := lo + (k : Int)) hlt hrw HROW.out p2 hhi.2 HPS.out h)
              have HGO := Lib.hid (fun h => pos_go (n := lo + (k : Int)) hlt hrw p2 hhi.2 HPS.out h)
              obtain ⟨s, hsj⟩ : ∃ s, S[j] = s := ⟨_, rfl⟩
              rw [hsj] at d0 d1 d2 d3 HSK hrw HSKIP HGO hok
              have hyr := hrw.yr
              have hle := hrw.le
              have HRW : Hid (∀ y, s.lo ≤ y → y ≤ s.hi → limLo s.w y s.fs = loY P R c y ∧ limHi s.w y s.fs = hiY P R c y ∧ (clS s = false → clY P R c y = false)) := fun y a b => ⟨row_lo hrw a b, row_hi hrw a b, fun h => by rw [row_cl hrw a b] at h; exact h⟩
              have HCL : Hid (∀ y, s.lo ≤ y → y ≤ s.hi → clS s = true → clY P R c y = true) := fun y a b h => by rw [row_cl hrw a b] at h; exact h
              have HKS : Hid (∀ w', SpOk w' s → Calls Try.prog 66 #[.agg #[.int .i64 s.lo, .int .i64 s.hi, .int .i64 s.w, .slice s.a s.n s.c]] w' fun e w'' => e = .returned (.bool (clS s)) ∧ Ext w' w'') := fun w' q => clashes_any w' s w' (Ext.refl _) q
              have hj1 : (j : Int) < (S.length : Int) := by omega
              clear hsj hcs hrw HPS
              have hbK := heap_alloc_new wr (.cells #[.int .i64 s.lo, .int .i64 s.hi, .int .i64 s.w, .slice s.a s.n s.c] 88)
              have hok' := hok.ext ((Ext.refl wr).alloc (.cells #[.int .i64 s.lo, .int .i64 s.hi, .int .i64 s.w, .slice s.a s.n s.c] 88))
              have hb1' := ((Ext.refl wr).alloc (.cells #[.int .i64 s.lo, .int .i64 s.hi, .int .i64 s.w, .slice s.a s.n s.c] 88)).block hb1
              have hb2' := ((Ext.refl wr).alloc (.cells #[.int .i64 s.lo, .int .i64 s.hi, .int .i64 s.w, .slice s.a s.n s.c] 88)).block hb2
              have hbD' := ((Ext.refl wr).alloc (.cells #[.int .i64 s.lo, .int .i64 s.hi, .int .i64 s.w, .slice s.a s.n s.c] 88)).block hbD
              have hKX' := hKX.ext ((Ext.refl wr).alloc (.cells #[.int .i64 s.lo, .int .i64 s.hi, .int .i64 s.w, .slice s.a s.n s.c] 88))
              have hO' := hO.ext ((Ext.refl wr).alloc (.cells #[.int .i64 s.lo, .int .i64 s.hi, .int .i64 s.w, .slice s.a s.n s.c] 88))
              have hE' := hE.alloc (.cells #[.int .i64 s.lo, .int .i64 s.hi, .int .i64 s.w, .slice s.a s.n s.c] 88)
              obtain ⟨K, hKs⟩ : ∃ K, wr.heap.size = K := ⟨_, rfl⟩
              have zDK : D < K := hKs ▸ lt_of_cell (box3' hbD).1
              have zBK : B + 1 < K := hKs ▸ lt_of_cell (box2 hb1).1
              go_upto_region 15 with fail
              rw [hKs] at hbK
              obtain ⟨w7, hw7⟩ : ∃ w7, wr.alloc (.cells #[.int .i64 s.lo, .int .i64 s.hi, .int .i64 s.w, .slice s.a s.n s.c] 88) = w7 := ⟨_, rfl⟩
              rw [hw7] at hbK hok' hb1' hb2' hbD' hKX' hO' hE' ⊢
              clear hw7 hok hb1 hb2 hbD hKX hO hE d0 d1 d2 d3 hKs
              go_cut [16, 17] (fun v u wx => v = .int .i64 (max lo s.lo) ∧ u = .int .i64 (min hi s.hi) ∧ Ext w7 wx)
              case first => as_aux_lemma =>
                have hmax := ite_max
                have hmin := ite_min
                obtain ⟨s0, s1⟩ := box2 hb1'
                obtain ⟨d0, d1, d2, d3⟩ := box4 hbK
                go_region
                all_goals
                  go_wp2_with fail
                  go_meet
                  case rel => exact ⟨rfl, rfl, (Ext.refl _).drew⟩
              case rest =>
              obtain ⟨rfl, rfl, hX8⟩ := hcut
              obtain ⟨w8, rfl⟩ : ∃ w', w' = wc := ⟨_, rfl⟩
              replace hbK := hX8.block hbK
              have hok := hok'.ext hX8
              have hb1 := hX8.block hb1'
              have hb2 := hX8.block hb2'
              have hbD := hX8.block hbD'
              have hKX := hKX'.ext hX8
              have hO := hO'.ext hX8
              have hE := hE'.trans hX8
              clear hok' hb1' hb2' hbD' hKX' hO' hE' hX8
              obtain ⟨d0, d1, d2, d3⟩ := box4 hbK
              have zK := lt_of_cell d0
              by_cases hc : max lo s.lo ≤ min hi s.hi
              · obtain ⟨hn1, hn2⟩ := HGO.out hc
                have HP1 := Lib.hid hn2
                clear hn2 HSKIP HGO
                cases hz : clS s
                · rw [hz] at HKS
                  go_wp2_with (go_at_call 66; with_reducible refine (HKS.out _ hok).mono ?_; rintro e w9 ⟨rfl, hX9⟩)
                  replace hbK := hX9.block hbK
                  replace hb1 := hX9.block hb1
                  replace hb2 := hX9.block hb2
                  replace hbD := hX9.block hbD
                  replace hKX := hKX.ext hX9
                  replace hO := hO.ext hX9
                  replace hE := hE.trans hX9
                  replace HRW : Hid (∀ y, s.lo ≤ y → y ≤ s.hi → limLo s.w y s.fs = loY P R c y ∧ limHi s.w y s.fs = hiY P R c y ∧ clY P R c y = false) := fun y a b => ⟨(HRW.out y a b).1, (HRW.out y a b).2.1, (HRW.out y a b).2.2 hz⟩
                  clear d0 d1 d2 d3 zK hok hX9 HKS HCL hz
                  go_loopw [18] (fun i wr => ∃ (k : Nat) (u : Value), i = .int .i64 (lo + k) ∧ max lo s.lo ≤ lo + (k : Int) ∧ lo + (k : Int) ≤ min hi s.hi + 1 ∧ (Ext w wr ∧ KX D w6 wr ∧ wr.heap[B + 1]? = some (.cells #[.int .i64 lo, .int .i64 hi] 30) ∧ wr.heap[B + 1 + 1]? = some (.cells #[.int .i64 0, .int .i64 0, .slice none 0 0] 46) ∧ wr.heap[D]? = some (.cells #[.int .i64 id, .int .i64 lo, u] 46) ∧ Own 3 1 enc1 w6.heap.size wr u (lens (endY P R c gr) lo k)) ∧ wr.heap[K]? = some (.cells #[.int .i64 s.lo, .int .i64 s.hi, .int .i64 s.w, .slice s.a s.n s.c] 88) ∧ Hid (∀ y, lo ≤ y → y < lo + (k : Int) → clY P R c y = false)) (fun i _ => (hi + 1 - intOf i).toNat)
                  case atStart => exact ⟨k, _, congrArg (Value.int .i64) (by omega), by omega, by omega, ⟨hE, hKX, hb1, hb2, hbD, hO⟩, hbK, HN.out⟩
                  case round =>
                    clear hbK hb1 hb2 hbD hKX hO hE HN hk hn1
                    obtain ⟨k, u, rfl, hk1, hk2, ⟨hE, hKX, hb1, hb2, hbD, hO⟩, hbK, HN⟩ := hrel
                    obtain ⟨ua, un, uc, rfl⟩ := Own.slice_form enc1_len hO
                    obtain ⟨y, hy⟩ : ∃ y, lo + (k : Int) = y := ⟨_, rfl⟩
                    rw [hy] at hk1 hk2 HN ⊢
                    have hy0 : 0 ≤ y ∧ y ≤ 4001 := by omega
                    by_cases hlt : y ≤ min hi s.hi
                    · have HLS := Lib.hid (lens_succ (endY P R c gr) lo k)
                      rw [hy] at HLS
                      have hll := lens_len (endY P R c gr) lo k
                      have hk400 : k ≤ 400 := by omega
                      have HY := Lib.hid (HRW.out y (by omega) (by omega))
                      have HLO : Hid (∀ w', SpOk w' s → Calls Try.prog 62 #[.agg #[.int .i64 s.lo, .int .i64 s.hi, .int .i64 s.w, .slice s.a s.n s.c], .int .i64 y] w' fun e w'' => e = .returned (.agg #[.int .i64 (loY P R c y), .int .i64 (hiY P R c y)]) ∧ Ext w' w'') := fun w' q => by
                        have := long_any w' s y w' (Ext.refl _) q (by omega) (by omega)
                        rw [HY.out.1, HY.out.2.1] at this
                        exact this
                      have HEN : Hid (endY P R c gr y = if gr = true then hiY P R c y else loY P R c y) := by show _ = _; unfold endY; split <;> rfl
                      have hcy := HY.out.2.2
                      rw [HEN.out] at HLS
                      clear HY HEN
                      generalize loY P R c y = la at HLO HLS ⊢
                      generalize hiY P R c y = lb at HLO HLS ⊢
                      have hK8 : w6.heap.size ≤ wr.heap.size := hKX.1
                      have HOW : Hid (∀ w', Ext wr w' → SpOk w' s) := fun w' q => (HSK.out wr hKX).ext q
                      obtain ⟨p0, p1, p2⟩ := box3' hbD
                      obtain ⟨d0, d1, d2, d3⟩ := box4 hbK
                      have zD := lt_of_cell p0
                      have zK := lt_of_cell d0
                      go_upto_region 21 with fail
                      go_region_law (first
                        | (go_simp; go_at_call 62; with_reducible refine (HLO.out _ (HOW.out _ (Ext.drew (Ext.refl _)))).mono ?_; rintro e w9 ⟨rfl, hY⟩; have hX9 : Ext wr w9 := Ext.trans (Ext.drew (Ext.refl wr)) hY; obtain ⟨p0, p1, p2⟩ := box3' (hX9.block hbD); have zD := lt_of_cell p0)
                        | (go_simp; with_reducible refine (HFN.out _ _ _).mono ?_; rintro e w10 ⟨rfl, hY⟩; have hX10 : Ext wr w10 := Ext.trans hX9 hY; obtain ⟨p0, p1, p2⟩ := box3' (hX10.block hbD); have zD := lt_of_cell p0)
                        | (with_reducible refine step_app2 44 3 1 8 (.int .i64 0) enc1 enc1_len enc1_one Try.underlying44 infoI rfl (by decide) (by decide) rfl (.tmp 90) (.tmp 96) rfl w6.heap.size (.slice ua un uc) (lens (endY P R c gr) lo k) rfl (hO.ext (hX10.alloc _)) _ [if gr = true then lb else la] rfl (Sl.mk1 rfl rfl) (by simp; omega) (Nat.le_trans hK8 (hX10.alloc _).le) ?_; intro v12 w12 hO12 hg12 hE12 hb12; have hb1' := block_keep (hO.ext (hX10.alloc _)) hg12 ((hX10.alloc _).block hb1) (by decide); have hb2' := block_keep (hO.ext (hX10.alloc _)) hg12 ((hX10.alloc _).block hb2) (by decide); have hbD' := block_keep (hO.ext (hX10.alloc _)) hg12 ((hX10.alloc _).block hbD) (by decide); have hbK' := block_keep (hO.ext (hX10.alloc _)) hg12 ((hX10.alloc _).block hbK) (by decide); have hKX' := (hKX.ext (hX10.alloc _)).grow (hO.ext (hX10.alloc _)) (Nat.le_refl _) hg12; have hE13 := hE12 w hszw (hE.trans (hX10.alloc _)); obtain ⟨va, vn, vc, rfl⟩ := Own.slice_form enc1_len hO12; obtain ⟨q0, q1, q2⟩ := box3' hbD'; have zQ := lt_of_cell q0; have fQ := frozen_cells ⟨_, hbD'⟩ 2; clear hb12 hE12 hg12)
                        | fail)
                      all_goals
                        go_wp2_with fail
                        go_roundw
                        case rel => exact ⟨k + 1, _, congrArg (Value.int .i64) (by omega), by omega, by omega, ⟨hE13.setCell (by show w.heap.size ≤ D; omega) _, hKX'.set _ _, set_ne hb1' (by omega), set_ne hb2' (by omega), box3w hbD', by rw [HLS.out]; exact Own.kx hO12 ((KX.refl _ _).set _ _) hbD' (by decide)⟩, set_ne hbK' (by omega), fun z a b => by
                            by_cases e : z = y
                            · rw [e]; exact hcy
                            · exact HN.out z a (by omega)⟩
                        case measure => simp [intOf]; omega
                    · have hyt : y = min hi s.hi + 1 := by omega
                      rw [← hyt] at HP1
                      go_wp2_with fail
                      go_roundw
                      case rel => exact ⟨j + 1, k, _, by omega, by go_num, by omega, by show PosS S lo hi (j + 1) (lo + k); rw [hy]; exact HP1.out, ⟨hE, hKX, hb1, hb2, hbD, hO⟩, fun z a b => HN.out z a (by omega)⟩
                      case measure => simp [intOf]; omega
                · have HS := Lib.hid (HCLA.out (max lo s.lo) (by omega) (by omega) (HCL.out _ (by omega) (by omega) hz))
                  rw [hz] at HKS
                  clear hz HCL
                  obtain ⟨r0, r1, r2⟩ := box3' hb2
                  have zR2 := lt_of_cell r0
                  have f0 := frozen_cells ⟨_, hb2⟩ 0
                  have f1 := frozen_cells ⟨_, hb2⟩ 1
                  have f2 := frozen_cells ⟨_, hb2⟩ 2
                  go_wp2_with (go_at_call 66; with_reducible refine (HKS.out _ hok).mono ?_; rintro e w9 ⟨rfl, hX9⟩; replace hb2 := hX9.block hb2; obtain ⟨r0, r1, r2⟩ := box3' hb2; have zR2 := lt_of_cell r0; have f0 := frozen_cells ⟨_, hb2⟩ 0; have f1 := frozen_cells ⟨_, hb2⟩ 1; have f2 := frozen_cells ⟨_, hb2⟩ 2)
                  refine bodyPost_ret (v := .tuple #[.agg #[.int .i64 0, .int .i64 0, .slice none 0 0], .int .i64 9]) (by simp [results, Try.results78, r0, r1, r2, go_sem]) rfl ⟨⟨_, by rw [HS.out.1, HS.out.2], by rw [HS.out.2]; exact Own.nil _ _ _ _ _⟩, hX.trans ?_⟩
                  repeat (first | exact (hE.trans hX9) | refine Ext.drew ?_ | refine Ext.alloc ?_ _ | refine Ext.setCell ?_ (by show w.heap.size ≤ B + 1 + 1; omega) _)
              · have HP1 := Lib.hid (HSKIP.out hc)
                clear HSKIP HGO HCL HKS HRW
                go_wp2_with fail
                go_loopw [18] (fun i wr => i = .int .i64 (max lo s.lo) ∧ wr = w8) (fun _ _ => 0)
                case atStart => exact ⟨rfl, rfl⟩
                case round =>
                  obtain ⟨rfl, rfl⟩ := hrel
                  go_wp2_with fail
                  go_roundw
                  case rel => exact ⟨j + 1, k, _, by omega, by go_num, hk, HP1.out, ⟨hE, hKX, hb1, hb2, hbD, hO⟩, HN.out⟩
                  case measure => simp [intOf]; omega
            · obtain rfl : j = S.length := by omega
              have hpe := pos_end HPS.out
              have HS : Hid (spanE C P R id lo hi = 0 ∧ wornR C P R id lo hi gr = (id, lo, lens (endY P R c gr) lo k)) := by
                have := HOKA.out (fun z a b => HN.out z a (by omega))
                rw [show (hi - lo + 1).toNat = k by omega] at this
                exact this
              clear HN HCLA HOKA HROW HSC HP0 HPS
              obtain ⟨o0, o1, o2⟩ := box3' hbD
              obtain ⟨r0, r1, r2⟩ := box3' hb2
              have zR2 := lt_of_cell r0
              have f0 := frozen_cells ⟨_, hb2⟩ 0
              have f1 := frozen_cells ⟨_, hb2⟩ 1
              have f2 := frozen_cells ⟨_, hb2⟩ 2
              go_wp2_with fail
              refine bodyPost_ret (v := .tuple #[.agg #[.int .i64 id, .int .i64 lo, .slice ua un uc], .int .i64 0]) (by simp [results, Try.results78, r0, r1, r2, go_sem]) rfl ⟨⟨_, by rw [HS.out.1, HS.out.2], by rw [HS.out.2]; exact (Own.kx hO ((((KX.refl _ _).set _ _).set _ _).set _ _) hb2 (by decide)).mono (by omega)⟩, hX.trans ?_⟩
              repeat (first | exact hE | refine Ext.drew ?_ | refine Ext.alloc ?_ _ | refine Ext.setCell ?_ (by show w.heap.size ≤ B + 1 + 1; omega) _)
  · have HS : Hid (spanE C P R id lo hi = chk C P R ∧ wornR C P R id lo hi gr = (0, 0, [])) := by
      have hye : yearsE C P R id lo hi = chk C P R := by unfold yearsE; rw [if_neg h0]
      have := span_err (gr := gr) (show yearsE C P R id lo hi ≠ 0 by rw [hye]; exact h0)
      rw [hye] at this
      exact this
    have hnb : (chk C P R == 0) = false := by simpa using h0
    generalize chk C P R = n at HS hnb ⊢
    have hnb2 : (n != 0) = true := by simp [bne, hnb]
    clear h0 HFN HV HFI
    obtain ⟨r0, r1, r2⟩ := box3' hb2
    have zR2 := lt_of_cell r0
    have f0 := frozen_cells ⟨_, hb2⟩ 0
    have f1 := frozen_cells ⟨_, hb2⟩ 1
    have f2 := frozen_cells ⟨_, hb2⟩ 2
    go_wp2_with fail
    refine bodyPost_ret (v := .tuple #[.agg #[.int .i64 0, .int .i64 0, .slice none 0 0], .int .i64 n]) (by simp [results, Try.results78, r0, r1, r2, go_sem]) rfl ⟨⟨_, by rw [HS.out.1, HS.out.2], by rw [HS.out.2]; exact Own.nil _ _ _ _ _⟩, hX.trans ?_⟩
    repeat (first | exact hE1 | refine Ext.drew ?_ | refine Ext.alloc ?_ _ | refine Ext.setCell ?_ (by show w.heap.size ≤ B + 1 + 1; omega) _)
theorem enters_Shortest : Enters 79 := fun _ _ => by kernel_rfl
set_option maxRecDepth 100000 in
set_option maxHeartbeats 2000000 in
theorem end_Shortest (a b : Int) (w : World) : Calls Try.prog 79 #[.agg #[.int .i64 a, .int .i64 b]] w fun e w' => e = .returned (.int .i64 (if false = true then b else a)) ∧ Ext w w' := by
  go_enter Try.func79, Try.ntmps79
  go_wp2_with fail
  go_ret
  exact ⟨rfl, (Ext.refl _).alloc _⟩
set_option maxRecDepth 100000 in
set_option maxHeartbeats 4000000 in
theorem Shortest_any (W : World) (C P R : List Five) (v : Value) (id lo hi : Int) (w : World) (hX : Ext W w) (hv : Wk w v C P R) :
    Calls Try.prog 39 #[v, .int .i64 id, .agg #[.int .i64 lo, .int .i64 hi]] w fun e w' => (∃ u, e = .returned (.tuple #[.agg #[.int .i64 (wornR C P R id lo hi false).1, .int .i64 (wornR C P R id lo hi false).2.1, u], .int .i64 (spanE C P R id lo hi)]) ∧ Own 3 1 enc1 w.heap.size w' u (wornR C P R id lo hi false).2.2) ∧ Ext W w' := by
  have HW := Lib.hid (fun w' (q : Ext w w') => lengths_any w' C P R v id lo hi false _ enters_Shortest end_Shortest w' (Ext.refl _) (hv.ext q))
  obtain ⟨vC, vP, vR, rfl, -⟩ := hv
  generalize wornR C P R id lo hi false = x at HW ⊢
  generalize spanE C P R id lo hi = n at HW ⊢
  obtain ⟨x1, x2, x3⟩ := x
  have hX0 : Ext w (((w.alloc (.cells #[vC, vP, vR] 26)).alloc (.cells #[.int .i64 lo, .int .i64 hi] 30)).alloc (.cells #[.int .i64 0, .int .i64 0, .slice none 0 0] 46)) := (((Ext.refl w).alloc _).alloc _).alloc _
  have hb2 := heap_alloc_new ((w.alloc (.cells #[vC, vP, vR] 26)).alloc (.cells #[.int .i64 lo, .int .i64 hi] 30)) (.cells #[.int .i64 0, .int .i64 0, .slice none 0 0] 46)
  simp only [World.size_alloc] at hb2
  obtain ⟨B, hBB⟩ : ∃ B, w.heap.size = B := ⟨_, rfl⟩
  rw [hBB] at hb2
  go_enter Try.func39, Try.ntmps39
  go_wp2_with fail
  with_reducible refine (HW.out _ hX0).mono ?_
  rintro e w1 ⟨⟨u, rfl, hI⟩, hX1⟩
  obtain ⟨ua, un, uc, rfl⟩ := Own.slice_form enc1_len hI
  have hE1 := hX0.trans hX1
  replace hb2 := hX1.block hb2
  obtain ⟨r0, r1, r2⟩ := box3' hb2
  have f0 := frozen_cells ⟨_, hb2⟩ 0
  have f1 := frozen_cells ⟨_, hb2⟩ 1
  have f2 := frozen_cells ⟨_, hb2⟩ 2
  have HI := Lib.hid hI
  have hw0 := hX0.le
  clear hI hX1
  go_wp2_with fail
  refine bodyPost_ret (v := .tuple #[.agg #[.int .i64 x1, .int .i64 x2, .slice ua un uc], .int .i64 n]) (by simp [results, Try.results39, r0, r1, r2, go_sem]) rfl ⟨⟨_, rfl, ?_⟩, hX.trans ?_⟩
  · exact (Own.kx HI.out ((((KX.refl _ _).set _ _).set _ _).set _ _) hb2 (by decide)).mono hw0
  · repeat (first | exact hE1 | refine Ext.setCell ?_ (by show w.heap.size ≤ B + 1 + 1; omega) _)
theorem enters_Longest : Enters 81 := fun _ _ => by kernel_rfl
set_option maxRecDepth 100000 in
set_option maxHeartbeats 2000000 in
theorem end_Longest (a b : Int) (w : World) : Calls Try.prog 81 #[.agg #[.int .i64 a, .int .i64 b]] w fun e w' => e = .returned (.int .i64 (if true = true then b else a)) ∧ Ext w w' := by
  go_enter Try.func81, Try.ntmps81
  go_wp2_with fail
  go_ret
  exact ⟨rfl, (Ext.refl _).alloc _⟩
set_option maxRecDepth 100000 in
set_option maxHeartbeats 4000000 in
theorem Longest_any (W : World) (C P R : List Five) (v : Value) (id lo hi : Int) (w : World) (hX : Ext W w) (hv : Wk w v C P R) :
    Calls Try.prog 41 #[v, .int .i64 id, .agg #[.int .i64 lo, .int .i64 hi]] w fun e w' => (∃ u, e = .returned (.tuple #[.agg #[.int .i64 (wornR C P R id lo hi true).1, .int .i64 (wornR C P R id lo hi true).2.1, u], .int .i64 (spanE C P R id lo hi)]) ∧ Own 3 1 enc1 w.heap.size w' u (wornR C P R id lo hi true).2.2) ∧ Ext W w' := by
  have HW := Lib.hid (fun w' (q : Ext w w') => lengths_any w' C P R v id lo hi true _ enters_Longest end_Longest w' (Ext.refl _) (hv.ext q))
  obtain ⟨vC, vP, vR, rfl, -⟩ := hv
  generalize wornR C P R id lo hi true = x at HW ⊢
  generalize spanE C P R id lo hi = n at HW ⊢
  obtain ⟨x1, x2, x3⟩ := x
  have hX0 : Ext w (((w.alloc (.cells #[vC, vP, vR] 26)).alloc (.cells #[.int .i64 lo, .int .i64 hi] 30)).alloc (.cells #[.int .i64 0, .int .i64 0, .slice none 0 0] 46)) := (((Ext.refl w).alloc _).alloc _).alloc _
  have hb2 := heap_alloc_new ((w.alloc (.cells #[vC, vP, vR] 26)).alloc (.cells #[.int .i64 lo, .int .i64 hi] 30)) (.cells #[.int .i64 0, .int .i64 0, .slice none 0 0] 46)
  simp only [World.size_alloc] at hb2
  obtain ⟨B, hBB⟩ : ∃ B, w.heap.size = B := ⟨_, rfl⟩
  rw [hBB] at hb2
  go_enter Try.func41, Try.ntmps41
  go_wp2_with fail
  with_reducible refine (HW.out _ hX0).mono ?_
  rintro e w1 ⟨⟨u, rfl, hI⟩, hX1⟩
  obtain ⟨ua, un, uc, rfl⟩ := Own.slice_form enc1_len hI
  have hE1 := hX0.trans hX1
  replace hb2 := hX1.block hb2
  obtain ⟨r0, r1, r2⟩ := box3' hb2
  have f0 := frozen_cells ⟨_, hb2⟩ 0
  have f1 := frozen_cells ⟨_, hb2⟩ 1
  have f2 := frozen_cells ⟨_, hb2⟩ 2
  have HI := Lib.hid hI
  have hw0 := hX0.le
  clear hI hX1
  go_wp2_with fail
  refine bodyPost_ret (v := .tuple #[.agg #[.int .i64 x1, .int .i64 x2, .slice ua un uc], .int .i64 n]) (by simp [results, Try.results41, r0, r1, r2, go_sem]) rfl ⟨⟨_, rfl, ?_⟩, hX.trans ?_⟩
  · exact (Own.kx HI.out ((((KX.refl _ _).set _ _).set _ _).set _ _) hb2 (by decide)).mono hw0
  · repeat (first | exact hE1 | refine Ext.setCell ?_ (by show w.heap.size ≤ B + 1 + 1; omega) _)
end Go.Proofs.Ytaggjclaehigjaa
