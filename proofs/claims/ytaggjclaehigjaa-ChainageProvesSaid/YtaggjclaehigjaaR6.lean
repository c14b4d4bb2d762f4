/- Contracts of the specification's functions: spell, Spell. -/
import Derived.Test.YtaggjclaehigjaaR5
import Derived.Test.YtaggjclaehigjaaK3
namespace Go.Proofs.Ytaggjclaehigjaa
open Go.RowKit
theorem set_eq {w : World} {b T o : Nat} {cs : Array Value} {ro : Nat × Nat} {u : Value} (h : w.heap[b]? = some (.cells cs T ro)) : (w.setCell ⟨b, o, none⟩ u).heap[b]? = some (.cells (cs.setIfInBounds o u) T ro) := by
  simp [World.setCell, Array.getElem?_modify, h]
theorem set_ne {w : World} {b c o : Nat} {ob : Obj} {u : Value} (h : w.heap[c]? = some ob) (hne : c ≠ b) : (w.setCell ⟨b, o, none⟩ u).heap[c]? = some ob :=
  (Below.heap_setCell w ⟨b, o, none⟩ u c hne).trans h
theorem box2 {w : World} {B T : Nat} {a b : Value} {ro : Nat × Nat} (h : w.heap[B]? = some (.cells #[a, b] T ro)) : w.cell? ⟨B, 0, none⟩ = some a ∧ w.cell? ⟨B, 1, none⟩ = some b :=
  ⟨cell_at h 0, cell_at h 1⟩
theorem box3' {w : World} {B T : Nat} {a b c : Value} {ro : Nat × Nat} (h : w.heap[B]? = some (.cells #[a, b, c] T ro)) : w.cell? ⟨B, 0, none⟩ = some a ∧ w.cell? ⟨B, 1, none⟩ = some b ∧ w.cell? ⟨B, 2, none⟩ = some c :=
  ⟨cell_at h 0, cell_at h 1, cell_at h 2⟩
theorem spellZ_succ {R : List Five} {c : Five} {y : Int} {k : Nat} (hk : k < R.length) {x : Five} (hx : x = R[k]) : spellZ (R.take (k + 1)) c y = spStep c y (spellZ (R.take k) c y) x := by
  unfold spellZ
  rw [List.take_succ_eq_append_getElem hk, List.foldl_append, ← hx]
  rfl
set_option maxRecDepth 100000 in
set_option maxHeartbeats 4000000 in
theorem rspell (W : World) (C P R : List Five) (c : Five) (y : Int) (v : Value) (w : World) (hX : Ext W w) (hv : Wk w v C P R) (hY : ∀ r ∈ R, 0 ≤ r.c ∧ r.c ≤ 4000) :
    Calls Try.prog 52 #[v, v5 c, .int .i64 y] w fun e w' => e = .returned (.agg #[.int .i64 (spellZ R c y).1, .int .i64 (spellZ R c y).2]) ∧ Ext W w' := by
  have hmin := ite_min
  have hmax := ite_max
  obtain ⟨vC, vP, vR, rfl, hC, hP, hR, hn⟩ := hv
  obtain ⟨aR, capR, rfl, hlR, hmR, hcR⟩ := hR.parts
  have HcR := Lib.hid hcR
  have HY := Lib.hid hY
  clear hcR hC hP hR hmR hY
  go_enter Try.func52, Try.ntmps52
  go_wp2_with fail
  have hb0 := (((Ext.refl _).alloc (.cells #[.int .i64 c.a, .int .i64 c.b, .int .i64 c.c, .int .i64 c.d, .int .i64 c.e] 53)).alloc (.cells #[.int .i64 0, .int .i64 0] 30)).alloc (.cells #[.int .i64 c.b, .int .i64 4000] 30) |>.block (heap_alloc_new w (.cells #[vC, vP, .slice aR R.length capR] 26))
  have hb1 := ((Ext.refl _).alloc (.cells #[.int .i64 0, .int .i64 0] 30)).alloc (.cells #[.int .i64 c.b, .int .i64 4000] 30) |>.block (heap_alloc_new (w.alloc (.cells #[vC, vP, .slice aR R.length capR] 26)) (.cells #[.int .i64 c.a, .int .i64 c.b, .int .i64 c.c, .int .i64 c.d, .int .i64 c.e] 53))
  have hb2 := (Ext.refl _).alloc (.cells #[.int .i64 c.b, .int .i64 4000] 30) |>.block (heap_alloc_new ((w.alloc (.cells #[vC, vP, .slice aR R.length capR] 26)).alloc (.cells #[.int .i64 c.a, .int .i64 c.b, .int .i64 c.c, .int .i64 c.d, .int .i64 c.e] 53)) (.cells #[.int .i64 0, .int .i64 0] 30))
  have hb3 := heap_alloc_new (((w.alloc (.cells #[vC, vP, .slice aR R.length capR] 26)).alloc (.cells #[.int .i64 c.a, .int .i64 c.b, .int .i64 c.c, .int .i64 c.d, .int .i64 c.e] 53)).alloc (.cells #[.int .i64 0, .int .i64 0] 30)) (.cells #[.int .i64 c.b, .int .i64 4000] 30)
  have hE0 : Ext w ((((w.alloc (.cells #[vC, vP, .slice aR R.length capR] 26)).alloc (.cells #[.int .i64 c.a, .int .i64 c.b, .int .i64 c.c, .int .i64 c.d, .int .i64 c.e] 53)).alloc (.cells #[.int .i64 0, .int .i64 0] 30)).alloc (.cells #[.int .i64 c.b, .int .i64 4000] 30)) := ((((Ext.refl w).alloc _).alloc _).alloc _).alloc _
  simp only [World.size_alloc] at hb1 hb2 hb3
  obtain ⟨wa, hwa⟩ : ∃ wa, (((w.alloc (.cells #[vC, vP, .slice aR R.length capR] 26)).alloc (.cells #[.int .i64 c.a, .int .i64 c.b, .int .i64 c.c, .int .i64 c.d, .int .i64 c.e] 53)).alloc (.cells #[.int .i64 0, .int .i64 0] 30)).alloc (.cells #[.int .i64 c.b, .int .i64 4000] 30) = wa := ⟨_, rfl⟩
  rw [hwa] at hb0 hb1 hb2 hb3 hE0 ⊢
  clear hwa
  obtain ⟨B, hBB⟩ : ∃ B, w.heap.size = B := ⟨_, rfl⟩
  rw [hBB] at hb0 hb1 hb2 hb3 ⊢
  go_loopw [8] (fun i wr => ∃ k : Nat, k ≤ R.length ∧ i = .int .i64 k ∧ Ext w wr ∧ wr.heap[B]? = some (.cells #[vC, vP, .slice aR R.length capR] 26) ∧ wr.heap[B + 1]? = some (.cells #[.int .i64 c.a, .int .i64 c.b, .int .i64 c.c, .int .i64 c.d, .int .i64 c.e] 53) ∧
      wr.heap[B + 1 + 1]? = some (.cells #[.int .i64 0, .int .i64 0] 30) ∧ wr.heap[B + 1 + 1 + 1]? = some (.cells #[.int .i64 (spellZ (R.take k) c y).1, .int .i64 (spellZ (R.take k) c y).2] 30)) (fun i _ => R.length - (intOf i).toNat)
  case atStart => exact ⟨0, Nat.zero_le _, rfl, hE0, hb0, hb1, hb2, hb3⟩
  case round =>
    clear hb0 hb1 hb2 hb3 hE0
    obtain ⟨k, hk, rfl, hE, hb0, hb1, hb2, hb3⟩ := hrel
    obtain ⟨-, -, d2⟩ := box3' hb0
    by_cases hlt : k < R.length
    · obtain ⟨b, off, x, hx, rfl, c0, c1, c2, c3, c4⟩ := five_at HcR.out hE hlt
      have HS := Lib.hid (spellZ_succ (c := c) (y := y) hlt hx)
      have hY := HY.out x (by rw [hx]; exact List.getElem_mem hlt)
      clear hx
      obtain ⟨⟨slo, shi⟩, hs⟩ : ∃ s, spellZ (R.take k) c y = s := ⟨_, rfl⟩
      rw [hs] at hb3 HS
      simp only at hb3
      obtain ⟨e0, e1⟩ := box2 hb3
      have f0 := cell_at hb1 0
      simp only [List.getElem?_toArray, List.getElem?_cons_zero] at f0
      have g0 := frozen_cells ⟨_, hb3⟩ 0
      have g1 := frozen_cells ⟨_, hb3⟩ 1
      have z0 := lt_of_cell d2
      have z1 := lt_of_cell f0
      have z3 := lt_of_cell e0
      have a0 := (Ext.alloc (Ext.refl wr) (.cells #[.int .i64 x.a, .int .i64 x.b, .int .i64 x.c, .int .i64 x.d, .int .i64 x.e] 85)).block hb0
      have a1 := (Ext.alloc (Ext.refl wr) (.cells #[.int .i64 x.a, .int .i64 x.b, .int .i64 x.c, .int .i64 x.d, .int .i64 x.e] 85)).block hb1
      have a2 := (Ext.alloc (Ext.refl wr) (.cells #[.int .i64 x.a, .int .i64 x.b, .int .i64 x.c, .int .i64 x.d, .int .i64 x.e] 85)).block hb2
      have a3 := (Ext.alloc (Ext.refl wr) (.cells #[.int .i64 x.a, .int .i64 x.b, .int .i64 x.c, .int .i64 x.d, .int .i64 x.e] 85)).block hb3
      have hEa := hE.alloc (.cells #[.int .i64 x.a, .int .i64 x.b, .int .i64 x.c, .int .i64 x.d, .int .i64 x.e] 85)
      by_cases he : x.b = c.a
      · have heb : (x.b == c.a) = true := by simpa using he
        by_cases hy : x.c ≤ y
        · have HN : Hid (spellZ (R.take (k + 1)) c y = (max slo x.c, shi)) := by rw [HS.out]; show _ = _; unfold spStep; rw [if_pos he, if_pos hy]
          go_wp2_with fail
          exact ⟨⟨k + 1, by omega, by go_num, (hE.setCell (by show w.heap.size ≤ B + 1 + 1 + 1; omega) _).alloc _, ((Ext.refl _).alloc _).block (set_ne hb0 (by omega)), ((Ext.refl _).alloc _).block (set_ne hb1 (by omega)), ((Ext.refl _).alloc _).block (set_ne hb2 (by omega)), by rw [HN.out]; exact ((Ext.refl _).alloc _).block (set_eq (o := 0) (u := .int .i64 (max slo x.c)) hb3)⟩, by simp [intOf]; omega⟩
        · have HN : Hid (spellZ (R.take (k + 1)) c y = (slo, min shi (x.c - 1))) := by rw [HS.out]; show _ = _; unfold spStep; rw [if_pos he, if_neg hy]
          go_wp2_with fail
          exact ⟨⟨k + 1, by omega, by go_num, (hE.setCell (by show w.heap.size ≤ B + 1 + 1 + 1; omega) _).alloc _, ((Ext.refl _).alloc _).block (set_ne hb0 (by omega)), ((Ext.refl _).alloc _).block (set_ne hb1 (by omega)), ((Ext.refl _).alloc _).block (set_ne hb2 (by omega)), by rw [HN.out]; exact ((Ext.refl _).alloc _).block (set_eq (o := 1) (u := .int .i64 (min shi (x.c - 1))) hb3)⟩, by simp [intOf]; omega⟩
      · have HN : Hid (spellZ (R.take (k + 1)) c y = (slo, shi)) := by rw [HS.out]; show _ = _; unfold spStep; rw [if_neg he]
        go_wp2_with fail
        exact ⟨⟨k + 1, by omega, by go_num, hE.alloc _, a0, a1, a2, by rw [HN.out]; exact a3⟩, by simp [intOf]; omega⟩
    · obtain rfl : k = R.length := by omega
      rw [List.take_length] at hb3
      obtain ⟨e0, e1⟩ := box2 hb3
      obtain ⟨e2, e3⟩ := box2 hb2
      have g0 := frozen_cells ⟨_, hb2⟩ 0
      have g1 := frozen_cells ⟨_, hb2⟩ 1
      go_wp2_with fail
      refine bodyPost_ret (v := .agg #[.int .i64 (spellZ R c y).1, .int .i64 (spellZ R c y).2]) (by simp [results, Try.results52, e2, e3, go_sem]) rfl ⟨rfl, ?_⟩
      exact hX.trans ((hE.setCell (by show w.heap.size ≤ B + 1 + 1; omega) _).setCell (by show w.heap.size ≤ B + 1 + 1; omega) _)
theorem good_rep {C P R : List Five} (g : Good C P R) : ∀ r ∈ R, 0 ≤ r.c ∧ r.c ≤ 4000 := by
  intro r hr
  have h := g.okr r hr
  unfold okT at h
  cases hf : findC C r.b with
  | none => rw [hf] at h; cases h
  | some c =>
    rw [hf] at h
    simp only [Bool.and_eq_true, inB_iff] at h
    have hc := g.okc c (List.mem_of_find?_eq_some hf)
    simp only [okC, Bool.and_eq_true, inB_iff] at hc
    omega
set_option maxRecDepth 100000 in
set_option maxHeartbeats 4000000 in
theorem rSpell (W : World) (C P R : List Five) (v : Value) (id y : Int) (w : World) (hX : Ext W w) (hv : Wk w v C P R) :
    Calls Try.prog 17 #[v, .int .i64 id, .int .i64 y] w fun e w' => e = .returned (spanT (spellR C P R id y)) ∧ Ext W w' := by
  have HCK := Lib.hid (fun w' (q : Ext w w') => rCheck w' C P R v w' (Ext.refl _) (hv.ext q))
  have HCA := Lib.hid (fun w' (q : Ext w w') => rchainAt w' C P R v id w' (Ext.refl _) (hv.ext q))
  have HSP := Lib.hid (fun (g : Good C P R) c w' (q : Ext w w') => rspell w' C P R c y v w' (Ext.refl _) (hv.ext q) (good_rep g))
  obtain ⟨vC, vP, vR, rfl, hC, hP, hR, hn⟩ := hv
  obtain ⟨a, cap, rfl, hl, hm, hc⟩ := hC.parts
  have HC := Lib.hid hc
  clear hC hP hR hc hm
  have hX0 : Ext w ((w.alloc (.cells #[.slice a C.length cap, vP, vR] 26)).alloc (.cells #[.int .i64 0, .int .i64 0] 30)) := ((Ext.refl w).alloc _).alloc _
  have hb0 := ((Ext.refl _).alloc (.cells #[.int .i64 0, .int .i64 0] 30)).block (heap_alloc_new w (.cells #[.slice a C.length cap, vP, vR] 26))
  have hb1 := heap_alloc_new (w.alloc (.cells #[.slice a C.length cap, vP, vR] 26)) (.cells #[.int .i64 0, .int .i64 0] 30)
  rw [World.size_alloc] at hb1
  obtain ⟨B, hBB⟩ : ∃ B, w.heap.size = B := ⟨_, rfl⟩
  go_enter Try.func17, Try.ntmps17
  go_wp2_with fail
  rw [hBB] at hb0 hb1
  obtain ⟨wa, hwa⟩ : ∃ wa, (w.alloc (.cells #[.slice a C.length cap, vP, vR] 26)).alloc (.cells #[.int .i64 0, .int .i64 0] 30) = wa := ⟨_, rfl⟩
  rw [hwa] at hb0 hb1 hX0 ⊢
  clear hwa
  with_reducible refine (HCK.out _ hX0).mono ?_
  rintro e w1 ⟨rfl, hX1⟩
  have hE1 := hX0.trans hX1
  have hb0 := hX1.block hb0
  have hb1 := hX1.block hb1
  clear hX1 hX0 HCK
  obtain ⟨c0, c1, c2⟩ := box3' hb0
  obtain ⟨r0, r1⟩ := box2 hb1
  have f0 := frozen_cells ⟨_, hb1⟩ 0
  have f1 := frozen_cells ⟨_, hb1⟩ 1
  by_cases h0 : chk C P R = 0
  · have g := chk_zero.1 h0
    rw [h0]
    go_wp2_with fail
    with_reducible refine (HCA.out _ hE1).mono ?_
    rintro e w2 ⟨rfl, hX2⟩
    have hE2 := hE1.trans hX2
    have hb0 := hX2.block hb0
    have hb1 := hX2.block hb1
    clear hX2 hE1
    obtain ⟨c0, c1, c2⟩ := box3' hb0
    obtain ⟨r0, r1⟩ := box2 hb1
    have f0 := frozen_cells ⟨_, hb1⟩ 0
    have f1 := frozen_cells ⟨_, hb1⟩ 1
    rcases idx_find (fun c => c.a == id) C with ⟨hi, hf2⟩ | ⟨k, hk, hi, hf2⟩
    · rw [hi]
      have HR : Hid (spellR C P R id y = ((0, 0), 5)) := by
        show _ = _
        unfold spellR atE
        rw [if_pos h0, show findC C id = none from hf2]
        rfl
      go_wp2_with fail
      refine bodyPost_ret (v := .tuple #[.agg #[.int .i64 0, .int .i64 0], .int .i64 5]) (by simp [results, Try.results17, r0, r1, go_sem]) rfl ⟨by rw [HR.out], ?_⟩
      exact hX.trans ((hE2.setCell (by show w.heap.size ≤ B + 1; omega) _).setCell (by show w.heap.size ≤ B + 1; omega) _)
    · rw [hi]
      obtain ⟨b, off, x, hx, rfl, q0, q1, q2, q3, q4⟩ := five_at HC.out hE2 hk
      rw [← hx] at hf2
      have hk0 : (0 : Int) ≤ (k : Int) := by omega
      have hk1 : (k : Int) < (C.length : Int) := by omega
      clear hx hi
      cases hy : inB y x.b 4000
      · have HR : Hid (spellR C P R id y = ((0, 0), 1)) := by
          show _ = _
          unfold spellR atE
          rw [if_pos h0, show findC C id = some x from hf2]
          simp [hy]
        go_wp2_with (go_at_call 51; with_reducible refine (rin _ _ _ _).mono ?_; rintro e w' ⟨rfl, rfl⟩; rw [hy])
        refine bodyPost_ret (v := .tuple #[.agg #[.int .i64 0, .int .i64 0], .int .i64 1]) (by simp [results, Try.results17, r0, r1, go_sem]) rfl ⟨by rw [HR.out], ?_⟩
        exact hX.trans ((hE2.setCell (by show w.heap.size ≤ B + 1; omega) _).setCell (by show w.heap.size ≤ B + 1; omega) _)
      · have HR : Hid (spellR C P R id y = (spellZ R x y, 0)) := by
          show _ = _
          unfold spellR atE
          rw [if_pos h0, show findC C id = some x from hf2]
          simp [hy]
        have HSX := Lib.hid (HSP.out g x)
        obtain ⟨⟨slo, shi⟩, hs⟩ : ∃ s, spellZ R x y = s := ⟨_, rfl⟩
        rw [hs] at HSX HR
        clear hs hf2 HSP HCA h0 g
        go_wp2_with (go_at_call 51; with_reducible refine (rin _ _ _ _).mono ?_; rintro e w' ⟨rfl, rfl⟩; rw [hy])
        go_region_with (go_at_call 52; with_reducible refine (HSX.out _ hE2.drew).mono ?_; rintro e w3 ⟨rfl, hX3⟩; have hb3 := hX3.block ((Ext.refl w2).drew.block hb1); obtain ⟨s0, s1⟩ := box2 hb3; have g0 := frozen_cells ⟨_, hb3⟩ 0; have g1 := frozen_cells ⟨_, hb3⟩ 1; have hW3 := hE2.trans ((Ext.refl w2).drew.trans hX3))
        all_goals
          go_wp2_with fail
          refine bodyPost_ret (v := .tuple #[.agg #[.int .i64 slo, .int .i64 shi], .int .i64 0]) (by simp [results, Try.results17, s0, s1, go_sem]) rfl ⟨by rw [HR.out], ?_⟩
          exact hX.trans ((hW3.setCell (by show w.heap.size ≤ B + 1; omega) _).setCell (by show w.heap.size ≤ B + 1; omega) _)
  · have HR : Hid (spellR C P R id y = ((0, 0), chk C P R)) := by
      show _ = _
      unfold spellR atE
      rw [if_neg h0, if_neg h0]
    have hnb : (chk C P R == 0) = false := by simpa using h0
    generalize chk C P R = n at HR hnb ⊢
    have hnb2 : (n != 0) = true := by simp [bne, hnb]
    clear h0
    go_wp2_with fail
    refine bodyPost_ret (v := .tuple #[.agg #[.int .i64 0, .int .i64 0], .int .i64 n]) (by simp [results, Try.results17, r0, r1, go_sem]) rfl ⟨by rw [HR.out], ?_⟩
    exact hX.trans ((hE1.setCell (by show w.heap.size ≤ B + 1; omega) _).setCell (by show w.heap.size ≤ B + 1; omega) _)
end Go.Proofs.Ytaggjclaehigjaa
