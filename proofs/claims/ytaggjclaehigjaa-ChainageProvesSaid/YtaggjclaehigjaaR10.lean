/- Contracts of the specification's functions: known. -/
import Derived.Test.YtaggjclaehigjaaR8
import Derived.Test.YtaggjclaehigjaaR9
namespace Go.Proofs.Ytaggjclaehigjaa
open Go.RowKit
theorem spellZ_rng {R : List Five} {c : Five} {y : Int} (h1 : c.b ≤ y) (h2 : y ≤ 4000) : c.b ≤ (spellZ R c y).1 ∧ (spellZ R c y).1 ≤ y ∧ y ≤ (spellZ R c y).2 ∧ (spellZ R c y).2 ≤ 4000 := by
  obtain ⟨⟨a1, _, a2⟩, a3, _, a4⟩ := spell_law c y R (c.b, 4000)
  unfold spellZ
  simp only at a1 a2 a3 a4
  refine ⟨a1, ?_, ?_, a3⟩
  · rcases a2 with a2 | ⟨r, _, _, h, e⟩ <;> omega
  · rcases a4 with a4 | ⟨r, _, _, h, e⟩ <;> omega
/-- the cells of what is known of a chain in a year -/
def knownC (C P R : List Five) (id y : Int) : List Value :=
  if agE C P R id y = 0 then (match findC C id with
    | some c => [.int .i64 (lmL c.e y (innZ P R c (spellZ R c y))).1, .int .i64 (lmH c.e y (innZ P R c (spellZ R c y))).1, .int .i64 (lmL c.e y (innZ P R c (spellZ R c y))).2, .int .i64 (lmH c.e y (innZ P R c (spellZ R c y))).2, .int .i64 0]
    | none => [.int .i64 0, .int .i64 0, .int .i64 0, .int .i64 0, .int .i64 0]) else [.int .i64 0, .int .i64 0, .int .i64 0, .int .i64 0, .int .i64 (agE C P R id y)]
theorem knownC_err {C P R : List Five} {id y : Int} (h : agE C P R id y ≠ 0) : knownC C P R id y = [.int .i64 0, .int .i64 0, .int .i64 0, .int .i64 0, .int .i64 (agE C P R id y)] := by
  unfold knownC; rw [if_neg h]
theorem knownC_ok {C P R : List Five} {id y : Int} {c : Five} (h : agE C P R id y = 0) (hf : findC C id = some c) : knownC C P R id y = [.int .i64 (lmL c.e y (innZ P R c (spellZ R c y))).1, .int .i64 (lmH c.e y (innZ P R c (spellZ R c y))).1, .int .i64 (lmL c.e y (innZ P R c (spellZ R c y))).2, .int .i64 (lmH c.e y (innZ P R c (spellZ R c y))).2, .int .i64 0] := by
  unfold knownC; rw [if_pos h, hf]
theorem spellR_at {C P R : List Five} {id y : Int} (h : atE C P R id y = 0) : ∃ c, Good C P R ∧ findC C id = some c ∧ (c.b ≤ y ∧ y ≤ 4000) ∧ spellR C P R id y = (spellZ R c y, 0) := by
  unfold atE at h
  by_cases h0 : chk C P R = 0
  · rw [if_pos h0] at h
    cases hf : findC C id with
    | none => rw [hf] at h; cases h
    | some c =>
      rw [hf] at h
      simp only at h
      cases hi : inB y c.b 4000
      · rw [hi] at h; cases h
      · refine ⟨c, chk_zero.1 h0, rfl, inB_iff.1 hi, ?_⟩
        unfold spellR atE
        rw [if_pos h0, hf]
        simp [hi]
  · rw [if_neg h0] at h
    exact absurd h h0
theorem spellR_err {C P R : List Five} {id y : Int} (h : atE C P R id y ≠ 0) : spellR C P R id y = ((0, 0), atE C P R id y) := by
  unfold spellR; rw [if_neg h]
theorem agE_at {C P R : List Five} {id y : Int} {c : Five} (h : atE C P R id y = 0) (hf : findC C id = some c) : agE C P R id y = if clashesB c.e (innZ P R c (spellZ R c y)) then 9 else 0 := by
  unfold agE; rw [if_pos h, hf]
theorem new_drew (w : World) (o : Obj) : (w.alloc o).drew.heap[w.heap.size]? = some o := heap_alloc_new w o
theorem ext_five {w0 w : World} {R : Nat} (h : Ext w0 w) (hR : w0.heap.size ≤ R) (u0 u1 u2 u3 u4 : Value) : Ext w0 (((((w.setCell ⟨R, 0, none⟩ u0).setCell ⟨R, 1, none⟩ u1).setCell ⟨R, 2, none⟩ u2).setCell ⟨R, 3, none⟩ u3).setCell ⟨R, 4, none⟩ u4) :=
  ((((h.setCell (p := ⟨R, 0, none⟩) hR _).setCell (p := ⟨R, 1, none⟩) hR _).setCell (p := ⟨R, 2, none⟩) hR _).setCell (p := ⟨R, 3, none⟩) hR _).setCell (p := ⟨R, 4, none⟩) hR _
theorem relA {w2 w3 : World} {T : Nat} (h : Ext w2 w3) (cs : Array Value) : ∃ N, Value.pointer (some ⟨w3.heap.size, 0, none⟩) = .pointer (some ⟨N, 0, none⟩) ∧ Ext w2 (w3.alloc (.cells cs T)) ∧ (w3.alloc (.cells cs T)).heap[N]? = some (.cells cs T) :=
  ⟨_, rfl, h.alloc _, heap_alloc_new w3 _⟩
theorem relB {w2 w3 : World} {T n : Nat} {a b c d e a' b' c' d' e' : Value} (h : Ext w2 w3) (hn : w2.heap.size ≤ n) (hN : w3.heap[n]? = some (.cells #[a', b', c', d', e'] T)) :
    ∃ N, Value.pointer (some ⟨n, 0, none⟩) = .pointer (some ⟨N, 0, none⟩) ∧ Ext w2 (((((w3.setCell ⟨n, 0, none⟩ a).setCell ⟨n, 1, none⟩ b).setCell ⟨n, 2, none⟩ c).setCell ⟨n, 3, none⟩ d).setCell ⟨n, 4, none⟩ e) ∧
      (((((w3.setCell ⟨n, 0, none⟩ a).setCell ⟨n, 1, none⟩ b).setCell ⟨n, 2, none⟩ c).setCell ⟨n, 3, none⟩ d).setCell ⟨n, 4, none⟩ e).heap[N]? = some (.cells #[a, b, c, d, e] T) :=
  ⟨_, rfl, ext_five h hn _ _ _ _ _, set_eq (set_eq (set_eq (set_eq (set_eq hN))))⟩
theorem box5 {w : World} {B T : Nat} {a b c d e : Value} {ro : Nat × Nat} (h : w.heap[B]? = some (.cells #[a, b, c, d, e] T ro)) : w.cell? ⟨B, 0, none⟩ = some a ∧ w.cell? ⟨B, 1, none⟩ = some b ∧ w.cell? ⟨B, 2, none⟩ = some c ∧ w.cell? ⟨B, 3, none⟩ = some d ∧ w.cell? ⟨B, 4, none⟩ = some e :=
  ⟨cell_at h 0, cell_at h 1, cell_at h 2, cell_at h 3, cell_at h 4⟩
theorem frozen5 {w : World} {B T : Nat} {cs : Array Value} (h : w.heap[B]? = some (.cells cs T (0, 0))) : w.frozen? ⟨B, 0, none⟩ = false ∧ w.frozen? ⟨B, 1, none⟩ = false ∧ w.frozen? ⟨B, 2, none⟩ = false ∧ w.frozen? ⟨B, 3, none⟩ = false ∧ w.frozen? ⟨B, 4, none⟩ = false :=
  ⟨frozen_cells ⟨_, h⟩ 0, frozen_cells ⟨_, h⟩ 1, frozen_cells ⟨_, h⟩ 2, frozen_cells ⟨_, h⟩ 3, frozen_cells ⟨_, h⟩ 4⟩
set_option maxRecDepth 100000 in
set_option maxHeartbeats 8000000 in
theorem rknown (W : World) (C P R : List Five) (v : Value) (id y : Int) (w : World) (hX : Ext W w) (hv : Wk w v C P R) :
    Calls Try.prog 63 #[v, .int .i64 id, .int .i64 y] w fun e w' => e = .returned (.agg (knownC C P R id y).toArray) ∧ Ext W w' := by
  have HSP := Lib.hid (fun w' (q : Ext w w') => rSpell w' C P R v id y w' (Ext.refl _) (hv.ext q))
  have HCA := Lib.hid (fun w' (q : Ext w w') => rchainAt w' C P R v id w' (Ext.refl _) (hv.ext q))
  have HIN := Lib.hid (fun (g : Good C P R) c lo hi w' (q : Ext w w') => rIn w' C P R c lo hi v w' (Ext.refl _) (hv.ext q) (by have := g.few; omega))
  obtain ⟨vC, vP, vR, rfl, hC, hP, hR, hn⟩ := hv
  obtain ⟨a, cap, rfl, hl, hm, hc⟩ := hC.parts
  have HC := Lib.hid hc
  clear hC hP hR hc hm
  have hX0 : Ext w ((w.alloc (.cells #[.slice a C.length cap, vP, vR] 26)).alloc (.cells #[.int .i64 0, .int .i64 0, .int .i64 0, .int .i64 0, .int .i64 0] 111)) := ((Ext.refl w).alloc _).alloc _
  have hb0 := ((Ext.refl _).alloc (.cells #[.int .i64 0, .int .i64 0, .int .i64 0, .int .i64 0, .int .i64 0] 111)).block (heap_alloc_new w (.cells #[.slice a C.length cap, vP, vR] 26))
  have hb1 := heap_alloc_new (w.alloc (.cells #[.slice a C.length cap, vP, vR] 26)) (.cells #[.int .i64 0, .int .i64 0, .int .i64 0, .int .i64 0, .int .i64 0] 111)
  rw [World.size_alloc] at hb1
  obtain ⟨B, hBB⟩ : ∃ B, w.heap.size = B := ⟨_, rfl⟩
  go_enter Try.func63, Try.ntmps63
  go_wp2_with fail
  rw [hBB] at hb0 hb1
  obtain ⟨wa, hwa⟩ : ∃ wa, (w.alloc (.cells #[.slice a C.length cap, vP, vR] 26)).alloc (.cells #[.int .i64 0, .int .i64 0, .int .i64 0, .int .i64 0, .int .i64 0] 111) = wa := ⟨_, rfl⟩
  rw [hwa] at hb0 hb1 hX0 ⊢
  clear hwa
  with_reducible refine (HSP.out _ hX0).mono ?_
  rintro e w1 ⟨rfl, hX1⟩
  have hE1 := hX0.trans hX1
  have hb0 := hX1.block hb0
  have hb1 := hX1.block hb1
  clear hX1 hX0 HSP
  by_cases h0 : atE C P R id y = 0
  · obtain ⟨c, g, hf, hy, hs⟩ := spellR_at h0
    have HAG := Lib.hid (agE_at h0 hf)
    obtain ⟨⟨slo, shi⟩, hsz⟩ : ∃ s, spellZ R c y = s := ⟨_, rfl⟩
    have HSZ := Lib.hid hsz
    rw [hs, hsz]
    clear hs hsz
    have hb0' := ((Ext.refl w1).alloc (.cells #[.int .i64 slo, .int .i64 shi] 30)).block hb0
    have hb1' := ((Ext.refl w1).alloc (.cells #[.int .i64 slo, .int .i64 shi] 30)).block hb1
    have hb2' := heap_alloc_new w1 (.cells #[.int .i64 slo, .int .i64 shi] 30)
    have hE2 := hE1.alloc (.cells #[.int .i64 slo, .int .i64 shi] 30)
    obtain ⟨k0, k1, k2⟩ := box3' hb0
    have hzB := lt_of_cell k0
    obtain ⟨D, hD⟩ : ∃ D, w1.heap.size = D := ⟨_, rfl⟩
    go_upto_region 4 with fail
    obtain ⟨k, hk, hi, hf2⟩ : ∃ k, ∃ h : k < C.length, idx (fun c => c.a == id) C = (k : Nat) ∧ c = C[k] := by
      rcases idx_find (fun c => c.a == id) C with ⟨hi, hf2⟩ | ⟨k, hk, hi, hf2⟩
      · rw [show C.find? (fun c => c.a == id) = some c from hf] at hf2; cases hf2
      · rw [show C.find? (fun c => c.a == id) = some c from hf] at hf2
        exact ⟨k, hk, hi, Option.some.inj hf2⟩
    rw [hi] at HCA
    have h5 : ∃ b off, a = some ⟨b, off, none⟩ ∧ At5 w b (off + k * 5) c := by
      rcases HC.out with h | ⟨b, off, ha, h⟩
      · simp [h] at hk
      · exact ⟨b, off, ha, by rw [hf2]; exact h k hk⟩
    obtain ⟨b, off, rfl, h5⟩ := h5
    have HX : Hid (∀ w' : World, Ext w w' → w'.cell? ⟨b, off + k * 5, none⟩ = some (.int .i64 c.a) ∧ w'.cell? ⟨b, off + k * 5 + 1, none⟩ = some (.int .i64 c.b) ∧ w'.cell? ⟨b, off + k * 5 + 2, none⟩ = some (.int .i64 c.c) ∧ w'.cell? ⟨b, off + k * 5 + 3, none⟩ = some (.int .i64 c.d) ∧ w'.cell? ⟨b, off + k * 5 + 4, none⟩ = some (.int .i64 c.e)) := fun w' q => h5.ext q
    have hbB := lt_of_cell h5.1
    simp only at hbB
    clear h5 hf2 hi HC k0 k1 k2 hE1 hb0 hb1
    obtain ⟨w2, hw2⟩ : ∃ w2, w1.alloc (.cells #[.int .i64 slo, .int .i64 shi] 30) = w2 := ⟨_, rfl⟩
    rw [hw2] at hb0' hb1' hb2' hE2 ⊢
    rw [hD] at hb2'
    clear hw2
    have hk0 : (0 : Int) ≤ (k : Int) := by omega
    have hk1 : (k : Int) < (C.length : Int) := by omega
    have hmax : (if (0 : Int) < (k : Int) then (k : Int) else 0) = (k : Int) := by split <;> omega
    go_cut [9] (fun v wx => ∃ N, v = .pointer (some ⟨N, 0, none⟩) ∧ Ext w2 wx ∧ wx.heap[N]? = some (.cells #[.int .i64 c.a, .int .i64 c.b, .int .i64 c.c, .int .i64 c.d, .int .i64 c.e] 53))
    case first => as_aux_lemma =>
      obtain ⟨k0, k1, k2⟩ := box3' hb0'
      have zB2 := lt_of_cell k0
      go_region_with (go_at_call 50; first
        | (with_reducible refine (HCA.out _ hE2.drew).mono ?_; rintro e w3 ⟨rfl, hX3⟩; have hX3' := Ext.trans (Ext.drew (Ext.refl w2)) hX3; obtain ⟨q0, q1, q2, q3, q4⟩ := HX.out w3 (hE2.trans hX3'); have zb := lt_of_cell q0; obtain ⟨m0, m1, m2⟩ := box3' (hX3'.block hb0'); have zm := lt_of_cell m0)
        | (with_reducible refine (HCA.out _ (hE2.alloc _).drew).mono ?_; rintro e w3 ⟨rfl, hX3⟩; have hX3' := Ext.trans (((Ext.refl w2).alloc _).drew) hX3; obtain ⟨q0, q1, q2, q3, q4⟩ := HX.out w3 (hE2.trans hX3'); have zb := lt_of_cell q0; obtain ⟨m0, m1, m2⟩ := box3' (hX3'.block hb0'); have zm := lt_of_cell m0; have hN := hX3.block (new_drew w2 _); obtain ⟨t0, t1, t2, t3, t4⟩ := box5 hN; obtain ⟨y0, y1, y2, y3, y4⟩ := frozen5 hN))
      all_goals
        go_wp2_with fail
        go_meet
        case rel => first | with_reducible exact relB hX3' (Nat.le_refl _) hN | with_reducible exact relA hX3' _
    case rest =>
      obtain ⟨Z, rfl, hX3, hbZ⟩ := hcut
      have hE3 := hE2.trans hX3
      have hb0 := hX3.block hb0'
      have hb1 := hX3.block hb1'
      have hb2 := hX3.block hb2'
      clear hX3 hb0' hb1' hb2' HX hmax hk0 hk1 HCA
      obtain ⟨k0, k1, k2⟩ := box3' hb0
      obtain ⟨c0, c1, c2, c3, c4⟩ := box5 hbZ
      obtain ⟨s0, s1⟩ := box2 hb2
      go_wp2_with fail
      have hrng := spellZ_rng (R := R) hy.1 hy.2
      rw [HSZ.out] at hrng
      simp only at hrng
      obtain ⟨hok, hlen⟩ := innZ_ok g hf hrng.1 (show slo ≤ shi by omega) (P := P) (R := R)
      obtain ⟨_, hcy, _, hcw⟩ := okC_parts (good_okT g hf).2.1
      have HCL := Lib.hid (fun w' v (o : Sl 4 encF w' v (innZ P R c (slo, shi))) => rclashes w' (innZ P R c (slo, shi)) v c.e w' (Ext.refl _) o hok hcw (by omega))
      have HLM := Lib.hid (fun w' v (o : Sl 4 encF w' v (innZ P R c (slo, shi))) => rlimits w' (innZ P R c (slo, shi)) v c.e y w' (Ext.refl _) o hok hcw (by omega) (by omega))
      have HINX := Lib.hid (HIN.out g c slo shi)
      have HKC := Lib.hid (fun h => knownC_ok (C := C) (P := P) (R := R) (id := id) (y := y) (c := c) h hf)
      have HKE := Lib.hid (fun h => knownC_err (C := C) (P := P) (R := R) (id := id) (y := y) h)
      have HSE := HSZ.out
      rw [HSE] at HAG HKC
      clear hok hlen hcy hcw hrng HSE HSZ HIN hf hy g h0
      generalize hIL : innZ P R c (slo, shi) = L at HCL HLM HINX HAG HKC
      clear hIL
      generalize hcb : clashesB c.e L = cb at HCL HAG
      clear hcb
      with_reducible refine (HINX.out _ hE3).mono ?_
      rintro e w4 ⟨⟨u, rfl, hO⟩, hX4⟩
      have hE4 := hE3.trans hX4
      have hb0 := hX4.block hb0
      have hb1 := hX4.block hb1
      have hbZ := hX4.block hbZ
      obtain ⟨c0, c1, c2, c3, c4⟩ := box5 hbZ
      have hS4 := hO.sl encF_len
      clear hO hX4 HINX
      go_wp2_with fail
      with_reducible refine (HCL.out _ _ hS4).mono ?_
      rintro e w5 ⟨rfl, hX5⟩
      have hE5 := hE4.trans hX5
      have hb1 := hX5.block hb1
      have hbZ := hX5.block hbZ
      have hS5 := hS4.ext hX5
      obtain ⟨c0, c1, c2, c3, c4⟩ := box5 hbZ
      obtain ⟨r0, r1, r2, r3, r4⟩ := box5 hb1
      obtain ⟨f0, f1, f2, f3, f4⟩ := frozen5 hb1
      clear hX5 HCL hS4
      cases cb
      · have HR : Hid (knownC C P R id y = [.int .i64 (lmL c.e y L).1, .int .i64 (lmH c.e y L).1, .int .i64 (lmL c.e y L).2, .int .i64 (lmH c.e y L).2, .int .i64 0]) := HKC.out HAG.out
        clear HKC HKE HAG
        generalize lmL c.e y L = p at HR HLM
        generalize lmH c.e y L = q at HR HLM
        go_wp2_with fail
        with_reducible refine (HLM.out _ _ hS5).mono ?_
        rintro e w6 ⟨rfl, hX6⟩
        have hE6 := hE5.trans hX6
        have hb1 := hX6.block hb1
        obtain ⟨r0, r1, r2, r3, r4⟩ := box5 hb1
        obtain ⟨f0, f1, f2, f3, f4⟩ := frozen5 hb1
        go_wp2_with fail
        refine bodyPost_ret (v := .agg #[.int .i64 p.1, .int .i64 q.1, .int .i64 p.2, .int .i64 q.2, .int .i64 0]) (by simp [results, Try.results63, r0, r1, r2, r3, r4, go_sem]) rfl ⟨by rw [HR.out], ?_⟩
        exact hX.trans (((((hE6.setCell (by show w.heap.size ≤ B + 1; omega) _).setCell (by show w.heap.size ≤ B + 1; omega) _).setCell (by show w.heap.size ≤ B + 1; omega) _).setCell (by show w.heap.size ≤ B + 1; omega) _).setCell (by show w.heap.size ≤ B + 1; omega) _)
      · have HR : Hid (knownC C P R id y = [.int .i64 0, .int .i64 0, .int .i64 0, .int .i64 0, .int .i64 9]) := by
          have e : agE C P R id y = 9 := HAG.out
          have := HKE.out (by rw [e]; decide)
          show _ = _
          rw [this, e]
        clear HKC HKE HAG
        go_wp2_with fail
        refine bodyPost_ret (v := .agg #[.int .i64 0, .int .i64 0, .int .i64 0, .int .i64 0, .int .i64 9]) (by simp [results, Try.results63, r0, r1, r2, r3, r4, go_sem]) rfl ⟨by rw [HR.out], ?_⟩
        exact hX.trans (((((hE5.setCell (by show w.heap.size ≤ B + 1; omega) _).setCell (by show w.heap.size ≤ B + 1; omega) _).setCell (by show w.heap.size ≤ B + 1; omega) _).setCell (by show w.heap.size ≤ B + 1; omega) _).setCell (by show w.heap.size ≤ B + 1; omega) _)
  · have HAG : Hid (agE C P R id y = atE C P R id y) := by show _ = _; unfold agE; rw [if_neg h0]
    rw [spellR_err h0]
    have HR : Hid (knownC C P R id y = [.int .i64 0, .int .i64 0, .int .i64 0, .int .i64 0, .int .i64 (atE C P R id y)]) := by
      show _ = _
      rw [knownC_err (by rw [HAG.out]; exact h0), HAG.out]
    have hnb : (atE C P R id y == 0) = false := by simpa using h0
    generalize atE C P R id y = n at HR hnb ⊢
    have hnb2 : (n != 0) = true := by simp [bne, hnb]
    clear h0 HAG HIN HCA
    have hb1' := ((Ext.refl w1).alloc (.cells #[.int .i64 0, .int .i64 0] 30)).block hb1
    have hE2 := hE1.alloc (.cells #[.int .i64 0, .int .i64 0] 30)
    obtain ⟨r0, r1, r2, r3, r4⟩ := box5 hb1
    obtain ⟨f0, f1, f2, f3, f4⟩ := frozen5 hb1
    have z1 := lt_of_cell r0
    go_wp2_with fail
    refine bodyPost_ret (v := .agg #[.int .i64 0, .int .i64 0, .int .i64 0, .int .i64 0, .int .i64 n]) (by simp [results, Try.results63, r0, r1, r2, r3, r4, z1, go_sem]) rfl ⟨by rw [HR.out], ?_⟩
    exact hX.trans ((((((hE1.setCell (by show w.heap.size ≤ B + 1; omega) _).setCell (by show w.heap.size ≤ B + 1; omega) _).setCell (by show w.heap.size ≤ B + 1; omega) _).setCell (by show w.heap.size ≤ B + 1; omega) _).setCell (by show w.heap.size ≤ B + 1; omega) _).alloc _)
end Go.Proofs.Ytaggjclaehigjaa
