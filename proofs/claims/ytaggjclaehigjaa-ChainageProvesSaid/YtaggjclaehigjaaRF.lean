/- Contracts of the specification's functions: starts. Contracts of the specification's functions: next. Contracts of the specification's functions: Fits. -/
import Derived.Test.YtaggjclaehigjaaR9
import Derived.Test.YtaggjclaehigjaaPF
import Derived.Test.YtaggjclaehigjaaR11
import Derived.Deep.DeepCutAuto
import Derived.Deep.RegionHeld3
namespace Go.Proofs.Ytaggjclaehigjaa
open Go.RowKit
theorem starts_yes {R : List Five} {c x : Five} {k : Nat} (hk : k < R.length) (hx : x = R[k]) (h : (x.b == c.a) = true) : startsZ (R.take (k + 1)) c = startsZ (R.take k) c ++ [x.c] := by
  unfold startsZ
  rw [List.take_succ_eq_append_getElem hk, List.filter_append, List.map_append, ← hx, List.cons_append]
  simp [h]
theorem starts_no {R : List Five} {c x : Five} {k : Nat} (hk : k < R.length) (hx : x = R[k]) (h : (x.b == c.a) = false) : startsZ (R.take (k + 1)) c = startsZ (R.take k) c := by
  unfold startsZ
  rw [List.take_succ_eq_append_getElem hk, List.filter_append, List.map_append, ← hx]
  simp [h]
theorem starts_len (R : List Five) (c : Five) (k : Nat) : (startsZ (R.take k) c).length ≤ k + 1 := by
  unfold startsZ
  have h1 := List.length_filter_le (fun r : Five => r.b == c.a) (R.take k)
  have h2 : (R.take k).length ≤ k := by simp; omega
  simp only [List.length_cons, List.length_map]
  omega
set_option maxRecDepth 100000 in
set_option maxHeartbeats 4000000 in
theorem rstarts (W : World) (C P R : List Five) (c : Five) (v : Value) (w : World) (hX : Ext W w) (hv : Wk w v C P R) (hl : R.length ≤ 1000) :
    Calls Try.prog 69 #[v, v5 c] w fun e w' => (∃ u, e = .returned u ∧ Ints w' u (startsZ R c)) ∧ Ext W w' := by
  obtain ⟨vC, vP, vR, rfl, hC, hP, hR, hn⟩ := hv
  obtain ⟨aR, capR, rfl, hlR, hmR, hcR⟩ := hR.parts
  have HcR := Lib.hid hcR
  clear hcR hC hP hR hmR
  go_enter Try.func69, Try.ntmps69
  go_wp2_with fail
  have hX0 : Ext w ((w.alloc (.cells #[vC, vP, .slice aR R.length capR] 26)).alloc (.cells #[.int .i64 c.a, .int .i64 c.b, .int .i64 c.c, .int .i64 c.d, .int .i64 c.e] 53)) := ((Ext.refl w).alloc _).alloc _
  have hb0 := ((Ext.refl _).alloc (.cells #[.int .i64 c.a, .int .i64 c.b, .int .i64 c.c, .int .i64 c.d, .int .i64 c.e] 53)).block (heap_alloc_new w (.cells #[vC, vP, .slice aR R.length capR] 26))
  have hb1 := heap_alloc_new (w.alloc (.cells #[vC, vP, .slice aR R.length capR] 26)) (.cells #[.int .i64 c.a, .int .i64 c.b, .int .i64 c.c, .int .i64 c.d, .int .i64 c.e] 53)
  rw [World.size_alloc] at hb1
  have hsz : ((w.alloc (.cells #[vC, vP, .slice aR R.length capR] 26)).alloc (.cells #[.int .i64 c.a, .int .i64 c.b, .int .i64 c.c, .int .i64 c.d, .int .i64 c.e] 53)).heap.size = w.heap.size + 1 + 1 := by simp
  obtain ⟨wa, hwa⟩ : ∃ wa, (w.alloc (.cells #[vC, vP, .slice aR R.length capR] 26)).alloc (.cells #[.int .i64 c.a, .int .i64 c.b, .int .i64 c.c, .int .i64 c.d, .int .i64 c.e] 53) = wa := ⟨_, rfl⟩
  rw [hwa] at hX0 hb0 hb1 hsz ⊢
  clear hwa
  obtain ⟨B, hBB⟩ : ∃ B, w.heap.size = B := ⟨_, rfl⟩
  rw [hBB] at hb0 hb1 hsz ⊢
  have hO0 : Own 3 1 enc1 wa.heap.size (wa.alloc (.cells #[.int .i64 c.b] 3)) (.slice (some ⟨B + 1 + 1, 0, none⟩) 1 1) (startsZ (R.take 0) c) := Own.new enc1_len rfl hsz.symm rfl (Nat.le_refl _) (by simp [startsZ])
  go_loopw [5, 6] (fun u i wr => ∃ k : Nat, k ≤ R.length ∧ i = .int .i64 k ∧ Own 3 1 enc1 wa.heap.size wr u (startsZ (R.take k) c) ∧ Ext wa wr) (fun _ i _ => R.length - (intOf i).toNat)
  case atStart => exact ⟨0, Nat.zero_le _, rfl, hO0, (Ext.refl _).alloc _⟩
  case round =>
    clear hO0
    obtain ⟨k, hk, rfl, hO, hE⟩ := hrel
    obtain ⟨-, -, d2⟩ := box3' (hE.block hb0)
    have zB := lt_of_cell d2
    by_cases hlt : k < R.length
    · obtain ⟨b, off, x, hx, rfl, c0, c1, c2, c3, c4⟩ := five_at HcR.out (hX0.trans hE) hlt
      have HX := Lib.hid hx
      have e0 := cell_at (hE.block hb1) 0
      simp only [List.getElem?_toArray, List.getElem?_cons_zero] at e0
      have zB1 := lt_of_cell e0
      have hlen := starts_len R c k
      have hEle := hE.le
      clear hx c0 c3 c4
      cases he : (x.b == c.a)
      · go_wp2_with fail
        go_quiet (fail)
        go_wp2_with fail
        go_roundw
        case rel => exact ⟨k + 1, by omega, by go_num, by rw [starts_no hlt HX.out he]; exact hO.ext ((Ext.refl _).drewN _), hE.drewN _⟩
        case measure => simp [intOf]; omega
      · go_wp2_with fail
        go_quiet (fail)
        go_wp2_with (at_builtin; with_reducible refine app_many 44 3 1 8 (.int .i64 0) enc1 enc1_len enc1_one Try.underlying44 infoI rfl (by decide) (by decide) rfl (.tmp 26) (.tmp 33) rfl wa.heap.size u5 (startsZ (R.take k) c) rfl (hO.ext (((Ext.refl _).drewN _).alloc _)) _ [x.c] rfl (Sl.mk1 (by simp) rfl) (by simp; omega) (by simp; omega) ?_; intro v2 w2 hO2 hg2 hE2 hb2'; have hE3 := hE2 wa (Nat.le_refl _) ((hE.drewN _).alloc _))
        go_roundw
        case rel => exact ⟨k + 1, by omega, by go_num, by rw [starts_yes hlt HX.out he]; exact hO2, hE3⟩
        case measure => simp [intOf]; omega
    · obtain rfl : k = R.length := by omega
      rw [List.take_length] at hO
      go_wp2_with fail
      refine bodyPost_ret (v := u5) (by simp [results, Try.results69, go_sem]) rfl ⟨⟨u5, rfl, hO.sl enc1_len⟩, hX.trans (hX0.trans hE)⟩
end Go.Proofs.Ytaggjclaehigjaa
namespace Go.Proofs.Ytaggjclaehigjaa
open Go.RowKit
theorem relA1 {w2 w3 : World} {T : Nat} (h : Ext w2 w3) (cs : Array Value) : ∃ N, Value.pointer (some ⟨w3.heap.size, 0, none⟩) = .pointer (some ⟨N, 0, none⟩) ∧ Ext w2 (w3.alloc (.cells cs T)) ∧ (w3.alloc (.cells cs T)).heap[N]? = some (.cells cs T) :=
  ⟨_, rfl, h.alloc _, heap_alloc_new w3 _⟩
theorem relB1 {w2 w3 : World} {T n : Nat} {a b a' b' : Value} (h : Ext w2 w3) (hn : w2.heap.size ≤ n) (hN : w3.heap[n]? = some (.cells #[a', b'] T)) :
    ∃ N, Value.pointer (some ⟨n, 0, none⟩) = .pointer (some ⟨N, 0, none⟩) ∧ Ext w2 ((w3.setCell ⟨n, 0, none⟩ a).setCell ⟨n, 1, none⟩ b) ∧ ((w3.setCell ⟨n, 0, none⟩ a).setCell ⟨n, 1, none⟩ b).heap[N]? = some (.cells #[a, b] T) :=
  ⟨_, rfl, (h.setCell (p := ⟨n, 0, none⟩) hn _).setCell (p := ⟨n, 1, none⟩) hn _, set_eq (set_eq hN)⟩
theorem new_drew1 (w : World) (o : Obj) : (w.alloc o).drew.heap[w.heap.size]? = some o := heap_alloc_new w o
set_option maxRecDepth 100000 in
set_option maxHeartbeats 8000000 in
theorem rnext (W : World) (C P R : List Five) (c : Five) (id Y x0 : Int) (L : List Int) (i : Nat) (v vL : Value) (w : World) (hX : Ext W w) (hv : Wk w v C P R) (hL : Ints w vL L) (g : Good C P R) (hf : findC C id = some c) (hi : i < L.length) (hy1 : c.b ≤ Y) (hy2 : Y + i ≤ 4000) (hprev : i ≠ 0 → 9000 ≤ L.getD (i - 1) 0 ∧ L.getD (i - 1) 0 ≤ 12000) :
    Calls Try.prog 72 #[v, v5 c, .agg #[.int .i64 x0, .int .i64 Y, vL], .int .i64 i] w fun e w' => e = .returned (.bool (fitB P R c Y L i)) ∧ Ext W w' := by
  have HSP := Lib.hid (fun w' (q : Ext w w') => rspell w' C P R c (Y + i) v w' (Ext.refl _) (hv.ext q) (good_rep g))
  obtain ⟨_, hcy, _, hcw⟩ := okC_parts (good_okT g hf).2.1
  have hrng := spellZ_rng (R := R) (show c.b ≤ Y + i by omega) hy2
  have hy3 : 0 ≤ Y + (i : Int) := by omega
  have HB : Hid (fitB P R c Y L i = (inB (L.getD i 0) (limLo c.e (Y + i) (innZ P R c (spellZ R c (Y + i)))) (limHi c.e (Y + i) (innZ P R c (spellZ R c (Y + i)))) &&
    (decide (i = 0) || decide ((spellZ R c (Y + i)).1 = Y + i) || inB (L.getD i 0) (L.getD (i - 1) 0) (L.getD (i - 1) 0 + c.e)))) := rfl
  have hY0 : 0 ≤ Y ∧ Y ≤ 4000 := by omega
  have hi0 : 0 ≤ (i : Int) ∧ (i : Int) ≤ 4000 := by omega
  obtain ⟨y, hyy⟩ : ∃ y, Y + (i : Int) = y := ⟨_, rfl⟩
  rw [hyy] at HSP hrng HB hy2 hy3
  obtain ⟨⟨s1, s2⟩, hs⟩ : ∃ s, spellZ R c y = s := ⟨_, rfl⟩
  rw [hs] at HSP hrng HB
  simp only at hrng
  have HIN := Lib.hid (fun w' (q : Ext w w') => rIn w' C P R c s1 s2 v w' (Ext.refl _) (hv.ext q) (by have := g.few; omega))
  obtain ⟨hok, hlen⟩ := innZ_ok g hf hrng.1 (show s1 ≤ s2 by omega) (P := P) (R := R)
  generalize innZ P R c (s1, s2) = I at HIN hok hlen HB
  have HLM : Hid (∀ w' v, Sl 4 encF w' v I → Calls Try.prog 95 #[v, .int .i64 c.e, .int .i64 y] w' fun e w'' => e = .returned (.agg #[.int .i64 (lmL c.e y I).1, .int .i64 (lmH c.e y I).1, .int .i64 (lmL c.e y I).2, .int .i64 (lmH c.e y I).2]) ∧ Ext w' w'') := fun w' v o => rlimits w' I v c.e y w' (Ext.refl _) o hok hcw (by omega) (by omega)
  have ha : (lmL c.e y I).1 = limLo c.e y I := (refLo_rest _ _ _).1
  have hb : (lmH c.e y I).1 = limHi c.e y I := (refHi_rest _ _ _).1
  have hab : 9000 ≤ limLo c.e y I ∧ limHi c.e y I ≤ 12000 := ⟨le_limLo _ _ _ _, limHi_le _ _ _ _⟩
  rw [← ha, ← hb] at HB hab
  clear ha hb
  generalize lmL c.e y I = p at HLM HB hab
  generalize lmH c.e y I = q at HLM HB hab
  obtain ⟨aL, capL, rfl, hlL, hmL, hcL⟩ := hL.parts
  have HcL := Lib.hid hcL
  obtain ⟨bL, oL, n, hn, rfl, n0⟩ := int_at hcL (Ext.refl w) hi
  have hn2 : L.getD i 0 = n := by rw [List.getD_eq_getElem?_getD, List.getElem?_eq_getElem hi, hn]; rfl
  rw [hn2] at HB
  obtain ⟨vC, vP, vR, rfl, -⟩ := hv
  have hb0 := (((Ext.refl _).alloc (.cells #[.int .i64 c.a, .int .i64 c.b, .int .i64 c.c, .int .i64 c.d, .int .i64 c.e] 53)).alloc (.cells #[.int .i64 x0, .int .i64 Y, .slice (some ⟨bL, oL, none⟩) L.length capL] 46)).block (heap_alloc_new w (.cells #[vC, vP, vR] 26))
  have hb1 := ((Ext.refl _).alloc (.cells #[.int .i64 x0, .int .i64 Y, .slice (some ⟨bL, oL, none⟩) L.length capL] 46)).block (heap_alloc_new (w.alloc (.cells #[vC, vP, vR] 26)) (.cells #[.int .i64 c.a, .int .i64 c.b, .int .i64 c.c, .int .i64 c.d, .int .i64 c.e] 53))
  have hb2 := heap_alloc_new ((w.alloc (.cells #[vC, vP, vR] 26)).alloc (.cells #[.int .i64 c.a, .int .i64 c.b, .int .i64 c.c, .int .i64 c.d, .int .i64 c.e] 53)) (.cells #[.int .i64 x0, .int .i64 Y, .slice (some ⟨bL, oL, none⟩) L.length capL] 46)
  have hX0 : Ext w (((w.alloc (.cells #[vC, vP, vR] 26)).alloc (.cells #[.int .i64 c.a, .int .i64 c.b, .int .i64 c.c, .int .i64 c.d, .int .i64 c.e] 53)).alloc (.cells #[.int .i64 x0, .int .i64 Y, .slice (some ⟨bL, oL, none⟩) L.length capL] 46)) := (((Ext.refl w).alloc _).alloc _).alloc _
  simp only [World.size_alloc] at hb1 hb2
  obtain ⟨B, hBB⟩ : ∃ B, w.heap.size = B := ⟨_, rfl⟩
  clear hcL hs hok hlen hrng hn hlL hmL
  go_enter Try.func72, Try.ntmps72
  go_wp2_with fail
  rw [hBB] at hb0 hb1 hb2
  obtain ⟨wa, hwa⟩ : ∃ wa, ((w.alloc (.cells #[vC, vP, vR] 26)).alloc (.cells #[.int .i64 c.a, .int .i64 c.b, .int .i64 c.c, .int .i64 c.d, .int .i64 c.e] 53)).alloc (.cells #[.int .i64 x0, .int .i64 Y, .slice (some ⟨bL, oL, none⟩) L.length capL] 46) = wa := ⟨_, rfl⟩
  rw [hwa] at hX0 hb0 hb1 hb2 ⊢
  clear hwa
  with_reducible refine (HSP.out _ hX0).mono ?_
  rintro e w1 ⟨rfl, hX1⟩
  have hE1 := hX0.trans hX1
  have hb0 := ((Ext.refl w1).alloc (.cells #[.int .i64 s1, .int .i64 s2] 30)).block (hX1.block hb0)
  have hb1 := ((Ext.refl w1).alloc (.cells #[.int .i64 s1, .int .i64 s2] 30)).block (hX1.block hb1)
  have hb2 := ((Ext.refl w1).alloc (.cells #[.int .i64 s1, .int .i64 s2] 30)).block (hX1.block hb2)
  have hb3 := heap_alloc_new w1 (.cells #[.int .i64 s1, .int .i64 s2] 30)
  have hE2 := hE1.alloc (.cells #[.int .i64 s1, .int .i64 s2] 30)
  clear hX1 hX0 HSP hE1
  obtain ⟨D, hD⟩ : ∃ D, w1.heap.size = D := ⟨_, rfl⟩
  go_upto_region 3 with fail
  obtain ⟨w2, hw2⟩ : ∃ w2, w1.alloc (.cells #[.int .i64 s1, .int .i64 s2] 30) = w2 := ⟨_, rfl⟩
  rw [hw2] at hb0 hb1 hb2 hb3 hE2 ⊢
  rw [hD] at hb3
  clear hw2
  go_cut [11] (fun v wx => ∃ N, v = .pointer (some ⟨N, 0, none⟩) ∧ Ext w2 wx ∧ wx.heap[N]? = some (.cells #[.int .i64 p.1, .int .i64 q.1] 30))
  case first => as_aux_lemma =>
    obtain ⟨k0, k1, k2⟩ := box3' hb0
    obtain ⟨c0, c1, c2, c3, c4⟩ := box5 hb1
    obtain ⟨e0', e1'⟩ := box2 hb3
    have zB := lt_of_cell k0
    have zC := lt_of_cell c0
    have zS := lt_of_cell e0'
    have hfl : ∀ w', Sem.run Try.prog (Instr.field 109 (.agg #[.int .i64 p.1, .int .i64 q.1, .int .i64 p.2, .int .i64 q.2]) 0) w' = .ok (.agg #[.int .i64 p.1, .int .i64 q.1]) w' := fun _ => rfl
    have hK2 : ∀ w', Ext w2 w' → (fun w' => Ext w2 w' ∧ (B < w'.heap.size ∧ B + 1 < w'.heap.size ∧ D < w'.heap.size) ∧ (w'.cell? ⟨B, 0, none⟩ = some vC ∧ w'.cell? ⟨B, 1, none⟩ = some vP ∧ w'.cell? ⟨B, 2, none⟩ = some vR) ∧ (w'.cell? ⟨B + 1, 0, none⟩ = some (.int .i64 c.a) ∧ w'.cell? ⟨B + 1, 1, none⟩ = some (.int .i64 c.b) ∧ w'.cell? ⟨B + 1, 2, none⟩ = some (.int .i64 c.c) ∧ w'.cell? ⟨B + 1, 3, none⟩ = some (.int .i64 c.d) ∧ w'.cell? ⟨B + 1, 4, none⟩ = some (.int .i64 c.e)) ∧ (w'.cell? ⟨D, 0, none⟩ = some (.int .i64 s1) ∧ w'.cell? ⟨D, 1, none⟩ = some (.int .i64 s2))) w' := fun w' x => ⟨x, ⟨lt_of_cell (x.cell k0), lt_of_cell (x.cell c0), lt_of_cell (x.cell e0')⟩, ⟨x.cell k0, x.cell k1, x.cell k2⟩, ⟨x.cell c0, x.cell c1, x.cell c2, x.cell c3, x.cell c4⟩, ⟨x.cell e0', x.cell e1'⟩⟩
    have HK2 := Lib.hid hK2
    have hX2 := Ext.refl w2
    clear hK2
    go_region_held3 (fun w' => Ext w2 w' ∧ (B < w'.heap.size ∧ B + 1 < w'.heap.size ∧ D < w'.heap.size) ∧ (w'.cell? ⟨B, 0, none⟩ = some vC ∧ w'.cell? ⟨B, 1, none⟩ = some vP ∧ w'.cell? ⟨B, 2, none⟩ = some vR) ∧ (w'.cell? ⟨B + 1, 0, none⟩ = some (.int .i64 c.a) ∧ w'.cell? ⟨B + 1, 1, none⟩ = some (.int .i64 c.b) ∧ w'.cell? ⟨B + 1, 2, none⟩ = some (.int .i64 c.c) ∧ w'.cell? ⟨B + 1, 3, none⟩ = some (.int .i64 c.d) ∧ w'.cell? ⟨B + 1, 4, none⟩ = some (.int .i64 c.e)) ∧ (w'.cell? ⟨D, 0, none⟩ = some (.int .i64 s1) ∧ w'.cell? ⟨D, 1, none⟩ = some (.int .i64 s2))) (first | exact HK2.out _ (by assumption) | (refine HK2.out _ ?_; repeat (first | assumption | refine Ext.drew ?_ | refine Ext.alloc ?_ _ | refine Ext.setCell ?_ ?_ _ | exact Ext.le (by assumption) | exact Nat.le_trans (Ext.le (by assumption)) (Nat.le_succ _))))
      ((first
        | (go_at_call 71; first
          | (with_reducible refine (HIN.out _ (Ext.drew hE2)).mono ?_; rintro e w3 ⟨⟨u, rfl, hO⟩, hY⟩; have hS3 := hO.sl encF_len; have hX3 : Ext w2 w3 := Ext.trans (Ext.drew (Ext.refl w2)) hY)
          | (with_reducible refine (HIN.out _ ((hE2.alloc _).drew)).mono ?_; rintro e w3 ⟨⟨u, rfl, hO⟩, hY⟩; have hS3 := hO.sl encF_len; have hN := hY.block (new_drew1 w2 _); have hX3 : Ext w2 w3 := Ext.trans (((Ext.refl w2).alloc _).drew) hY))
        | (go_at_call 95; first
          | (with_reducible refine (HLM.out _ _ hS3).mono ?_; rintro e w4 ⟨rfl, hY4⟩; have hX4 : Ext w2 w4 := Ext.trans hX3 hY4; try (have hN4 := hY4.block hN; have hNs := (Array.getElem?_eq_some_iff.1 hN4).1; obtain ⟨t0, t1⟩ := box2 hN4; have y0 := frozen_cells ⟨_, hN4⟩ 0; have y1 := frozen_cells ⟨_, hN4⟩ 1))
          | (with_reducible refine (HLM.out _ _ (hS3.ext ((Ext.refl _).alloc _))).mono ?_; rintro e w4 ⟨rfl, hY4⟩; have hX4 : Ext w2 w4 := Ext.trans (hX3.alloc _) hY4; have hN4 := hY4.block (heap_alloc_new w3 _); have hNs := (Array.getElem?_eq_some_iff.1 hN4).1; obtain ⟨t0, t1⟩ := box2 hN4; have y0 := frozen_cells ⟨_, hN4⟩ 0; have y1 := frozen_cells ⟨_, hN4⟩ 1))))
    all_goals
      go_wp2_with fail
      go_meet
      case rel => first | with_reducible exact relB1 hX4 (Nat.le_refl _) hN4 | with_reducible exact relB1 hX4 hX3.le hN4 | with_reducible exact relA1 hX4 _
  case rest =>
    obtain ⟨N, rfl, hX3, hbN⟩ := hcut
    have hE3 := hE2.trans hX3
    have hb1 := hX3.block hb1
    have hb2 := hX3.block hb2
    have hb3 := hX3.block hb3
    clear hX3 hb0 HIN HLM
    obtain ⟨w3, rfl⟩ : ∃ w', w' = wc := ⟨_, rfl⟩
    obtain ⟨c0, c1, c2, c3, c4⟩ := box5 hb1
    obtain ⟨x0', x1', x2'⟩ := box3' hb2
    obtain ⟨s0', s1'⟩ := box2 hb3
    obtain ⟨l0', l1'⟩ := box2 hbN
    have n0' := hE3.cell n0
    have c3r := cell_regrown c3
    have c4r := cell_regrown c4
    have x2r := cell_regrown x2'
    have l0r := cell_regrown l0'
    have l1r := cell_regrown l1'
    have n0r := cell_regrown n0'
    have ri := regrow (w := w3) (fun w' _ => rin' n p.1 q.1 w')
    have hk0 : (0 : Int) ≤ (i : Int) := by omega
    have hk1 : (i : Int) < (L.length : Int) := by omega
    clear c0 c1 c2 c3 c4 x0' x1' x2' l0' l1' n0'
    go_wp2_with fail
    cases e1 : inB n p.1 q.1
    · have HR : Hid (fitB P R c Y L i = false) := by show _ = _; rw [HB.out, e1]; rfl
      rw [e1] at ri
      clear HB
      refine wp_region_quiet_below (by kernel_rfl) (by kernel_rfl) ?_
      repeat (with_reducible refine wpQuiet_step (fun K hK => ?_); go_simp; first | (with_reducible refine hK _ ?_; clear hK K) | (rw [if_neg (by simp [undef])]; with_reducible refine hK _ ?_; clear hK K) | (apply Exists.intro; with_reducible refine ⟨fun _ => ?_, hK _ ?_⟩; (first | with_reducible exact ri _ _); clear hK K))
      refine wpQuiet_nil ?_
      intro _ hw'
      obtain ⟨⟨dq, osq⟩, hw''⟩ := hw'
      subst hw''
      have hXq : Ext w3 (Go.Sort.grow (redrawn w3 dq) osq) := below_regrown w3 dq osq
      go_wp2_with fail
      go_ret
      exact ⟨by rw [HR.out]; rfl, hX.trans (hE3.trans hXq)⟩
    · rw [e1] at ri
      have hn3 := inB_iff.1 e1
      rw [e1, Bool.true_and] at HB
      refine wp_region_quiet_below (by kernel_rfl) (by kernel_rfl) ?_
      repeat (with_reducible refine wpQuiet_step (fun K hK => ?_); go_simp; first | (with_reducible refine hK _ ?_; clear hK K) | (rw [if_neg (by simp [undef])]; with_reducible refine hK _ ?_; clear hK K) | (apply Exists.intro; with_reducible refine ⟨fun _ => ?_, hK _ ?_⟩; (first | with_reducible exact ri _ _); clear hK K))
      refine wpQuiet_nil ?_
      intro _ hw'
      obtain ⟨⟨dq, osq⟩, hw''⟩ := hw'
      subst hw''
      have hXq : Ext w3 (Go.Sort.grow (redrawn w3 dq) osq) := below_regrown w3 dq osq
      have hE4 := hE3.trans hXq
      have s0r := hXq.cell s0'
      have hb1 := hXq.block hb1
      have hb2 := hXq.block hb2
      clear c3r c4r x2r l0r l1r n0r ri hXq hE3 s0' s1' hb3 hbN
      change Exit.then _ _ Exit.normal _ (Go.Sort.grow (redrawn w3 dq) osq)
      generalize Go.Sort.grow (redrawn w3 dq) osq = w4 at hE4 s0r hb1 hb2 ⊢
      by_cases i0 : i = 0
      · have HR : Hid (fitB P R c Y L i = true) := by show _ = _; rw [HB.out, i0]; rfl
        have d1 : ((i : Int) == 0) = true := by simp [i0]
        clear HB i0 hk0 hk1 hi hprev
        go_wp2_with fail
        go_ret
        exact ⟨by rw [HR.out]; rfl, hX.trans hE4⟩
      · have d1 : ((i : Int) == 0) = false := by simp [i0]
        rw [show decide (i = 0) = false by simp [i0], Bool.false_or] at HB
        by_cases s0 : s1 = y
        · have HR : Hid (fitB P R c Y L i = true) := by show _ = _; rw [HB.out, s0]; simp
          have d2 : (s1 == y) = true := by simp [s0]
          clear HB s0
          go_wp2_with fail
          go_ret
          exact ⟨by rw [HR.out]; rfl, hX.trans hE4⟩
        · have d2 : (s1 == y) = false := by simpa using s0
          rw [show decide (s1 = y) = false by simp [s0], Bool.false_or] at HB
          go_upto_region 8 with fail
          obtain ⟨j, hj⟩ : ∃ j, i = j + 1 := ⟨i - 1, by omega⟩
          have hjl : j < L.length := by omega
          obtain ⟨b', o', m, hm, e0, m0⟩ := int_at HcL.out hE4 hjl
          cases e0
          have hm2 : L.getD (i - 1) 0 = m := by rw [hj, List.getD_eq_getElem?_getD, show j + 1 - 1 = j by omega, List.getElem?_eq_getElem hjl, hm]; rfl
          have hpr := hprev i0
          rw [hm2] at hpr HB
          have HR : Hid (fitB P R c Y L i = inB (n - m) 0 c.e) := by
            show _ = _
            rw [HB.out, Bool.eq_iff_iff, inB_iff, inB_iff]
            omega
          have e5 : IntKind.i64.wrap ((i : Int) - 1) = (j : Int) := by rw [wrap_in (by omega)]; omega
          have e6 : IntKind.i64.wrap (n - m) = n - m := wrap_in (by omega)
          have hj0 : (0 : Int) ≤ (j : Int) := by omega
          have hj1 : (j : Int) < (L.length : Int) := by omega
          have ri := regrow (w := w4) (fun w' _ => rin' (n - m) 0 c.e w')
          have n0r := cell_regrown (hE4.cell n0)
          have m0r := cell_regrown m0
          obtain ⟨-, -, x2'⟩ := box3' hb2
          obtain ⟨-, -, -, -, c4⟩ := box5 hb1
          have x2r := cell_regrown x2'
          have c4r := cell_regrown c4
          generalize inB (n - m) 0 c.e = z at ri HR
          clear hm hm2 hj HB hpr hprev i0 s0 c4 x2' m0 d1 d2
          refine wp_region_quiet_below (by kernel_rfl) (by kernel_rfl) ?_
          repeat (with_reducible refine wpQuiet_step (fun K hK => ?_); go_simp; first | (with_reducible refine hK _ ?_; clear hK K) | (rw [if_neg (by simp [undef])]; with_reducible refine hK _ ?_; clear hK K) | (apply Exists.intro; with_reducible refine ⟨fun _ => ?_, hK _ ?_⟩; (first | with_reducible exact ri _ _); clear hK K))
          refine wpQuiet_nil ?_
          intro _ hw'
          obtain ⟨⟨dq, osq⟩, hw''⟩ := hw'
          subst hw''
          have hXq : Ext w4 (Go.Sort.grow (redrawn w4 dq) osq) := below_regrown w4 dq osq
          go_wp2_with fail
          go_ret
          exact ⟨by rw [HR.out]; rfl, hX.trans (hE4.trans hXq)⟩
end Go.Proofs.Ytaggjclaehigjaa
namespace Go.Proofs.Ytaggjclaehigjaa
open Go.RowKit
abbrev fitV (r : Int × Bool) : Value := .tuple #[.int .i64 r.1, .bool r.2]
theorem fits_bad {C P R : List Five} {id Y : Int} {L : List Int} (h : ∀ c, findC C id = some c → ¬ (chk C P R = 0 ∧ L ≠ [] ∧ c.b ≤ Y ∧ Y ≤ 4000 ∧ (L.length : Int) ≤ 4000 - Y + 1)) : fitsR C P R id Y L = (-1, false) := by
  unfold fitsR
  cases hf : findC C id with
  | none => rfl
  | some c => simp only; rw [if_neg (h c hf)]
theorem fits_good {C P R : List Five} {id Y : Int} {L : List Int} {c : Five} (hf : findC C id = some c) (h0 : chk C P R = 0) (h1 : L ≠ []) (h2 : c.b ≤ Y) (h3 : Y ≤ 4000) (h4 : (L.length : Int) ≤ 4000 - Y + 1) : fitsR C P R id Y L = if fitCl P R c then (Y, false) else fitZ P R c Y L := by
  unfold fitsR
  rw [hf]
  simp only
  rw [if_pos ⟨h0, h1, h2, h3, h4⟩]
theorem fitZ_hit {P R : List Five} {c : Five} {Y : Int} {L : List Int} {k : Nat} (hk : k < L.length) (h : fitB P R c Y L k = false) (hn : ∀ j, j < k → fitB P R c Y L j = true) : fitZ P R c Y L = (Y + k, false) := by
  unfold fitZ
  have e : (List.range L.length).find? (fun i => !fitB P R c Y L i) = some k := by
    rw [List.find?_range_eq_some]
    refine ⟨by simp [h], List.mem_range.2 hk, fun j hj => by simp [hn j hj]⟩
  rw [e]
theorem fitZ_all {P R : List Five} {c : Five} {Y : Int} {L : List Int} (hn : ∀ j, j < L.length → fitB P R c Y L j = true) : fitZ P R c Y L = (-1, true) := by
  unfold fitZ
  rw [show (List.range L.length).find? (fun i => !fitB P R c Y L i) = none from ?_]
  rw [List.find?_eq_none]
  intro i hi
  simp [hn i (List.mem_range.1 hi)]
theorem fitB_rng {P R : List Five} {c : Five} {Y : Int} {L : List Int} {j : Nat} (h : fitB P R c Y L j = true) : 9000 ≤ L.getD j 0 ∧ L.getD j 0 ≤ 12000 := by
  unfold fitB at h
  rw [Bool.and_eq_true, inB_iff] at h
  have h1 := le_limLo c.e (Y + j) (innZ P R c (spellZ R c (Y + j))) 9000
  have h2 := limHi_le c.e (Y + j) (innZ P R c (spellZ R c (Y + j))) 12000
  unfold limLo limHi at h
  omega
set_option maxRecDepth 100000 in
set_option maxHeartbeats 8000000 in
theorem rFits (W : World) (C P R : List Five) (v : Value) (id Y : Int) (L : List Int) (vL : Value) (w : World) (hX : Ext W w) (hv : Wk w v C P R) (hL : Ints w vL L) (hYr : -9223372036854775808 ≤ Y ∧ Y ≤ 9223372036854775807) :
    Calls Try.prog 27 #[v, .agg #[.int .i64 id, .int .i64 Y, vL]] w fun e w' => e = .returned (fitV (fitsR C P R id Y L)) ∧ Ext W w' := by
  have HCA := Lib.hid (fun w' (q : Ext w w') => rchainAt w' C P R v id w' (Ext.refl _) (hv.ext q))
  have HCK := Lib.hid (fun w' (q : Ext w w') => rCheck w' C P R v w' (Ext.refl _) (hv.ext q))
  have HST := Lib.hid (fun (g : Good C P R) c w' (q : Ext w w') => rstarts w' C P R c v w' (Ext.refl _) (hv.ext q) (by have := g.few; omega))
  have HSP := Lib.hid (fun (g : Good C P R) c y w' (q : Ext w w') => rspell w' C P R c y v w' (Ext.refl _) (hv.ext q) (good_rep g))
  have HIN := Lib.hid (fun (g : Good C P R) c lo hi w' (q : Ext w w') => rIn w' C P R c lo hi v w' (Ext.refl _) (hv.ext q) (by have := g.few; omega))
  have HNX := Lib.hid (fun (g : Good C P R) c hf (i : Nat) hi h1 h2 hp w' (q : Ext w w') => rnext w' C P R c id Y id L i v vL w' (Ext.refl _) (hv.ext q) (hL.ext q) g hf hi h1 h2 hp)
  obtain ⟨aL, capL, rfl, hlL, hmL, -⟩ := hL.parts
  obtain ⟨vC, vP, vR, rfl, hC, -⟩ := hv
  obtain ⟨a, cap, rfl, hl, hm, hc⟩ := hC.parts
  have HC := Lib.hid hc
  unfold maxLen at hm hmL
  have hLm : (L.length : Int) ≤ 9223372036854775807 := by omega
  clear hC hc hm hL hmL hlL
  have hX0 : Ext w ((w.alloc (.cells #[.slice a C.length cap, vP, vR] 26)).alloc (.cells #[.int .i64 id, .int .i64 Y, .slice aL L.length capL] 46)) := ((Ext.refl w).alloc _).alloc _
  have hb0 := ((Ext.refl _).alloc (.cells #[.int .i64 id, .int .i64 Y, .slice aL L.length capL] 46)).block (heap_alloc_new w (.cells #[.slice a C.length cap, vP, vR] 26))
  have hb1 := heap_alloc_new (w.alloc (.cells #[.slice a C.length cap, vP, vR] 26)) (.cells #[.int .i64 id, .int .i64 Y, .slice aL L.length capL] 46)
  rw [World.size_alloc] at hb1
  obtain ⟨B, hBB⟩ : ∃ B, w.heap.size = B := ⟨_, rfl⟩
  rw [hBB] at hb0 hb1
  go_enter Try.func27, Try.ntmps27
  go_wp2_with fail
  with_reducible refine (HCA.out _ hX0).mono ?_
  rintro e w1 ⟨rfl, hX1⟩
  have hE1 := hX0.trans hX1
  replace hb0 := hX1.block hb0
  replace hb1 := hX1.block hb1
  obtain ⟨k0, k1, k2⟩ := box3' hb0
  clear HCA hX0 hX1
  go_wp2_with fail
  with_reducible refine (HCK.out _ hE1).mono ?_
  rintro e w2 ⟨rfl, hX2⟩
  have hE2 := hE1.trans hX2
  replace hb0 := hX2.block hb0
  replace hb1 := hX2.block hb1
  obtain ⟨k0, k1, k2⟩ := box3' hb0
  obtain ⟨x0, x1, x2⟩ := box3' hb1
  clear HCK hE1 hX2
  by_cases h0 : chk C P R = 0
  · rw [h0]
    have g := chk_zero.1 h0
    rcases idx_find (fun c => c.a == id) C with ⟨hi, hf2⟩ | ⟨k, hk, hi, hf2⟩
    · rw [hi]
      have HR : Hid (fitsR C P R id Y L = (-1, false)) := fits_bad (fun c hc => by rw [show findC C id = none from hf2] at hc; cases hc)
      clear hf2 hi h0 g HST HSP HIN HNX
      go_wp2_with fail
      exact bodyPost_ret (v := .tuple #[.int .i64 (-1), .bool false]) (by simp [results, Try.results27, go_sem]) rfl ⟨by rw [HR.out], hX.trans hE2⟩
    · rw [hi]
      obtain ⟨b, off, c, hx, rfl, q0, q1, q2, q3, q4⟩ := five_at HC.out hE2 hk
      rw [← hx] at hf2
      have hf : findC C id = some c := hf2
      clear hx
      have hk0 : (0 : Int) ≤ (k : Int) := by omega
      have hk1 : (k : Int) < (C.length : Int) := by omega
      have HBAD : Hid (¬ (L ≠ [] ∧ c.b ≤ Y ∧ Y ≤ 4000 ∧ (L.length : Int) ≤ 4000 - Y + 1) → fitsR C P R id Y L = (-1, false)) := fun h => fits_bad (fun d hd => by rw [hf] at hd; cases hd; exact fun q => h q.2)
      by_cases l0 : L = []
      · have HR : Hid (fitsR C P R id Y L = (-1, false)) := HBAD.out (fun q => q.1 l0)
        have d0 : ((L.length : Int) == 0) = true := by simp [l0]
        clear hf2 hi h0 g HST HSP HIN HNX HBAD l0
        go_wp2_with fail
        exact bodyPost_ret (v := .tuple #[.int .i64 (-1), .bool false]) (by simp [results, Try.results27, go_sem]) rfl ⟨by rw [HR.out], hX.trans hE2⟩
      · have d0 : ((L.length : Int) == 0) = false := by simpa using l0
        have hL0 : L.length ≠ 0 := by simpa using l0
        by_cases l1 : 4001 < (L.length : Int)
        · have HR : Hid (fitsR C P R id Y L = (-1, false)) := HBAD.out (fun q => by have := (good_okT g hf).2.1; have := okC_parts this; omega)
          clear hf2 hi h0 g HST HSP HIN HNX HBAD
          go_wp2_with fail
          exact bodyPost_ret (v := .tuple #[.int .i64 (-1), .bool false]) (by simp [results, Try.results27, go_sem]) rfl ⟨by rw [HR.out], hX.trans hE2⟩
        · have hbA := heap_alloc_new w2 (.cells #[.int .i64 c.a, .int .i64 c.b, .int .i64 c.c, .int .i64 c.d, .int .i64 c.e] 53)
          have hb0' := ((Ext.refl w2).alloc (.cells #[.int .i64 c.a, .int .i64 c.b, .int .i64 c.c, .int .i64 c.d, .int .i64 c.e] 53)).block hb0
          have hb1' := ((Ext.refl w2).alloc (.cells #[.int .i64 c.a, .int .i64 c.b, .int .i64 c.c, .int .i64 c.d, .int .i64 c.e] 53)).block hb1
          have hE2' := hE2.alloc (.cells #[.int .i64 c.a, .int .i64 c.b, .int .i64 c.c, .int .i64 c.d, .int .i64 c.e] 53)
          obtain ⟨A, hA⟩ : ∃ A, w2.heap.size = A := ⟨_, rfl⟩
          go_upto_region 5 with fail
          obtain ⟨w3, hw3⟩ : ∃ w3, w2.alloc (.cells #[.int .i64 c.a, .int .i64 c.b, .int .i64 c.c, .int .i64 c.d, .int .i64 c.e] 53) = w3 := ⟨_, rfl⟩
          rw [hw3] at hbA hb0' hb1' hE2' ⊢
          rw [hA] at hbA
          clear hw3 k0 k1 k2 x0 x1 x2 hb0 hb1 hE2 q0 q1 q2 q3 q4
          obtain ⟨c0, c1, c2, c3, c4⟩ := box5 hbA
          obtain ⟨x0, x1, x2⟩ := box3' hb1'
          obtain ⟨k0, k1, k2⟩ := box3' hb0'
          have hcc := okC_parts (good_okT g hf).2.1
          have hcb : 0 ≤ c.b ∧ c.b ≤ 4000 := hcc.2.1
          have hcw := hcc.2.2.2
          clear hcc
          by_cases y1 : Y < c.b
          · have HR : Hid (fitsR C P R id Y L = (-1, false)) := HBAD.out (fun q => by omega)
            clear hf2 hi h0 g HST HSP HIN HNX HBAD
            go_wp2_with fail
            exact bodyPost_ret (v := .tuple #[.int .i64 (-1), .bool false]) (by simp [results, Try.results27, go_sem]) rfl ⟨by rw [HR.out], hX.trans hE2'⟩
          · by_cases y2 : 4000 - (L.length : Int) + 1 < Y
            · have HR : Hid (fitsR C P R id Y L = (-1, false)) := HBAD.out (fun q => by omega)
              clear hf2 hi h0 g HST HSP HIN HNX HBAD
              go_wp2_with fail
              exact bodyPost_ret (v := .tuple #[.int .i64 (-1), .bool false]) (by simp [results, Try.results27, go_sem]) rfl ⟨by rw [HR.out], hX.trans hE2'⟩
            · have HG := Lib.hid (fits_good (P := P) (R := R) (Y := Y) (L := L) hf h0 l0 (by omega) (by omega) (by omega))
              have HSTX := Lib.hid (HST.out g c)
              have HSPX := Lib.hid (HSP.out g c)
              have HINX := Lib.hid (HIN.out g c)
              have HSR := Lib.hid (starts_rng g hf)
              have HCL := Lib.hid (fun lo hi h1 h2 w' v (o : Sl 4 encF w' v (innZ P R c (lo, hi))) => rclashes w' (innZ P R c (lo, hi)) v c.e w' (Ext.refl _) o (innZ_ok g hf (lo := lo) (hi := hi) h1 h2).1 hcw (Nat.le_trans (innZ_ok g hf (lo := lo) (hi := hi) h1 h2).2 (by decide)))
              have hYy : c.b ≤ Y := by omega
              have HNXX : Hid (∀ (i : Nat), i < L.length → (i ≠ 0 → 9000 ≤ L.getD (i - 1) 0 ∧ L.getD (i - 1) 0 ≤ 12000) → ∀ w', Ext w w' → Calls Try.prog 72 #[.agg #[.slice (some ⟨b, off, none⟩) C.length cap, vP, vR], .agg #[.int .i64 c.a, .int .i64 c.b, .int .i64 c.c, .int .i64 c.d, .int .i64 c.e], .agg #[.int .i64 id, .int .i64 Y, .slice aL L.length capL], .int .i64 i] w' fun e w'' => e = .returned (.bool (fitB P R c Y L i)) ∧ Ext w' w'') := fun i hi hp w' q => HNX.out g c hf i hi hYy (by omega) hp w' q
              clear hi hf2 h0 HST HSP HIN HNX HBAD hk HC
              go_wp2_with fail
              with_reducible refine (HSTX.out _ hE2').mono ?_
              rintro e w4 ⟨⟨u, rfl, hS⟩, hX4⟩
              obtain ⟨aF, capF, rfl, hlF, hmF, hcF⟩ := hS.parts
              have HcF := Lib.hid hcF
              have hE4 := hE2'.trans hX4
              have hbA := hX4.block hbA
              replace hb0 := hX4.block hb0'
              replace hb1 := hX4.block hb1'
              have hlen : (startsZ R c).length ≤ 61 := by have := starts_len R c R.length; rw [List.take_length] at this; have := g.few; omega
              clear hS hcF hX4 hE2' hb0' hb1' c0 c1 c2 c3 c4 x0 x1 x2 k0 k1 k2 HSTX hmF hlF
              go_wp2_with fail
              go_loopw [9, 10] (fun i _ wr => ∃ j : Nat, j ≤ (startsZ R c).length ∧ i = .int .i64 j ∧ Ext w4 wr ∧ Hid (∀ q, (hq : q < j) → (h : q < (startsZ R c).length) → clashesB c.e (innZ P R c (spellZ R c (startsZ R c)[q])) = false)) (fun i _ _ => (startsZ R c).length - (intOf i).toNat)
              case atStart => exact ⟨0, Nat.zero_le _, rfl, Ext.refl _, fun q hq => absurd hq (by omega)⟩
              case round =>
                obtain ⟨j, hj, rfl, hE, HN⟩ := hrel
                by_cases hlt : j < (startsZ R c).length
                · obtain ⟨bF, oF, y, hy, rfl, f0⟩ := int_at HcF.out hE hlt
                  have hyr := HSR.out y (by rw [hy]; exact List.getElem_mem hlt)
                  have hsl := spell_le (R := R) hyr.1 hyr.2
                  have HSY := Lib.hid (HSPX.out y)
                  have HZ : Hid (clashesB c.e (innZ P R c (spellZ R c (startsZ R c)[j])) = clashesB c.e (innZ P R c (spellZ R c y))) := by show _ = _; rw [hy]
                  have HCT : Hid (clashesB c.e (innZ P R c (spellZ R c y)) = true → fitCl P R c = true) := fun h => by unfold fitCl; exact List.any_eq_true.2 ⟨y, by rw [hy]; exact List.getElem_mem hlt, h⟩
                  clear hy hyr
                  obtain ⟨⟨s1, s2⟩, hs⟩ : ∃ s, spellZ R c y = s := ⟨_, rfl⟩
                  rw [hs] at HSY HZ HCT hsl
                  simp only at hsl
                  have HIX := Lib.hid (HINX.out s1 s2)
                  have HCX := Lib.hid (HCL.out s1 s2 hsl.1 (by omega))
                  clear hs hsl
                  generalize innZ P R c (s1, s2) = I at HIX HCX HZ HCT
                  generalize clashesB c.e I = z at HCX HZ HCT
                  have hb0w := hE.block hb0
                  have hbAw := hE.block hbA
                  have hEw := hE4.trans hE
                  have hj0 : (0 : Int) ≤ (j : Int) := by omega
                  have hj1 : (j : Int) < ((startsZ R c).length : Int) := by omega
                  have hlF0 : ((startsZ R c).length : Int) ≤ 61 := by omega
                  go_upto_region 11 with fail
                  go_cut [10] (fun v wx => v = .bool z ∧ Ext wr wx)
                  case first => as_aux_lemma =>
                    obtain ⟨k0, k1, k2⟩ := box3' hb0w
                    obtain ⟨c0, c1, c2, c3, c4⟩ := box5 hbAw
                    have hK2 : ∀ w', Ext wr w' → (fun w' => Ext wr w' ∧ (B < w'.heap.size ∧ A < w'.heap.size ∧ bF < w'.heap.size) ∧ (w'.cell? ⟨B, 0, none⟩ = some (.slice (some ⟨b, off, none⟩) C.length cap) ∧ w'.cell? ⟨B, 1, none⟩ = some vP ∧ w'.cell? ⟨B, 2, none⟩ = some vR) ∧ (w'.cell? ⟨A, 0, none⟩ = some (.int .i64 c.a) ∧ w'.cell? ⟨A, 1, none⟩ = some (.int .i64 c.b) ∧ w'.cell? ⟨A, 2, none⟩ = some (.int .i64 c.c) ∧ w'.cell? ⟨A, 3, none⟩ = some (.int .i64 c.d) ∧ w'.cell? ⟨A, 4, none⟩ = some (.int .i64 c.e)) ∧ w'.cell? ⟨bF, oF + j, none⟩ = some (.int .i64 y)) w' := fun w' x => ⟨x, ⟨lt_of_cell (x.cell k0), lt_of_cell (x.cell c0), lt_of_cell (x.cell f0)⟩, ⟨x.cell k0, x.cell k1, x.cell k2⟩, ⟨x.cell c0, x.cell c1, x.cell c2, x.cell c3, x.cell c4⟩, x.cell f0⟩
                    have HK2 := Lib.hid hK2
                    have hX2 := Ext.refl wr
                    clear hK2
                    go_region_held3 (fun w' => Ext wr w' ∧ (B < w'.heap.size ∧ A < w'.heap.size ∧ bF < w'.heap.size) ∧ (w'.cell? ⟨B, 0, none⟩ = some (.slice (some ⟨b, off, none⟩) C.length cap) ∧ w'.cell? ⟨B, 1, none⟩ = some vP ∧ w'.cell? ⟨B, 2, none⟩ = some vR) ∧ (w'.cell? ⟨A, 0, none⟩ = some (.int .i64 c.a) ∧ w'.cell? ⟨A, 1, none⟩ = some (.int .i64 c.b) ∧ w'.cell? ⟨A, 2, none⟩ = some (.int .i64 c.c) ∧ w'.cell? ⟨A, 3, none⟩ = some (.int .i64 c.d) ∧ w'.cell? ⟨A, 4, none⟩ = some (.int .i64 c.e)) ∧ w'.cell? ⟨bF, oF + j, none⟩ = some (.int .i64 y)) (first | exact HK2.out _ (by assumption) | (refine HK2.out _ ?_; repeat (first | assumption | refine Ext.drew ?_ | refine Ext.alloc ?_ _)))
                      ((first
                        | (go_at_call 52; with_reducible refine (HSY.out _ (Ext.drew hEw)).mono ?_; rintro e w5 ⟨rfl, hY⟩; have hX5 : Ext wr w5 := Ext.trans (Ext.drew (Ext.refl wr)) hY; have hE5 := hEw.trans hX5)
                        | (go_at_call 71; with_reducible refine (HIX.out _ hE5).mono ?_; rintro e w6 ⟨⟨u, rfl, hO⟩, hY⟩; have hS3 := hO.sl encF_len; have hX6 : Ext wr w6 := Ext.trans hX5 hY)
                        | (go_at_call 70; with_reducible refine (HCX.out _ _ hS3).mono ?_; rintro e w7 ⟨rfl, hY⟩; have hX7 : Ext wr w7 := Ext.trans hX6 hY)))
                    all_goals
                      go_wp2_with fail
                      go_meet
                      case rel => exact ⟨rfl, hX7⟩
                  case rest =>
                  obtain ⟨rfl, hX5⟩ := hcut
                  have hE5 := hE.trans hX5
                  obtain ⟨x0, x1, x2⟩ := box3' (hE5.block hb1)
                  clear HSY HIX HCX hb0w hbAw hEw hX5 hE f0 hlF0
                  cases z
                  · go_wp2_with fail
                    go_roundw
                    case rel =>
                      refine ⟨j + 1, by omega, by go_num, hE5, fun q hq h => ?_⟩
                      by_cases e : q = j
                      · subst e; exact HZ.out
                      · exact HN.out q (by omega) h
                    case measure => simp [intOf]; omega
                  · have HR : Hid (fitsR C P R id Y L = (Y, false)) := by show _ = _; rw [HG.out, if_pos (HCT.out rfl)]
                    go_wp2_with fail
                    exact bodyPost_ret (v := .tuple #[.int .i64 Y, .bool false]) (by simp [results, Try.results27, go_sem]) rfl ⟨by rw [HR.out], hX.trans (hE4.trans hE5)⟩
                · obtain rfl : j = (startsZ R c).length := by omega
                  have HR : Hid (fitsR C P R id Y L = fitZ P R c Y L) := by
                    show _ = _
                    rw [HG.out, if_neg]
                    unfold fitCl
                    rw [Bool.not_eq_true, List.any_eq_false]
                    intro y hy
                    obtain ⟨q, hq, rfl⟩ := List.getElem_of_mem hy
                    rw [HN.out q hq hq]
                    decide
                  have hE5 := hE4.trans hE
                  have hb0 := hE.block hb0
                  have hb1 := hE.block hb1
                  have hbA := hE.block hbA
                  clear HN HG HSPX HINX HSR HCL hE hE4 HcF
                  obtain ⟨w5, rfl⟩ : ∃ w', w' = wr := ⟨_, rfl⟩
                  go_wp2_with fail
                  go_loopw [11, 12] (fun i _ wr => ∃ i' : Nat, i' ≤ L.length ∧ i = .int .i64 i' ∧ Ext w5 wr ∧ Hid (∀ q, q < i' → fitB P R c Y L q = true)) (fun i _ _ => L.length - (intOf i).toNat)
                  case atStart => exact ⟨0, Nat.zero_le _, rfl, Ext.refl _, fun q hq => absurd hq (by omega)⟩
                  case round =>
                    obtain ⟨i, hi, rfl, hE, HN⟩ := hrel
                    have hb0 := hE.block hb0
                    have hb1 := hE.block hb1
                    have hbA := hE.block hbA
                    obtain ⟨x0, x1, x2⟩ := box3' hb1
                    have hE6 := hE5.trans hE
                    by_cases hlt : i < L.length
                    · obtain ⟨k0, k1, k2⟩ := box3' hb0
                      obtain ⟨c0, c1, c2, c3, c4⟩ := box5 hbA
                      have HX := Lib.hid (HNXX.out i hlt (fun h0 => fitB_rng (HN.out (i - 1) (by omega))))
                      have HHIT := Lib.hid (fun h => fitZ_hit (P := P) (R := R) (c := c) (Y := Y) (L := L) hlt h HN.out)
                      have HSUC : Hid (fitB P R c Y L i = true → ∀ q, q < i + 1 → fitB P R c Y L q = true) := fun h q hq => by
                        by_cases e : q = i
                        · subst e; exact h
                        · exact HN.out q (by omega)
                      have hi0 : (0 : Int) ≤ (i : Int) ∧ (i : Int) ≤ 4000 := by omega
                      have hY0 : 0 ≤ Y ∧ Y ≤ 4000 := by omega
                      clear HN
                      generalize fitB P R c Y L i = z at HX HHIT HSUC
                      cases z
                      · have HR2 : Hid (fitsR C P R id Y L = (Y + i, false)) := by show _ = _; rw [HR.out, HHIT.out rfl]
                        go_wp2_with (go_at_call 72; with_reducible refine (HX.out _ hE6).mono ?_; rintro e w7 ⟨rfl, hX7⟩; obtain ⟨r0, r1, r2⟩ := box3' (hX7.block hb1))
                        exact bodyPost_ret (v := .tuple #[.int .i64 (Y + i), .bool false]) (by simp [results, Try.results27, go_sem]) rfl ⟨by rw [HR2.out], hX.trans (hE6.trans hX7)⟩
                      · go_wp2_with (go_at_call 72; with_reducible refine (HX.out _ hE6).mono ?_; rintro e w7 ⟨rfl, hX7⟩; obtain ⟨r0, r1, r2⟩ := box3' (hX7.block hb1))
                        go_roundw
                        case rel => exact ⟨i + 1, by omega, by go_num, hE.trans hX7, HSUC.out (by simp)⟩
                        case measure => simp [intOf]; omega
                    · obtain rfl : i = L.length := by omega
                      have HR2 : Hid (fitsR C P R id Y L = (-1, true)) := by show _ = _; rw [HR.out, fitZ_all HN.out]
                      go_wp2_with fail
                      exact bodyPost_ret (v := .tuple #[.int .i64 (-1), .bool true]) (by simp [results, Try.results27, go_sem]) rfl ⟨by rw [HR2.out], hX.trans hE6⟩
  · have HR : Hid (fitsR C P R id Y L = (-1, false)) := fits_bad (fun c hc q => h0 q.1)
    have hnb : (chk C P R == 0) = false := by simpa using h0
    generalize chk C P R = n at HR hnb ⊢
    have hnb2 : (n != 0) = true := by simp [bne, hnb]
    clear h0 HST HSP HIN HNX
    go_wp2_with fail
    exact bodyPost_ret (v := .tuple #[.int .i64 (-1), .bool false]) (by simp [results, Try.results27, go_sem]) rfl ⟨by rw [HR.out], hX.trans hE2⟩
end Go.Proofs.Ytaggjclaehigjaa
