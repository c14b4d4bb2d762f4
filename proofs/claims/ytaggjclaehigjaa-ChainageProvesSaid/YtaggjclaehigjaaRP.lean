/- The specification's use. The specification's Prove. -/
import Derived.Test.YtaggjclaehigjaaKP
import Derived.Test.YtaggjclaehigjaaRF
import Derived.Deep.RegionHeld3
import Derived.Deep.DeepCutAuto
import Derived.Test.YtaggjclaehigjaaR10
namespace Go.Proofs.Ytaggjclaehigjaa
open Go.RowKit
theorem own_emptyF (w : World) (base : Nat) (hb : base ≤ w.heap.size) : Own 106 4 encF base (w.alloc (.cells #[] 106)) (.slice (some ⟨w.heap.size, 0, none⟩) 0 0) [] :=
  ⟨rfl, Or.inr ⟨w.heap.size, 0, #[], rfl, hb, World.alloc_heap_new w _, Nat.le_refl _, by simp [maxLen], rfl, rfl⟩⟩
theorem own_formF {base : Nat} {w : World} {v : Value} {l : List Four} (h : Own 106 4 encF base w v l) : ∃ a n cap, v = .slice a n cap := by
  obtain ⟨a, cap, hv, -⟩ := h.sl encF_len
  exact ⟨a, _, cap, hv⟩
/-- the greatest of the widths so far -/
def useQ (a b : Int) : Nat → Int
  | 0 => 0
  | 1 => max 0 a
  | _ => max (max 0 a) b
set_option maxRecDepth 100000 in
set_option maxHeartbeats 16000000 in
theorem ruse (W : World) (C P R : List Five) (id y lo hi : Int) (c : Five) (z : Int) (v : Value) (w : World) (hX : Ext W w) (hv : Wk w v C P R) (h : ProveIs C P R id y lo hi c) (hz : c.b ≤ z ∧ z ≤ 4000) :
    Calls Try.prog 88 #[v, v5 c, .int .i64 y, .int .i64 z] w fun e w' => e = .returned (.int .i64 (useZ P R c y z)) ∧ Ext W w' := by
  have g := h.good
  have hcb := (okC_parts (good_okT g h.find).2.1).2.1
  have hcw := h.we
  have hy := h.yr
  have hfew : P.length + R.length ≤ 1000 := by have := g.few.2; omega
  have HSY := Lib.hid (fun w' (q : Ext w w') => rspell w' C P R c y v w' (Ext.refl _) (hv.ext q) (good_rep g))
  have HSZ := Lib.hid (fun w' (q : Ext w w') => rspell w' C P R c z v w' (Ext.refl _) (hv.ext q) (good_rep g))
  obtain ⟨hoky, hleny⟩ := h.inn hy.1 hy.2
  obtain ⟨hokz, hlenz⟩ := h.inn hz.1 hz.2
  have HON := Lib.hid (fun n (hn : 9000 ≤ n ∧ n ≤ 12000) => h.okn (z := z) (n := n) hz.1 hz.2 hn)
  have HWN := Lib.hid (fun n (hn : 9000 ≤ n ∧ n ≤ 12000) => h.wn (z := z) (n := n) hz.1 hz.2 hn)
  have hen := h.ends hz.1 hz.2
  have hwz := h.wid
  have HU : Hid (∀ u, useZ P R c y z = u → u = if inB z (spellZ R c y).1 (spellZ R c y).2 then max (max 0 (widN P R c y z (loY P R c z))) (widN P R c y z (hiY P R c z)) else max (max 0 (widZ P R c y)) (widZ P R c y)) := fun u e => by rw [← e]; rfl
  have HLZ0 : Hid (loY P R c z = limLo c.e z (innZ P R c (spellZ R c z)) ∧ hiY P R c z = limHi c.e z (innZ P R c (spellZ R c z))) := ⟨rfl, rfl⟩
  have HWZ0 : Hid (widZ P R c y = limHi c.e y (innZ P R c (spellZ R c y)) - limLo c.e y (innZ P R c (spellZ R c y))) := rfl
  have HWN0 : Hid (∀ n, widN P R c y z n = limHi c.e y (innZ P R c (spellZ R c y) ++ [⟨0, z, n, n⟩]) - limLo c.e y (innZ P R c (spellZ R c y) ++ [⟨0, z, n, n⟩])) := fun _ => rfl
  obtain ⟨U, hU⟩ : ∃ U, useZ P R c y z = U := ⟨_, rfl⟩
  have hU2 := HU.out U hU
  rw [hU]
  clear hU HU
  obtain ⟨l1, hl1⟩ : ∃ l, loY P R c z = l := ⟨_, rfl⟩
  obtain ⟨l2, hl2⟩ : ∃ l, hiY P R c z = l := ⟨_, rfl⟩
  rw [hl1, hl2] at hU2 hen HLZ0
  obtain ⟨⟨s1, s2⟩, hs⟩ : ∃ s, spellZ R c y = s := ⟨_, rfl⟩
  obtain ⟨⟨t1, t2⟩, ht⟩ : ∃ s, spellZ R c z = s := ⟨_, rfl⟩
  rw [hs] at HSY hoky hleny hU2 HWZ0 HWN0
  rw [hs] at HON
  rw [ht] at HSZ hokz hlenz HLZ0
  have HIY := Lib.hid (fun w' (q : Ext w w') => rIn w' C P R c s1 s2 v w' (Ext.refl _) (hv.ext q) hfew)
  have HIZ := Lib.hid (fun w' (q : Ext w w') => rIn w' C P R c t1 t2 v w' (Ext.refl _) (hv.ext q) hfew)
  clear g h hl1 hl2 hs ht
  generalize innZ P R c (s1, s2) = IY at HIY hoky hleny HWZ0 HWN0 HON
  generalize innZ P R c (t1, t2) = IZ at HIZ hokz hlenz HLZ0
  have HLZ : Hid (∀ w' v, Sl 4 encF w' v IZ → Calls Try.prog 95 #[v, .int .i64 c.e, .int .i64 z] w' fun e w'' => e = .returned (.agg #[.int .i64 (lmL c.e z IZ).1, .int .i64 (lmH c.e z IZ).1, .int .i64 (lmL c.e z IZ).2, .int .i64 (lmH c.e z IZ).2]) ∧ Ext w' w'') := fun w' v o => rlimits w' IZ v c.e z w' (Ext.refl _) o hokz hcw (by omega) (by omega)
  have HLY : Hid (∀ w' v, Sl 4 encF w' v IY → Calls Try.prog 95 #[v, .int .i64 c.e, .int .i64 y] w' fun e w'' => e = .returned (.agg #[.int .i64 (lmL c.e y IY).1, .int .i64 (lmH c.e y IY).1, .int .i64 (lmL c.e y IY).2, .int .i64 (lmH c.e y IY).2]) ∧ Ext w' w'') := fun w' v o => rlimits w' IY v c.e y w' (Ext.refl _) o hoky hcw (by omega) (by omega)
  have HLN : Hid (∀ n, (9000 ≤ n ∧ n ≤ 12000) → ∀ w' v, Sl 4 encF w' v (IY ++ [⟨0, z, n, n⟩]) → Calls Try.prog 95 #[v, .int .i64 c.e, .int .i64 y] w' fun e w'' => e = .returned (.agg #[.int .i64 (lmL c.e y (IY ++ [⟨0, z, n, n⟩])).1, .int .i64 (lmH c.e y (IY ++ [⟨0, z, n, n⟩])).1, .int .i64 (lmL c.e y (IY ++ [⟨0, z, n, n⟩])).2, .int .i64 (lmH c.e y (IY ++ [⟨0, z, n, n⟩])).2]) ∧ Ext w' w'') := fun n hn w' v o => rlimits w' (IY ++ [⟨0, z, n, n⟩]) v c.e y w' (Ext.refl _) o (HON.out n hn) hcw (by omega) (by simp; omega)
  have ha : (lmL c.e z IZ).1 = l1 := by rw [HLZ0.out.1]; exact (refLo_rest _ _ _).1
  have hb : (lmH c.e z IZ).1 = l2 := by rw [HLZ0.out.2]; exact (refHi_rest _ _ _).1
  have HW1 : Hid (widZ P R c y = (lmH c.e y IY).1 - (lmL c.e y IY).1) := by show _ = _; rw [HWZ0.out, ← (refLo_rest _ _ _).1, ← (refHi_rest _ _ _).1]; rfl
  have HW2 : Hid (∀ n, widN P R c y z n = (lmH c.e y (IY ++ [⟨0, z, n, n⟩])).1 - (lmL c.e y (IY ++ [⟨0, z, n, n⟩])).1) := fun n => by rw [HWN0.out n, ← (refLo_rest _ _ _).1, ← (refHi_rest _ _ _).1]; rfl
  rw [ha, hb] at HLZ
  have HUU := Lib.hid hU2
  have hlY : IY.length ≤ 61 := hleny
  clear ha hb HLZ0 HWZ0 HWN0 HON hU2 hoky hleny hokz hlenz hfew
  generalize (lmL c.e z IZ).2 = p2 at HLZ
  generalize (lmH c.e z IZ).2 = q2 at HLZ
  obtain ⟨vC, vP, vR, rfl, -⟩ := hv
  have hb0 := ((Ext.refl _).alloc (.cells #[.int .i64 c.a, .int .i64 c.b, .int .i64 c.c, .int .i64 c.d, .int .i64 c.e] 53)).block (heap_alloc_new w (.cells #[vC, vP, vR] 26))
  have hb1 := heap_alloc_new (w.alloc (.cells #[vC, vP, vR] 26)) (.cells #[.int .i64 c.a, .int .i64 c.b, .int .i64 c.c, .int .i64 c.d, .int .i64 c.e] 53)
  have hX0 : Ext w ((w.alloc (.cells #[vC, vP, vR] 26)).alloc (.cells #[.int .i64 c.a, .int .i64 c.b, .int .i64 c.c, .int .i64 c.d, .int .i64 c.e] 53)) := ((Ext.refl w).alloc _).alloc _
  simp only [World.size_alloc] at hb1
  obtain ⟨B, hBB⟩ : ∃ B, w.heap.size = B := ⟨_, rfl⟩
  rw [hBB] at hb0 hb1
  go_enter Try.func88, Try.ntmps88
  go_wp2_with fail
  with_reducible refine (HSY.out _ hX0).mono ?_
  rintro e w1 ⟨rfl, hX1⟩
  have hE2 := (hX0.trans hX1).alloc (.cells #[.int .i64 s1, .int .i64 s2] 30)
  replace hb0 := ((Ext.refl w1).alloc (.cells #[.int .i64 s1, .int .i64 s2] 30)).block (hX1.block hb0)
  replace hb1 := ((Ext.refl w1).alloc (.cells #[.int .i64 s1, .int .i64 s2] 30)).block (hX1.block hb1)
  have hb3 := heap_alloc_new w1 (.cells #[.int .i64 s1, .int .i64 s2] 30)
  obtain ⟨D, hD⟩ : ∃ D, w1.heap.size = D := ⟨_, rfl⟩
  clear hX1 hX0 HSY
  go_upto_region 2 with fail
  obtain ⟨w2', hw2⟩ : ∃ w2, w1.alloc (.cells #[.int .i64 s1, .int .i64 s2] 30) = w2 := ⟨_, rfl⟩
  rw [hw2] at hb0 hb1 hb3 hE2 ⊢
  rw [hD] at hb3
  clear hw2 hD
  obtain ⟨k0, k1, k2⟩ := box3' hb0
  obtain ⟨c0, c1, c2, c3, c4⟩ := box5 hb1
  obtain ⟨d0, d1⟩ := box2 hb3
  go_wp2_with fail
  with_reducible refine (HIY.out _ hE2).mono ?_
  rintro e w2 ⟨⟨u, rfl, hOY⟩, hX2⟩
  obtain ⟨ya, yn, yc, rfl⟩ := own_formF hOY
  replace hb0 := hX2.block hb0
  replace hb1 := hX2.block hb1
  replace hb3 := hX2.block hb3
  have hE3 := hE2.trans hX2
  have HOY := Lib.hid (hOY.sl encF_len)
  clear hX2 hE2 hOY k0 k1 k2 c0 c1 c2 c3 c4 d0 d1 HIY
  go_upto_region 3 with fail
  go_cut [11] (fun v wx => ∃ N, v = .pointer (some ⟨N, 0, none⟩) ∧ Ext w2 wx ∧ wx.heap[N]? = some (.cells #[.int .i64 l1, .int .i64 l2] 30))
  case first =>
    obtain ⟨k0, k1, k2⟩ := box3' hb0
    obtain ⟨c0, c1, c2, c3, c4⟩ := box5 hb1
    have hfl : ∀ w', Sem.run Try.prog (Instr.field 109 (.agg #[.int .i64 l1, .int .i64 l2, .int .i64 p2, .int .i64 q2]) 0) w' = .ok (.agg #[.int .i64 l1, .int .i64 l2]) w' := fun _ => rfl
    have hK2 : ∀ w', Ext w2 w' → (fun w' => Ext w2 w' ∧ (B < w'.heap.size ∧ B + 1 < w'.heap.size) ∧ (w'.cell? ⟨B, 0, none⟩ = some vC ∧ w'.cell? ⟨B, 1, none⟩ = some vP ∧ w'.cell? ⟨B, 2, none⟩ = some vR) ∧ (w'.cell? ⟨B + 1, 0, none⟩ = some (.int .i64 c.a) ∧ w'.cell? ⟨B + 1, 1, none⟩ = some (.int .i64 c.b) ∧ w'.cell? ⟨B + 1, 2, none⟩ = some (.int .i64 c.c) ∧ w'.cell? ⟨B + 1, 3, none⟩ = some (.int .i64 c.d) ∧ w'.cell? ⟨B + 1, 4, none⟩ = some (.int .i64 c.e))) w' := fun w' x => ⟨x, ⟨lt_of_cell (x.cell k0), lt_of_cell (x.cell c0)⟩, ⟨x.cell k0, x.cell k1, x.cell k2⟩, ⟨x.cell c0, x.cell c1, x.cell c2, x.cell c3, x.cell c4⟩⟩
    have HK2 := Lib.hid hK2
    have hq0 : Ext w2 w2 := Ext.refl w2
    clear hK2
    go_region_held3 (fun w' => Ext w2 w' ∧ (B < w'.heap.size ∧ B + 1 < w'.heap.size) ∧ (w'.cell? ⟨B, 0, none⟩ = some vC ∧ w'.cell? ⟨B, 1, none⟩ = some vP ∧ w'.cell? ⟨B, 2, none⟩ = some vR) ∧ (w'.cell? ⟨B + 1, 0, none⟩ = some (.int .i64 c.a) ∧ w'.cell? ⟨B + 1, 1, none⟩ = some (.int .i64 c.b) ∧ w'.cell? ⟨B + 1, 2, none⟩ = some (.int .i64 c.c) ∧ w'.cell? ⟨B + 1, 3, none⟩ = some (.int .i64 c.d) ∧ w'.cell? ⟨B + 1, 4, none⟩ = some (.int .i64 c.e))) (first | with_reducible exact HK2.out _ hq6 | with_reducible exact HK2.out _ hq5 | with_reducible exact HK2.out _ hq4 | with_reducible exact HK2.out _ hq0 | with_reducible exact HK2.out _ hq0.drew | with_reducible exact HK2.out _ (hq0.alloc _) | with_reducible exact HK2.out _ (hq0.alloc _).drew | with_reducible exact HK2.out _ (hq0.drew.alloc _) | with_reducible exact HK2.out _ (hq4.alloc _) | with_reducible exact HK2.out _ (hq5.alloc _) | with_reducible exact HK2.out _ (hq6.alloc _) | (refine HK2.out _ ?_; repeat (first | with_reducible assumption | with_reducible refine Ext.drew ?_ | with_reducible refine Ext.alloc ?_ _ | with_reducible refine Ext.setCell ?_ ?_ _ | with_reducible exact Ext.le (by assumption) | with_reducible exact Nat.le_refl _)))
      ((first
        | (go_at_call 52; first
          | (with_reducible refine (HSZ.out _ (Ext.drew hE3)).mono ?_; rintro e w4 ⟨rfl, hY⟩; have hq4 : Ext w2 w4 := Ext.trans hq0.drew hY)
          | (with_reducible refine (HSZ.out _ ((hE3.alloc _).drew)).mono ?_; rintro e w4 ⟨rfl, hY⟩; have hN := hY.block (new_drew1 w2 _); have hq4 : Ext w2 w4 := Ext.trans ((hq0.alloc _).drew) hY))
        | (go_at_call 71; first
          | (with_reducible refine (HIZ.out _ (hE3.trans hq4)).mono ?_; rintro e w5 ⟨⟨u, rfl, hO⟩, hY⟩; have hS5 := hO.sl encF_len; have hq5 : Ext w2 w5 := Ext.trans hq4 hY; try (have hN5 := hY.block hN))
          | (with_reducible refine (HIZ.out _ ((hE3.trans hq4).alloc _)).mono ?_; rintro e w5 ⟨⟨u, rfl, hO⟩, hY⟩; have hS5 := hO.sl encF_len; have hN5 := hY.block (heap_alloc_new w4 _); have hq5 : Ext w2 w5 := Ext.trans (hq4.alloc _) hY))
        | (go_at_call 95; first
          | (with_reducible refine (HLZ.out _ _ hS5).mono ?_; rintro e w6 ⟨rfl, hY⟩; have hq6 : Ext w2 w6 := Ext.trans hq5 hY; try (have hN6 := hY.block hN5; have hNs := (Array.getElem?_eq_some_iff.1 hN6).1; obtain ⟨m0, m1⟩ := box2 hN6; have y0 := frozen_cells ⟨_, hN6⟩ 0; have y1 := frozen_cells ⟨_, hN6⟩ 1))
          | (with_reducible refine (HLZ.out _ _ (hS5.ext ((Ext.refl _).alloc _))).mono ?_; rintro e w6 ⟨rfl, hY⟩; have hN6 := hY.block (heap_alloc_new w5 _); have hq6 : Ext w2 w6 := Ext.trans (hq5.alloc _) hY; have hNs := (Array.getElem?_eq_some_iff.1 hN6).1; obtain ⟨m0, m1⟩ := box2 hN6; have y0 := frozen_cells ⟨_, hN6⟩ 0; have y1 := frozen_cells ⟨_, hN6⟩ 1))))
    all_goals
      go_wp2_with fail
      go_meet
      case rel => first | with_reducible exact relB1 hq6 (Nat.le_refl _) hN6 | with_reducible exact relB1 hq6 hq4.le hN6 | with_reducible exact relB1 hq6 hq5.le hN6 | with_reducible exact relA1 hq6 _
  case rest =>
  obtain ⟨N, rfl, hX4, hbN⟩ := hcut
  obtain ⟨w4, rfl⟩ : ∃ w', w' = wc := ⟨_, rfl⟩
  have hE4 := hE3.trans hX4
  replace hb1 := hX4.block hb1
  replace hb3 := hX4.block hb3
  replace HOY := Lib.hid (HOY.out.ext hX4)
  clear hX4 hE3 hb0 HSZ HIZ HLZ
  have hfl2 : ∀ (a b d e : Int) (w' : World), Sem.run Try.prog (Instr.field 109 (.agg #[.int .i64 a, .int .i64 b, .int .i64 d, .int .i64 e]) 0) w' = .ok (.agg #[.int .i64 a, .int .i64 b]) w' := fun _ _ _ _ _ => rfl
  have qm2 := ite_max
  cases hin : inB z s1 s2
  · have HWD1 := Lib.hid HW1.out
    obtain ⟨wd, hwd⟩ : ∃ wd, widZ P R c y = wd := ⟨_, rfl⟩
    have hd : (lmH c.e y IY).1 - (lmL c.e y IY).1 = wd := by rw [← hwd, HW1.out]
    have HWD2 := Lib.hid hwd
    rw [hwd] at hwz
    rw [hin] at HUU
    clear HWD1 HW1 HLN HW2 HWN hwd
    generalize (lmL c.e y IY).1 = a1 at hd HLY
    generalize (lmH c.e y IY).1 = a2 at hd HLY
    generalize (lmL c.e y IY).2 = a3 at HLY
    generalize (lmH c.e y IY).2 = a4 at HLY
    have HUF : Hid (U = useQ wd wd 2) := by show _ = _; rw [HUU.out]; rw [← HWD2.out]; rfl
    clear HUU
    go_wp2_with fail
    go_loopw [12, 13] (fun u i wr => ∃ q : Nat, q ≤ 2 ∧ i = .int .i64 (q : Int) ∧ u = .int .i64 (useQ wd wd q) ∧ Ext w4 wr) (fun _ i _ => 2 - (intOf i).toNat)
    case atStart => exact ⟨0, by omega, rfl, rfl, Ext.refl _⟩
    case round =>
      obtain ⟨q, hq, rfl, rfl, hE⟩ := hrel
      obtain ⟨x0, x1⟩ := box2 (hE.block hbN)
      obtain ⟨d0, d1⟩ := box2 (hE.block hb3)
      have hb1w := hE.block hb1
      obtain ⟨c0, c1, c2, c3, c4⟩ := box5 hb1w
      have hqs : q = 0 ∨ q = 1 ∨ q = 2 := by omega
      rcases hqs with rfl | rfl | rfl
      · have hu0 : useQ wd wd 0 = 0 := rfl
        rw [hu0]
        go_wp2_with (first
          | (go_at_call 51; with_reducible refine (rin _ _ _ _).mono ?_; rintro e w' ⟨rfl, rfl⟩; rw [hin])
          | (go_at_call 95; with_reducible refine (HLY.out _ _ (HOY.out.ext hE)).mono ?_; rintro e w9 ⟨rfl, hX9⟩))
        go_roundw
        case rel => exact ⟨1, by omega, rfl, rfl, (hE.trans hX9).alloc _⟩
        case measure => simp [intOf]
      · obtain ⟨u1, hu1⟩ : ∃ u, useQ wd wd 1 = u := ⟨_, rfl⟩
        rw [hu1]
        have HU1 : Hid (useQ wd wd 2 = max u1 wd) := by show _ = _; rw [← hu1]; rfl
        clear hu1
        go_wp2_with (first
          | (go_at_call 51; with_reducible refine (rin _ _ _ _).mono ?_; rintro e w' ⟨rfl, rfl⟩; rw [hin])
          | (go_at_call 95; with_reducible refine (HLY.out _ _ (HOY.out.ext hE)).mono ?_; rintro e w9 ⟨rfl, hX9⟩))
        go_roundw
        case rel => exact ⟨2, by omega, rfl, by rw [HU1.out], (hE.trans hX9).alloc _⟩
        case measure => simp [intOf]
      · go_wp2_with fail
        go_ret
        exact ⟨by rw [HUF.out]; rfl, hX.trans (hE4.trans hE)⟩
  · rw [hin] at HUU
    clear HW1 HLY
    have HUF : Hid (U = useQ (widN P R c y z l1) (widN P R c y z l2) 2) := by show _ = _; rw [HUU.out]; rfl
    clear HUU
    go_wp2_with fail
    go_loopw [12, 13] (fun u i wr => ∃ q : Nat, q ≤ 2 ∧ i = .int .i64 (q : Int) ∧ u = .int .i64 (useQ (widN P R c y z l1) (widN P R c y z l2) q) ∧ Ext w4 wr) (fun _ i _ => 2 - (intOf i).toNat)
    case atStart => exact ⟨0, by omega, rfl, rfl, Ext.refl _⟩
    case round =>
      obtain ⟨q, hq, rfl, rfl, hE⟩ := hrel
      obtain ⟨x0, x1⟩ := box2 (hE.block hbN)
      obtain ⟨d0, d1⟩ := box2 (hE.block hb3)
      have hb1w := hE.block hb1
      obtain ⟨c0, c1, c2, c3, c4⟩ := box5 hb1w
      have hqs : q = 0 ∨ q = 1 ∨ q = 2 := by omega
      rcases hqs with rfl | rfl | rfl
      · have hu0 : useQ (widN P R c y z l1) (widN P R c y z l2) 0 = 0 := rfl
        rw [hu0]
        have hd := (HW2.out l1).symm
        have hwn := HWN.out l1 (by omega)
        have HLX := Lib.hid (HLN.out l1 (by omega))
        obtain ⟨ww, hww⟩ : ∃ ww, widN P R c y z l1 = ww := ⟨_, rfl⟩
        rw [hww] at hd hwn
        generalize (lmL c.e y (IY ++ [⟨0, z, l1, l1⟩])).1 = a1 at hd HLX
        generalize (lmH c.e y (IY ++ [⟨0, z, l1, l1⟩])).1 = a2 at hd HLX
        generalize (lmL c.e y (IY ++ [⟨0, z, l1, l1⟩])).2 = a3 at HLX
        generalize (lmH c.e y (IY ++ [⟨0, z, l1, l1⟩])).2 = a4 at HLX
        go_wp2_with (first
          | (go_at_call 51; with_reducible refine (rin _ _ _ _).mono ?_; rintro e w' ⟨rfl, rfl⟩; rw [hin])
          | (at_builtin; with_reducible refine app_many 101 106 4 32 (.agg #[.int .i64 0, .int .i64 0, .int .i64 0, .int .i64 0]) encF encF_len encF_one Try.underlying101 infoF rfl (by decide) (by decide) rfl (.tmp 54) (.tmp 55) rfl wr.heap.size (.slice (some ⟨wr.heap.size, 0, none⟩) 0 0) [] rfl (own_emptyF wr _ (Nat.le_refl _)) (.slice ya yn yc) IY rfl (HOY.out.ext (hE.alloc _)) (by simp; omega) (by simp) ?_; intro v7 w7 hO7 hg7 hE7 hb7; obtain ⟨a7, n7, c7, rfl⟩ := own_formF hO7; have hX7 := hE7 wr (Nat.le_refl _) ((Ext.refl _).alloc _); clear hE7 hg7 hb7)
          | (at_builtin; with_reducible refine app_many 101 106 4 32 (.agg #[.int .i64 0, .int .i64 0, .int .i64 0, .int .i64 0]) encF encF_len encF_one Try.underlying101 infoF rfl (by decide) (by decide) rfl (.tmp 56) (.tmp 62) rfl wr.heap.size (.slice a7 n7 c7) ([] ++ IY) rfl (hO7.ext ((Ext.refl _).alloc _)) (.slice (some ⟨w7.heap.size, 0, none⟩) 1 1) [(⟨0, z, l1, l1⟩ : Four)] rfl (Sl.mk1 rfl rfl) (by simp; omega) (Nat.le_trans hX7.le ((Ext.refl _).alloc _).le) ?_; intro v8 w8 hO8 hg8 hE8 hb8; obtain ⟨a8, n8, c8, rfl⟩ := own_formF hO8; have hX8 := hE8 wr (Nat.le_refl _) (hX7.alloc _); have hS8 := hO8.sl encF_len; obtain ⟨c0, c1, c2, c3, c4⟩ := box5 (hX8.block hb1w); clear hE8 hg8 hb8)
          | (go_at_call 95; with_reducible refine (HLX.out _ _ hS8).mono ?_; rintro e w9 ⟨rfl, hX9⟩))
        go_roundw
        case rel => exact ⟨1, by omega, rfl, by rw [hww]; rfl, (hE.trans (hX8.trans hX9)).alloc _⟩
        case measure => simp [intOf]
      · obtain ⟨u1, hu1⟩ : ∃ u, useQ (widN P R c y z l1) (widN P R c y z l2) 1 = u := ⟨_, rfl⟩
        rw [hu1]
        have HU1 : Hid (useQ (widN P R c y z l1) (widN P R c y z l2) 2 = max u1 (widN P R c y z l2)) := by show _ = _; rw [← hu1]; rfl
        clear hu1
        have hd := (HW2.out l2).symm
        have hwn := HWN.out l2 (by omega)
        have HLX := Lib.hid (HLN.out l2 (by omega))
        obtain ⟨ww, hww⟩ : ∃ ww, widN P R c y z l2 = ww := ⟨_, rfl⟩
        rw [hww] at hd hwn
        generalize (lmL c.e y (IY ++ [⟨0, z, l2, l2⟩])).1 = a1 at hd HLX
        generalize (lmH c.e y (IY ++ [⟨0, z, l2, l2⟩])).1 = a2 at hd HLX
        generalize (lmL c.e y (IY ++ [⟨0, z, l2, l2⟩])).2 = a3 at HLX
        generalize (lmH c.e y (IY ++ [⟨0, z, l2, l2⟩])).2 = a4 at HLX
        go_wp2_with (first
          | (go_at_call 51; with_reducible refine (rin _ _ _ _).mono ?_; rintro e w' ⟨rfl, rfl⟩; rw [hin])
          | (at_builtin; with_reducible refine app_many 101 106 4 32 (.agg #[.int .i64 0, .int .i64 0, .int .i64 0, .int .i64 0]) encF encF_len encF_one Try.underlying101 infoF rfl (by decide) (by decide) rfl (.tmp 54) (.tmp 55) rfl wr.heap.size (.slice (some ⟨wr.heap.size, 0, none⟩) 0 0) [] rfl (own_emptyF wr _ (Nat.le_refl _)) (.slice ya yn yc) IY rfl (HOY.out.ext (hE.alloc _)) (by simp; omega) (by simp) ?_; intro v7 w7 hO7 hg7 hE7 hb7; obtain ⟨a7, n7, c7, rfl⟩ := own_formF hO7; have hX7 := hE7 wr (Nat.le_refl _) ((Ext.refl _).alloc _); clear hE7 hg7 hb7)
          | (at_builtin; with_reducible refine app_many 101 106 4 32 (.agg #[.int .i64 0, .int .i64 0, .int .i64 0, .int .i64 0]) encF encF_len encF_one Try.underlying101 infoF rfl (by decide) (by decide) rfl (.tmp 56) (.tmp 62) rfl wr.heap.size (.slice a7 n7 c7) ([] ++ IY) rfl (hO7.ext ((Ext.refl _).alloc _)) (.slice (some ⟨w7.heap.size, 0, none⟩) 1 1) [(⟨0, z, l2, l2⟩ : Four)] rfl (Sl.mk1 rfl rfl) (by simp; omega) (Nat.le_trans hX7.le ((Ext.refl _).alloc _).le) ?_; intro v8 w8 hO8 hg8 hE8 hb8; obtain ⟨a8, n8, c8, rfl⟩ := own_formF hO8; have hX8 := hE8 wr (Nat.le_refl _) (hX7.alloc _); have hS8 := hO8.sl encF_len; obtain ⟨c0, c1, c2, c3, c4⟩ := box5 (hX8.block hb1w); clear hE8 hg8 hb8)
          | (go_at_call 95; with_reducible refine (HLX.out _ _ hS8).mono ?_; rintro e w9 ⟨rfl, hX9⟩))
        go_roundw
        case rel => exact ⟨2, by omega, rfl, by rw [HU1.out, hww], (hE.trans (hX8.trans hX9)).alloc _⟩
        case measure => simp [intOf]
      · go_wp2_with fail
        go_ret
        exact ⟨by rw [HUF.out]; rfl, hX.trans (hE4.trans hE)⟩
end Go.Proofs.Ytaggjclaehigjaa
namespace Go.Proofs.Ytaggjclaehigjaa
open Go.RowKit
abbrev provedV (r : Int × Int) : Value := .agg #[.int .i64 r.1, .int .i64 r.2]
theorem knownC_form (C P R : List Five) (id y : Int) : ∃ e1 e2 e3 e4, knownC C P R id y = [.int .i64 e1, .int .i64 e2, .int .i64 e3, .int .i64 e4, .int .i64 (agE C P R id y)] := by
  obtain ⟨h1, _⟩ := knownC_eq C P R id y
  refine ⟨(longR C P R id y).1.1, (longR C P R id y).1.2, (restR C P R id y).1.1, (restR C P R id y).1.2, ?_⟩
  rw [h1]
  have : (longR C P R id y).2 = agE C P R id y := by
    unfold longR
    split
    · rename_i h0
      obtain ⟨c, g, hf, hy⟩ := agE_zero h0
      rw [hf, h0]
    · rfl
  rw [this]
set_option maxRecDepth 100000 in
set_option maxHeartbeats 16000000 in
theorem rProve (W : World) (C P R : List Five) (v : Value) (id y lo hi : Int) (w : World) (hX : Ext W w) (hv : Wk w v C P R) :
    Calls Try.prog 46 #[v, .int .i64 id, .int .i64 y, .agg #[.int .i64 lo, .int .i64 hi]] w fun e w' => e = .returned (provedV (proveR C P R id y lo hi)) ∧ Ext W w' := by
  obtain ⟨e1, e2, e3, e4, hk⟩ := knownC_form C P R id y
  have HKN := Lib.hid (fun w' (q : Ext w w') => rknown w' C P R v id y w' (Ext.refl _) (hv.ext q))
  have HWO := Lib.hid (fun w' (q : Ext w w') => rworn w' C P R v id lo hi false w' (Ext.refl _) (hv.ext q))
  have HCA := Lib.hid (fun w' (q : Ext w w') => rchainAt w' C P R v id w' (Ext.refl _) (hv.ext q))
  have HPC := Lib.hid (prove_cases C P R id y lo hi)
  have HUS := Lib.hid (fun c (h : ProveIs C P R id y lo hi c) (z : Int) w' (q : Ext w w') (hz : c.b ≤ z ∧ z ≤ 4000) => ruse w' C P R id y lo hi c z v w' (Ext.refl _) (hv.ext q) h hz)
  have HFEW : Hid (agE C P R id y = 0 → P.length + R.length ≤ 60) := fun h => by
    obtain ⟨_, g, _⟩ := agE_zero h
    exact g.few.2
  rw [hk] at HKN
  obtain ⟨vC, vP, vR, rfl, hC, hP, hR, -⟩ := hv
  obtain ⟨a, cap, rfl, -, -, hcC⟩ := hC.parts
  obtain ⟨aP, capP, rfl, -⟩ := hP.parts
  obtain ⟨aR, capR, rfl, -⟩ := hR.parts
  have HC := Lib.hid hcC
  obtain ⟨r, hr⟩ : ∃ r, proveR C P R id y lo hi = r := ⟨_, rfl⟩
  obtain ⟨x, hx⟩ : ∃ x, wornR C P R id lo hi false = x := ⟨_, rfl⟩
  obtain ⟨m, hm⟩ : ∃ m, spanE C P R id lo hi = m := ⟨_, rfl⟩
  obtain ⟨n, hn⟩ : ∃ n, agE C P R id y = n := ⟨_, rfl⟩
  obtain ⟨x1, x2, x3⟩ := x
  rw [hr, hm, hn] at HPC
  rw [hx, hm] at HWO
  rw [hn] at HKN HFEW
  rw [hr]
  clear hr hx hm hn hk hC hP hR hcC
  have hX0 : Ext w (((w.alloc (.cells #[.slice a C.length cap, .slice aP P.length capP, .slice aR R.length capR] 26)).alloc (.cells #[.int .i64 lo, .int .i64 hi] 30)).alloc (.cells #[.int .i64 0, .int .i64 0] 79)) := (((Ext.refl w).alloc _).alloc _).alloc _
  have hb0 := (((Ext.refl _).alloc (.cells #[.int .i64 lo, .int .i64 hi] 30)).alloc (.cells #[.int .i64 0, .int .i64 0] 79)).block (heap_alloc_new w (.cells #[.slice a C.length cap, .slice aP P.length capP, .slice aR R.length capR] 26))
  have hb1 := ((Ext.refl _).alloc (.cells #[.int .i64 0, .int .i64 0] 79)).block (heap_alloc_new (w.alloc (.cells #[.slice a C.length cap, .slice aP P.length capP, .slice aR R.length capR] 26)) (.cells #[.int .i64 lo, .int .i64 hi] 30))
  have hb2 := heap_alloc_new ((w.alloc (.cells #[.slice a C.length cap, .slice aP P.length capP, .slice aR R.length capR] 26)).alloc (.cells #[.int .i64 lo, .int .i64 hi] 30)) (.cells #[.int .i64 0, .int .i64 0] 79)
  simp only [World.size_alloc] at hb1 hb2
  obtain ⟨B, hBB⟩ : ∃ B, w.heap.size = B := ⟨_, rfl⟩
  rw [hBB] at hb0 hb1 hb2
  go_enter Try.func46, Try.ntmps46
  go_wp2_with fail
  with_reducible refine (HKN.out _ hX0).mono ?_
  rintro e w1' ⟨rfl, hX1⟩
  have hE1 := (hX0.trans hX1).alloc (.cells #[.int .i64 e1, .int .i64 e2, .int .i64 e3, .int .i64 e4, .int .i64 n] 111)
  replace hb0 := ((Ext.refl w1').alloc (.cells #[.int .i64 e1, .int .i64 e2, .int .i64 e3, .int .i64 e4, .int .i64 n] 111)).block (hX1.block hb0)
  replace hb1 := ((Ext.refl w1').alloc (.cells #[.int .i64 e1, .int .i64 e2, .int .i64 e3, .int .i64 e4, .int .i64 n] 111)).block (hX1.block hb1)
  replace hb2 := ((Ext.refl w1').alloc (.cells #[.int .i64 e1, .int .i64 e2, .int .i64 e3, .int .i64 e4, .int .i64 n] 111)).block (hX1.block hb2)
  have hbK := heap_alloc_new w1' (.cells #[.int .i64 e1, .int .i64 e2, .int .i64 e3, .int .i64 e4, .int .i64 n] 111)
  obtain ⟨K, hK⟩ : ∃ A, w1'.heap.size = A := ⟨_, rfl⟩
  clear hX0 hX1 HKN
  go_upto_region 2 with fail
  rw [hK] at hbK
  obtain ⟨w1, hw1⟩ : ∃ w0, w1'.alloc (.cells #[.int .i64 e1, .int .i64 e2, .int .i64 e3, .int .i64 e4, .int .i64 n] 111) = w0 := ⟨_, rfl⟩
  rw [hw1] at hE1 hb0 hb1 hb2 hbK ⊢
  clear hw1 hK
  obtain ⟨q0, q1, q2, q3, q4⟩ := box5 hbK
  by_cases hn : n = 0
  · subst hn
    have HFE := Lib.hid (HFEW.out rfl)
    obtain ⟨k0, k1, k2⟩ := box3' hb0
    obtain ⟨i0, i1⟩ := box2 hb1
    go_wp2_with fail
    with_reducible refine (HWO.out _ hE1).mono ?_
    rintro e w2' ⟨⟨u, rfl, hI⟩, hX2⟩
    obtain ⟨ua, un, uc, rfl⟩ := Own.slice_form enc1_len hI
    have hE2 := (hE1.trans hX2).alloc (.cells #[.int .i64 x1, .int .i64 x2, .slice ua un uc, .int .i64 m] 67)
    replace hb0 := ((Ext.refl w2').alloc (.cells #[.int .i64 x1, .int .i64 x2, .slice ua un uc, .int .i64 m] 67)).block (hX2.block hb0)
    replace hb1 := ((Ext.refl w2').alloc (.cells #[.int .i64 x1, .int .i64 x2, .slice ua un uc, .int .i64 m] 67)).block (hX2.block hb1)
    replace hb2 := ((Ext.refl w2').alloc (.cells #[.int .i64 x1, .int .i64 x2, .slice ua un uc, .int .i64 m] 67)).block (hX2.block hb2)
    have hbX := heap_alloc_new w2' (.cells #[.int .i64 x1, .int .i64 x2, .slice ua un uc, .int .i64 m] 67)
    obtain ⟨X, hXX⟩ : ∃ A, w2'.heap.size = A := ⟨_, rfl⟩
    clear k0 k1 k2 i0 i1 q0 q1 q2 q3 q4 hX2 hI HWO hE1 hbK
    go_upto_region 5 with fail
    rw [hXX] at hbX
    obtain ⟨w2, hw2⟩ : ∃ w0, w2'.alloc (.cells #[.int .i64 x1, .int .i64 x2, .slice ua un uc, .int .i64 m] 67) = w0 := ⟨_, rfl⟩
    rw [hw2] at hE2 hb0 hb1 hb2 hbX ⊢
    clear hw2 hXX
    obtain ⟨y0, y1, y2, y3⟩ := box4 hbX
    by_cases hm : m = 0
    · subst hm
      have hPR : (P.length : Int) + (R.length : Int) ≤ 60 := by have := HFE.out; omega
      have e64 : IntKind.i64.wrap ((P.length : Int) + (R.length : Int)) = (P.length : Int) + (R.length : Int) := wrap_in (by omega)
      obtain ⟨k0, k1, k2⟩ := box3' hb0
      by_cases h60 : 60 ≤ (P.length : Int) + (R.length : Int)
      · have HR : Hid (r = (0, 2)) := by
          show _ = _
          rcases HPC.out with ⟨h, _⟩ | ⟨_, h, _⟩ | ⟨_, _, _, h⟩ | ⟨_, _, c', h, _⟩
          · exact absurd rfl h
          · exact absurd rfl h
          · exact h
          · have := h.few; omega
        clear HPC
        obtain ⟨r0, r1⟩ := box2 hb2
        have f0 := frozen_cells ⟨_, hb2⟩ 0
        have f1 := frozen_cells ⟨_, hb2⟩ 1
        have zr := lt_of_cell r0
        go_wp2_with fail
        refine bodyPost_ret (v := .agg #[.int .i64 0, .int .i64 2]) (by simp [results, Try.results46, r0, r1, go_sem]) rfl ⟨by rw [HR.out], hX.trans ?_⟩
        repeat (first | exact hE2 | refine Ext.alloc ?_ _ | refine Ext.drew ?_ | refine Ext.setCell ?_ (by show w.heap.size ≤ B + 1 + 1; omega) _)
      · obtain ⟨c, hPI, hre⟩ : ∃ c, ProveIs C P R id y lo hi c ∧ r = ((bestU (useZ P R c y) lo (hi - lo).toNat).1, 0) := by
          rcases HPC.out with ⟨h, _⟩ | ⟨_, h, _⟩ | ⟨_, _, h, _⟩ | ⟨_, _, c', h, h2⟩
          · exact absurd rfl h
          · exact absurd rfl h
          · exact absurd h h60
          · exact ⟨c', h, h2⟩
        have HRE := Lib.hid hre
        have hrg := hPI.rng
        have hcb := (okC_parts (good_okT hPI.good hPI.find).2.1).2.1
        have HUX := Lib.hid (fun z w' q hz => HUS.out c hPI z w' q hz)
        have hf := hPI.find
        unfold findC at hf
        obtain ⟨k, hk, hi2, hck⟩ : ∃ k, ∃ h : k < C.length, idx (fun c => c.a == id) C = (k : Nat) ∧ c = C[k] := by
          rcases idx_find (fun c => c.a == id) C with ⟨hi, hf2⟩ | ⟨k, hk, hi, hf2⟩
          · rw [hf] at hf2; cases hf2
          · rw [hf] at hf2
            exact ⟨k, hk, hi, Option.some.inj hf2⟩
        rw [hi2] at HCA
        have h5 : ∃ b off, a = some ⟨b, off, none⟩ ∧ At5 w b (off + k * 5) c := by
          rcases HC.out with h | ⟨b, off, ha, h⟩
          · simp [h] at hk
          · exact ⟨b, off, ha, by rw [hck]; exact h k hk⟩
        obtain ⟨b, off, rfl, h5⟩ := h5
        have HX : Hid (∀ w' : World, Ext w w' → w'.cell? ⟨b, off + k * 5, none⟩ = some (.int .i64 c.a) ∧ w'.cell? ⟨b, off + k * 5 + 1, none⟩ = some (.int .i64 c.b) ∧ w'.cell? ⟨b, off + k * 5 + 2, none⟩ = some (.int .i64 c.c) ∧ w'.cell? ⟨b, off + k * 5 + 3, none⟩ = some (.int .i64 c.d) ∧ w'.cell? ⟨b, off + k * 5 + 4, none⟩ = some (.int .i64 c.e)) := fun w' q => h5.ext q
        have hbB := lt_of_cell h5.1
        simp only at hbB
        clear h5 hck hi2 HC hf hre hPI HPC HUS HFE HFEW
        go_upto_region 9 with fail
        have hk0 : (0 : Int) ≤ (k : Int) := by omega
        have hk1 : (k : Int) < (C.length : Int) := by omega
        have hmax : (if (0 : Int) < (k : Int) then (k : Int) else 0) = (k : Int) := by split <;> omega
        clear k0 k1 k2 y0 y1 y2 y3 hbX h60 e64 hPR
        go_cut [11] (fun v wx => ∃ N, v = .pointer (some ⟨N, 0, none⟩) ∧ Ext w2 wx ∧ wx.heap[N]? = some (.cells #[.int .i64 c.a, .int .i64 c.b, .int .i64 c.c, .int .i64 c.d, .int .i64 c.e] 53))
        case first => as_aux_lemma =>
          obtain ⟨k0, k1, k2⟩ := box3' hb0
          have zB2 := lt_of_cell k0
          go_region_with (go_at_call 50; first
            | (with_reducible refine (HCA.out _ hE2.drew).mono ?_; rintro e w3 ⟨rfl, hX3⟩; have hX3' := Ext.trans (Ext.drew (Ext.refl w2)) hX3; obtain ⟨q0, q1, q2, q3, q4⟩ := HX.out w3 (hE2.trans hX3'); have zb := lt_of_cell q0; obtain ⟨m0, m1, m2⟩ := box3' (hX3'.block hb0); have zm := lt_of_cell m0)
            | (with_reducible refine (HCA.out _ (hE2.alloc _).drew).mono ?_; rintro e w3 ⟨rfl, hX3⟩; have hX3' := Ext.trans (((Ext.refl w2).alloc _).drew) hX3; obtain ⟨q0, q1, q2, q3, q4⟩ := HX.out w3 (hE2.trans hX3'); have zb := lt_of_cell q0; obtain ⟨m0, m1, m2⟩ := box3' (hX3'.block hb0); have zm := lt_of_cell m0; have hN := hX3.block (new_drew w2 _); obtain ⟨t0, t1, t2, t3, t4⟩ := box5 hN; obtain ⟨y0, y1, y2, y3, y4⟩ := frozen5 hN))
          all_goals
            go_wp2_with fail
            go_meet
            case rel => first | with_reducible exact relB hX3' (Nat.le_refl _) hN | with_reducible exact relA hX3' _
        case rest =>
        obtain ⟨Z, rfl, hX3, hbZ⟩ := hcut
        obtain ⟨w3, rfl⟩ : ∃ w', w' = wc := ⟨_, rfl⟩
        have hE3 := hE2.trans hX3
        replace hb0 := hX3.block hb0
        replace hb1 := hX3.block hb1
        replace hb2 := hX3.block hb2
        clear hX3 HX hmax hk0 hk1 HCA hE2 hbB
        obtain ⟨q, hq⟩ : ∃ q : Nat, hi - lo = (q : Int) := ⟨(hi - lo).toNat, by omega⟩
        have HQ := Lib.hid hq
        have hqt : (hi - lo).toNat = q := by omega
        rw [hqt] at HRE
        clear hq hqt
        obtain ⟨U0, hU0⟩ : ∃ u, useZ P R c y lo = u := ⟨_, rfl⟩
        have HU1 := Lib.hid (fun w' q => HUX.out lo w' q ⟨hrg.1, by omega⟩)
        rw [hU0] at HU1
        obtain ⟨k0, k1, k2⟩ := box3' hb0
        obtain ⟨i0, i1⟩ := box2 hb1
        obtain ⟨c0, c1, c2, c3, c4⟩ := box5 hbZ
        go_wp2_with (go_at_call 88; with_reducible refine (HU1.out _ hE3).mono ?_; rintro e w4 ⟨rfl, hX4⟩; replace hb0 := hX4.block hb0; replace hb1 := hX4.block hb1; replace hb2 := hX4.block hb2; replace hbZ := hX4.block hbZ; obtain ⟨i0, i1⟩ := box2 hb1)
        have hE4 := hE3.trans hX4
        have HS0 : Hid (bestU (useZ P R c y) lo 0 = (lo, U0)) := by show _ = _; rw [← hU0]; rfl
        clear k0 k1 k2 i0 i1 c0 c1 c2 c3 c4 hX4 hE3 hU0 HU1
        go_loopw [12, 13, 14] (fun s12 s13 s14 wr => ∃ k : Nat, k ≤ q ∧ s14 = .int .i64 (lo + (k : Int) + 1) ∧ s12 = .int .i64 (bestU (useZ P R c y) lo k).1 ∧ s13 = .int .i64 (bestU (useZ P R c y) lo k).2 ∧ Ext w4 wr) (fun _ _ z _ => (lo + (q : Int) + 1 - intOf z).toNat)
        case atStart => exact ⟨0, Nat.zero_le _, by simp, by rw [HS0.out], by rw [HS0.out], Ext.refl _⟩
        case round =>
          obtain ⟨j, hj, rfl, rfl, rfl, hE⟩ := hrel
          obtain ⟨z, hz⟩ : ∃ z, lo + (j : Int) + 1 = z := ⟨_, rfl⟩
          rw [hz]
          have HZ := Lib.hid hz
          replace hb2 := hE.block hb2
          obtain ⟨i0, i1⟩ := box2 (hE.block hb1)
          by_cases hlt : j < q
          · have hz1 : lo ≤ z ∧ z ≤ hi := by have := HQ.out; omega
            have hz2 : 0 ≤ z ∧ z ≤ 4000 := by omega
            have HST := Lib.hid (bestU_step (u := useZ P R c y) (lo := lo) j)
            rw [show lo + ((j + 1 : Nat) : Int) = z by omega] at HST
            have HU1 := Lib.hid (fun w' q => HUX.out z w' q ⟨by omega, by omega⟩)
            obtain ⟨bp, hbp⟩ : ∃ bp, bestU (useZ P R c y) lo j = bp := ⟨_, rfl⟩
            obtain ⟨U, hU⟩ : ∃ u, useZ P R c y z = u := ⟨_, rfl⟩
            rw [hbp, hU] at HST
            rw [hU] at HU1
            rw [hbp]
            obtain ⟨b1, b2⟩ := bp
            clear hz hbp hU
            obtain ⟨k0, k1, k2⟩ := box3' (hE.block hb0)
            obtain ⟨c0, c1, c2, c3, c4⟩ := box5 (hE.block hbZ)
            by_cases h1 : U < b2
            · have HS2 : Hid (bestU (useZ P R c y) lo (j + 1) = (z, U)) := by show _ = _; rw [HST.out]; exact if_pos h1
              go_wp2_with (go_at_call 88; with_reducible refine (HU1.out _ (hE4.trans hE)).mono ?_; rintro e w5 ⟨rfl, hX5⟩)
              go_roundw
              case rel => exact ⟨j + 1, by omega, by rw [show lo + ((j + 1 : Nat) : Int) + 1 = z + 1 by have := HZ.out; omega], by rw [HS2.out], by rw [HS2.out], hE.trans hX5⟩
              case measure => have := HZ.out; simp [intOf]; omega
            · have HS2 : Hid (bestU (useZ P R c y) lo (j + 1) = (b1, b2)) := by show _ = _; rw [HST.out]; exact if_neg h1
              go_wp2_with (go_at_call 88; with_reducible refine (HU1.out _ (hE4.trans hE)).mono ?_; rintro e w5 ⟨rfl, hX5⟩)
              go_roundw
              case rel => exact ⟨j + 1, by omega, by rw [show lo + ((j + 1 : Nat) : Int) + 1 = z + 1 by have := HZ.out; omega], by rw [HS2.out], by rw [HS2.out], hE.trans hX5⟩
              case measure => have := HZ.out; simp [intOf]; omega
          · obtain rfl : j = q := by omega
            have hz3 : hi < z := by have := HQ.out; omega
            have hz4 : ¬ z ≤ hi := by omega
            obtain ⟨r0, r1⟩ := box2 hb2
            have f0 := frozen_cells ⟨_, hb2⟩ 0
            have f1 := frozen_cells ⟨_, hb2⟩ 1
            have zr := lt_of_cell r0
            go_wp2_with fail
            refine bodyPost_ret (v := .agg #[.int .i64 (bestU (useZ P R c y) lo j).1, .int .i64 0]) (by simp [results, Try.results46, r0, r1, go_sem]) rfl ⟨by rw [HRE.out], hX.trans ?_⟩
            repeat (first | exact (hE4.trans hE) | refine Ext.alloc ?_ _ | refine Ext.drew ?_ | refine Ext.setCell ?_ (by show w.heap.size ≤ B + 1 + 1; omega) _)
    · have HR : Hid (r = (0, m)) := by
        show _ = _
        rcases HPC.out with ⟨h, _⟩ | ⟨_, _, h⟩ | ⟨_, h, _⟩ | ⟨_, h, _⟩
        · exact absurd rfl h
        · exact h
        · exact absurd h hm
        · exact absurd h hm
      have g1 : (m == 0) = false := by simpa using hm
      have g2 : (m != 0) = true := by simp [bne, g1]
      clear HPC hm
      obtain ⟨r0, r1⟩ := box2 hb2
      have f0 := frozen_cells ⟨_, hb2⟩ 0
      have f1 := frozen_cells ⟨_, hb2⟩ 1
      have zr := lt_of_cell r0
      go_wp2_with fail
      refine bodyPost_ret (v := .agg #[.int .i64 0, .int .i64 m]) (by simp [results, Try.results46, r0, r1, go_sem]) rfl ⟨by rw [HR.out], hX.trans ?_⟩
      repeat (first | exact hE2 | refine Ext.alloc ?_ _ | refine Ext.drew ?_ | refine Ext.setCell ?_ (by show w.heap.size ≤ B + 1 + 1; omega) _)
  · have HR : Hid (r = (0, n)) := by
      show _ = _
      rcases HPC.out with ⟨_, h⟩ | ⟨h, _⟩ | ⟨h, _⟩ | ⟨h, _⟩
      · exact h
      · exact absurd h hn
      · exact absurd h hn
      · exact absurd h hn
    have g1 : (n == 0) = false := by simpa using hn
    have g2 : (n != 0) = true := by simp [bne, g1]
    clear HPC hn
    obtain ⟨r0, r1⟩ := box2 hb2
    have f0 := frozen_cells ⟨_, hb2⟩ 0
    have f1 := frozen_cells ⟨_, hb2⟩ 1
    have zr := lt_of_cell r0
    go_wp2_with fail
    refine bodyPost_ret (v := .agg #[.int .i64 0, .int .i64 n]) (by simp [results, Try.results46, r0, r1, go_sem]) rfl ⟨by rw [HR.out], hX.trans ?_⟩
    repeat (first | exact hE1 | refine Ext.alloc ?_ _ | refine Ext.drew ?_ | refine Ext.setCell ?_ (by show w.heap.size ≤ B + 1 + 1; omega) _)
end Go.Proofs.Ytaggjclaehigjaa
