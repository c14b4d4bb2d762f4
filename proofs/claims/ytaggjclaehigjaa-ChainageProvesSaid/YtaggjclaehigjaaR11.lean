/- Contracts of the specification's functions: Long, Rests. -/
import Derived.Test.YtaggjclaehigjaaR10
import Derived.Test.YtaggjclaehigjaaK5
namespace Go.Proofs.Ytaggjclaehigjaa
open Go.RowKit
/-- what Rests returns -/
def restR (C P R : List Five) (id y : Int) : (Int × Int) × Int :=
  if agE C P R id y = 0 then (match findC C id with | some c => (((lmL c.e y (innZ P R c (spellZ R c y))).2, (lmH c.e y (innZ P R c (spellZ R c y))).2), 0) | none => ((0, 0), 0)) else ((0, 0), agE C P R id y)
theorem agE_zero {C P R : List Five} {id y : Int} (h : agE C P R id y = 0) : ∃ c, Good C P R ∧ findC C id = some c ∧ (c.b ≤ y ∧ y ≤ 4000) := by
  by_cases h0 : atE C P R id y = 0
  · obtain ⟨c, g, hf, hy, _⟩ := spellR_at h0
    exact ⟨c, g, hf, hy⟩
  · unfold agE at h
    rw [if_neg h0] at h
    exact absurd h h0
/-- the five numbers that are known -/
theorem knownC_eq (C P R : List Five) (id y : Int) : knownC C P R id y = [.int .i64 (longR C P R id y).1.1, .int .i64 (longR C P R id y).1.2, .int .i64 (restR C P R id y).1.1, .int .i64 (restR C P R id y).1.2, .int .i64 (longR C P R id y).2] ∧ (longR C P R id y).2 = (restR C P R id y).2 := by
  by_cases h : agE C P R id y = 0
  · obtain ⟨c, g, hf, hy⟩ := agE_zero h
    rw [knownC_ok h hf]
    unfold longR restR
    rw [if_pos h, if_pos h, hf]
    simp only
    refine ⟨?_, trivial⟩
    rw [show (lmL c.e y (innZ P R c (spellZ R c y))).1 = limLo c.e y (innZ P R c (spellZ R c y)) from (refLo_rest _ _ _).1, show (lmH c.e y (innZ P R c (spellZ R c y))).1 = limHi c.e y (innZ P R c (spellZ R c y)) from (refHi_rest _ _ _).1]
  · rw [knownC_err h]
    unfold longR restR
    rw [if_neg h, if_neg h]
    exact ⟨rfl, rfl⟩
abbrev restT (r : (Int × Int) × Int) : Value := .tuple #[.int .i64 r.1.1, .int .i64 r.1.2, .int .i64 r.2]
theorem inn_num {C P R : List Five} (g : Good C P R) (c : Five) (s : Int × Int) : ∀ t ∈ innZ P R c s, 0 ≤ t.i := by
  intro t ht
  unfold innZ at ht
  rcases List.mem_append.1 ht with h | h
  · split at h
    · rw [List.mem_singleton.1 h]; exact Int.le_refl _
    · exact absurd h (by simp)
  · obtain ⟨x, hx, rfl⟩ := List.mem_map.1 h
    have hx := (List.mem_filter.1 hx).1
    have key : ∀ first, okT C x first = true → 0 ≤ x.a := by
      intro first h
      unfold okT at h
      cases hf : findC C x.b with
      | none => rw [hf] at h; cases h
      | some c =>
        rw [hf] at h
        simp only [Bool.and_eq_true, inB_iff] at h
        omega
    rcases List.mem_append.1 hx with hx | hx
    · exact key 0 (g.okp x hx)
    · exact key 1 (g.okr x hx)
/-- Rests of the program, as the specification says it -/
theorem RestsS (W : World) (C P R : List Five) (v : Value) (id y : Int) (w : World) (hX : Ext W w) (hv : Wk w v C P R) :
    Calls Try.prog 22 #[v, .int .i64 id, .int .i64 y] w fun e w' => e = .returned (restT (restR C P R id y)) ∧ Ext W w' := by
  refine (Rests_any W C P R v id y w hX hv).mono ?_
  rintro e w' ⟨hX', ⟨hn, rfl⟩ | ⟨h0, c, l, g, hf, hy, hp, rfl⟩⟩
  · refine ⟨?_, hX'⟩
    unfold restR
    rw [if_neg hn]
  · refine ⟨?_, hX'⟩
    have hr : restR C P R id y = (((lmL c.e y (innZ P R c (spellZ R c y))).2, (lmH c.e y (innZ P R c (spellZ R c y))).2), 0) := by
      unfold restR
      rw [if_pos h0, hf]
    have hnum : ∀ t ∈ l, 0 ≤ t.i := fun t ht => inn_num g c _ t (hp.mem_iff.1 ht)
    have e1 := ((foldLo_rest (w := c.e) (y := y) hnum).perm hp)
    rw [limLo_perm hp] at e1
    have e1' := e1.uniq (refLo_rest c.e y (innZ P R c (spellZ R c y))).2
    have e2 := ((foldHi_rest (w := c.e) (y := y) hnum).perm hp)
    rw [limHi_perm hp] at e2
    have e2' := e2.uniq (refHi_rest c.e y (innZ P R c (spellZ R c y))).2
    rw [hr, limLo_perm hp, limHi_perm hp, e1', e2']
    rfl
set_option maxRecDepth 100000 in
set_option maxHeartbeats 2000000 in
theorem rLong (W : World) (C P R : List Five) (v : Value) (id y : Int) (w : World) (hX : Ext W w) (hv : Wk w v C P R) :
    Calls Try.prog 21 #[v, .int .i64 id, .int .i64 y] w fun e w' => e = .returned (spanT (longR C P R id y)) ∧ Ext W w' := by
  have HK := Lib.hid (fun w' (q : Ext w w') => rknown w' C P R v id y w' (Ext.refl _) (hv.ext q))
  obtain ⟨h1, h2⟩ := knownC_eq C P R id y
  rw [h1] at HK
  obtain ⟨vC, vP, vR, rfl, -⟩ := hv
  obtain ⟨⟨⟨a, b⟩, n⟩, hr⟩ : ∃ r, longR C P R id y = r := ⟨_, rfl⟩
  obtain ⟨⟨⟨l, t⟩, m⟩, hr2⟩ : ∃ r, restR C P R id y = r := ⟨_, rfl⟩
  rw [hr, hr2] at HK
  rw [hr] at h2 ⊢
  clear h1 h2 hr hr2
  have hX0 : Ext w ((w.alloc (.cells #[vC, vP, vR] 26)).alloc (.cells #[.int .i64 0, .int .i64 0] 30)) := ((Ext.refl w).alloc _).alloc _
  have hb1 := heap_alloc_new (w.alloc (.cells #[vC, vP, vR] 26)) (.cells #[.int .i64 0, .int .i64 0] 30)
  rw [World.size_alloc] at hb1
  obtain ⟨B, hBB⟩ : ∃ B, w.heap.size = B := ⟨_, rfl⟩
  rw [hBB] at hb1
  go_enter Try.func21, Try.ntmps21
  go_wp2_with fail
  with_reducible refine (HK.out _ hX0).mono ?_
  rintro e w1 ⟨rfl, hX1⟩
  have hE1 := hX0.trans hX1
  have hb1 := hX1.block hb1
  obtain ⟨r0, r1⟩ := box2 hb1
  have f0 := frozen_cells ⟨_, hb1⟩ 0
  have f1 := frozen_cells ⟨_, hb1⟩ 1
  have z1 := lt_of_cell r0
  have hb2 := ((Ext.refl w1).alloc (.cells #[.int .i64 a, .int .i64 b, .int .i64 l, .int .i64 t, .int .i64 n] 111)).block hb1
  clear HK hX0 hX1
  go_wp2_with fail
  go_region
  all_goals
    go_wp2_with fail
    refine bodyPost_ret (v := .tuple #[.agg #[.int .i64 a, .int .i64 b], .int .i64 n]) (by simp [results, Try.results21, r0, r1, z1, go_sem]) rfl ⟨rfl, ?_⟩
    exact hX.trans (((hE1.setCell (by show w.heap.size ≤ B + 1; omega) _).setCell (by show w.heap.size ≤ B + 1; omega) _).alloc _).drew
set_option maxRecDepth 100000 in
set_option maxHeartbeats 2000000 in
theorem rRests (W : World) (C P R : List Five) (v : Value) (id y : Int) (w : World) (hX : Ext W w) (hv : Wk w v C P R) :
    Calls Try.prog 23 #[v, .int .i64 id, .int .i64 y] w fun e w' => e = .returned (restT (restR C P R id y)) ∧ Ext W w' := by
  have HK := Lib.hid (fun w' (q : Ext w w') => rknown w' C P R v id y w' (Ext.refl _) (hv.ext q))
  obtain ⟨h1, h2⟩ := knownC_eq C P R id y
  rw [h1] at HK
  obtain ⟨vC, vP, vR, rfl, -⟩ := hv
  obtain ⟨⟨⟨a, b⟩, n⟩, hr⟩ : ∃ r, longR C P R id y = r := ⟨_, rfl⟩
  obtain ⟨⟨⟨l, t⟩, m⟩, hr2⟩ : ∃ r, restR C P R id y = r := ⟨_, rfl⟩
  rw [hr, hr2] at HK
  rw [hr, hr2] at h2
  rw [hr2]
  simp only at h2
  subst h2
  clear h1 hr hr2
  have hX0 : Ext w (w.alloc (.cells #[vC, vP, vR] 26)) := (Ext.refl w).alloc _
  go_enter Try.func23, Try.ntmps23
  go_wp2_with fail
  with_reducible refine (HK.out _ hX0).mono ?_
  rintro e w1 ⟨rfl, hX1⟩
  have hE1 := hX0.trans hX1
  clear HK hX0 hX1
  go_wp2_with fail
  go_quiet (fail)
  go_wp2_with fail
  refine bodyPost_ret (v := .tuple #[.int .i64 l, .int .i64 t, .int .i64 n]) (by simp [results, Try.results23, go_sem]) rfl ⟨rfl, ?_⟩
  exact hX.trans ((hE1.alloc _).drewN _)
end Go.Proofs.Ytaggjclaehigjaa
