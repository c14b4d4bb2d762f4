/- Contracts of Spell, agreed, Long. -/
import Derived.Test.YtaggjclaehigjaaK2
import Derived.Test.YtaggjclaehigjaaP3
namespace Go.Proofs.Ytaggjclaehigjaa
open Go.RowKit
/-- what Spell returns -/
def spellR (C P R : List Five) (id y : Int) : (Int × Int) × Int :=
  if atE C P R id y = 0 then (match findC C id with | some c => (spellZ R c y, 0) | none => ((0, 0), 0)) else ((0, 0), atE C P R id y)
abbrev spanT (r : (Int × Int) × Int) : Value := .tuple #[.agg #[.int .i64 r.1.1, .int .i64 r.1.2], .int .i64 r.2]
set_option maxRecDepth 100000 in
set_option maxHeartbeats 4000000 in
theorem Spell_any (W : World) (C P R : List Five) (v : Value) (id y : Int) (w : World) (hX : Ext W w) (hv : Wk w v C P R) :
    Calls Try.prog 16 #[v, .int .i64 id, .int .i64 y] w fun e w' => e = .returned (spanT (spellR C P R id y)) ∧ Ext W w' := by
  have HAT := Lib.hid (fun w' (x : Ext w w') => at_any w' C P R v id y w' (Ext.refl _) (hv.ext x))
  obtain ⟨vC, vP, vR, rfl, _⟩ := hv
  have hX0 : Ext w ((w.alloc (.cells #[vC, vP, vR] 26)).alloc (.cells #[.int .i64 0, .int .i64 0] 30)) := ((Ext.refl w).alloc _).alloc _
  go_enter Try.func16, Try.ntmps16
  go_wp2_with fail
  with_reducible refine (HAT.out _ hX0).mono ?_
  rintro e w1 ⟨hX1, (⟨hn, rfl⟩ | ⟨h0, c, s, g, hf, hy, rfl, hs, hi⟩)⟩
  · have HR : Hid (spellR C P R id y = ((0, 0), atE C P R id y)) := by show _ = _; unfold spellR; rw [if_neg hn]
    generalize atE C P R id y = n at HR ⊢
    clear hn
    obtain ⟨hr, hfz⟩ := brule hX1
    have hz : w.heap.size + 1 < w1.heap.size := by have := hX1.le; simp at this; omega
    go_wp2_with fail
    refine bodyPost_ret (v := .tuple #[.agg #[.int .i64 0, .int .i64 0], .int .i64 n]) (by simp [results, Try.results16, hr, hz, go_sem]) rfl ⟨by rw [HR.out], ?_⟩
    have hle := hX.le
    repeat (first | exact hX.trans (hX0.trans hX1) | refine Ext.alloc ?_ _ | refine Ext.setCell ?_ (by simp; omega) _)
  · have HR : Hid (spellR C P R id y = ((s.lo, s.hi), 0)) := by show _ = _; unfold spellR; rw [if_pos h0, hf, hi.sp]
    unfold SpE.val
    clear h0 hf hs hi g hy
    obtain ⟨hr, hfz⟩ := brule hX1
    have hz : w.heap.size + 1 < w1.heap.size := by have := hX1.le; simp at this; omega
    go_wp2_with fail
    refine bodyPost_ret (v := .tuple #[.agg #[.int .i64 s.lo, .int .i64 s.hi], .int .i64 0]) (by simp [results, Try.results16, hr, hz, go_sem]) rfl ⟨by rw [HR.out], ?_⟩
    have hle := hX.le
    repeat (first | exact hX.trans (hX0.trans hX1) | refine Ext.alloc ?_ _ | refine Ext.setCell ?_ (by simp; omega) _)
/-- the error of Long -/
def agE (C P R : List Five) (id y : Int) : Int :=
  if atE C P R id y = 0 then (match findC C id with | some c => if clashesB c.e (innZ P R c (spellZ R c y)) then 9 else 0 | none => 0) else atE C P R id y
/-- what agreed returns -/
def AgPost (W : World) (C P R : List Five) (id y : Int) (e : Ending) (w : World) : Prop :=
  Ext W w ∧ ((agE C P R id y ≠ 0 ∧ e = .returned (.tuple #[zeroS, .int .i64 (agE C P R id y)])) ∨
    (agE C P R id y = 0 ∧ ∃ c s, Good C P R ∧ findC C id = some c ∧ (c.b ≤ y ∧ y ≤ 4000) ∧ e = .returned (.tuple #[s.val, .int .i64 0]) ∧ SpOk w s ∧ SpIs P R c y s ∧ clashesB s.w s.fs = false))
set_option maxRecDepth 100000 in
set_option maxHeartbeats 4000000 in
theorem agreed_any (W : World) (C P R : List Five) (v : Value) (id y : Int) (w : World) (hX : Ext W w) (hv : Wk w v C P R) :
    Calls Try.prog 61 #[v, .int .i64 id, .int .i64 y] w (AgPost W C P R id y) := by
  have HAT := Lib.hid (fun w' (x : Ext w w') => at_any w' C P R v id y w' (Ext.refl _) (hv.ext x))
  obtain ⟨vC, vP, vR, rfl, _⟩ := hv
  have hX0 : Ext w ((w.alloc (.cells #[vC, vP, vR] 26)).alloc (.cells #[.int .i64 0, .int .i64 0, .int .i64 0, .slice none 0 0] 88)) := ((Ext.refl w).alloc _).alloc _
  go_enter Try.func61, Try.ntmps61
  go_wp2_with fail
  with_reducible refine (HAT.out _ hX0).mono ?_
  rintro e w1 ⟨hX1, (⟨hn, rfl⟩ | ⟨h0, c, s, g, hf, hy, rfl, hs, hi⟩)⟩
  · have HR : Hid (agE C P R id y = atE C P R id y) := by show _ = _; unfold agE; rw [if_neg hn]
    have HN := Lib.hid hn
    generalize hq : atE C P R id y = n at HR HN ⊢
    have hnb : (n == 0) = false := by simpa using HN.out
    clear hn hq
    obtain ⟨hr, hfz⟩ := brule hX1
    have hz : w.heap.size + 1 < w1.heap.size := by have := hX1.le; simp at this; omega
    go_wp2_with fail
    refine bodyPost_ret (v := .tuple #[zeroS, .int .i64 n]) (by simp [results, Try.results61, hr, hz, go_sem]) rfl ⟨?_, .inl ⟨by rw [HR.out]; exact HN.out, by rw [HR.out]⟩⟩
    have hle := hX.le
    repeat (first | exact hX.trans (hX0.trans hX1) | refine Ext.alloc ?_ _ | refine Ext.setCell ?_ (by simp; omega) _)
  · have hcl : clS s = clashesB c.e (innZ P R c (spellZ R c y)) := by unfold clS; rw [clS_eq, hi.we]; exact clashesB_perm hi.fs
    have HCL := Lib.hid (fun w' (x : Ext w1 w') => clashes_any w' s w' (Ext.refl _) (hs.ext x))
    have hbr : w1.heap[w.heap.size + 1]? = some (.cells #[.int .i64 0, .int .i64 0, .int .i64 0, .slice none 0 0] 88) := by
      have := heap_alloc_new (w.alloc (.cells #[vC, vP, vR] 26)) (.cells #[.int .i64 0, .int .i64 0, .int .i64 0, .slice none 0 0] 88)
      rw [World.size_alloc] at this
      exact hX1.block this
    cases hb : clashesB c.e (innZ P R c (spellZ R c y)) with
    | true =>
      have HR : Hid (agE C P R id y = 9) := by show _ = _; unfold agE; rw [if_pos h0, hf]; simp [hb]
      rw [hb] at hcl
      rw [hcl] at HCL
      unfold SpE.val at HCL ⊢
      clear hcl hb h0 hf hs hi g hy hbr
      obtain ⟨hr, hfz⟩ := brule hX1
      have hz : w.heap.size + 1 < w1.heap.size := by have := hX1.le; simp at this; omega
      have hz' : w.heap.size < w1.heap.size := by omega
      go_wp2_with (go_at_call 66; with_reducible refine (HCL.out _ ((Ext.refl _).alloc _)).mono ?_; rintro e w2 ⟨rfl, hX2⟩; obtain ⟨hr2, hfz2⟩ := brule hX2; have hz2 : w.heap.size + 1 < w2.heap.size := (by have := hX2.le; simp at this; omega))
      refine bodyPost_ret (v := .tuple #[zeroS, .int .i64 9]) (by simp [results, Try.results61, hr, hr2, hz, hz', go_sem]) rfl ⟨?_, .inl ⟨by rw [HR.out]; decide, by rw [HR.out]⟩⟩
      have hle := hX.le
      repeat (first | exact hX.trans (hX0.trans (hX1.trans (Ext.trans ((Ext.refl _).alloc _) hX2))) | refine Ext.alloc ?_ _ | refine Ext.setCell ?_ (by simp; omega) _)
    | false =>
      have HR : Hid (agE C P R id y = 0) := by show _ = _; unfold agE; rw [if_pos h0, hf]; simp [hb]
      have HCF : Hid (clashesB s.w s.fs = false) := by show _ = _; rw [← hb, hi.we]; exact clashesB_perm hi.fs
      rw [hb] at hcl
      rw [hcl] at HCL
      have HF := Lib.hid hf
      have HS := Lib.hid hs
      have HI := Lib.hid hi
      have HBR := Lib.hid hbr
      have hval : s.val = .agg #[.int .i64 s.lo, .int .i64 s.hi, .int .i64 s.w, .slice s.a s.n s.c] := rfl
      rw [hval] at HCL ⊢
      have HVAL := Lib.hid hval
      clear hcl hb h0 hf hs hi hbr hval
      obtain ⟨hr, hfz⟩ := brule hX1
      have hz : w.heap.size + 1 < w1.heap.size := by have := hX1.le; simp at this; omega
      have hz' : w.heap.size < w1.heap.size := by omega
      go_wp2_with (go_at_call 66; with_reducible refine (HCL.out _ ((Ext.refl _).alloc _)).mono ?_; rintro e w2 ⟨rfl, hX2⟩; obtain ⟨hr2, hfz2⟩ := brule hX2; have hz2 : w.heap.size + 1 < w2.heap.size := (by have := hX2.le; simp at this; omega))
      refine bodyPost_ret (v := .tuple #[.agg #[.int .i64 s.lo, .int .i64 s.hi, .int .i64 s.w, .slice s.a s.n s.c], .int .i64 0]) (by simp [results, Try.results61, hr, hr2, hz, hz', go_sem]) rfl ⟨?_, .inr ⟨HR.out, c, s, g, HF.out, hy, by rw [HVAL.out], ?_, HI.out, HCF.out⟩⟩
      · have hle := hX.le
        repeat (first | exact hX.trans (hX0.trans (hX1.trans (Ext.trans ((Ext.refl _).alloc _) hX2))) | refine Ext.alloc ?_ _ | refine Ext.setCell ?_ (by simp; omega) _)
      · refine ((HS.out.ext ((Ext.refl _).alloc _)).ext hX2).kx ?_ (hX2.block (((Ext.refl _).alloc _ : Ext w1 _).block HBR.out)) zeroS_no (Nat.le_refl _)
        exact ((((KX.refl _ _).set _ _).set _ _).set _ _).set _ _
end Go.Proofs.Ytaggjclaehigjaa
