/- Contract of Distance. -/
import Derived.Test.YtaggjclaehigjaaK4
namespace Go.Proofs.Ytaggjclaehigjaa
open Go.RowKit
/-- the terms of a measure -/
def okM (c : Five) (y n k s : Int) : Bool := inB y c.b 4000 && inB n 0 100000 && inB k 0 99 && inB s 0 100000
/-- what Distance returns -/
def distR (C P R : List Five) (id y n k s : Int) : (Int × Int) × Int :=
  if chk C P R = 0 then (match findC C id with
    | some c => if okM c y n k s then (if (longR C P R id y).2 = 0 then ((max 0 (100 * n + k - s) * (longR C P R id y).1.1 / 10000, ((100 * n + k + s) * (longR C P R id y).1.2 + 9999) / 10000), 0) else ((0, 0), (longR C P R id y).2)) else ((0, 0), 1)
    | none => ((0, 0), 1)) else ((0, 0), chk C P R)
theorem limLo_bd {w y : Int} {l : List Four} (hw : 0 ≤ w) (h : ∀ t ∈ l, OkF t) : 9000 ≤ limLo w y l ∧ limLo w y l ≤ 12000 := by
  have key : ∀ (l : List Four), (∀ t ∈ l, OkF t) → ∀ m, m ≤ 12000 → l.foldl (fun m t => max m (loZ w y t)) m ≤ 12000 ∧ m ≤ l.foldl (fun m t => max m (loZ w y t)) m := by
    intro l
    induction l with
    | nil => intro _ m hm; exact ⟨hm, Int.le_refl _⟩
    | cons t l ih =>
      intro h m hm
      have ht := h t (by simp)
      have h0 : 0 ≤ w * max 0 (t.y - y) := Int.mul_nonneg hw (Int.le_max_left _ _)
      have h1 : max m (loZ w y t) ≤ 12000 := by unfold loZ OkF at *; omega
      have := ih (fun t ht => h t (by simp [ht])) _ h1
      exact ⟨this.1, Int.le_trans (Int.le_max_left _ _) this.2⟩
  have := key l h 9000 (by omega)
  exact ⟨this.2, this.1⟩
theorem long_bd {C P R : List Five} {id y : Int} {c : Five} (hc : chk C P R = 0) (hf : findC C id = some c) (hy : inB y c.b 4000 = true) {a b : Int} (hl : longR C P R id y = ((a, b), 0)) : (9000 ≤ a ∧ a ≤ 12000) ∧ 9000 ≤ b ∧ b ≤ 12000 := by
  have g := chk_zero.1 hc
  have hyy := inB_iff.1 hy
  have hsp := spell_le (R := R) hyy.1 hyy.2
  have hw := (okC_parts (good_okT g hf).2.1).2.2.2.1
  have hok := (innZ_ok g hf (lo := (spellZ R c y).1) (hi := (spellZ R c y).2) hsp.1 (by omega)).1
  unfold longR at hl
  by_cases h0 : agE C P R id y = 0
  · rw [if_pos h0, hf] at hl
    injection hl with hl _
    injection hl with ha hb
    rw [← ha, ← hb]
    refine ⟨limLo_bd hw hok, ?_⟩
    have := hiUp_bd (w := c.e) (y := y) (innZ P R c (spellZ R c y)).length hw hok
    unfold hiUp at this
    rwa [List.take_length] at this
  · rw [if_neg h0] at hl
    injection hl with _ hl
    exact absurd hl h0
theorem dist_num {n k s a b : Int} (hn1 : 0 ≤ n) (hn2 : n ≤ 100000) (hk1 : 0 ≤ k) (hk2 : k ≤ 99) (hs1 : 0 ≤ s) (hs2 : s ≤ 100000) (ha : 9000 ≤ a ∧ a ≤ 12000) (hb : 9000 ≤ b ∧ b ≤ 12000) :
    wrap64 ((wrap64 (max 0 (100 * n + k - s) * a)).tdiv 10000) = max 0 (100 * n + k - s) * a / 10000 ∧
    wrap64 ((wrap64 (wrap64 (wrap64 ((100 * n + k + s) * b) + 10000) - 1)).tdiv 10000) = ((100 * n + k + s) * b + 9999) / 10000 := by
  have r1 := mul_rng (a := max 0 (100 * n + k - s)) (b := a) (A := 10000099) (B := 12000) (by omega) (by omega) (by omega) (by omega)
  have r2 := mul_rng (a := 100 * n + k + s) (b := b) (A := 10100099) (B := 12000) (by omega) (by omega) (by omega) (by omega)
  generalize max 0 (100 * n + k - s) * a = p at r1 ⊢
  generalize (100 * n + k + s) * b = q at r2 ⊢
  rw [IntWalk.wrap64_in p (by omega), Int.tdiv_eq_ediv_of_nonneg (by omega), IntWalk.wrap64_in _ (by omega), IntWalk.wrap64_in q (by omega), IntWalk.wrap64_in (q + 10000) (by omega), IntWalk.wrap64_in (q + 10000 - 1) (by omega), Int.tdiv_eq_ediv_of_nonneg (by omega), IntWalk.wrap64_in _ (by omega)]
  exact ⟨rfl, by omega⟩
set_option maxRecDepth 100000 in
set_option maxHeartbeats 16000000 in
theorem Distance_any (W : World) (C P R : List Five) (v : Value) (id y n k s : Int) (w : World) (hX : Ext W w) (hv : Wk w v C P R) :
    Calls Try.prog 25 #[v, .agg #[.int .i64 id, .int .i64 y, .int .i64 n, .int .i64 k, .int .i64 s]] w fun e w' => e = .returned (spanT (distR C P R id y n k s)) ∧ Ext W w' := by
  have HCK := Lib.hid (fun w' (x : Ext w w') => Check_any w' C P R v w' (Ext.refl _) (hv.ext x))
  have HLG := Lib.hid (fun w' (x : Ext w w') => Long_any w' C P R v id y w' (Ext.refl _) (hv.ext x))
  obtain ⟨vC, vP, vR, rfl, hC, hP, hR, hn⟩ := hv
  have HC := Lib.hid hC
  clear hC hP hR hn
  have hX0 : Ext w (((w.alloc (.cells #[vC, vP, vR] 26)).alloc (.cells #[.int .i64 id, .int .i64 y, .int .i64 n, .int .i64 k, .int .i64 s] 41)).alloc (.cells #[.int .i64 0, .int .i64 0] 30)) := (((Ext.refl w).alloc _).alloc _).alloc _
  by_cases hE : chk C P R = 0
  · have HE := Lib.hid hE
    cases hf : findC C id with
    | none =>
      have HD : Hid (distR C P R id y n k s = ((0, 0), 1)) := by show _ = _; unfold distR; rw [if_pos hE, hf]
      have HFV := Lib.hid (findV_none hf)
      clear hE hf
      go_enter Try.func25, Try.ntmps25
      go_wp2_with (first
        | (go_at_call 18; with_reducible refine (HCK.out _ hX0).mono ?_; rintro e w1 ⟨rfl, hX1⟩; rw [HE.out]; obtain ⟨hr1, hfz1⟩ := brule hX1; have hz1 : w.heap.size + 2 < w1.heap.size := (by have := hX1.le; simp at this; omega); have hy1 : w.heap.size + 1 < w1.heap.size := (by omega); have hx1 : w.heap.size < w1.heap.size := (by omega))
        | (go_at_call 55; with_reducible refine (find_any _ C _ _ _ _ _ (Ext.refl _) ((HC.out.ext hX0).ext hX1)).mono ?_; rintro e w2 ⟨rfl, hX2⟩; rw [HFV.out]; obtain ⟨hr2, hfz2⟩ := brule hX2; have hz2 : w.heap.size + 2 < w2.heap.size := (by have := hX2.le; omega); have hy2 : w.heap.size + 1 < w2.heap.size := (by omega); have hx2 : w.heap.size < w2.heap.size := (by omega)))
      refine bodyPost_ret (v := .tuple #[.agg #[.int .i64 0, .int .i64 0], .int .i64 1]) (by simp [results, Try.results25, hr1, hr2, hz1, hz2, go_sem]) rfl ⟨by rw [HD.out], ?_⟩
      have hle := hX.le
      repeat (first | exact hX.trans (hX0.trans (hX1.trans hX2)) | refine Ext.alloc ?_ _ | refine Ext.setCell ?_ (by simp; omega) _)
    | some c =>
      have HFV := Lib.hid (findV_some hf)
      have HDF : Hid (okM c y n k s = false → distR C P R id y n k s = ((0, 0), 1)) := by intro h; unfold distR; rw [if_pos hE, hf]; simp [h]
      have HDT : Hid (okM c y n k s = true → distR C P R id y n k s = (if (longR C P R id y).2 = 0 then ((max 0 (100 * n + k - s) * (longR C P R id y).1.1 / 10000, ((100 * n + k + s) * (longR C P R id y).1.2 + 9999) / 10000), 0) else ((0, 0), (longR C P R id y).2))) := by intro h; unfold distR; rw [if_pos hE, hf]; simp [h]
      have HF := Lib.hid (And.intro hE hf)
      have hQ : inB y c.b 4000 = false ∨ (inB y c.b 4000 = true ∧ inB n 0 100000 = false) ∨ (inB y c.b 4000 = true ∧ inB n 0 100000 = true ∧ inB k 0 99 = false) ∨ (inB y c.b 4000 = true ∧ inB n 0 100000 = true ∧ inB k 0 99 = true ∧ inB s 0 100000 = false) ∨ (inB y c.b 4000 = true ∧ inB n 0 100000 = true ∧ inB k 0 99 = true ∧ inB s 0 100000 = true) := by
        cases inB y c.b 4000 <;> cases inB n 0 100000 <;> cases inB k 0 99 <;> cases inB s 0 100000 <;> simp
      clear hE hf
      rcases hQ with q1 | ⟨q1, q2⟩ | ⟨q1, q2, q3⟩ | ⟨q1, q2, q3, q4⟩ | ⟨q1, q2, q3, q4⟩
      iterate 4
        · have HD : Hid (distR C P R id y n k s = ((0, 0), 1)) := HDF.out (by unfold okM; simp [*])
          go_enter Try.func25, Try.ntmps25
          go_wp2_with (first
            | (go_at_call 18; with_reducible refine (HCK.out _ hX0).mono ?_; rintro e w1 ⟨rfl, hX1⟩; rw [HE.out]; obtain ⟨hr1, hfz1⟩ := brule hX1; have hz1 : w.heap.size + 2 < w1.heap.size := (by have := hX1.le; simp at this; omega); have hy1 : w.heap.size + 1 < w1.heap.size := (by omega); have hx1 : w.heap.size < w1.heap.size := (by omega))
            | (go_at_call 55; with_reducible refine (find_any _ C _ _ _ _ _ (Ext.refl _) ((HC.out.ext hX0).ext hX1)).mono ?_; rintro e w2 ⟨rfl, hX2⟩; rw [HFV.out]; obtain ⟨hr2, hfz2⟩ := brule hX2; have hz2 : w.heap.size + 2 < w2.heap.size := (by have := hX2.le; omega); have hy2 : w.heap.size + 1 < w2.heap.size := (by omega); have hx2 : w.heap.size < w2.heap.size := (by omega))
            | (go_at_call 53; with_reducible refine (within_any _ _ _ _).mono ?_; rintro e w' ⟨rfl, rfl⟩))
          refine bodyPost_ret (v := .tuple #[.agg #[.int .i64 0, .int .i64 0], .int .i64 1]) (by simp [results, Try.results25, hr1, hr2, hz1, hz2, go_sem]) rfl ⟨by rw [HD.out], ?_⟩
          have hle := hX.le
          repeat (first | exact hX.trans (hX0.trans (hX1.trans hX2)) | refine Ext.alloc ?_ _ | refine Ext.setCell ?_ (by simp; omega) _)
      · have HD := Lib.hid (HDT.out (by unfold okM; simp [*]))
        obtain ⟨⟨⟨a, b⟩, e⟩, hlr⟩ : ∃ r, longR C P R id y = r := ⟨_, rfl⟩
        rw [hlr] at HD
        have HLR := Lib.hid hlr
        clear hlr
        by_cases he : e = 0
        · subst he
          have hbd := long_bd HF.out.1 HF.out.2 q1 HLR.out
          have hn := inB_iff.1 q2
          have hk := inB_iff.1 q3
          have hs := inB_iff.1 q4
          go_enter Try.func25, Try.ntmps25
          go_wp2_with (first
            | (go_at_call 18; with_reducible refine (HCK.out _ hX0).mono ?_; rintro e w1 ⟨rfl, hX1⟩; rw [HE.out]; obtain ⟨hr1, hfz1⟩ := brule hX1; have hz1 : w.heap.size + 2 < w1.heap.size := (by have := hX1.le; simp at this; omega); have hy1 : w.heap.size + 1 < w1.heap.size := (by omega); have hx1 : w.heap.size < w1.heap.size := (by omega))
            | (go_at_call 55; with_reducible refine (find_any _ C _ _ _ _ _ (Ext.refl _) ((HC.out.ext hX0).ext hX1)).mono ?_; rintro e w2 ⟨rfl, hX2⟩; rw [HFV.out]; obtain ⟨hr2, hfz2⟩ := brule hX2; have hz2 : w.heap.size + 2 < w2.heap.size := (by have := hX2.le; omega); have hy2 : w.heap.size + 1 < w2.heap.size := (by omega); have hx2 : w.heap.size < w2.heap.size := (by omega))
            | (go_at_call 53; with_reducible refine (within_any _ _ _ _).mono ?_; rintro e w' ⟨rfl, rfl⟩)
            | (go_at_call 20; with_reducible refine (HLG.out _ ((hX0.trans hX1).trans (hX2.alloc _))).mono ?_; rintro e w3 ⟨rfl, hX3⟩; rw [HLR.out]; obtain ⟨hr3, hfz3⟩ := brule hX3; have hz3 : w.heap.size + 2 < w3.heap.size := (by have := hX3.le; simp at this; omega); have hy3 : w.heap.size + 1 < w3.heap.size := (by omega); have hx3 : w.heap.size < w3.heap.size := (by omega)))
          obtain ⟨E1, E2⟩ := dist_num hn.1 hn.2 hk.1 hk.2 hs.1 hs.2 hbd.1 hbd.2
          rw [E1, E2]
          generalize max 0 (100 * n + k - s) * a / 10000 = z1 at HD ⊢
          generalize ((100 * n + k + s) * b + 9999) / 10000 = z2 at HD ⊢
          refine bodyPost_ret (v := .tuple #[.agg #[.int .i64 z1, .int .i64 z2], .int .i64 0]) (by simp [results, Try.results25, hr1, hr2, hr3, hz1, hz2, hz3, hy2, go_sem]) rfl ⟨by rw [HD.out, if_pos trivial], ?_⟩
          have hle := hX.le
          repeat (first | exact hX.trans (hX0.trans (hX1.trans (hX2.trans (Ext.trans ((Ext.refl _).alloc _) hX3)))) | refine Ext.alloc ?_ _ | refine Ext.setCell ?_ (by simp; omega) _)
        · have hnb : (e == 0) = false := by simpa using he
          have HN := Lib.hid he
          clear he
          go_enter Try.func25, Try.ntmps25
          go_wp2_with (first
            | (go_at_call 18; with_reducible refine (HCK.out _ hX0).mono ?_; rintro e w1 ⟨rfl, hX1⟩; rw [HE.out]; obtain ⟨hr1, hfz1⟩ := brule hX1; have hz1 : w.heap.size + 2 < w1.heap.size := (by have := hX1.le; simp at this; omega); have hy1 : w.heap.size + 1 < w1.heap.size := (by omega); have hx1 : w.heap.size < w1.heap.size := (by omega))
            | (go_at_call 55; with_reducible refine (find_any _ C _ _ _ _ _ (Ext.refl _) ((HC.out.ext hX0).ext hX1)).mono ?_; rintro e w2 ⟨rfl, hX2⟩; rw [HFV.out]; obtain ⟨hr2, hfz2⟩ := brule hX2; have hz2 : w.heap.size + 2 < w2.heap.size := (by have := hX2.le; omega); have hy2 : w.heap.size + 1 < w2.heap.size := (by omega); have hx2 : w.heap.size < w2.heap.size := (by omega))
            | (go_at_call 53; with_reducible refine (within_any _ _ _ _).mono ?_; rintro e w' ⟨rfl, rfl⟩)
            | (go_at_call 20; with_reducible refine (HLG.out _ ((hX0.trans hX1).trans (hX2.alloc _))).mono ?_; rintro e w3 ⟨rfl, hX3⟩; rw [HLR.out]; obtain ⟨hr3, hfz3⟩ := brule hX3; have hz3 : w.heap.size + 2 < w3.heap.size := (by have := hX3.le; simp at this; omega); have hy3 : w.heap.size + 1 < w3.heap.size := (by omega); have hx3 : w.heap.size < w3.heap.size := (by omega)))
          refine bodyPost_ret (v := .tuple #[.agg #[.int .i64 0, .int .i64 0], .int .i64 e]) (by simp [results, Try.results25, hr1, hr2, hr3, hz1, hz2, hz3, hy2, go_sem]) rfl ⟨by rw [HD.out, if_neg HN.out], ?_⟩
          have hle := hX.le
          repeat (first | exact hX.trans (hX0.trans (hX1.trans (hX2.trans (Ext.trans ((Ext.refl _).alloc _) hX3)))) | refine Ext.alloc ?_ _ | refine Ext.setCell ?_ (by simp; omega) _)
  · have HD : Hid (distR C P R id y n k s = ((0, 0), chk C P R)) := by show _ = _; unfold distR; rw [if_neg hE]
    obtain ⟨e, he⟩ : ∃ e, chk C P R = e := ⟨_, rfl⟩
    rw [he] at HD hE
    have HE := Lib.hid he
    have hnb : (e == 0) = false := by simpa using hE
    clear he hE
    go_enter Try.func25, Try.ntmps25
    go_wp2_with (go_at_call 18; with_reducible refine (HCK.out _ hX0).mono ?_; rintro e w1 ⟨rfl, hX1⟩; rw [HE.out]; obtain ⟨hr1, hfz1⟩ := brule hX1; have hz1 : w.heap.size + 2 < w1.heap.size := (by have := hX1.le; simp at this; omega); have hy1 : w.heap.size + 1 < w1.heap.size := (by omega); have hx1 : w.heap.size < w1.heap.size := (by omega))
    refine bodyPost_ret (v := .tuple #[.agg #[.int .i64 0, .int .i64 0], .int .i64 e]) (by simp [results, Try.results25, hr1, go_sem]) rfl ⟨by rw [HD.out], ?_⟩
    have hle := hX.le
    repeat (first | exact hX.trans (hX0.trans hX1) | refine Ext.alloc ?_ _ | refine Ext.setCell ?_ (by simp; omega) _)
end Go.Proofs.Ytaggjclaehigjaa
