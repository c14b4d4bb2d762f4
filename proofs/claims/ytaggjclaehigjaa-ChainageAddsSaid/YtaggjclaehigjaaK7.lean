/- Contract of Total. -/
import Derived.Test.YtaggjclaehigjaaK6
import Derived.Test.YtaggjclaehigjaaR6
import Derived.Test.YtaggjclaehigjaaP7
import Derived.Deep.DeepCutAuto
namespace Go.Proofs.Ytaggjclaehigjaa
open Go.RowKit
def distM (C P R : List Five) (m : Five) : (Int × Int) × Int := distR C P R m.a m.b m.c m.d m.e
def totS (C P R : List Five) (s : (Int × Int) × Int) (m : Five) : (Int × Int) × Int :=
  if s.2 = 0 then (if (distM C P R m).2 = 0 then ((s.1.1 + (distM C P R m).1.1, s.1.2 + (distM C P R m).1.2), 0) else ((0, 0), (distM C P R m).2)) else s
def totL (C P R : List Five) (l : List Five) : (Int × Int) × Int := l.foldl (totS C P R) ((0, 0), 0)
/-- what Total returns -/
def totR (C P R l : List Five) : (Int × Int) × Int := if chk C P R = 0 then (if 100 < l.length then ((0, 0), 2) else totL C P R l) else ((0, 0), chk C P R)
theorem totS_stick {C P R : List Five} {s : (Int × Int) × Int} (h : s.2 ≠ 0) (l : List Five) : l.foldl (totS C P R) s = s := by
  induction l with
  | nil => rfl
  | cons m l ih => rw [List.foldl_cons, show totS C P R s m = s from if_neg h, ih]
theorem totL_succ {C P R l : List Five} {k : Nat} (hk : k < l.length) {x : Five} (hx : x = l[k]) : totL C P R (l.take (k + 1)) = totS C P R (totL C P R (l.take k)) x := by
  unfold totL
  rw [List.take_succ_eq_append_getElem hk, List.foldl_append, ← hx]
  rfl
theorem totL_hit {C P R l : List Five} {k : Nat} (h : (totL C P R (l.take k)).2 ≠ 0) : totL C P R l = totL C P R (l.take k) := by
  conv => lhs; rw [← List.take_append_drop k l]
  unfold totL at h ⊢
  rw [List.foldl_append, totS_stick h]
theorem dist_rng {C P R : List Five} {m : Five} (h : (distM C P R m).2 = 0) : (0 ≤ (distM C P R m).1.1 ∧ (distM C P R m).1.1 ≤ 13000000) ∧ 0 ≤ (distM C P R m).1.2 ∧ (distM C P R m).1.2 ≤ 13000000 := by
  unfold distM distR at h ⊢
  by_cases h0 : chk C P R = 0
  · rw [if_pos h0] at h ⊢
    cases hf : findC C m.a with
    | none => rw [hf] at h; simp at h
    | some c =>
      rw [hf] at h
      simp only at h ⊢
      cases hm : okM c m.b m.c m.d m.e
      · rw [hm] at h; exact absurd h (by simp)
      · rw [hm] at h
        rw [if_pos rfl] at h ⊢
        by_cases hl : (longR C P R m.a m.b).2 = 0
        · rw [if_pos hl] at h ⊢
          unfold okM at hm
          simp only [Bool.and_eq_true] at hm
          obtain ⟨⟨⟨m1, m2⟩, m3⟩, m4⟩ := hm
          have hb := long_bd h0 hf m1 (a := (longR C P R m.a m.b).1.1) (b := (longR C P R m.a m.b).1.2) (by rw [← hl])
          rw [inB_iff] at m2 m3 m4
          generalize (longR C P R m.a m.b).1.1 = a at hb ⊢
          generalize (longR C P R m.a m.b).1.2 = b at hb ⊢
          have r1 := mul_rng (a := max 0 (100 * m.c + m.d - m.e)) (b := a) (A := 10000099) (B := 12000) (by omega) (by omega) (by omega) (by omega)
          have r2 := mul_rng (a := 100 * m.c + m.d + m.e) (b := b) (A := 10100099) (B := 12000) (by omega) (by omega) (by omega) (by omega)
          simp only
          generalize max 0 (100 * m.c + m.d - m.e) * a = p at r1 ⊢
          generalize (100 * m.c + m.d + m.e) * b = q at r2 ⊢
          omega
        · rw [if_neg hl] at h; exact absurd h hl
  · rw [if_neg h0] at h
    exact absurd h h0
theorem totL_rng {C P R : List Five} : ∀ (l : List Five), (totL C P R l).2 = 0 → (0 ≤ (totL C P R l).1.1 ∧ (totL C P R l).1.1 ≤ 13000000 * l.length) ∧ 0 ≤ (totL C P R l).1.2 ∧ (totL C P R l).1.2 ≤ 13000000 * l.length := by
  intro l
  induction l using snoc_ind with
  | h0 => intro _; unfold totL; simp
  | h1 l x ih =>
    have e : totL C P R (l ++ [x]) = totS C P R (totL C P R l) x := by unfold totL; rw [List.foldl_append]; rfl
    rw [e]
    unfold totS
    by_cases h : (totL C P R l).2 = 0
    · rw [if_pos h]
      by_cases h2 : (distM C P R x).2 = 0
      · rw [if_pos h2]
        intro _
        have := ih h
        have := dist_rng h2
        simp only [List.length_append, List.length_singleton]
        omega
      · rw [if_neg h2]
        intro h3
        exact absurd h3 h2
    · rw [if_neg h]
      intro h3
      exact absurd h3 h
set_option maxRecDepth 100000 in
set_option maxHeartbeats 8000000 in
theorem Total_any (W : World) (C P R : List Five) (v : Value) (l : List Five) (u : Value) (w : World) (hX : Ext W w) (hv : Wk w v C P R) (hu : Fives w u l) :
    Calls Try.prog 24 #[v, u] w fun e w' => e = .returned (spanT (totR C P R l)) ∧ Ext W w' := by
  have HCK := Lib.hid (fun w' (q : Ext w w') => Check_any w' C P R v w' (Ext.refl _) (hv.ext q))
  have HDI := Lib.hid (fun (m : Five) w' (q : Ext w w') => Distance_any w' C P R v m.a m.b m.c m.d m.e w' (Ext.refl _) (hv.ext q))
  obtain ⟨vC, vP, vR, rfl, -⟩ := hv
  obtain ⟨a, cap, rfl, hl, hm, hc⟩ := hu.parts
  have HC := Lib.hid hc
  clear hu hc
  have hX0 : Ext w ((w.alloc (.cells #[vC, vP, vR] 26)).alloc (.cells #[.int .i64 0, .int .i64 0] 30)) := ((Ext.refl w).alloc _).alloc _
  have hb0 := ((Ext.refl _).alloc (.cells #[.int .i64 0, .int .i64 0] 30)).block (heap_alloc_new w (.cells #[vC, vP, vR] 26))
  have hb1 := heap_alloc_new (w.alloc (.cells #[vC, vP, vR] 26)) (.cells #[.int .i64 0, .int .i64 0] 30)
  rw [World.size_alloc] at hb1
  obtain ⟨B, hBB⟩ : ∃ B, w.heap.size = B := ⟨_, rfl⟩
  rw [hBB] at hb0 hb1
  go_enter Try.func24, Try.ntmps24
  go_wp2_with fail
  with_reducible refine (HCK.out _ hX0).mono ?_
  rintro e w1 ⟨rfl, hX1⟩
  have hE1 := hX0.trans hX1
  have hb0 := hX1.block hb0
  have hb1 := hX1.block hb1
  obtain ⟨r0, r1⟩ := box2 hb1
  have f0 := frozen_cells ⟨_, hb1⟩ 0
  have f1 := frozen_cells ⟨_, hb1⟩ 1
  clear HCK hX0 hX1
  by_cases h0 : chk C P R = 0
  · rw [h0]
    by_cases hl1 : 100 < l.length
    · have HR : Hid (totR C P R l = ((0, 0), 2)) := by show _ = _; unfold totR; rw [if_pos h0, if_pos hl1]
      go_wp2_with fail
      refine bodyPost_ret (v := .tuple #[.agg #[.int .i64 0, .int .i64 0], .int .i64 2]) (by simp [results, Try.results24, r0, r1, go_sem]) rfl ⟨by rw [HR.out], ?_⟩
      exact hX.trans ((hE1.setCell (by show w.heap.size ≤ B + 1; omega) _).setCell (by show w.heap.size ≤ B + 1; omega) _)
    · have HR : Hid (totR C P R l = totL C P R l) := by show _ = _; unfold totR; rw [if_pos h0, if_neg hl1]
      have hb0' := ((Ext.refl w1).alloc (.cells #[.int .i64 0, .int .i64 0] 30)).block hb0
      have hb1' := ((Ext.refl w1).alloc (.cells #[.int .i64 0, .int .i64 0] 30)).block hb1
      have hb2' := heap_alloc_new w1 (.cells #[.int .i64 0, .int .i64 0] 30)
      have hE2 := hE1.alloc (.cells #[.int .i64 0, .int .i64 0] 30)
      have hDB : B + 1 < w1.heap.size := lt_of_cell r0
      go_wp2_with fail
      obtain ⟨w2, hw2⟩ : ∃ w2, w1.alloc (.cells #[.int .i64 0, .int .i64 0] 30) = w2 := ⟨_, rfl⟩
      rw [hw2] at hb0' hb1' hb2' hE2 ⊢
      clear hw2 hE1 hb0 hb1 r0 r1 f0 f1 h0
      generalize w1.heap.size = D at hb2' hDB ⊢
      go_loopw [24] (fun i wr => ∃ k : Nat, k ≤ l.length ∧ i = .int .i64 k ∧ Ext w wr ∧ wr.heap[B]? = some (.cells #[vC, vP, vR] 26) ∧ wr.heap[B + 1]? = some (.cells #[.int .i64 0, .int .i64 0] 30) ∧
          wr.heap[D]? = some (.cells #[.int .i64 (totL C P R (l.take k)).1.1, .int .i64 (totL C P R (l.take k)).1.2] 30) ∧ Hid ((totL C P R (l.take k)).2 = 0)) (fun i _ => l.length - (intOf i).toNat)
      case atStart => exact ⟨0, Nat.zero_le _, rfl, hE2, hb0', hb1', hb2', rfl⟩
      case round =>
        clear hb0' hb1' hb2' hE2
        obtain ⟨k, hk, rfl, hE, hb0, hb1, hb2, HZ⟩ := hrel
        by_cases hlt : k < l.length
        · obtain ⟨b, off, x, hx, rfl, c0, c1, c2, c3, c4⟩ := five_at HC.out hE hlt
          have HS := Lib.hid (totL_succ (C := C) (P := P) (R := R) hlt hx)
          have HRG := totL_rng (l.take k) HZ.out
          have HHIT := Lib.hid (fun h => totL_hit (C := C) (P := P) (R := R) (l := l) (k := k + 1) h)
          have hlk : (l.take k).length = k := by simp; omega
          rw [hlk] at HRG
          obtain ⟨⟨⟨tl, th⟩, te⟩, ht⟩ : ∃ t, totL C P R (l.take k) = t := ⟨_, rfl⟩
          rw [ht] at HS HRG hb2
          have hte : te = 0 := by have := HZ.out; rw [ht] at this; exact this
          subst hte
          simp only at HRG hb2
          have hDR : (distM C P R x).2 = 0 → _ := fun h => dist_rng (C := C) (P := P) (R := R) (m := x) h
          have HDX := Lib.hid (HDI.out x)
          have hdm : distR C P R x.a x.b x.c x.d x.e = distM C P R x := rfl
          rw [hdm] at HDX
          unfold totS at HS
          obtain ⟨⟨⟨dl, dh⟩, de⟩, hd⟩ : ∃ t, distM C P R x = t := ⟨_, rfl⟩
          rw [hd] at HDX HS hDR
          simp only [if_true] at HS
          simp only at hDR
          clear hx ht hd hlk hdm HZ
          obtain ⟨w0, w1', w2'⟩ := box3' hb0
          have hEa := hE.alloc (.cells #[.int .i64 x.a, .int .i64 x.b, .int .i64 x.c, .int .i64 x.d, .int .i64 x.e] 41)
          have xA := (Ext.refl wr).alloc (.cells #[.int .i64 x.a, .int .i64 x.b, .int .i64 x.c, .int .i64 x.d, .int .i64 x.e] 41)
          have zB := lt_of_cell w0
          go_upto_if 35 with (go_at_call 25; with_reducible refine (HDX.out _ hEa).mono ?_; rintro e w3 ⟨rfl, hX3⟩)
          have hX4 := xA.trans (hX3.alloc (.cells #[.int .i64 dl, .int .i64 dh] 30))
          have g0 := hX4.block hb0
          have g1 := hX4.block hb1
          have g2 := hX4.block hb2
          have g3 := heap_alloc_new w3 (.cells #[.int .i64 dl, .int .i64 dh] 30)
          have hE4 := hE.trans hX4
          have hD3 : D < w3.heap.size := Nat.lt_of_lt_of_le (Array.getElem?_eq_some_iff.1 hb2).1 (xA.trans hX3).le
          obtain ⟨w4, hw4⟩ : ∃ w4, w3.alloc (.cells #[.int .i64 dl, .int .i64 dh] 30) = w4 := ⟨_, rfl⟩
          rw [hw4] at hX4 g0 g1 g2 g3 hE4 ⊢
          clear hw4 hX4 hX3 xA hEa zB w0 w1' w2' hb0 hb1 hb2 hE c0 c1 c2 c3 c4 HDX HDI
          generalize w3.heap.size = A at g3 hD3 ⊢
          by_cases hde : de = 0
          · subst hde
            obtain ⟨d1, d2⟩ := hDR rfl
            have HN : Hid (totL C P R (l.take (k + 1)) = ((tl + dl, th + dh), 0)) := by show _ = _; rw [HS.out]; rfl
            obtain ⟨o0, o1⟩ := box2 g2
            obtain ⟨p0, p1⟩ := box2 g3
            have f0 := frozen_cells ⟨_, g2⟩ 0
            have f1 := frozen_cells ⟨_, g2⟩ 1
            have e1 : IntKind.i64.wrap (tl + dl) = tl + dl := wrap_in (by omega)
            have e2 : IntKind.i64.wrap (th + dh) = th + dh := wrap_in (by omega)
            clear hDR HS HHIT
            go_wp2_with fail
            go_region
            all_goals
              go_wp2_with fail
              exact ⟨⟨k + 1, by omega, by go_num, ((hE4.setCell (by show w.heap.size ≤ D; omega) _).setCell (by show w.heap.size ≤ D; omega) _).drew, set_ne (set_ne g0 (by omega)) (by omega), set_ne (set_ne g1 (by omega)) (by omega), by rw [HN.out]; exact set_eq (set_eq g2), by rw [HN.out]; rfl⟩, by simp [intOf]; omega⟩
          · have HN : Hid (totL C P R (l.take (k + 1)) = ((0, 0), de)) := by show _ = _; rw [HS.out, if_neg hde]
            have HT : Hid (totR C P R l = ((0, 0), de)) := by
              show _ = _
              rw [HR.out, HHIT.out (by rw [HN.out]; exact hde), HN.out]
            obtain ⟨r0, r1⟩ := box2 g1
            have f0 := frozen_cells ⟨_, g1⟩ 0
            have f1 := frozen_cells ⟨_, g1⟩ 1
            have hnb : (de == 0) = false := by simpa using hde
            have hnb2 : (de != 0) = true := by simp [bne, hnb]
            clear hDR HS HHIT
            go_wp2_with fail
            refine bodyPost_ret (v := .tuple #[.agg #[.int .i64 0, .int .i64 0], .int .i64 de]) (by simp [results, Try.results24, r0, r1, go_sem]) rfl ⟨by rw [HT.out], ?_⟩
            exact hX.trans ((hE4.setCell (by show w.heap.size ≤ B + 1; omega) _).setCell (by show w.heap.size ≤ B + 1; omega) _)
        · obtain rfl : k = l.length := by omega
          rw [List.take_length] at hb2 HZ
          have hR2 : totR C P R l = ((((totL C P R l).1.1, (totL C P R l).1.2)), 0) := by rw [HR.out, ← HZ.out]
          obtain ⟨e0, e1⟩ := box2 hb2
          obtain ⟨r0, r1⟩ := box2 hb1
          have f0 := frozen_cells ⟨_, hb1⟩ 0
          have f1 := frozen_cells ⟨_, hb1⟩ 1
          go_wp2_with fail
          refine bodyPost_ret (v := .tuple #[.agg #[.int .i64 (totL C P R l).1.1, .int .i64 (totL C P R l).1.2], .int .i64 0]) (by simp [results, Try.results24, r0, r1, go_sem]) rfl ⟨by rw [hR2], ?_⟩
          exact hX.trans ((hE.setCell (by show w.heap.size ≤ B + 1; omega) _).setCell (by show w.heap.size ≤ B + 1; omega) _)
  · have HR : Hid (totR C P R l = ((0, 0), chk C P R)) := by show _ = _; unfold totR; rw [if_neg h0]
    have hnb : (chk C P R == 0) = false := by simpa using h0
    generalize chk C P R = n at HR hnb ⊢
    have hnb2 : (n != 0) = true := by simp [bne, hnb]
    clear h0
    go_wp2_with fail
    refine bodyPost_ret (v := .tuple #[.agg #[.int .i64 0, .int .i64 0], .int .i64 n]) (by simp [results, Try.results24, r0, r1, go_sem]) rfl ⟨by rw [HR.out], ?_⟩
    exact hX.trans ((hE1.setCell (by show w.heap.size ≤ B + 1; omega) _).setCell (by show w.heap.size ≤ B + 1; omega) _)
end Go.Proofs.Ytaggjclaehigjaa
