/- Contracts of the specification's functions: Total, Closes. -/
import Derived.Test.YtaggjclaehigjaaR13
import Derived.Test.YtaggjclaehigjaaK8
import Derived.Deep.DeepCutAuto
namespace Go.Proofs.Ytaggjclaehigjaa
open Go.RowKit
theorem new_drew' (w : World) (o : Obj) : (w.alloc o).drew.heap[w.heap.size]? = some o := heap_alloc_new w o
theorem relA2 {w2 w3 : World} {T : Nat} {n : Int} (h : Ext w2 w3) (cs : Array Value) : ∃ N, Value.pointer (some ⟨w3.heap.size, 0, none⟩) = .pointer (some ⟨N, 0, none⟩) ∧ Value.int .i64 n = .int .i64 n ∧ Ext w2 (w3.alloc (.cells cs T)) ∧ (w3.alloc (.cells cs T)).heap[N]? = some (.cells cs T) ∧ w2.heap.size ≤ N :=
  ⟨_, rfl, rfl, h.alloc _, heap_alloc_new w3 _, h.le⟩
theorem relB2 {w2 w3 : World} {T n : Nat} {a b a' b' : Value} {z : Int} (h : Ext w2 w3) (hn : w2.heap.size ≤ n) (hN : w3.heap[n]? = some (.cells #[a', b'] T)) :
    ∃ N, Value.pointer (some ⟨n, 0, none⟩) = .pointer (some ⟨N, 0, none⟩) ∧ Value.int .i64 z = .int .i64 z ∧ Ext w2 ((w3.setCell ⟨n, 0, none⟩ a).setCell ⟨n, 1, none⟩ b) ∧ ((w3.setCell ⟨n, 0, none⟩ a).setCell ⟨n, 1, none⟩ b).heap[N]? = some (.cells #[a, b] T) ∧ w2.heap.size ≤ N :=
  ⟨_, rfl, rfl, (h.setCell (p := ⟨n, 0, none⟩) hn _).setCell (p := ⟨n, 1, none⟩) hn _, set_eq (set_eq hN), hn⟩
set_option maxRecDepth 100000 in
set_option maxHeartbeats 8000000 in
theorem rTotal (W : World) (C P R : List Five) (v : Value) (l : List Five) (u : Value) (w : World) (hX : Ext W w) (hv : Wk w v C P R) (hu : Fives w u l) :
    Calls Try.prog 36 #[v, u] w fun e w' => e = .returned (spanT (totR C P R l)) ∧ Ext W w' := by
  have HCK := Lib.hid (fun w' (q : Ext w w') => rCheck w' C P R v w' (Ext.refl _) (hv.ext q))
  have HDI := Lib.hid (fun (m : Five) w' (q : Ext w w') => rDistance w' C P R v m w' (Ext.refl _) (hv.ext q))
  obtain ⟨vC, vP, vR, rfl, -⟩ := hv
  obtain ⟨a, cap, rfl, hl, hm, hc⟩ := hu.parts
  have HC := Lib.hid hc
  clear hu hc
  have hX0 : Ext w ((w.alloc (.cells #[vC, vP, vR] 26)).alloc (.cells #[.int .i64 0, .int .i64 0] 30)) := ((Ext.refl w).alloc _).alloc _
  have hb0 := ((Ext.refl _).alloc (.cells #[.int .i64 0, .int .i64 0] 30)).block (heap_alloc_new w (.cells #[vC, vP, vR] 26))
  have hb1 := heap_alloc_new (w.alloc (.cells #[vC, vP, vR] 26)) (.cells #[.int .i64 0, .int .i64 0] 30)
  rw [World.size_alloc] at hb1
  obtain ⟨B, hBB⟩ : ∃ B, w.heap.size = B := ⟨_, rfl⟩
  rw [hBB] at hb0 hb1
  go_enter Try.func36, Try.ntmps36
  go_wp2_with fail
  with_reducible refine (HCK.out _ hX0).mono ?_
  rintro e w1 ⟨rfl, hX1⟩
  have hE1 := hX0.trans hX1
  have hb0 := hX1.block hb0
  have hb1 := hX1.block hb1
  obtain ⟨r0, r1⟩ := box2 hb1
  have f0 := frozen_cells ⟨_, hb1⟩ 0
  have f1 := frozen_cells ⟨_, hb1⟩ 1
  clear HCK hX0 hX1
  by_cases h0 : chk C P R = 0
  · rw [h0]
    by_cases hl1 : 100 < l.length
    · have HR : Hid (totR C P R l = ((0, 0), 2)) := by show _ = _; unfold totR; rw [if_pos h0, if_pos hl1]
      go_wp2_with fail
      refine bodyPost_ret (v := .tuple #[.agg #[.int .i64 0, .int .i64 0], .int .i64 2]) (by simp [results, Try.results36, r0, r1, go_sem]) rfl ⟨by rw [HR.out], ?_⟩
      exact hX.trans ((hE1.setCell (by show w.heap.size ≤ B + 1; omega) _).setCell (by show w.heap.size ≤ B + 1; omega) _)
    · have HR : Hid (totR C P R l = totL C P R l) := by show _ = _; unfold totR; rw [if_pos h0, if_neg hl1]
      have hb0' := ((Ext.refl w1).alloc (.cells #[.int .i64 0, .int .i64 0] 30)).block hb0
      have hb1' := ((Ext.refl w1).alloc (.cells #[.int .i64 0, .int .i64 0] 30)).block hb1
      have hb2' := heap_alloc_new w1 (.cells #[.int .i64 0, .int .i64 0] 30)
      have hE2 := hE1.alloc (.cells #[.int .i64 0, .int .i64 0] 30)
      have hDB : B + 1 < w1.heap.size := lt_of_cell r0
      go_wp2_with fail
      obtain ⟨w2, hw2⟩ : ∃ w2, w1.alloc (.cells #[.int .i64 0, .int .i64 0] 30) = w2 := ⟨_, rfl⟩
      rw [hw2] at hb0' hb1' hb2' hE2 ⊢
      clear hw2 hE1 hb0 hb1 r0 r1 f0 f1 h0
      generalize w1.heap.size = D at hb2' hDB ⊢
      go_loopw [8] (fun i wr => ∃ k : Nat, k ≤ l.length ∧ i = .int .i64 k ∧ Ext w wr ∧ wr.heap[B]? = some (.cells #[vC, vP, vR] 26) ∧ wr.heap[B + 1]? = some (.cells #[.int .i64 0, .int .i64 0] 30) ∧
          wr.heap[D]? = some (.cells #[.int .i64 (totL C P R (l.take k)).1.1, .int .i64 (totL C P R (l.take k)).1.2] 30) ∧ Hid ((totL C P R (l.take k)).2 = 0)) (fun i _ => l.length - (intOf i).toNat)
      case atStart => exact ⟨0, Nat.zero_le _, rfl, hE2, hb0', hb1', hb2', rfl⟩
      case round =>
        clear hb0' hb1' hb2' hE2
        obtain ⟨k, hk, rfl, hE, hb0, hb1, hb2, HZ⟩ := hrel
        by_cases hlt : k < l.length
        · obtain ⟨b, off, x, hx, rfl, c0, c1, c2, c3, c4⟩ := five_at HC.out hE hlt
          have HS := Lib.hid (totL_succ (C := C) (P := P) (R := R) hlt hx)
          have HRG := totL_rng (l.take k) HZ.out
          have HHIT := Lib.hid (fun h => totL_hit (C := C) (P := P) (R := R) (l := l) (k := k + 1) h)
          have hlk : (l.take k).length = k := by simp; omega
          rw [hlk] at HRG
          obtain ⟨⟨⟨tl, th⟩, te⟩, ht⟩ : ∃ t, totL C P R (l.take k) = t := ⟨_, rfl⟩
          rw [ht] at HS HRG hb2
          have hte : te = 0 := by have := HZ.out; rw [ht] at this; exact this
          subst hte
          simp only at HRG hb2
          have hDR : (distM C P R x).2 = 0 → _ := fun h => dist_rng (C := C) (P := P) (R := R) (m := x) h
          have HDX := Lib.hid (HDI.out x)
          unfold totS at HS
          obtain ⟨⟨⟨dl, dh⟩, de⟩, hd⟩ : ∃ t, distM C P R x = t := ⟨_, rfl⟩
          rw [hd] at HDX HS hDR
          simp only [if_true] at HS
          simp only at hDR
          clear hx ht hd hlk HZ
          have hk0 : (0 : Int) ≤ (k : Int) := by omega
          have hk1 : (k : Int) < (l.length : Int) := by omega
          have hbB := lt_of_cell c0
          have h5 : At5 wr b (off + k * 5) x := ⟨c0, c1, c2, c3, c4⟩
          have HX5 : Hid (∀ w', Ext wr w' → w'.cell? ⟨b, off + k * 5, none⟩ = some (.int .i64 x.a) ∧ w'.cell? ⟨b, off + k * 5 + 1, none⟩ = some (.int .i64 x.b) ∧ w'.cell? ⟨b, off + k * 5 + 2, none⟩ = some (.int .i64 x.c) ∧ w'.cell? ⟨b, off + k * 5 + 3, none⟩ = some (.int .i64 x.d) ∧ w'.cell? ⟨b, off + k * 5 + 4, none⟩ = some (.int .i64 x.e)) := fun w' q => h5.ext q
          go_upto_region 10 with fail
          go_cut [9, 10] (fun v e wx => ∃ N, v = .pointer (some ⟨N, 0, none⟩) ∧ e = .int .i64 de ∧ Ext wr wx ∧ wx.heap[N]? = some (.cells #[.int .i64 dl, .int .i64 dh] 30) ∧ wr.heap.size ≤ N)
          case first => as_aux_lemma =>
            obtain ⟨w0, w1', w2'⟩ := box3' hb0
            have zB := lt_of_cell w0
            go_region_with (go_at_call 35; first
              | (with_reducible refine (HDX.out _ hE.drew).mono ?_; rintro e w3 ⟨rfl, hX3⟩; have hX3' := Ext.trans (Ext.drew (Ext.refl wr)) hX3; obtain ⟨q0, q1, q2, q3, q4⟩ := HX5.out w3 hX3'; have zb := lt_of_cell q0; obtain ⟨m0, m1, m2⟩ := box3' (hX3'.block hb0); have zm := lt_of_cell m0)
              | (with_reducible refine (HDX.out _ (hE.alloc _).drew).mono ?_; rintro e w3 ⟨rfl, hX3⟩; have hX3' := Ext.trans (((Ext.refl wr).alloc _).drew) hX3; obtain ⟨q0, q1, q2, q3, q4⟩ := HX5.out w3 hX3'; have zb := lt_of_cell q0; obtain ⟨m0, m1, m2⟩ := box3' (hX3'.block hb0); have zm := lt_of_cell m0; have hN := hX3.block (new_drew' wr _); obtain ⟨t0, t1⟩ := box2 hN; have y0 := frozen_cells ⟨_, hN⟩ 0; have y1 := frozen_cells ⟨_, hN⟩ 1))
            all_goals
              go_wp2_with fail
              go_meet
              case rel => first | with_reducible exact relB2 hX3' (Nat.le_refl _) hN | with_reducible exact relA2 hX3' _
          case rest =>
          obtain ⟨A, rfl, rfl, hX4, g3, hAr⟩ := hcut
          have g0 := hX4.block hb0
          have g1 := hX4.block hb1
          have g2 := hX4.block hb2
          have hE4 := hE.trans hX4
          have hD3 : D < A := Nat.lt_of_lt_of_le (Array.getElem?_eq_some_iff.1 hb2).1 hAr
          clear hX4 hb0 hb1 hb2 hE c0 c1 c2 c3 c4 HDX HDI HX5 h5 hAr hk0 hk1
          by_cases hde : de = 0
          · subst hde
            obtain ⟨d1, d2⟩ := hDR rfl
            have HN : Hid (totL C P R (l.take (k + 1)) = ((tl + dl, th + dh), 0)) := by show _ = _; rw [HS.out]; rfl
            obtain ⟨o0, o1⟩ := box2 g2
            obtain ⟨p0, p1⟩ := box2 g3
            have f0 := frozen_cells ⟨_, g2⟩ 0
            have f1 := frozen_cells ⟨_, g2⟩ 1
            have e1 : IntKind.i64.wrap (tl + dl) = tl + dl := wrap_in (by omega)
            have e2 : IntKind.i64.wrap (th + dh) = th + dh := wrap_in (by omega)
            clear hDR HS HHIT
            go_wp2_with fail
            exact ⟨⟨k + 1, by omega, by go_num, (hE4.setCell (by show w.heap.size ≤ D; omega) _).setCell (by show w.heap.size ≤ D; omega) _, set_ne (set_ne g0 (by omega)) (by omega), set_ne (set_ne g1 (by omega)) (by omega), by rw [HN.out]; exact set_eq (set_eq g2), by rw [HN.out]; rfl⟩, by simp [intOf]; omega⟩
          · have HN : Hid (totL C P R (l.take (k + 1)) = ((0, 0), de)) := by show _ = _; rw [HS.out, if_neg hde]
            have HT : Hid (totR C P R l = ((0, 0), de)) := by
              show _ = _
              rw [HR.out, HHIT.out (by rw [HN.out]; exact hde), HN.out]
            obtain ⟨r0, r1⟩ := box2 g1
            have f0 := frozen_cells ⟨_, g1⟩ 0
            have f1 := frozen_cells ⟨_, g1⟩ 1
            have hnb : (de == 0) = false := by simpa using hde
            have hnb2 : (de != 0) = true := by simp [bne, hnb]
            clear hDR HS HHIT
            go_wp2_with fail
            refine bodyPost_ret (v := .tuple #[.agg #[.int .i64 0, .int .i64 0], .int .i64 de]) (by simp [results, Try.results36, r0, r1, go_sem]) rfl ⟨by rw [HT.out], ?_⟩
            exact hX.trans ((hE4.setCell (by show w.heap.size ≤ B + 1; omega) _).setCell (by show w.heap.size ≤ B + 1; omega) _)
        · obtain rfl : k = l.length := by omega
          rw [List.take_length] at hb2 HZ
          have hR2 : totR C P R l = ((((totL C P R l).1.1, (totL C P R l).1.2)), 0) := by rw [HR.out, ← HZ.out]
          obtain ⟨e0, e1⟩ := box2 hb2
          obtain ⟨r0, r1⟩ := box2 hb1
          have f0 := frozen_cells ⟨_, hb1⟩ 0
          have f1 := frozen_cells ⟨_, hb1⟩ 1
          go_wp2_with fail
          refine bodyPost_ret (v := .tuple #[.agg #[.int .i64 (totL C P R l).1.1, .int .i64 (totL C P R l).1.2], .int .i64 0]) (by simp [results, Try.results36, r0, r1, go_sem]) rfl ⟨by rw [hR2], ?_⟩
          exact hX.trans ((hE.setCell (by show w.heap.size ≤ B + 1; omega) _).setCell (by show w.heap.size ≤ B + 1; omega) _)
  · have HR : Hid (totR C P R l = ((0, 0), chk C P R)) := by show _ = _; unfold totR; rw [if_neg h0]
    have hnb : (chk C P R == 0) = false := by simpa using h0
    generalize chk C P R = n at HR hnb ⊢
    have hnb2 : (n != 0) = true := by simp [bne, hnb]
    clear h0
    go_wp2_with fail
    refine bodyPost_ret (v := .tuple #[.agg #[.int .i64 0, .int .i64 0], .int .i64 n]) (by simp [results, Try.results36, r0, r1, go_sem]) rfl ⟨by rw [HR.out], ?_⟩
    exact hX.trans ((hE1.setCell (by show w.heap.size ≤ B + 1; omega) _).setCell (by show w.heap.size ≤ B + 1; omega) _)
set_option maxRecDepth 100000 in
set_option maxHeartbeats 4000000 in
theorem rCloses (W : World) (C P R : List Five) (v : Value) (l m : List Five) (s t : Value) (w : World) (hX : Ext W w) (hv : Wk w v C P R) (hs : Fives w s l) (ht : Fives w t m) :
    Calls Try.prog 38 #[v, s, t] w fun e w' => e = .returned (closT (closR (totR C P R l) (totR C P R m))) ∧ Ext W w' := by
  have HA := Lib.hid (fun w' (q : Ext w w') => rTotal w' C P R v l s w' (Ext.refl _) (hv.ext q) (hs.ext q))
  have HB := Lib.hid (fun w' (q : Ext w w') => rTotal w' C P R v m t w' (Ext.refl _) (hv.ext q) (ht.ext q))
  obtain ⟨vC, vP, vR, rfl, -⟩ := hv
  generalize totR C P R l = x at HA ⊢
  generalize totR C P R m = y at HB ⊢
  obtain ⟨⟨xl, xh⟩, xe⟩ := x
  obtain ⟨⟨yl, yh⟩, ye⟩ := y
  have hX0 : Ext w (w.alloc (.cells #[vC, vP, vR] 26)) := (Ext.refl w).alloc _
  have hb0 := heap_alloc_new w (.cells #[vC, vP, vR] 26)
  obtain ⟨B, hBB⟩ : ∃ B, w.heap.size = B := ⟨_, rfl⟩
  rw [hBB] at hb0
  go_enter Try.func38, Try.ntmps38
  go_wp2_with fail
  with_reducible refine (HA.out _ hX0).mono ?_
  rintro e w1 ⟨rfl, hX1⟩
  have hE1 := hX0.trans hX1
  have hb1 := hX1.block hb0
  obtain ⟨c0, c1, c2⟩ := box3' hb1
  have zB := lt_of_cell c0
  have hE1' := hE1.alloc (.cells #[.int .i64 xl, .int .i64 xh] 30)
  by_cases hx : xe = 0
  · subst hx
    have ha := heap_alloc_new w1 (.cells #[.int .i64 xl, .int .i64 xh] 30)
    go_wp2_with fail
    obtain ⟨w2, hw2⟩ : ∃ w2, w1.alloc (.cells #[.int .i64 xl, .int .i64 xh] 30) = w2 := ⟨_, rfl⟩
    rw [hw2] at ha hE1' ⊢
    clear hw2 hE1 hX0 hX1 hb0 hb1 c0 c1 c2
    generalize w1.heap.size = A at ha ⊢
    with_reducible refine (HB.out _ hE1').mono ?_
    rintro e w3 ⟨rfl, hX3⟩
    have hE3 := hE1'.trans hX3
    have ha3 := hX3.block ha
    have hE3' := hE3.alloc (.cells #[.int .i64 yl, .int .i64 yh] 30)
    by_cases hy : ye = 0
    · subst hy
      obtain ⟨a0, a1⟩ := box2 ha3
      have zA := lt_of_cell a0
      have HR : Hid (closR ((xl, xh), 0) ((yl, yh), 0) = (decide (xl ≤ yh) && decide (yl ≤ xh), 0)) := rfl
      by_cases h1 : xl ≤ yh
      all_goals
        go_wp2_with fail
        refine bodyPost_ret (v := .tuple #[.bool (decide (xl ≤ yh) && decide (yl ≤ xh)), .int .i64 0]) (by first | (simp [results, Try.results38, h1, go_sem]; done) | (simp [results, Try.results38, go_sem]; omega)) rfl ⟨by rw [HR.out], hX.trans hE3'⟩
    · have HR : Hid (closR ((xl, xh), 0) ((yl, yh), ye) = (false, ye)) := by show _ = _; unfold closR; rw [if_pos rfl, if_neg hy]
      have hnb : (ye == 0) = false := by simpa using hy
      have hnb2 : (ye != 0) = true := by simp [bne, hnb]
      clear hy
      go_wp2_with fail
      refine bodyPost_ret (v := .tuple #[.bool false, .int .i64 ye]) (by simp [results, Try.results38, go_sem]) rfl ⟨by rw [HR.out], hX.trans hE3'⟩
  · have HR : Hid (closR ((xl, xh), xe) ((yl, yh), ye) = (false, xe)) := by show _ = _; unfold closR; rw [if_neg hx]
    have hnb : (xe == 0) = false := by simpa using hx
    have hnb2 : (xe != 0) = true := by simp [bne, hnb]
    clear hx
    go_wp2_with fail
    refine bodyPost_ret (v := .tuple #[.bool false, .int .i64 xe]) (by simp [results, Try.results38, go_sem]) rfl ⟨by rw [HR.out], hX.trans hE1'⟩
end Go.Proofs.Ytaggjclaehigjaa
