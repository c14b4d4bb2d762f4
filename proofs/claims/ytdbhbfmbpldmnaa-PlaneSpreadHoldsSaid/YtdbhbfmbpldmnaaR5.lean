/- Contracts of the specification's functions of polygons: winding, where, simple, and the exported ones. -/
import Derived.Test.YtdbhbfmbpldmnaaR4
import Derived.Test.YtdbhbfmbpldmnaaP3
namespace Go.Proofs.Ytdbhbfmbpldmnaa
open Go.RowKit
theorem ret_val {k : IntKind} {a b : Int} (h : a = b) : Value.int k a = .int k b := by rw [h]
set_option maxRecDepth 100000 in
set_option maxHeartbeats 1600000 in
theorem rwinding (W : World) (v : Value) (l : List (Int × Int)) (px py : Int) (w : World) (hX : Ext W w) (hv : Pts w v l) (h3 : 3 ≤ l.length) (h4 : l.length ≤ 200) (h5 : l.all okp = true) (hp1 : okc px = true) (hp2 : okc py = true) :
    Calls Try.prog 100 #[v, .agg #[.int .i64 px, .int .i64 py]] w fun e w' => e = .returned (.int .i64 (windZ l px py)) ∧ Ext W w' := by
  have H5 := Lib.hid h5
  clear h5
  obtain ⟨a, cap, rfl, hl, hm, hc⟩ := hv
  obtain ⟨b, off, rfl, hcc⟩ := hc.resolve_left (fun h => by simp [h] at h3)
  have HC := Lib.hid hcc
  clear hcc hc hm
  go_enter Try.func100, Try.ntmps100
  go_wp2_with fail
  have hp0 := cell2p w px py 23
  have hX0 := (Ext.refl w).alloc (.cells #[.int .i64 px, .int .i64 py] 23)
  obtain ⟨w0, hw0⟩ : ∃ w0, w.alloc (.cells #[.int .i64 px, .int .i64 py] 23) = w0 := ⟨_, rfl⟩
  rw [hw0] at hp0 hX0 ⊢
  clear hw0
  generalize w.heap.size = P at hp0 ⊢
  go_loopw [5, 6, 7, 8] (fun n i _ _ wr => ∃ k : Nat, k ≤ l.length ∧ i = .int .i64 k ∧ n = .int .i64 (windF l px py (edgesOf l k)) ∧ Ext w0 wr) (fun _ i _ _ _ => l.length - (intOf i).toNat)
  case atStart => exact ⟨0, Nat.zero_le _, rfl, rfl, Ext.refl _⟩
  case round =>
    obtain ⟨k, hk, rfl, rfl, hx⟩ := hrel
    by_cases hlt : k < l.length
    · obtain ⟨j, hj, zb, ⟨c1, c2⟩, ⟨c3, c4⟩, hw1, hw2, hw3⟩ := edge_cells (w := wr) (fun i hi => ⟨(hX0.trans hx).cell (HC.out i hi).1, (hX0.trans hx).cell (HC.out i hi).2⟩) (by omega) hlt
      obtain ⟨⟨a1, a2⟩, a3, a4⟩ := edge_ok H5.out hlt
      have hz1 : ((l.length : Int) == 0) = false := by rw [beq_eq_false_iff_ne]; omega
      have hz2 : ¬ ((l.length : Int) = 0) := by omega
      have hz4 : ¬ l = [] := by intro e; simp [e] at hlt
      have p0 := hx.cell hp0.1
      have p1 := hx.cell hp0.2
      have zP : P < wr.heap.size := lt_of_cell p0
      have hbd := windF_bd l px py (edgesOf l k)
      rw [edgesOf_length _ _ hk] at hbd
      have hbd1 : -200 ≤ windF l px py (edgesOf l k) := by omega
      have hbd2 : windF l px py (edgesOf l k) ≤ 200 := by omega
      clear hbd
      have HS : Hid (windF l px py (edgesOf l (k + 1)) = windStep px py (windF l px py (edgesOf l k)) (edge l k)) := by
        unfold Hid
        rw [edgesOf_succ _ _ hlt, windF_snoc]
      obtain ⟨tw, htw⟩ : ∃ tw, twE (edge l k) px py = tw := ⟨_, rfl⟩
      have htw2 : twz (edge l k).1.1 (edge l k).1.2 (edge l k).2.1 (edge l k).2.2 px py = tw := htw
      have TW := Lib.hid htw
      have TW2 := Lib.hid htw2
      clear htw htw2
      go_wp2_with (go_at_call 83; refine (rTwice _ _ _ _ _ _ _ _ (Ext.refl _) a1 a2 a3 a4 hp1 hp2).mono ?_; rintro e w' ⟨rfl, hX1⟩; rw [TW2.out]; have hr := hX1.rule; have y1 := (Ext.b2 (Ext.refl _) hX1).cell p1)
      all_goals
        refine ⟨⟨k + 1, by omega, by go_num, ret_val ?_, by first | exact hx.b2 hX1 | exact (hx.alloc _).alloc _⟩, by simp [intOf]; omega⟩
        rw [HS.out, windStep, TW.out]
        (repeat' split) <;> omega
    · obtain rfl : k = l.length := by omega
      go_wp2_with fail
      go_ret
      exact ⟨ret_int (by rw [edgesOf_all]; rfl), hX.trans (hX0.trans hx)⟩
set_option maxRecDepth 100000 in
set_option maxHeartbeats 800000 in
theorem rwhere (W : World) (v : Value) (l : List (Int × Int)) (px py : Int) (w : World) (hX : Ext W w) (hv : Pts w v l) (h3 : 3 ≤ l.length) (h200 : l.length ≤ 200) (hok : l.all okp = true) (hp1 : okc px = true) (hp2 : okc py = true) :
    Calls Try.prog 102 #[v, .agg #[.int .i64 px, .int .i64 py]] w fun e w' => e = .returned (.int .i64 (whereZ l px py)) ∧ Ext W w' := by
  have H5 := Lib.hid hok
  have P1 := Lib.hid hp1
  have P2 := Lib.hid hp2
  clear hok hp1 hp2
  cases hb : borderB l px py
  · by_cases hw : windZ l px py = 0
    · have HZ : Hid (whereZ l px py = -1) := by unfold Hid whereZ; rw [hb, if_neg (by simp), if_pos hw]
      have HW := Lib.hid hw
      have HB := Lib.hid hb
      clear hw hb
      go_enter Try.func102, Try.ntmps102
      go_wp2_with (first | (go_at_call 99; refine (ralong _ _ l _ _ _ (Ext.refl _) (hv.ext ((Ext.refl _).alloc _)) h3 h200 H5.out P1.out P2.out).mono ?_; rintro e w1 ⟨rfl, hX1⟩; have hr := hX1.rule; rw [HB.out]) | (go_at_call 100; refine (rwinding _ _ l _ _ _ (Ext.refl _) (hv.ext (Ext.b1 (Ext.refl _) hX1)) h3 h200 H5.out P1.out P2.out).mono ?_; rintro e w2 ⟨rfl, hX2⟩; rw [HW.out]))
      go_ret
      exact ⟨ret_int HZ.out.symm, (hX.b1 hX1).trans hX2⟩
    · have HZ : Hid (whereZ l px py = 1) := by unfold Hid whereZ; rw [hb, if_neg (by simp), if_neg hw]
      have hw2 : (windZ l px py != 0) = true := by simpa using hw
      have HB := Lib.hid hb
      clear hw hb
      go_enter Try.func102, Try.ntmps102
      go_wp2_with (first | (go_at_call 99; refine (ralong _ _ l _ _ _ (Ext.refl _) (hv.ext ((Ext.refl _).alloc _)) h3 h200 H5.out P1.out P2.out).mono ?_; rintro e w1 ⟨rfl, hX1⟩; have hr := hX1.rule; rw [HB.out]) | (go_at_call 100; refine (rwinding _ _ l _ _ _ (Ext.refl _) (hv.ext (Ext.b1 (Ext.refl _) hX1)) h3 h200 H5.out P1.out P2.out).mono ?_; rintro e w2 ⟨rfl, hX2⟩))
      go_ret
      exact ⟨ret_int HZ.out.symm, (hX.b1 hX1).trans hX2⟩
  · have HZ : Hid (whereZ l px py = 0) := by unfold Hid whereZ; rw [hb, if_pos rfl]
    have HB := Lib.hid hb
    clear hb
    go_enter Try.func102, Try.ntmps102
    go_wp2_with (first | (go_at_call 99; refine (ralong _ _ l _ _ _ (Ext.refl _) (hv.ext ((Ext.refl _).alloc _)) h3 h200 H5.out P1.out P2.out).mono ?_; rintro e w1 ⟨rfl, hX1⟩; have hr := hX1.rule; rw [HB.out]))
    go_ret
    exact ⟨ret_int HZ.out.symm, hX.b1 hX1⟩
end Go.Proofs.Ytdbhbfmbpldmnaa
