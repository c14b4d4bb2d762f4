/- Contracts of the specification's functions of polygons: points, Area, along, winding. -/
import Derived.Test.YtdbhbfmbpldmnaaR3
import Derived.Test.YtdbhbfmbpldmnaaD7
namespace Go.Proofs.Ytdbhbfmbpldmnaa
open Go.RowKit
theorem cell2p (w : World) (x y : Int) (T : Nat) : (w.alloc (.cells #[.int .i64 x, .int .i64 y] T)).cell? ⟨w.heap.size, 0, none⟩ = some (.int .i64 x) ∧ (w.alloc (.cells #[.int .i64 x, .int .i64 y] T)).cell? ⟨w.heap.size, 1, none⟩ = some (.int .i64 y) :=
  ⟨cell_new w [.int .i64 x, .int .i64 y] T 0, cell_new w [.int .i64 x, .int .i64 y] T 1⟩
def ptsE (l : List (Int × Int)) (least : Nat) : Int := if least ≤ l.length ∧ l.length ≤ 200 then (if l.all okp = true then 0 else 1) else 2
theorem ptsE_ring (l : List (Int × Int)) : ptsE l 3 = ringE l [] := by unfold ptsE ringE; simp only [List.all_nil, and_true]
set_option maxRecDepth 100000 in
set_option maxHeartbeats 800000 in
theorem rpoints (W : World) (v : Value) (l : List (Int × Int)) (least : Nat) (w : World) (hX : Ext W w) (hv : Pts w v l) :
    Calls Try.prog 94 #[v, .int .i64 least] w fun e w' => e = .returned (.int .i64 (ptsE l least)) ∧ Ext W w' := by
  have hlen := hv.len
  have hv0 := hv
  obtain ⟨a, cap, rfl, hl, hm, hc⟩ := hv
  clear hc hm
  by_cases h3 : least ≤ l.length
  · by_cases h4 : l.length ≤ 200
    · cases h1 : l.all okp
      · have HZ : Hid (ptsE l least = 1) := by unfold Hid ptsE; rw [if_pos ⟨h3, h4⟩, if_neg (by simp [h1])]
        have H1 := Lib.hid h1
        clear h1
        go_enter Try.func94, Try.ntmps94
        go_wp2_with (first | (go_at_call 81; refine (rvalid w _ l _ (Ext.refl _) hv0).mono ?_; rintro e w1 ⟨rfl, hX1⟩; rw [H1.out]))
        go_ret
        exact ⟨ret_int HZ.out.symm, hX.trans hX1⟩
      · have HZ : Hid (ptsE l least = 0) := by unfold Hid ptsE; rw [if_pos ⟨h3, h4⟩, if_pos h1]
        have H1 := Lib.hid h1
        clear h1
        go_enter Try.func94, Try.ntmps94
        go_wp2_with (first | (go_at_call 81; refine (rvalid w _ l _ (Ext.refl _) hv0).mono ?_; rintro e w1 ⟨rfl, hX1⟩; rw [H1.out]))
        go_ret
        exact ⟨ret_int HZ.out.symm, hX.trans hX1⟩
    · have HZ : Hid (ptsE l least = 2) := by unfold Hid ptsE; rw [if_neg (by omega)]
      go_enter Try.func94, Try.ntmps94
      go_wp2_with fail
      go_ret
      exact ⟨ret_int HZ.out.symm, hX⟩
  · have HZ : Hid (ptsE l least = 2) := by unfold Hid ptsE; rw [if_neg (by omega)]
    go_enter Try.func94, Try.ntmps94
    go_wp2_with fail
    go_ret
    exact ⟨ret_int HZ.out.symm, hX⟩
/-- the cells of an edge, and where its end lies -/
theorem edge_cells {w : World} {b off : Nat} {l : List (Int × Int)} (hcc : ∀ i, (h : i < l.length) → w.cell? ⟨b, off + i * 2, none⟩ = some (.int .i64 (l[i]).1) ∧ w.cell? ⟨b, off + i * 2 + 1, none⟩ = some (.int .i64 (l[i]).2))
    (hlen : l.length ≤ 9223372036854775807) {k : Nat} (hk : k < l.length) : ∃ j : Nat, j < l.length ∧ b < w.heap.size ∧
      (w.cell? ⟨b, off + k * 2, none⟩ = some (.int .i64 (edge l k).1.1) ∧ w.cell? ⟨b, off + k * 2 + 1, none⟩ = some (.int .i64 (edge l k).1.2)) ∧
      (w.cell? ⟨b, off + j * 2, none⟩ = some (.int .i64 (edge l k).2.1) ∧ w.cell? ⟨b, off + j * 2 + 1, none⟩ = some (.int .i64 (edge l k).2.2)) ∧
      IntKind.i64.wrap ((k : Int) + 1) = (k : Int) + 1 ∧ ((k : Int) + 1).tmod (l.length : Int) = (j : Int) ∧ ((k : Int) + 1) % (l.length : Int) = (j : Int) := by
  have hlt2 : (k + 1) % l.length < l.length := Nat.mod_lt _ (by omega)
  refine ⟨(k + 1) % l.length, hlt2, lt_of_cell (hcc k hk).1, ?_, ?_, IntWalk.i64_in _ (by omega), ?_, ?_⟩
  · have := hcc k hk
    simpa [edge, List.getD, hk] using this
  · have := hcc _ hlt2
    simpa [edge, List.getD, hlt2] using this
  · rw [Int.tmod_eq_emod_of_nonneg (by omega)]
    simp
  · simp
theorem area_step2 {l : List (Int × Int)} (h : l.all okp = true) (hl : l.length ≤ 200) (pre : List (Fin l.length)) (hp : pre.length < l.length) (x : Fin l.length) :
    wrap64 (wrap64 (areaF l pre + wrap64 ((edge l x.1).1.1 * (edge l x.1).2.2)) - wrap64 ((edge l x.1).2.1 * (edge l x.1).1.2)) = areaF l (pre ++ [x]) := by
  obtain ⟨⟨a1, a2⟩, a3, a4⟩ := edge_ok h x.2
  have hb := cross_bd a1 a4 a3 a2
  have ha := areaF_bd h pre
  rw [IntWalk.wrap64_in ((edge l x.1).1.1 * (edge l x.1).2.2) (by omega), IntWalk.wrap64_in ((edge l x.1).2.1 * (edge l x.1).1.2) (by omega), IntWalk.wrap64_in (areaF l pre + _) (by omega), IntWalk.wrap64_in _ (by omega), areaF_snoc]
  unfold crossE
  omega
set_option maxRecDepth 100000 in
set_option maxHeartbeats 1600000 in
theorem rArea_ok (W : World) (v : Value) (l : List (Int × Int)) (w : World) (hX : Ext W w) (hv : Pts w v l) (h : ringE l [] = 0) :
    Calls Try.prog 32 #[v] w fun e w' => e = .returned (.tuple #[.int .i64 (areaZ l), .int .i64 0]) ∧ Ext W w' := by
  obtain ⟨⟨h3, h4⟩, h5, _⟩ := ringE_ok h
  have H := Lib.hid ((ptsE_ring l).trans h)
  clear h
  have H5 := Lib.hid h5
  clear h5
  have hv0 := hv
  obtain ⟨a, cap, rfl, hl, hm, hc⟩ := hv
  obtain ⟨b, off, rfl, hcc⟩ := hc.resolve_left (fun h => by simp [h] at h3)
  have HC := Lib.hid hcc
  clear hcc hc hm
  go_enter Try.func32, Try.ntmps32
  go_wp2_with (go_at_call 94; refine (rpoints w _ l 3 _ (Ext.refl _) hv0).mono ?_; rintro e w1 ⟨rfl, hX1⟩; rw [H.out])
  go_loopw [5, 6, 7, 8] (fun n i _ _ wr => ∃ k : Nat, k ≤ l.length ∧ i = .int .i64 k ∧ n = .int .i64 (areaF l (edgesOf l k)) ∧ Ext w wr) (fun _ i _ _ _ => l.length - (intOf i).toNat)
  case atStart => exact ⟨0, Nat.zero_le _, rfl, rfl, hX1⟩
  case round =>
    obtain ⟨k, hk, rfl, rfl, hx⟩ := hrel
    by_cases hlt : k < l.length
    · obtain ⟨j, hj, zb, ⟨c1, c2⟩, ⟨c3, c4⟩, hw1, hw2, hw3⟩ := edge_cells (w := wr) (fun i hi => ⟨hx.cell (HC.out i hi).1, hx.cell (HC.out i hi).2⟩) (by omega) hlt
      have HS := Lib.hid ((area_step2 H5.out h4 (edgesOf l k) (by rw [edgesOf_length _ _ hk]; exact hlt) ⟨k, hlt⟩).trans (by rw [← edgesOf_succ]))
      have hz1 : ((l.length : Int) == 0) = false := by rw [beq_eq_false_iff_ne]; omega
      have hz2 : ¬ ((l.length : Int) = 0) := by omega
      have hz4 : ¬ l = [] := by intro e; simp [e] at hlt
      clear H HC
      go_wp2_with fail
      rw [HS.out]
      exact ⟨⟨k + 1, by omega, by go_num, rfl, (hx.alloc _).alloc _⟩, by simp [intOf]; omega⟩
    · obtain rfl : k = l.length := by omega
      go_wp2_with fail
      go_ret2
      exact ⟨by rw [edgesOf_all]; rfl, hX.trans hx⟩
set_option maxRecDepth 100000 in
set_option maxHeartbeats 1600000 in
theorem rArea (W : World) (v : Value) (l : List (Int × Int)) (w : World) (hX : Ext W w) (hv : Pts w v l) :
    Calls Try.prog 32 #[v] w fun e w' => e = .returned (.tuple #[.int .i64 (areaR l).1, .int .i64 (areaR l).2]) ∧ Ext W w' := by
  rcases ringE_cases l [] with h | h
  · have HZ : areaR l = (areaZ l, 0) := by unfold areaR; rw [if_pos h]
    rw [HZ]
    exact rArea_ok W v l w hX hv h
  · have HZ : Hid (areaR l = (0, ringE l [])) := by unfold Hid areaR; rw [if_neg (by simpa using h)]
    have HP := Lib.hid (ptsE_ring l)
    go_enter Try.func32, Try.ntmps32
    go_wp2_with (first | (go_at_call 94; refine (rpoints w _ l 3 _ (Ext.refl _) hv).mono ?_; rintro e w1 ⟨rfl, hX1⟩; rw [HP.out]))
    go_ret2
    rw [HZ.out]
    exact ⟨rfl, hX.trans hX1⟩
theorem noneOn_snoc {l : List (Int × Int)} {px py : Int} {k : Nat} (hk : k < l.length) (h : noneOn l px py (edgesOf l k)) (he : onE (edge l k) px py = false) : noneOn l px py (edgesOf l (k + 1)) := by
  rw [edgesOf_succ _ _ hk]
  intro i hi
  rcases List.mem_append.1 hi with hi | hi
  · exact h i hi
  · simp at hi
    subst hi
    exact he
theorem border_yes {l : List (Int × Int)} {px py : Int} {k : Nat} (hk : k < l.length) (he : onE (edge l k) px py = true) : borderB l px py = true := by
  unfold borderB
  rw [List.any_eq_true]
  exact ⟨⟨k, hk⟩, List.mem_finRange _, he⟩
theorem border_no {l : List (Int × Int)} {px py : Int} (h : noneOn l px py (edgesOf l l.length)) : borderB l px py = false := by
  unfold borderB
  rw [List.any_eq_false]
  intro i hi
  rw [h i (by rw [edgesOf_all]; exact hi)]
  simp
set_option maxRecDepth 100000 in
set_option maxHeartbeats 1600000 in
theorem ralong (W : World) (v : Value) (l : List (Int × Int)) (px py : Int) (w : World) (hX : Ext W w) (hv : Pts w v l) (h3 : 3 ≤ l.length) (h4 : l.length ≤ 200) (h5 : l.all okp = true) (hp1 : okc px = true) (hp2 : okc py = true) :
    Calls Try.prog 99 #[v, .agg #[.int .i64 px, .int .i64 py]] w fun e w' => e = .returned (.bool (borderB l px py)) ∧ Ext W w' := by
  have H5 := Lib.hid h5
  clear h5
  obtain ⟨a, cap, rfl, hl, hm, hc⟩ := hv
  obtain ⟨b, off, rfl, hcc⟩ := hc.resolve_left (fun h => by simp [h] at h3)
  have HC := Lib.hid hcc
  clear hcc hc hm
  go_enter Try.func99, Try.ntmps99
  go_wp2_with fail
  have hp0 := cell2p w px py 23
  have hX0 := (Ext.refl w).alloc (.cells #[.int .i64 px, .int .i64 py] 23)
  obtain ⟨w0, hw0⟩ : ∃ w0, w.alloc (.cells #[.int .i64 px, .int .i64 py] 23) = w0 := ⟨_, rfl⟩
  rw [hw0] at hp0 hX0 ⊢
  clear hw0
  generalize w.heap.size = P at hp0 ⊢
  go_loopw [5, 6] (fun i _ wr => ∃ k : Nat, k ≤ l.length ∧ i = .int .i64 k ∧ noneOn l px py (edgesOf l k) ∧ Ext w0 wr) (fun i _ _ => l.length - (intOf i).toNat)
  case atStart => exact ⟨0, Nat.zero_le _, rfl, fun i hi => by simp [edgesOf] at hi, Ext.refl _⟩
  case round =>
    obtain ⟨k, hk, rfl, hN, hx⟩ := hrel
    have HN := Lib.hid hN
    clear hN
    by_cases hlt : k < l.length
    · obtain ⟨j, hj, zb, ⟨c1, c2⟩, ⟨c3, c4⟩, hw1, hw2, hw3⟩ := edge_cells (w := wr) (fun i hi => ⟨(hX0.trans hx).cell (HC.out i hi).1, (hX0.trans hx).cell (HC.out i hi).2⟩) (by omega) hlt
      obtain ⟨⟨a1, a2⟩, a3, a4⟩ := edge_ok H5.out hlt
      have hz1 : ((l.length : Int) == 0) = false := by rw [beq_eq_false_iff_ne]; omega
      have hz2 : ¬ ((l.length : Int) = 0) := by omega
      have hz4 : ¬ l = [] := by intro e; simp [e] at hlt
      have hz5 : (0 : Int) < l.length := by omega
      have hj1 : (0 : Int) ≤ (j : Int) := by omega
      have hj2 : (j : Int) < (l.length : Int) := by omega
      have p0 := hx.cell hp0.1
      have p1 := hx.cell hp0.2
      have hK : ∀ w'', Ext wr w'' → Ext wr w'' ∧ (w''.cell? ⟨b, off + k * 2, none⟩ = some (.int .i64 (edge l k).1.1) ∧ w''.cell? ⟨b, off + k * 2 + 1, none⟩ = some (.int .i64 (edge l k).1.2)) ∧ (w''.cell? ⟨b, off + j * 2, none⟩ = some (.int .i64 (edge l k).2.1) ∧ w''.cell? ⟨b, off + j * 2 + 1, none⟩ = some (.int .i64 (edge l k).2.2)) ∧ w''.cell? ⟨P, 0, none⟩ = some (.int .i64 px) ∧ w''.cell? ⟨P, 1, none⟩ = some (.int .i64 py) :=
        fun w'' h => ⟨h, ⟨h.cell c1, h.cell c2⟩, ⟨h.cell c3, h.cell c4⟩, h.cell p0, h.cell p1⟩
      have HK := Lib.hid hK
      clear hK c1 c2 c3 c4 p0 p1
      go_wp2_with fail
      go_region_held3 (fun w'' => Ext wr w'' ∧ (w''.cell? ⟨b, off + k * 2, none⟩ = some (.int .i64 (edge l k).1.1) ∧ w''.cell? ⟨b, off + k * 2 + 1, none⟩ = some (.int .i64 (edge l k).1.2)) ∧ (w''.cell? ⟨b, off + j * 2, none⟩ = some (.int .i64 (edge l k).2.1) ∧ w''.cell? ⟨b, off + j * 2 + 1, none⟩ = some (.int .i64 (edge l k).2.2)) ∧ w''.cell? ⟨P, 0, none⟩ = some (.int .i64 px) ∧ w''.cell? ⟨P, 1, none⟩ = some (.int .i64 py)) (first | exact HK.out _ (by assumption) | exact HK.out _ (Ext.drew (by assumption)) | exact HK.out _ (Ext.refl _) | exact HK.out _ (Ext.drew (Ext.refl _)))
        ((go_at_call 90; refine (rOn0 _ _ _ _ _ _ _ _ (by first | assumption | exact And.left (by assumption)) a1 a2 a3 a4 hp1 hp2).mono ?_; rintro e w' ⟨rfl, hX1⟩))
      go_wp2_with fail
      · have ho : onB (edge l k).1.1 (edge l k).1.2 (edge l k).2.1 (edge l k).2.2 px py = true := by assumption
        go_ret
        exact ⟨ret_bool (border_yes hlt ho).symm, hX.trans (hX0.trans (hx.trans hX1))⟩
      · have ho : onB (edge l k).1.1 (edge l k).1.2 (edge l k).2.1 (edge l k).2.2 px py = false := by assumption
        exact ⟨⟨k + 1, by omega, by go_num, noneOn_snoc hlt HN.out ho, hx.trans hX1⟩, by simp [intOf]; omega⟩
    · obtain rfl : k = l.length := by omega
      go_wp2_with fail
      go_ret
      exact ⟨ret_bool (border_no HN.out).symm, hX.trans (hX0.trans hx)⟩
end Go.Proofs.Ytdbhbfmbpldmnaa
