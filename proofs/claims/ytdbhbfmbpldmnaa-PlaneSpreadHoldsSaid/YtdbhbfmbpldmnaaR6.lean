/- Contract of the specification's simple, and of the exported functions of polygons. -/
import Derived.Test.YtdbhbfmbpldmnaaR5
namespace Go.Proofs.Ytdbhbfmbpldmnaa
open Go.RowKit
def bad2Z (n1 n2 n3 : Bool) (m : Int) : Bool := if n1 || (n2 && n3) then m != 1 else m != 0
theorem bad2_eq {l : List (Int × Int)} (h3 : 3 ≤ l.length) {i k : Nat} : pairBad l k i = bad2Z ((k : Int) + 1 == (i : Int)) ((i : Int) + 1 == (l.length : Int)) ((k : Int) == 0) (mtE (edge l i) (edge l k)) := by
  have hs : mtE (edge l i) (edge l k) = mtE (edge l k) (edge l i) := mtZ_swap _ _ _ _ _ _ _ _
  rw [hs]
  unfold pairBad bad2Z
  have e1 : (((k : Int) + 1 == (i : Int)) || (((i : Int) + 1 == (l.length : Int)) && ((k : Int) == 0))) = decide (i = k + 1 ∨ (k = 0 ∧ i + 1 = l.length)) := by rw [Bool.eq_iff_iff]; simp; omega
  rw [e1]
  generalize mtE (edge l k) (edge l i) = m
  by_cases h1 : i = k + 1 ∨ (k = 0 ∧ i + 1 = l.length)
  · have h2 : ¬ (i = k + 1 ∧ k = 0 ∧ i + 1 = l.length) := by omega
    rw [if_pos h1, decide_eq_true h1, if_pos rfl, Bool.eq_iff_iff]
    simp [h2]
  · rw [if_neg h1, decide_eq_false h1, if_neg (by decide), Bool.eq_iff_iff]
    simp
def noDgn (l : List (Int × Int)) (k : Nat) : Prop := ∀ i, i < k → dgn (edge l i) = false
def noPair (l : List (Int × Int)) (i k : Nat) : Prop := ∀ j, j < k → pairBad l j i = false
def noPairs (l : List (Int × Int)) (i : Nat) : Prop := ∀ j, j < i → noPair l j j
theorem noPair_succ {l : List (Int × Int)} {i k : Nat} (h : noPair l i k) (hk : pairBad l k i = false) : noPair l i (k + 1) := fun j hj => by
  by_cases e : j = k
  · subst e; exact hk
  · exact h j (by omega)
theorem simple_dgn {l : List (Int × Int)} {k : Nat} (hk : k < l.length) (h : dgn (edge l k) = true) : simpleB l = false := by
  refine simpleB_bad (pre := [⟨k, hk⟩]) ⟨⟨k, hk⟩, by simp, ?_⟩
  unfold rowBad
  rw [h, Bool.true_or]
theorem simple_pair {l : List (Int × Int)} {i k : Nat} (hi : i < l.length) (hk : k < i) (hd : noDgn l l.length) (h : pairBad l k i = true) : simpleB l = false := by
  refine simpleB_bad (pre := [⟨k, by omega⟩]) ⟨⟨k, by omega⟩, by simp, ?_⟩
  refine rowBad_bad (pre := [⟨i, hi⟩]) ⟨⟨i, hi⟩, by simp, ?_⟩
  unfold innerBad
  rw [decide_eq_true hk, hd i hi, h]
  rfl
theorem simple_yes {l : List (Int × Int)} (hd : noDgn l l.length) (h : noPairs l l.length) : simpleB l = true := by
  refine simpleB_ok fun i _ => rowBad_ok (hd i.1 i.2) fun k _ => ?_
  unfold innerBad
  by_cases hik : i.1 < k.1
  · rw [h k.1 k.2 i.1 hik, Bool.and_false]
  · rw [decide_eq_false hik]
    rfl
set_option maxRecDepth 100000 in
set_option maxHeartbeats 3200000 in
theorem rsimple (W : World) (v : Value) (l : List (Int × Int)) (w : World) (hX : Ext W w) (hv : Pts w v l) (h3 : 3 ≤ l.length) (h4 : l.length ≤ 200) :
    Calls Try.prog 96 #[v] w fun e w' => e = .returned (.bool (simpleB l)) ∧ Ext W w' := by
  obtain ⟨a, cap, rfl, hl, hm, hc⟩ := hv
  obtain ⟨b, off, rfl, hcc⟩ := hc.resolve_left (fun h => by simp [h] at h3)
  have HC := Lib.hid hcc
  clear hcc hc hm
  have heq := run_eql_pt
  have hz1 : ((l.length : Int) == 0) = false := by rw [beq_eq_false_iff_ne]; omega
  have hz2 : ¬ ((l.length : Int) = 0) := by omega
  have hz4 : ¬ l = [] := by intro e; simp [e] at h3
  have hz5 : (0 : Int) < l.length := by omega
  go_enter Try.func96, Try.ntmps96
  go_wp2_with fail
  go_loopw [4] (fun i wr => ∃ k : Nat, k ≤ l.length ∧ i = .int .i64 k ∧ Hid (noDgn l k) ∧ Ext w wr) (fun i _ => l.length - (intOf i).toNat)
  case atStart => exact ⟨0, Nat.zero_le _, rfl, fun i hi => by omega, Ext.refl _⟩
  case round =>
    obtain ⟨k, hk, rfl, hN, hx⟩ := hrel
    by_cases hlt : k < l.length
    · obtain ⟨j, hj, zb, ⟨c1, c2⟩, ⟨c3, c4⟩, hw1, hw2, hw3⟩ := edge_cells (w := wr) (fun i hi => ⟨hx.cell (HC.out i hi).1, hx.cell (HC.out i hi).2⟩) (by omega) hlt
      have hj1 : (0 : Int) ≤ (j : Int) := by omega
      have hj2 : (j : Int) < (l.length : Int) := by omega
      go_wp2_with fail
      go_quiet (fail)
      go_wp2_with fail
      · have hd : (edge l k).1.1 = (edge l k).2.1 ∧ (edge l k).1.2 = (edge l k).2.2 := by assumption
        go_ret
        exact ⟨ret_bool (simple_dgn hlt (decide_eq_true hd)).symm, hX.trans (hx.drewN _)⟩
      · have hd : ¬(edge l k).1.1 = (edge l k).2.1 ∨ ¬(edge l k).1.2 = (edge l k).2.2 := by assumption
        refine ⟨⟨k + 1, by omega, by go_num, fun i hi => ?_, hx.drewN _⟩, by simp [intOf]; omega⟩
        by_cases hik : i = k
        · subst hik
          exact decide_eq_false (fun h => hd.elim (fun k => k h.1) (fun k => k h.2))
        · exact hN.out i (by omega)
    · have hD : Hid (noDgn l l.length) := fun i hi => hN.out i (by omega)
      clear hN
      go_wp2_with fail
      have hx0 := hx
      go_loopw [5, 6, 7, 8] (fun i _ _ _ wr => ∃ k : Nat, k ≤ l.length ∧ i = .int .i64 k ∧ Hid (noPairs l k) ∧ Ext w wr) (fun i _ _ _ _ => l.length - (intOf i).toNat)
      case atStart => exact ⟨0, Nat.zero_le _, rfl, fun i hi => by omega, hx0⟩
      case round =>
        clear hx hx0 hlt hk
        obtain ⟨i, hi, rfl, hP, hx⟩ := hrel
        by_cases hlt : i < l.length
        · go_wp2_with fail
          obtain ⟨wo, hwo⟩ : ∃ wo, wo = wr := ⟨_, rfl⟩
          go_loopw [6, 7, 8] (fun k _ _ wr => ∃ j : Nat, j ≤ i ∧ k = .int .i64 j ∧ Hid (noPair l i j) ∧ Ext w wr) (fun k _ _ _ => i - (intOf k).toNat)
          case atStart => exact ⟨0, Nat.zero_le _, rfl, fun i hi => by omega, hx⟩
          case round =>
            obtain ⟨j, hj, rfl, hQ, hx2⟩ := hrel
            by_cases hji : j < i
            · obtain ⟨p, hp, _, ⟨c1, c2⟩, ⟨c3, c4⟩, hw1, hw2, hw3⟩ := edge_cells (w := wr) (fun i hi => ⟨hx2.cell (HC.out i hi).1, hx2.cell (HC.out i hi).2⟩) (by omega) hlt
              obtain ⟨q, hq, _, ⟨d1, d2⟩, ⟨d3, d4⟩, hv1, hv2, hv3⟩ := edge_cells (w := wr) (fun i hi => ⟨hx2.cell (HC.out i hi).1, hx2.cell (HC.out i hi).2⟩) (by omega) (show j < l.length by omega)
              have hp1 : (0 : Int) ≤ (p : Int) := by omega
              have hp2 : (p : Int) < (l.length : Int) := by omega
              have hq1 : (0 : Int) ≤ (q : Int) := by omega
              have hq2 : (q : Int) < (l.length : Int) := by omega
              have hi1 : (i : Int) < (l.length : Int) := by omega
              have hj1 : (j : Int) < (l.length : Int) := by omega
              have hK : ∀ w'', Ext wr w'' → Ext wr w'' ∧ (w''.cell? ⟨b, off + i * 2, none⟩ = some (.int .i64 (edge l i).1.1) ∧ w''.cell? ⟨b, off + i * 2 + 1, none⟩ = some (.int .i64 (edge l i).1.2)) ∧ (w''.cell? ⟨b, off + p * 2, none⟩ = some (.int .i64 (edge l i).2.1) ∧ w''.cell? ⟨b, off + p * 2 + 1, none⟩ = some (.int .i64 (edge l i).2.2)) ∧ (w''.cell? ⟨b, off + j * 2, none⟩ = some (.int .i64 (edge l j).1.1) ∧ w''.cell? ⟨b, off + j * 2 + 1, none⟩ = some (.int .i64 (edge l j).1.2)) ∧ w''.cell? ⟨b, off + q * 2, none⟩ = some (.int .i64 (edge l j).2.1) ∧ w''.cell? ⟨b, off + q * 2 + 1, none⟩ = some (.int .i64 (edge l j).2.2) :=
                fun w'' h => ⟨h, ⟨h.cell c1, h.cell c2⟩, ⟨h.cell c3, h.cell c4⟩, ⟨h.cell d1, h.cell d2⟩, h.cell d3, h.cell d4⟩
              have HK := Lib.hid hK
              have hbad := bad2_eq (l := l) h3 (i := i) (k := j)
              obtain ⟨m, hm⟩ : ∃ m, mtE (edge l i) (edge l j) = m := ⟨_, rfl⟩
              rw [hm] at hbad
              have HM := Lib.hid (show mtZ (edge l i).1.1 (edge l i).1.2 (edge l i).2.1 (edge l i).2.2 (edge l j).1.1 (edge l j).1.2 (edge l j).2.1 (edge l j).2.2 = m from hm)
              have HB := Lib.hid hbad
              clear hK c1 c2 c3 c4 d1 d2 d3 d4 hm hbad
              go_wp2_with fail
              go_region_held3 (fun w'' => Ext wr w'' ∧ (w''.cell? ⟨b, off + i * 2, none⟩ = some (.int .i64 (edge l i).1.1) ∧ w''.cell? ⟨b, off + i * 2 + 1, none⟩ = some (.int .i64 (edge l i).1.2)) ∧ (w''.cell? ⟨b, off + p * 2, none⟩ = some (.int .i64 (edge l i).2.1) ∧ w''.cell? ⟨b, off + p * 2 + 1, none⟩ = some (.int .i64 (edge l i).2.2)) ∧ (w''.cell? ⟨b, off + j * 2, none⟩ = some (.int .i64 (edge l j).1.1) ∧ w''.cell? ⟨b, off + j * 2 + 1, none⟩ = some (.int .i64 (edge l j).1.2)) ∧ w''.cell? ⟨b, off + q * 2, none⟩ = some (.int .i64 (edge l j).2.1) ∧ w''.cell? ⟨b, off + q * 2 + 1, none⟩ = some (.int .i64 (edge l j).2.2)) (first | exact HK.out _ (by assumption) | exact HK.out _ (Ext.drew (by assumption)) | exact HK.out _ (Ext.refl _) | exact HK.out _ (Ext.drew (Ext.refl _)))
                ((go_at_call 29; refine (rMeeting _ _ _ _ _ _ _ _ _ _ (by first | assumption | exact And.left (by assumption))).mono ?_; rintro e w' ⟨rfl, hX1⟩; rw [HM.out]))
              have hxe := hx2.trans hX1
              clear HK
              have key : (∃ n1 n2 n3 m1 m0 : Bool, (((j : Int) + 1 == (i : Int)) = n1 ∧ ((i : Int) + 1 == (l.length : Int)) = n2 ∧ ((j : Int) == 0) = n3) ∧ ((m != 1) = m1 ∧ (m != 0) = m0)) := ⟨_, _, _, _, _, ⟨rfl, rfl, rfl⟩, rfl, rfl⟩
              obtain ⟨n1, n2, n3, m1, m0, ⟨e1, e2, e3⟩, e4, e5⟩ := key
              cases n1 <;> cases n2 <;> cases n3 <;> cases m1 <;> cases m0 <;> go_wp2_with fail
              all_goals
                first
                | (go_ret
                   exact ⟨ret_bool (simple_pair hlt hji hD.out (by rw [HB.out, bad2Z, e1, e2, e3, e4, e5]; rfl)).symm, hX.trans hxe⟩)
                | exact ⟨⟨j + 1, by omega, by go_num, noPair_succ hQ.out (by rw [HB.out, bad2Z, e1, e2, e3, e4, e5]; rfl), hxe⟩, by simp [intOf]; omega⟩
            · have hP2 : Hid (noPairs l (i + 1)) := fun j hj => by
                by_cases hji2 : j = i
                · subst hji2
                  exact fun k hk => hQ.out k (by omega)
                · exact hP.out j (by omega)
              go_wp2_with fail
              exact ⟨⟨i + 1, by omega, by go_num, hP2, hx2⟩, by simp [intOf]; omega⟩
        · have hS := simple_yes hD.out (fun j hj => hP.out j (by omega))
          have HS := Lib.hid hS
          clear hS
          go_wp2_with fail
          go_ret
          exact ⟨ret_bool HS.out.symm, hX.trans hx⟩
set_option maxRecDepth 100000 in
set_option maxHeartbeats 800000 in
theorem rSimple (W : World) (v : Value) (l : List (Int × Int)) (w : World) (hX : Ext W w) (hv : Pts w v l) :
    Calls Try.prog 34 #[v] w fun e w' => e = .returned (.tuple #[.bool (simpleR l).1, .int .i64 (simpleR l).2]) ∧ Ext W w' := by
  have HP := Lib.hid (ptsE_ring l)
  rcases ringE_cases l [] with h | h
  · obtain ⟨⟨h3, h4⟩, h5, _⟩ := ringE_ok h
    have HZ : Hid (simpleR l = (simpleB l, 0)) := by unfold Hid simpleR; rw [if_pos h]
    have H := Lib.hid h
    clear h h5
    go_enter Try.func34, Try.ntmps34
    go_wp2_with (first | (go_at_call 94; refine (rpoints w _ l 3 _ (Ext.refl _) hv).mono ?_; rintro e w1 ⟨rfl, hX1⟩; rw [HP.out, H.out]) | (go_at_call 96; refine (rsimple w _ l _ hX1 (hv.ext hX1) h3 h4).mono ?_; rintro e w1 ⟨rfl, hX2⟩))
    go_ret2
    rw [HZ.out]
    exact ⟨rfl, hX.trans hX2⟩
  · have HZ : Hid (simpleR l = (false, ringE l [])) := by unfold Hid simpleR; rw [if_neg (by simpa using h)]
    go_enter Try.func34, Try.ntmps34
    go_wp2_with (first | (go_at_call 94; refine (rpoints w _ l 3 _ (Ext.refl _) hv).mono ?_; rintro e w1 ⟨rfl, hX1⟩; rw [HP.out]))
    go_ret2
    rw [HZ.out]
    exact ⟨rfl, hX.trans hX1⟩
end Go.Proofs.Ytdbhbfmbpldmnaa
