/- Contracts of the specification's leaf functions. -/
import Derived.Test.YtdbhbfmbpldmnaaC7
namespace Go.Proofs.Ytdbhbfmbpldmnaa
open Go.RowKit
set_option maxHeartbeats 400000 in
theorem rWithin (W n lo hi) (w : World) (hX : Ext W w) :
    Calls Try.prog 77 #[.int .i64 n, .int .i64 lo, .int .i64 hi] w fun e w' => e = .returned (.bool (winB n lo hi)) ∧ Ext W w' := by
  go_enter Try.func77, Try.ntmps77
  go_wp2
  all_goals
    go_ret
    exact ⟨ret_bool (by simp [winB]; omega), hX⟩
set_option maxHeartbeats 400000 in
theorem rSign (W : World) (n : Int) (w : World) (hX : Ext W w) :
    Calls Try.prog 82 #[.int .i64 n] w fun e w' => e = .returned (.int .i64 (sgz n)) ∧ Ext W w' := by
  go_enter Try.func82, Try.ntmps82
  go_wp2
  all_goals
    go_ret
    exact ⟨ret_int (by unfold sgz; (repeat' split) <;> omega), hX⟩
set_option maxHeartbeats 400000 in
theorem rTwice (W : World) (ax ay bx b_y cx cy : Int) (w : World) (hX : Ext W w) (h1 : okc ax) (h2 : okc ay) (h3 : okc bx) (h4 : okc b_y) (h5 : okc cx) (h6 : okc cy) :
    Calls Try.prog 83 #[.agg #[.int .i64 ax, .int .i64 ay], .agg #[.int .i64 bx, .int .i64 b_y], .agg #[.int .i64 cx, .int .i64 cy]] w fun e w' => e = .returned (.int .i64 (twz ax ay bx b_y cx cy)) ∧ Ext W w' := by
  have H := twz_bd ax ay bx b_y cx cy h1 h2 h3 h4 h5 h6
  have H := Lib.hid H
  rw [okc_iff] at h1 h2 h3 h4 h5 h6
  obtain ⟨a1, b1⟩ := h1
  obtain ⟨a2, b2⟩ := h2
  obtain ⟨a3, b3⟩ := h3
  obtain ⟨a4, b4⟩ := h4
  obtain ⟨a5, b5⟩ := h5
  obtain ⟨a6, b6⟩ := h6
  go_enter Try.func83, Try.ntmps83
  go_wp2
  go_ret
  exact ⟨ret_int H.out, ((hX.alloc _).alloc _).alloc _⟩
set_option maxHeartbeats 400000 in
theorem rSquare (W : World) (ax ay bx b_y : Int) (w : World) (hX : Ext W w) (h1 : okc ax) (h2 : okc ay) (h3 : okc bx) (h4 : okc b_y) :
    Calls Try.prog 85 #[.agg #[.int .i64 ax, .int .i64 ay], .agg #[.int .i64 bx, .int .i64 b_y]] w fun e w' => e = .returned (.int .i64 (dsz ax ay bx b_y)) ∧ Ext W w' := by
  have H := dsz_bd ax ay bx b_y h1 h2 h3 h4
  have H := Lib.hid H
  rw [okc_iff] at h1 h2 h3 h4
  obtain ⟨a1, b1⟩ := h1
  obtain ⟨a2, b2⟩ := h2
  obtain ⟨a3, b3⟩ := h3
  obtain ⟨a4, b4⟩ := h4
  go_enter Try.func85, Try.ntmps85
  go_wp2
  go_ret
  exact ⟨ret_int H.out, (hX.alloc _).alloc _⟩
set_option maxHeartbeats 400000 in
theorem rValid (W : World) (x y : Int) (w : World) (hX : Ext W w) :
    Calls Try.prog 18 #[.agg #[.int .i64 x, .int .i64 y]] w fun e w' => e = .returned (.bool (okp (x, y))) ∧ Ext W w' := by
  go_enter Try.func18, Try.ntmps18
  go_wp2_with (first | (go_at_call 77; refine (rWithin _ _ _ _ _ (by first | assumption | exact Ext.refl _)).mono ?_; rintro e w' ⟨rfl, hX1⟩; have hr := hX1.rule))
  all_goals
    go_ret
    refine ⟨ret_bool ?_, hX.b1 (by assumption)⟩
    show _ = (winB x (-1048576) 1048576 && winB y (-1048576) 1048576)
    simp [*]
theorem all_of_upto {l : List (Int × Int)} (h : okUpto l l.length) : l.all okp = true := by
  rw [List.all_eq_true]
  intro x hx
  obtain ⟨i, hi, rfl⟩ := List.getElem_of_mem hx
  exact h i hi hi
theorem all_not {l : List (Int × Int)} {k : Nat} (hk : k < l.length) (h : okp l[k] = false) : l.all okp = false := by
  rw [List.all_eq_false]
  exact ⟨l[k], List.getElem_mem hk, by simp [h]⟩
theorem okUpto_succ {l : List (Int × Int)} {k : Nat} (hk : k < l.length) (hu : okUpto l k) (h : okp l[k] = true) : okUpto l (k + 1) := by
  intro i hi hi2
  by_cases hik : i = k
  · subst hik
    exact h
  · exact hu i (by omega) hi2
set_option maxHeartbeats 400000 in
theorem rvalid (W : World) (v : Value) (l : List (Int × Int)) (w : World) (hX : Ext W w) (hv : Pts w v l) :
    Calls Try.prog 81 #[v] w fun e w' => e = .returned (.bool (l.all okp)) ∧ Ext W w' := by
  obtain ⟨a, cap, rfl, hl, hm, hc⟩ := hv
  unfold maxLen at hm
  have hm2 : l.length ≤ 9223372036854775807 := by omega
  clear hl hm
  have HC := Lib.hid hc
  clear hc
  go_enter Try.func81, Try.ntmps81
  go_wp2_with fail
  go_loopw [3, 4] (fun j _ wr => ∃ k : Nat, k ≤ l.length ∧ j = .int .i64 k ∧ okUpto l k ∧ Ext w wr) (fun j _ _ => l.length - (intOf j).toNat)
  case atStart => exact ⟨0, Nat.zero_le _, rfl, fun i h => by omega, Ext.refl _⟩
  case round =>
    obtain ⟨k, hk, rfl, hb, hx⟩ := hrel
    by_cases hlt : k < l.length
    · obtain ⟨b, off, rfl, hcc⟩ : ∃ b off, a = some ⟨b, off, none⟩ ∧ _ := HC.out.resolve_left (fun h => by simp [h] at hlt)
      have c1 := hx.cell (hcc k hlt).1
      have c2 := hx.cell (hcc k hlt).2
      clear hcc HC
      go_wp2_with (first | (go_at_call 18; refine (rValid w _ _ _ (by assumption)).mono ?_; rintro e w' ⟨rfl, hX1⟩))
      · have h0 : (!okp (l[k].fst, l[k].snd)) = true := by assumption
        have h : okp (l[k].fst, l[k].snd) = false := by simpa using h0
        go_ret
        exact ⟨ret_bool (all_not hlt h).symm, hX.trans hX1⟩
      · have h0 : (!okp (l[k].fst, l[k].snd)) = false := by assumption
        have h : okp (l[k].fst, l[k].snd) = true := by simpa using h0
        exact ⟨⟨k + 1, by omega, by go_num, okUpto_succ hlt hb h, hX1⟩, by simp [intOf]; omega⟩
    · obtain rfl : k = l.length := by omega
      go_wp2_with fail
      go_ret
      exact ⟨ret_bool (all_of_upto hb).symm, hX.trans hx⟩
set_option maxHeartbeats 400000 in
theorem rTurn (W : World) (ax ay bx b_y cx cy : Int) (w : World) (hX : Ext W w) :
    Calls Try.prog 20 #[.agg #[.int .i64 ax, .int .i64 ay], .agg #[.int .i64 bx, .int .i64 b_y], .agg #[.int .i64 cx, .int .i64 cy]] w fun e w' => e = .returned (.int .i64 (turnZ ax ay bx b_y cx cy)) ∧ Ext W w' := by
  by_cases hv : [(ax, ay), (bx, b_y), (cx, cy)].all okp = true
  · have HV := Lib.hid hv
    have hT : turnZ ax ay bx b_y cx cy = sgz (twz ax ay bx b_y cx cy) := by
      unfold turnZ
      rw [if_pos (by simpa [Bool.and_assoc] using hv)]
    have HT := Lib.hid hT
    simp [okp] at hv
    obtain ⟨⟨h1, h2⟩, ⟨h3, h4⟩, h5, h6⟩ := hv
    clear hT
    go_enter Try.func20, Try.ntmps20
    go_wp2_with (first | (go_at_call 81; refine (rvalid _ _ [(ax, ay), (bx, b_y), (cx, cy)] _ (Ext.refl _) (Pts_mk (by simp) rfl rfl (by simp [maxLen]))).mono ?_; rintro e w' ⟨rfl, hX1⟩; rw [HV.out]; have hr := hX1.rule) | (go_at_call 83; refine (rTwice _ _ _ _ _ _ _ _ (by assumption) h1 h2 h3 h4 h5 h6).mono ?_; rintro e w' ⟨rfl, hX2⟩) | (go_at_call 82; refine (rSign _ _ _ (by assumption)).mono ?_; rintro e w' ⟨rfl, hX3⟩))
    go_ret
    exact ⟨ret_int HT.out.symm, hX.b4 hX3⟩
  · have HV := Lib.hid (Bool.eq_false_iff.2 hv)
    have hT : turnZ ax ay bx b_y cx cy = 0 := by
      unfold turnZ
      rw [if_neg (by simpa [Bool.and_assoc] using hv)]
    have HT := Lib.hid hT
    clear hT hv
    go_enter Try.func20, Try.ntmps20
    go_wp2_with (first | (go_at_call 81; refine (rvalid _ _ [(ax, ay), (bx, b_y), (cx, cy)] _ (Ext.refl _) (Pts_mk (by simp) rfl rfl (by simp [maxLen]))).mono ?_; rintro e w' ⟨rfl, hX1⟩; rw [HV.out]))
    go_ret
    exact ⟨ret_int HT.out.symm, hX.b4 hX1⟩
set_option maxHeartbeats 400000 in
theorem rDist (W : World) (ax ay bx b_y : Int) (w : World) (hX : Ext W w) :
    Calls Try.prog 22 #[.agg #[.int .i64 ax, .int .i64 ay], .agg #[.int .i64 bx, .int .i64 b_y]] w fun e w' => e = .returned (.int .i64 (distZ ax ay bx b_y)) ∧ Ext W w' := by
  by_cases hv : [(ax, ay), (bx, b_y)].all okp = true
  · have HV := Lib.hid hv
    have hT : distZ ax ay bx b_y = dsz ax ay bx b_y := by
      unfold distZ
      rw [if_pos (by simpa [Bool.and_assoc] using hv)]
    have HT := Lib.hid hT
    simp [okp] at hv
    obtain ⟨⟨h1, h2⟩, h3, h4⟩ := hv
    clear hT
    go_enter Try.func22, Try.ntmps22
    go_wp2_with (first | (go_at_call 81; refine (rvalid _ _ [(ax, ay), (bx, b_y)] _ (Ext.refl _) (Pts_mk (by simp) rfl rfl (by simp [maxLen]))).mono ?_; rintro e w' ⟨rfl, hX1⟩; rw [HV.out]; have hr := hX1.rule) | (go_at_call 85; refine (rSquare _ _ _ _ _ _ (by assumption) h1 h2 h3 h4).mono ?_; rintro e w' ⟨rfl, hX2⟩))
    go_ret
    exact ⟨ret_int HT.out.symm, hX.b3 hX2⟩
  · have HV := Lib.hid (Bool.eq_false_iff.2 hv)
    have hT : distZ ax ay bx b_y = -1 := by
      unfold distZ
      rw [if_neg (by simpa [Bool.and_assoc] using hv)]
    have HT := Lib.hid hT
    clear hT hv
    go_enter Try.func22, Try.ntmps22
    go_wp2_with (first | (go_at_call 81; refine (rvalid _ _ [(ax, ay), (bx, b_y)] _ (Ext.refl _) (Pts_mk (by simp) rfl rfl (by simp [maxLen]))).mono ?_; rintro e w' ⟨rfl, hX1⟩; rw [HV.out]))
    go_ret
    exact ⟨ret_int HT.out.symm, hX.b3 hX1⟩
end Go.Proofs.Ytdbhbfmbpldmnaa
