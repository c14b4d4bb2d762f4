import Derived.Test.YtdbhbfmbpldmnaaC1
namespace Go.Proofs.Ytdbhbfmbpldmnaa
open Go.RowKit
/-- the first index of a bad point, or -1 -/
def badIdx (l : List (Int × Int)) : Int := match l.findIdx? (fun p => !okp p) with | some i => i | none => -1
theorem badIdx_of (l : List (Int × Int)) (k : Nat) (hk : k < l.length) (hb : ∀ i, (h : i < k) → okp (l[i]'(by omega)) = true) (h : okp l[k] = false) : badIdx l = k := by
  unfold badIdx
  have : l.findIdx? (fun p => !okp p) = some k := by
    rw [List.findIdx?_eq_some_iff_getElem]
    exact ⟨hk, by simp [h], fun j hj => by simp [hb j hj]⟩
  rw [this]
theorem badIdx_none (l : List (Int × Int)) (hb : ∀ i, (h : i < l.length) → okp l[i] = true) : badIdx l = -1 := by
  unfold badIdx
  have : l.findIdx? (fun p => !okp p) = none := by
    rw [List.findIdx?_eq_none_iff]
    intro x hx
    obtain ⟨i, hi, rfl⟩ := List.getElem_of_mem hx
    simp [hb i hi]
  rw [this]
def okUpto (l : List (Int × Int)) (k : Nat) : Prop := ∀ i, i < k → (h : i < l.length) → okp l[i] = true
set_option maxHeartbeats 400000 in
theorem idxF_any (W : World) (v : Value) (l : List (Int × Int)) (w : World) (hX : Ext W w) (hv : Pts w v l) :
    Calls Try.prog 137 #[v, .func (.func 127) #[] #[]] w fun e w' => e = .returned (.int .i64 (badIdx l)) ∧ Ext W w' := by
  obtain ⟨a, cap, rfl, hl, hm, hc⟩ := hv
  unfold maxLen at hm
  have hm2 : l.length ≤ 9223372036854775807 := by omega
  clear hl hm
  have HC := Lib.hid hc
  clear hc
  go_enter Try.func137, Try.ntmps137
  go_wp2_with fail
  go_loopw [4, 5, 8] (fun r i j wr => ∃ k : Nat, k ≤ l.length ∧ j = .int .i64 k ∧ okUpto l k ∧ Ext w wr) (fun _ _ j _ => l.length - (intOf j).toNat)
  case atStart => exact ⟨0, Nat.zero_le _, rfl, fun i h => by omega, Ext.refl _⟩
  case round =>
    obtain ⟨k, hk, rfl, hb, hx⟩ := hrel
    by_cases hlt : k < l.length
    · obtain ⟨b, off, rfl, hcc⟩ : ∃ b off, a = some ⟨b, off, none⟩ ∧ _ := HC.out.resolve_left (fun h => by simp [h] at hlt)
      have c1 := hx.cell (hcc k hlt).1
      have c2 := hx.cell (hcc k hlt).2
      clear hcc HC
      go_wp2_with (first | (go_at_call 127; refine (validC_any w _ _ _ (by assumption)).mono ?_; rintro e w' ⟨rfl, hX1⟩))
      · have h : (!okp (l[k].fst, l[k].snd)) = true := by assumption
        go_ret
        exact ⟨ret_int (by rw [badIdx_of l k hlt (fun i hi => hb i hi (by omega)) (by simpa using h)]), hX.trans hX1⟩
      · have h : (!okp (l[k].fst, l[k].snd)) = false := by assumption
        refine ⟨⟨k + 1, by omega, by go_num, fun i hi hi2 => ?_, hX1⟩, by simp [intOf]; omega⟩
        by_cases hik : i = k
        · subst hik
          simpa using h
        · exact hb i (by omega) hi2
    · go_wp2_with fail
      go_ret
      exact ⟨ret_int (by rw [badIdx_none l (fun i hi => hb i (by omega) hi)]), hX.trans hx⟩
theorem badIdx_nonneg (l : List (Int × Int)) : decide (0 ≤ badIdx l) = !l.all okp := by
  unfold badIdx
  cases h : l.findIdx? (fun p => !okp p) with
  | none =>
    rw [List.findIdx?_eq_none_iff] at h
    have : l.all okp = true := by rw [List.all_eq_true]; intro x hx; simpa using h x hx
    simp [this]
  | some i =>
    obtain ⟨hi, hp, _⟩ := List.findIdx?_eq_some_iff_getElem.1 h
    have : l.all okp = false := by
      rw [List.all_eq_false]
      exact ⟨l[i], List.getElem_mem hi, by simpa using hp⟩
    simp [this]
theorem contF_any (W : World) (v : Value) (l : List (Int × Int)) (w : World) (hX : Ext W w) (hv : Pts w v l) :
    Calls Try.prog 126 #[v, .func (.func 127) #[] #[]] w fun e w' => e = .returned (.bool (!l.all okp)) ∧ Ext W w' := by
  have H := Lib.hid (badIdx_nonneg l)
  go_enter Try.func126, Try.ntmps126
  go_wp2_with (first | (go_at_call 137; refine (idxF_any W _ l _ hX hv).mono ?_; rintro e w' ⟨rfl, hX1⟩))
  go_ret
  exact ⟨ret_bool H.out, hX1⟩
theorem valid_any (W : World) (v : Value) (l : List (Int × Int)) (w : World) (hX : Ext W w) (hv : Pts w v l) :
    Calls Try.prog 78 #[v] w fun e w' => e = .returned (.bool (l.all okp)) ∧ Ext W w' := by
  go_enter Try.func78, Try.ntmps78
  go_wp2_with (first | (go_at_call 126; refine (contF_any W _ l _ hX hv).mono ?_; rintro e w' ⟨rfl, hX1⟩))
  go_ret
  exact ⟨ret_bool (by simp), hX1⟩
def turnZ (ax ay bx b_y cx cy : Int) : Int := if (okp (ax, ay) && okp (bx, b_y) && okp (cx, cy)) = true then sgz (twz ax ay bx b_y cx cy) else 0
def distZ (ax ay bx b_y : Int) : Int := if (okp (ax, ay) && okp (bx, b_y)) = true then dsz ax ay bx b_y else -1
set_option maxHeartbeats 400000 in
theorem Turn_any (W : World) (ax ay bx b_y cx cy : Int) (w : World) (hX : Ext W w) :
    Calls Try.prog 19 #[.agg #[.int .i64 ax, .int .i64 ay], .agg #[.int .i64 bx, .int .i64 b_y], .agg #[.int .i64 cx, .int .i64 cy]] w fun e w' => e = .returned (.int .i64 (turnZ ax ay bx b_y cx cy)) ∧ Ext W w' := by
  by_cases hv : [(ax, ay), (bx, b_y), (cx, cy)].all okp = true
  · have HV := Lib.hid hv
    have hT : turnZ ax ay bx b_y cx cy = sgz (twz ax ay bx b_y cx cy) := by
      unfold turnZ
      rw [if_pos (by simpa [Bool.and_assoc] using hv)]
    have HT := Lib.hid hT
    simp [okp] at hv
    obtain ⟨⟨h1, h2⟩, ⟨h3, h4⟩, h5, h6⟩ := hv
    clear hT
    go_enter Try.func19, Try.ntmps19
    go_wp2_with (first | (go_at_call 78; refine (valid_any _ _ [(ax, ay), (bx, b_y), (cx, cy)] _ (Ext.refl _) (Pts_mk (by simp) rfl rfl (by simp [maxLen]))).mono ?_; rintro e w' ⟨rfl, hX1⟩; rw [HV.out]; have hr := hX1.rule) | (go_at_call 80; refine (twice_any _ _ _ _ _ _ _ _ (by assumption) h1 h2 h3 h4 h5 h6).mono ?_; rintro e w' ⟨rfl, hX2⟩) | (go_at_call 79; refine (sign_any _ _ _ (by assumption)).mono ?_; rintro e w' ⟨rfl, hX3⟩))
    go_ret
    exact ⟨ret_int HT.out.symm, hX.b4 hX3⟩
  · have HV := Lib.hid (Bool.eq_false_iff.2 hv)
    have hT : turnZ ax ay bx b_y cx cy = 0 := by
      unfold turnZ
      rw [if_neg (by simpa [Bool.and_assoc] using hv)]
    have HT := Lib.hid hT
    clear hT hv
    go_enter Try.func19, Try.ntmps19
    go_wp2_with (first | (go_at_call 78; refine (valid_any _ _ [(ax, ay), (bx, b_y), (cx, cy)] _ (Ext.refl _) (Pts_mk (by simp) rfl rfl (by simp [maxLen]))).mono ?_; rintro e w' ⟨rfl, hX1⟩; rw [HV.out]))
    go_ret
    exact ⟨ret_int HT.out.symm, hX.b4 hX1⟩
set_option maxHeartbeats 400000 in
theorem Dist_any (W : World) (ax ay bx b_y : Int) (w : World) (hX : Ext W w) :
    Calls Try.prog 21 #[.agg #[.int .i64 ax, .int .i64 ay], .agg #[.int .i64 bx, .int .i64 b_y]] w fun e w' => e = .returned (.int .i64 (distZ ax ay bx b_y)) ∧ Ext W w' := by
  by_cases hv : [(ax, ay), (bx, b_y)].all okp = true
  · have HV := Lib.hid hv
    have hT : distZ ax ay bx b_y = dsz ax ay bx b_y := by
      unfold distZ
      rw [if_pos (by simpa [Bool.and_assoc] using hv)]
    have HT := Lib.hid hT
    simp [okp] at hv
    obtain ⟨⟨h1, h2⟩, h3, h4⟩ := hv
    clear hT
    go_enter Try.func21, Try.ntmps21
    go_wp2_with (first | (go_at_call 78; refine (valid_any _ _ [(ax, ay), (bx, b_y)] _ (Ext.refl _) (Pts_mk (by simp) rfl rfl (by simp [maxLen]))).mono ?_; rintro e w' ⟨rfl, hX1⟩; rw [HV.out]; have hr := hX1.rule) | (go_at_call 84; refine (dist_any _ _ _ _ _ _ (by assumption) h1 h2 h3 h4).mono ?_; rintro e w' ⟨rfl, hX2⟩))
    go_ret
    exact ⟨ret_int HT.out.symm, hX.b3 hX2⟩
  · have HV := Lib.hid (Bool.eq_false_iff.2 hv)
    have hT : distZ ax ay bx b_y = -1 := by
      unfold distZ
      rw [if_neg (by simpa [Bool.and_assoc] using hv)]
    have HT := Lib.hid hT
    clear hT hv
    go_enter Try.func21, Try.ntmps21
    go_wp2_with (first | (go_at_call 78; refine (valid_any _ _ [(ax, ay), (bx, b_y)] _ (Ext.refl _) (Pts_mk (by simp) rfl rfl (by simp [maxLen]))).mono ?_; rintro e w' ⟨rfl, hX1⟩; rw [HV.out]))
    go_ret
    exact ⟨ret_int HT.out.symm, hX.b3 hX1⟩
end Go.Proofs.Ytdbhbfmbpldmnaa
