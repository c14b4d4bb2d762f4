import Derived.Test.YtdbhbfmbpldmnaaC3
namespace Go.Proofs.Ytdbhbfmbpldmnaa
open Go.RowKit
def ptIdx (l : List (Int × Int)) (p : Int × Int) : Int := match l.findIdx? (fun q => decide (p = q)) with | some i => i | none => -1
theorem ptIdx_of (l : List (Int × Int)) (p : Int × Int) (k : Nat) (hk : k < l.length) (hb : ∀ i, (h : i < k) → ¬ p = (l[i]'(by omega))) (h : p = l[k]) : ptIdx l p = k := by
  unfold ptIdx
  have : l.findIdx? (fun q => decide (p = q)) = some k := by
    rw [List.findIdx?_eq_some_iff_getElem]
    exact ⟨hk, by simp [h], fun j hj => by simpa using hb j hj⟩
  rw [this]
theorem ptIdx_none (l : List (Int × Int)) (p : Int × Int) (hb : ∀ i, (h : i < l.length) → ¬ p = l[i]) : ptIdx l p = -1 := by
  unfold ptIdx
  have : l.findIdx? (fun q => decide (p = q)) = none := by
    rw [List.findIdx?_eq_none_iff]
    intro x hx
    obtain ⟨i, hi, rfl⟩ := List.getElem_of_mem hx
    simpa using hb i hi
  rw [this]
def neUpto (l : List (Int × Int)) (p : Int × Int) (k : Nat) : Prop := ∀ i, i < k → (h : i < l.length) → ¬ p = l[i]
set_option maxHeartbeats 400000 in
theorem ptIdx_any (W : World) (v : Value) (l : List (Int × Int)) (x y : Int) (w : World) (hX : Ext W w) (hv : Pts w v l) :
    Calls Try.prog 134 #[v, .agg #[.int .i64 x, .int .i64 y]] w fun e w' => e = .returned (.int .i64 (ptIdx l (x, y))) ∧ Ext W w' := by
  obtain ⟨a, cap, rfl, hl, hm, hc⟩ := hv
  unfold maxLen at hm
  have hm2 : l.length ≤ 9223372036854775807 := by omega
  clear hl hm
  have HC := Lib.hid hc
  clear hc
  have heq := run_eql_pt
  go_enter Try.func134, Try.ntmps134
  go_wp2_with fail
  go_loopw [4, 5, 8] (fun r i j wr => ∃ k : Nat, k ≤ l.length ∧ j = .int .i64 k ∧ neUpto l (x, y) k ∧ Ext (w.alloc (.cells #[.int .i64 x, .int .i64 y] 23)) wr) (fun _ _ j _ => l.length - (intOf j).toNat)
  case atStart => exact ⟨0, Nat.zero_le _, rfl, fun i h => by omega, Ext.refl _⟩
  case round =>
    obtain ⟨k, hk, rfl, hb, hx⟩ := hrel
    by_cases hlt : k < l.length
    · obtain ⟨b, off, rfl, hcc⟩ : ∃ b off, a = some ⟨b, off, none⟩ ∧ _ := HC.out.resolve_left (fun h => by simp [h] at hlt)
      have c1 := (Ext.b1 (Ext.refl _) hx).cell (hcc k hlt).1
      have c2 := (Ext.b1 (Ext.refl _) hx).cell (hcc k hlt).2
      have hr := hx.rule
      clear hcc HC
      go_wp2_with fail
      go_quiet (fail)
      go_wp2_with fail
      · have h : x = (l[k]).1 ∧ y = (l[k]).2 := by assumption
        go_ret
        exact ⟨ret_int (by rw [ptIdx_of l _ k hlt (fun i hi => hb i hi (by omega)) (Prod.ext h.1 h.2)]), hX.b1 (hx.drewN _)⟩
      · have h : ¬x = (l[k]).1 ∨ ¬y = (l[k]).2 := by assumption
        refine ⟨⟨k + 1, by omega, by go_num, fun i hi hi2 => ?_, hx.drewN _⟩, by simp [intOf]; omega⟩
        by_cases hik : i = k
        · subst hik
          intro e
          rw [← e] at h
          simp at h
        · exact hb i (by omega) hi2
    · go_wp2_with fail
      go_ret
      exact ⟨ret_int (by rw [ptIdx_none l _ (fun i hi => hb i (by omega) hi)]), hX.b1 hx⟩
theorem ptIdx_nonneg (l : List (Int × Int)) (p : Int × Int) : decide (0 ≤ ptIdx l p) = decide (p ∈ l) := by
  unfold ptIdx
  cases h : l.findIdx? (fun q => decide (p = q)) with
  | none =>
    rw [List.findIdx?_eq_none_iff] at h
    have : ¬ p ∈ l := fun hp => by simpa using h p hp
    simp [this]
  | some i =>
    obtain ⟨hi, hp, _⟩ := List.findIdx?_eq_some_iff_getElem.1 h
    have : p ∈ l := by
      have : p = l[i] := by simpa using hp
      rw [this]
      exact List.getElem_mem hi
    simp [this]
theorem contP_any (W : World) (v : Value) (l : List (Int × Int)) (x y : Int) (w : World) (hX : Ext W w) (hv : Pts w v l) :
    Calls Try.prog 110 #[v, .agg #[.int .i64 x, .int .i64 y]] w fun e w' => e = .returned (.bool (decide ((x, y) ∈ l))) ∧ Ext W w' := by
  have H := Lib.hid (ptIdx_nonneg l (x, y))
  go_enter Try.func110, Try.ntmps110
  go_wp2_with (first | (go_at_call 134; refine (ptIdx_any W _ l _ _ _ (hX.alloc _) (hv.ext ((Ext.refl _).alloc _))).mono ?_; rintro e w' ⟨rfl, hX1⟩))
  go_ret
  exact ⟨ret_bool H.out, hX1⟩
end Go.Proofs.Ytdbhbfmbpldmnaa
