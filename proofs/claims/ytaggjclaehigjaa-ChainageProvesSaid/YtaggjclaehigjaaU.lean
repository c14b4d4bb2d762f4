/- Contracts of cmp.Compare, cmp.Or, and of the order of the things. -/
import Derived.Test.YtaggjclaehigjaaT
namespace Go.Proofs.Ytaggjclaehigjaa
open Go.RowKit
def enc1 (n : Int) : List Value := [.int .i64 n]
theorem enc1_len (x : Int) : (enc1 x).length = 1 := rfl
theorem enc1_one (x : Int) : ∀ u ∈ enc1 x, u.oneCell' = true := by
  intro u hu
  simp only [enc1, List.mem_cons, List.not_mem_nil, or_false] at hu
  rw [hu]; rfl
abbrev Ints (w : World) (v : Value) (l : List Int) : Prop := Sl 1 enc1 w v l
theorem Ints.parts {w : World} {v : Value} {l : List Int} (h : Ints w v l) : ∃ a cap, v = .slice a l.length cap ∧ l.length ≤ cap ∧ cap ≤ maxLen ∧
    (l = [] ∨ ∃ b off, a = some ⟨b, off, none⟩ ∧ ∀ i, (h : i < l.length) → w.cell? ⟨b, off + i, none⟩ = some (.int .i64 l[i])) := by
  obtain ⟨a, cap, hv, hl, hm, h⟩ := h
  refine ⟨a, cap, hv, hl, hm, h.imp id ?_⟩
  rintro ⟨b, off, ha, hc⟩
  refine ⟨b, off, ha, fun i hi => ?_⟩
  have := hc i hi 0 _ rfl
  simpa using this
theorem int_at {w wr : World} {a : Option Addr} {l : List Int} {k : Nat} (hc : l = [] ∨ ∃ b off, a = some ⟨b, off, none⟩ ∧ ∀ i, (h : i < l.length) → w.cell? ⟨b, off + i, none⟩ = some (.int .i64 l[i])) (hE : Ext w wr) (hk : k < l.length) :
    ∃ b off x, x = l[k] ∧ a = some ⟨b, off, none⟩ ∧ wr.cell? ⟨b, off + k, none⟩ = some (.int .i64 x) := by
  obtain ⟨b, off, ha, h⟩ := hc.resolve_left (fun e => by simp [e] at hk)
  exact ⟨b, off, l[k], rfl, ha, hE.cell (h k hk)⟩
def cmpZ (a b : Int) : Int := if a < b then -1 else if b < a then 1 else 0
theorem isNaN_any (a : Int) (w : World) : Calls Try.prog 122 #[.int .i64 a] w fun e w' => e = .returned (.bool false) ∧ w = w' := by
  go_enter Try.func122, Try.ntmps122
  go_wp2
  go_ret
  exact ⟨by simp, rfl⟩
theorem compare_any (a b : Int) (w : World) : Calls Try.prog 100 #[.int .i64 a, .int .i64 b] w fun e w' => e = .returned (.int .i64 (cmpZ a b)) ∧ w = w' := by
  unfold cmpZ
  by_cases h1 : a < b
  · go_enter Try.func100, Try.ntmps100
    go_wp2_with (go_at_call 122; with_reducible refine (isNaN_any _ _).mono ?_; rintro e w' ⟨rfl, rfl⟩)
    go_ret
    exact ⟨by simp, rfl⟩
  · by_cases h2 : b < a
    all_goals
      go_enter Try.func100, Try.ntmps100
      go_wp2_with (go_at_call 122; with_reducible refine (isNaN_any _ _).mono ?_; rintro e w' ⟨rfl, rfl⟩)
      go_ret
      exact ⟨by simp, rfl⟩
/-- the first number that is not 0 -/
def orL : List Int → Int
  | [] => 0
  | a :: l => if a = 0 then orL l else a
theorem orL_take {l : List Int} {k : Nat} (hk : k < l.length) (h : ∀ j, (hj : j < k) → l[j]'(by omega) = 0) (h0 : l[k] ≠ 0) : orL l = l[k] := by
  induction l generalizing k with
  | nil => simp at hk
  | cons a l ih =>
    cases k with
    | zero => simp at h0; simp [orL, h0]
    | succ k =>
      have ha : a = 0 := h 0 (by omega)
      simp only [orL, if_pos ha, List.getElem_cons_succ]
      exact ih (by simpa using hk) (fun j hj => h (j + 1) (by omega)) (by simpa using h0)
theorem orL_all {l : List Int} (h : ∀ j, (hj : j < l.length) → l[j] = 0) : orL l = 0 := by
  induction l with
  | nil => rfl
  | cons a l ih =>
    have ha : a = 0 := h 0 (by simp)
    simp only [orL, if_pos ha]
    exact ih (fun j hj => h (j + 1) (by simpa using hj))
set_option maxRecDepth 100000 in
set_option maxHeartbeats 1000000 in
theorem or_any (W : World) (v : Value) (l : List Int) (w : World) (hX : Ext W w) (hv : Ints w v l) : Calls Try.prog 99 #[v] w fun e w' => e = .returned (.int .i64 (orL l)) ∧ Ext W w' := by
  obtain ⟨a, cap, rfl, hl, hm, hc⟩ := hv.parts
  have HC := Lib.hid hc
  unfold maxLen at hm
  have hml : l.length ≤ 9223372036854775807 := by omega
  clear hc hm hv
  go_enter Try.func99, Try.ntmps99
  go_wp2
  go_loopw [8] (fun i wr => ∃ k : Nat, k ≤ l.length ∧ i = .int .i64 k ∧ Hid (∀ j, (hj : j < k) → (h : j < l.length) → l[j] = 0) ∧ Ext w wr) (fun i _ => l.length - (intOf i).toNat)
  case atStart => exact ⟨0, Nat.zero_le _, rfl, fun j hj => absurd hj (by omega), Ext.refl _⟩
  case round =>
    obtain ⟨k, hk, rfl, HN, hE⟩ := hrel
    by_cases hlt : k < l.length
    · obtain ⟨b, off, x, hx, rfl, c0⟩ := int_at HC.out hE hlt
      have HX := Lib.hid hx
      clear hx
      by_cases h0 : x = 0
      · subst h0
        go_wp2_with fail
        go_roundw
        case rel =>
          refine ⟨k + 1, by omega, by go_num, fun j hj h => ?_, hE⟩
          by_cases e : j = k
          · subst e; exact HX.out.symm
          · exact HN.out j (by omega) h
        case measure => simp [intOf]; omega
      · go_wp2_with fail
        go_ret
        exact ⟨by rw [orL_take hlt (fun j hj => HN.out j hj (by omega)) (by rw [← HX.out]; exact h0), ← HX.out]; rfl, hX.trans hE⟩
    · obtain rfl : k = l.length := by omega
      go_wp2_with fail
      go_ret
      exact ⟨by rw [orL_all (fun j hj => HN.out j hj hj)]; rfl, hX.trans hE⟩
/-- the order of the things -/
def cmpT (s t : Th) : Int := orL [cmpZ s.y t.y, cmpZ (if begB s then 0 else 1) (if begB t then 0 else 1)]
theorem Ints_two (w : World) (T : Nat) (a b : Int) : Ints (w.alloc (.cells #[.int .i64 a, .int .i64 b] T)) (.slice (some ⟨w.heap.size, 0, none⟩) 2 2) [a, b] := by
  have h : (w.alloc (.cells #[.int .i64 a, .int .i64 b] T)).heap[w.heap.size]? = some (.cells #[.int .i64 a, .int .i64 b] T) := Array.getElem?_push_size
  exact Sl.of_block (l := [a, b]) enc1_len h (fun j u hj => by simpa [enc1] using hj) (Nat.le_refl _) (by simp [maxLen])
set_option maxRecDepth 100000 in
set_option maxHeartbeats 2000000 in
theorem cmpT_any (W : World) (u v : Value) (s t : Th) (w : World) (hX : Ext W w) (hu : ThAt w u s) (hv : ThAt w v t) : Calls Try.prog 97 #[u, v] w fun e w' => e = .returned (.int .i64 (cmpT s t)) ∧ Ext W w' := by
  have HU := Lib.hid hu
  have HV := Lib.hid hv
  have HT : Hid (∀ b c, begB s = b → begB t = c → orL [cmpZ s.y t.y, cmpZ (if b then 0 else 1) (if c then 0 else 1)] = cmpT s t) := by
    rintro b c rfl rfl
    rfl
  clear hu hv
  cases h1 : begB s <;> cases h2 : begB t
  all_goals
    have HT2 := Lib.hid (HT.out _ _ h1 h2)
    go_enter Try.func97, Try.ntmps97
    go_wp2_with (first
      | (go_at_call_of 98 (u); with_reducible refine (begins_any _ _ s HU.out).mono ?_; rintro e w' ⟨rfl, rfl⟩; rw [h1])
      | (go_at_call_of 98 (v); with_reducible refine (begins_any _ _ t HV.out).mono ?_; rintro e w' ⟨rfl, rfl⟩; rw [h2])
      | (go_at_call_of 101 (u); with_reducible refine (year_any _ _ s HU.out).mono ?_; rintro e w1 ⟨rfl, hX1⟩)
      | (go_at_call_of 101 (v); with_reducible refine (year_any _ _ t (HV.out.ext hX1)).mono ?_; rintro e w2 ⟨rfl, hX2⟩)
      | (go_at_call 100; with_reducible refine (compare_any _ _ _).mono ?_; rintro e w' ⟨rfl, rfl⟩)
      | (go_at_call 99; with_reducible refine (or_any _ _ _ _ (Ext.refl _) (Ints_two _ _ _ _)).mono ?_; rintro e w3 ⟨rfl, hX3⟩))
    go_ret
    exact ⟨by rw [← HT2.out]; rfl, hX.trans (hX1.trans ((hX2.alloc _).trans hX3))⟩
end Go.Proofs.Ytaggjclaehigjaa
