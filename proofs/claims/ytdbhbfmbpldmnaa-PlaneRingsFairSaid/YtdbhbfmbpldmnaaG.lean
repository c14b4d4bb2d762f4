/- Root and the specification's root. -/
import Derived.Test.YtdbhbfmbpldmnaaC7
import Derived.Test.YtdbhbfmbpldmnaaF
import Derived.Laws.Externs
namespace Go.Proofs.Ytdbhbfmbpldmnaa
open Go.RowKit
theorem run_sqrt (x r : Nat) (w : World) (h : FloatKind.f64.format.sqrt x = some r) : (callFunc 128 #[.float .f64 x]).run Try.prog w = .ok (.value (.float .f64 r)) w := by
  rw [run_callFunc_extern (fn := Try.f128) Try.func128 (by kernel_rfl) (by kernel_rfl) (by kernel_rfl) (e := Extern.MathSqrt.sqrt) (by kernel_rfl)]
  change (Sem.run Try.prog (match FloatKind.f64.format.sqrt x with
    | some r => pure (Value.float .f64 r)
    | none => do pure (Value.float .f64 (← choose (.nanBits .f64 x x)))) w).andThen _ = _
  rw [h]
  rfl
set_option maxHeartbeats 400000 in
theorem Sqrt_any (x r : Nat) (w : World) (h : FloatKind.f64.format.sqrt x = some r) : Calls Try.prog 86 #[.float .f64 x] w fun e w' => e = .returned (.float .f64 r) ∧ w' = w := by
  have hs := run_sqrt x r w h
  go_enter Try.func86, Try.ntmps86
  go_wp2
  go_ret
  exact ⟨rfl, rfl⟩
/-- r is the root of n -/
def rootP (n r : Int) : Prop := (n < 1 ∧ r = 0) ∨ (1 ≤ n ∧ 0 ≤ r ∧ r * r ≤ n ∧ n < (r + 1) * (r + 1))
theorem sq_mono {a b : Int} (h0 : 0 ≤ a) (h : a ≤ b) : a * a ≤ b * b := Int.mul_le_mul h h h0 (by omega)
theorem rootP_uniq {n r s : Int} (h : rootP n r) (k : rootP n s) : r = s := by
  rcases h with ⟨h, h2⟩ | ⟨h, h1, h2, h3⟩ <;> rcases k with ⟨k, k2⟩ | ⟨k, k1, k2, k3⟩
  · omega
  · omega
  · omega
  · rcases Int.lt_trichotomy r s with a | a | a
    · have := sq_mono (a := r + 1) (b := s) (by omega) (by omega)
      omega
    · exact a
    · have := sq_mono (a := s + 1) (b := r) (by omega) (by omega)
      omega
def rootS (n : Int) : Nat → Int → Int
  | 0, r => r
  | k + 1, r => rootS n k (if (r + 2 ^ k) * (r + 2 ^ k) ≤ n then r + 2 ^ k else r)
def rootZ (n : Int) : Int := if n < 1 then 0 else rootS n 32 0
theorem rootS_ok (n : Int) : ∀ (k : Nat) (r : Int), 0 ≤ r → r * r ≤ n → n < (r + 2 ^ k) * (r + 2 ^ k) → 0 ≤ rootS n k r ∧ rootS n k r * rootS n k r ≤ n ∧ n < (rootS n k r + 1) * (rootS n k r + 1)
  | 0, r, h0, h1, h2 => ⟨h0, h1, by simpa [rootS] using h2⟩
  | k + 1, r, h0, h1, h2 => by
    have hp : (0 : Int) < 2 ^ k := Int.pow_pos (by omega)
    have h22 : (2 : Int) ^ (k + 1) = 2 ^ k + 2 ^ k := by rw [Int.pow_succ]; omega
    rw [rootS]
    split
    · rename_i h
      refine rootS_ok n k _ (by omega) h ?_
      rw [show r + 2 ^ k + 2 ^ k = r + 2 ^ (k + 1) from by rw [h22]; omega]
      exact h2
    · rename_i h
      exact rootS_ok n k _ h0 h1 (by omega)
theorem rootZ_ok {n : Int} (h : n ≤ 9223372036854775807) : rootP n (rootZ n) := by
  unfold rootZ
  split
  · exact .inl ⟨by assumption, rfl⟩
  · have := rootS_ok n 32 0 (by omega) (by omega) (by simp; omega)
    exact .inr ⟨by omega, this⟩
theorem root_lim {r n : Int} (_h0 : 0 ≤ r) (h : r * r ≤ n) (hn : n ≤ 9223372036854775807) : r ≤ 3037000499 := by
  rcases Int.lt_or_le 3037000499 r with h1 | h1
  · have := sq_mono (a := 3037000500) (b := r) (by omega) (by omega)
    omega
  · exact h1
theorem sq_bd {r : Int} (h0 : 0 ≤ r) (h : r ≤ 3037000499) : 0 ≤ r * r ∧ r * r ≤ 9223372030926249001 := ⟨Int.mul_nonneg h0 h0, by have := sq_mono h0 h; omega⟩
set_option maxRecDepth 100000 in
set_option maxHeartbeats 800000 in
theorem Root_any (W : World) (n : Int) (w : World) (hX : Ext W w) (hn : n ≤ 9223372036854775807) :
    Calls Try.prog 23 #[.int .i64 n] w fun e w' => e = .returned (.int .i64 (rootZ n)) ∧ Ext W w' := by
  have HZ := Lib.hid (rootZ_ok hn)
  by_cases h1 : n < 1
  · have HR : Hid (rootZ n = 0) := by
      unfold Hid rootZ
      rw [if_pos h1]
    go_enter Try.func23, Try.ntmps23
    go_wp2_with fail
    go_ret
    exact ⟨ret_int HR.out.symm, hX⟩
  · obtain ⟨R, k, hs, hk, hk0, hk1⟩ := sqrt_int (n := n) (by omega) hn
    have hmin := ite_min
    go_enter Try.func23, Try.ntmps23
    go_wp2_with (first | (go_at_call 86; refine (Sqrt_any _ R _ hs).mono ?_; rintro e w' ⟨rfl, rfl⟩; have hcv := run_convert_float_int (P := Try.prog) w' 96 3 .f64 .i64 R k rfl (by kernel_rfl) hk))
    clear hcv hs hk
    have hR : Hid (∀ r : Int, 0 ≤ r → r * r ≤ n → n < (r + 1) * (r + 1) → r = rootZ n) := fun r a b c => rootP_uniq (.inr ⟨h1, a, b, c⟩) HZ.out
    go_loopw [3] (fun v wr => ∃ r : Int, v = .int .i64 r ∧ 0 ≤ r ∧ r ≤ 3037000499 ∧ Ext w' wr) (fun v _ => (intOf v).toNat)
    case atStart => exact ⟨_, rfl, by omega, by omega, Ext.refl _⟩
    case round =>
      obtain ⟨r, rfl, h0, h3, hx⟩ := hrel
      obtain ⟨hb0, hb1⟩ := sq_bd h0 h3
      have hw1 : IntKind.i64.wrap (r * r) = r * r := IntWalk.i64_in _ (by omega)
      by_cases hc : n < r * r
      · have hr1 : 1 ≤ r := by
          rcases Int.lt_or_le r 1 with h | h
          · have : r = 0 := by omega
            rw [this] at hc
            omega
          · exact h
        go_wp2_with fail
        exact ⟨⟨_, rfl, by omega, by omega, hx⟩, by simp [intOf]; omega⟩
      · go_wp2_with fail
        go_loopw [3] (fun v wr => ∃ r : Int, v = .int .i64 r ∧ 0 ≤ r ∧ r ≤ 3037000499 ∧ r * r ≤ n ∧ Ext w' wr) (fun v _ => (3037000499 - intOf v).toNat)
        case atStart => exact ⟨_, rfl, by omega, by omega, by omega, hx⟩
        case round =>
          clear hc hw1 hb0 hb1 h0 h3
          obtain ⟨r, rfl, h0, h3, hrn, hx⟩ := hrel
          by_cases h4 : r < 3037000499
          · obtain ⟨hb0, hb1⟩ := sq_bd (r := r + 1) (by omega) (by omega)
            have hw1 : IntKind.i64.wrap ((r + 1) * (r + 1)) = (r + 1) * (r + 1) := IntWalk.i64_in _ (by omega)
            by_cases hc : (r + 1) * (r + 1) ≤ n
            · go_wp2_with fail
              exact ⟨⟨_, rfl, by omega, by omega, hc, hx⟩, by simp [intOf]; omega⟩
            · go_wp2_with fail
              go_ret
              exact ⟨ret_int (hR.out r h0 hrn (by omega)), hX.trans hx⟩
          · go_wp2_with fail
            go_ret
            refine ⟨ret_int (hR.out r h0 hrn ?_), hX.trans hx⟩
            obtain rfl : r = 3037000499 := by omega
            omega
theorem pow_half (k : Nat) : ((2 : Int) ^ (k + 1)) / 2 = 2 ^ k := by
  rw [Int.pow_succ, Int.mul_ediv_cancel _ (by omega)]
theorem tdiv_half {b : Int} (h : 0 ≤ b) : b.tdiv 2 = b / 2 := Int.tdiv_eq_ediv_of_nonneg h
theorem pow_le_32 {k : Nat} (h : k ≤ 31) : (2 : Int) ^ k ≤ 2147483648 := by
  have : (2 : Nat) ^ k ≤ 2 ^ 31 := Nat.pow_le_pow_right (by omega) h
  have h2 : ((2 ^ k : Nat) : Int) ≤ ((2 ^ 31 : Nat) : Int) := Int.ofNat_le.2 this
  rw [Int.natCast_pow] at h2
  exact h2
/-- what the loop knows of the root so far -/
def rootLo (n : Int) (k : Nat) (r : Int) : Prop := (n < 1 → r = 0) ∧ (1 ≤ n → r * r ≤ n ∧ n < (r + 2 ^ k) * (r + 2 ^ k))
theorem rootLo_start {n : Int} (hn : n ≤ 9223372036854775807) : rootLo n 32 0 := ⟨fun _ => rfl, fun _ => ⟨by omega, by simp; omega⟩⟩
theorem rootLo_hi {n r b : Int} {k : Nat} (hb : b = 2 ^ k) (h : rootLo n (k + 1) r) (h2 : (r + b) * (r + b) ≤ n) (h0 : 0 ≤ r) : rootLo n k (r + b) := by
  subst hb
  have hp : (0 : Int) < 2 ^ k := Int.pow_pos (by omega)
  refine ⟨fun h1 => ?_, fun h1 => ⟨h2, ?_⟩⟩
  · exfalso
    have := sq_mono (a := 1) (b := r + 2 ^ k) (by omega) (by omega)
    omega
  · have := (h.2 h1).2
    rw [show (2 : Int) ^ (k + 1) = 2 ^ k + 2 ^ k from by rw [Int.pow_succ]; omega, ← Int.add_assoc] at this
    exact this
theorem rootLo_lo {n r b : Int} {k : Nat} (hb : b = 2 ^ k) (h : rootLo n (k + 1) r) (h2 : n < (r + b) * (r + b)) : rootLo n k r := by
  subst hb
  exact ⟨h.1, fun h1 => ⟨(h.2 h1).1, h2⟩⟩
theorem rootLo_lim {n r b : Int} {k : Nat} (hb : b = 2 ^ k) (h : rootLo n (k + 1) r) (_h0 : 0 ≤ r) (hn : n ≤ 9223372036854775807) (h2 : 3037000499 < r + b) : rootLo n k r := by
  refine rootLo_lo hb h ?_
  rcases Int.lt_or_le n ((r + b) * (r + b)) with h3 | h3
  · exact h3
  · have hp : (0 : Int) < 2 ^ k := Int.pow_pos (by omega)
    have := root_lim (r := r + b) (by omega) h3 hn
    omega
theorem rootLo_end {n r : Int} (h : rootLo n 0 r) (h0 : 0 ≤ r) (hn : n ≤ 9223372036854775807) : r = rootZ n := by
  refine rootP_uniq ?_ (rootZ_ok hn)
  rcases Int.lt_or_le n 1 with h1 | h1
  · exact .inl ⟨h1, h.1 h1⟩
  · exact .inr ⟨h1, h0, (h.2 h1).1, by simpa using (h.2 h1).2⟩
set_option maxRecDepth 100000 in
set_option maxHeartbeats 800000 in
theorem refRoot_any (W : World) (n : Int) (w : World) (hX : Ext W w) (hn : n ≤ 9223372036854775807) :
    Calls Try.prog 24 #[.int .i64 n] w fun e w' => e = .returned (.int .i64 (rootZ n)) ∧ Ext W w' := by
  have hn0 := Lib.hid hn
  go_enter Try.func24, Try.ntmps24
  go_wp2_with fail
  go_loopw [3, 4] (fun v u wr => ∃ (r b : Int) (k : Nat), v = .int .i64 r ∧ u = .int .i64 b ∧ b = 2 ^ k / 2 ∧ k ≤ 32 ∧ 0 ≤ r ∧ r + 2 ^ k ≤ 4294967296 ∧ Hid (rootLo n k r) ∧ Ext w wr) (fun _ u _ => (intOf u).toNat)
  case atStart => exact ⟨0, 2147483648, 32, rfl, rfl, by decide, by omega, by omega, by decide, rootLo_start hn, Ext.refl _⟩
  case round =>
    obtain ⟨r, b, k, rfl, rfl, hb, hk, h0, hlim, hL, hx⟩ := hrel
    cases k with
    | zero =>
      have hb0 : b = 0 := by rw [hb]; decide
      subst hb0
      clear hb hlim
      go_wp2_with fail
      go_ret
      exact ⟨ret_int (rootLo_end hL.out h0 hn0.out), hX.trans hx⟩
    | succ k =>
      have hp : (0 : Int) < 2 ^ k := Int.pow_pos (by omega)
      have h22 : (2 : Int) ^ (k + 1) = 2 ^ k + 2 ^ k := by rw [Int.pow_succ]; omega
      have hb2 : b = 2 ^ k := by rw [hb, pow_half]
      have hb3 : b.tdiv 2 = 2 ^ k / 2 := by rw [tdiv_half (by omega), hb2]
      have hb1 : 1 ≤ b := by omega
      have hb4 : b ≤ 2147483648 := by have := pow_le_32 (k := k) (by omega); omega
      have hlim2 : r + b + b ≤ 4294967296 := by omega
      have HB := Lib.hid hb2
      have HK := Lib.hid hk
      obtain ⟨b', hb'⟩ : ∃ b', b.tdiv 2 = b' := ⟨_, rfl⟩
      have hb5 : b' = 2 ^ k / 2 := by rw [← hb', hb3]
      have hb6 : 0 ≤ b' ∧ b' < b := by omega
      have HB5 := Lib.hid hb5
      clear hb hlim hp h22 hb2 hb3 hb5 hk
      by_cases h4 : r + b ≤ 3037000499
      · obtain ⟨hs0, hs1⟩ := sq_bd (r := r + b) (by omega) h4
        have hw1 : IntKind.i64.wrap ((r + b) * (r + b)) = (r + b) * (r + b) := IntWalk.i64_in _ (by omega)
        by_cases hc : (r + b) * (r + b) ≤ n
        · go_wp2_with fail
          exact ⟨⟨_, b', k, rfl, rfl, HB5.out, by have := HK.out; omega, by omega, by have := HB.out; omega, rootLo_hi HB.out hL.out hc h0, hx⟩, by simp [intOf]; omega⟩
        · go_wp2_with fail
          exact ⟨⟨_, b', k, rfl, rfl, HB5.out, by have := HK.out; omega, by omega, by have := HB.out; omega, rootLo_lo HB.out hL.out (by omega), hx⟩, by simp [intOf]; omega⟩
      · go_wp2_with fail
        exact ⟨⟨_, b', k, rfl, rfl, HB5.out, by have := HK.out; omega, by omega, by have := HB.out; omega, rootLo_lim HB.out hL.out h0 hn0.out (by omega), hx⟩, by simp [intOf]; omega⟩
end Go.Proofs.Ytdbhbfmbpldmnaa
