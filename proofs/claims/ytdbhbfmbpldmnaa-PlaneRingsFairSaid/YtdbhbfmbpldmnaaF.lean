/- Square roots in floating point: the root of a positive integer, cut to an integer, is a natural number that fits. -/
import Derived.Laws.FloatArith
namespace Go.Proofs.Ytdbhbfmbpldmnaa
open Ieee
theorem log2_lt {m k : Nat} (h : m < 2 ^ (k + 1)) : m.log2 ≤ k := by
  by_cases hm : m = 0
  · subst hm; simp
  · have := (Nat.log2_lt hm).2 h
    omega
theorem cut_even_le {n drop K : Nat} (h : n / 2 ^ drop < 2 ^ K) (neg : Bool) : Toward.even.cut neg n drop ≤ 2 ^ K := by
  unfold Toward.cut
  dsimp only
  have key : n / (1 <<< min drop (n.log2 + 2)) < 2 ^ K := by
    rw [Nat.one_shiftLeft]
    rcases Nat.le_total drop (n.log2 + 2) with hd | hd
    · rw [Nat.min_eq_left hd]; exact h
    · rw [Nat.min_eq_right hd]
      have : n < 2 ^ (n.log2 + 2) := Nat.lt_trans Nat.lt_log2_self (Nat.pow_lt_pow_right (by omega) (by omega))
      rw [Nat.div_eq_of_lt this]
      exact Nat.two_pow_pos _
  have hb : ∀ b : Bool, b.toNat ≤ 1 := fun b => by cases b <;> simp
  have := hb (decide (1 <<< min drop (n.log2 + 2) < 2 * (n % 1 <<< min drop (n.log2 + 2))) || (1 <<< min drop (n.log2 + 2) == 2 * (n % 1 <<< min drop (n.log2 + 2)) && n / 1 <<< min drop (n.log2 + 2) % 2 == 1))
  omega
/-- a word of double that is no infinity and has no sign -/
theorem read_double {R : Nat} (h : R < 2047 * 2 ^ 52) : ∃ m p, double.read R = .number false m p ∧ m < 2 ^ 53 ∧ p ≤ -1074 + (R / 2 ^ 52 : Nat) ∧ -1074 ≤ p := by
  have hs : double.signWeight = 2 ^ 63 := rfl
  have hb : double.binade = 2 ^ 52 := rfl
  have hi : double.infRung = 2047 * 2 ^ 52 := rfl
  have hl : double.leastPlace = -1074 := rfl
  have h63 : R < 2 ^ 63 := by omega
  unfold Format.read
  simp only [hs, hb, hi, hl]
  rw [Nat.div_eq_of_lt h63, Nat.mod_eq_of_lt h63]
  by_cases h1 : R < 2 ^ 52
  · rw [if_pos h1]
    exact ⟨R, _, rfl, by omega, by omega, by omega⟩
  · rw [if_neg h1, if_pos h]
    refine ⟨_, _, rfl, ?_, ?_, ?_⟩
    · have : R % 2 ^ 52 < 2 ^ 52 := Nat.mod_lt _ (by omega)
      omega
    · omega
    · omega
theorem nearest_double {mag : Nat} {place E : Int} (h0 : mag ≠ 0) (hE : place + mag.log2 ≤ E) (h1 : E ≤ 900) (h2 : -900 ≤ E) :
    ∃ R, double.nearest false mag place = R ∧ R < 2047 * 2 ^ 52 ∧ ((R / 2 ^ 52 : Nat) : Int) ≤ E + 1024 := by
  have hb : double.binade = 2 ^ 52 := rfl
  have hi : double.infRung = 2047 * 2 ^ 52 := rfl
  have hl : double.leastPlace = -1074 := rfl
  have hf : double.fractionBits = 52 := rfl
  obtain ⟨last, hlast⟩ : ∃ last, last = max (place + (mag.log2 : Int) - (52 : Nat)) (-1074) := ⟨_, rfl⟩
  have hval : double.nearest false mag place = min ((last - -1074).toNat * 2 ^ 52 + Toward.even.cut false (mag <<< (place - last).toNat) (last - place).toNat) (2047 * 2 ^ 52) := by
    rw [hlast]
    unfold Format.nearest
    rw [if_neg h0]
    simp only [hb, hi, hl, hf, Format.word, Bool.false_eq_true, if_false]
  refine ⟨_, hval, ?_⟩
  clear hval hb hi hl hf h0
  have hla : last ≤ E - 52 := by omega
  have hlb : -1074 ≤ last := by omega
  have hlc : place + (mag.log2 : Int) - 52 ≤ last := by omega
  clear hlast
  have hm : mag < 2 ^ (mag.log2 + 1) := Nat.lt_log2_self
  have hk : Toward.even.cut false (mag <<< (place - last).toNat) (last - place).toNat ≤ 2 ^ 53 := by
    apply cut_even_le
    rw [Nat.shiftLeft_eq, Nat.div_lt_iff_lt_mul (Nat.two_pow_pos _)]
    calc mag * 2 ^ (place - last).toNat < 2 ^ (mag.log2 + 1) * 2 ^ (place - last).toNat := Nat.mul_lt_mul_of_pos_right hm (Nat.two_pow_pos _)
      _ = 2 ^ (mag.log2 + 1 + (place - last).toNat) := (Nat.pow_add _ _ _).symm
      _ ≤ 2 ^ (53 + (last - place).toNat) := Nat.pow_le_pow_right (by omega) (by omega)
      _ = _ := Nat.pow_add _ _ _
  obtain ⟨kept, hkept⟩ : ∃ kept, kept = Toward.even.cut false (mag <<< (place - last).toNat) (last - place).toNat := ⟨_, rfl⟩
  rw [← hkept] at hk ⊢
  clear hkept
  obtain ⟨c, hc⟩ : ∃ c : Nat, last + 1074 = c := ⟨(last + 1074).toNat, by omega⟩
  have hc2 : (last - -1074).toNat = c := by omega
  rw [hc2]
  have hc3 : (c : Int) ≤ E + 1022 := by omega
  clear hc2 hc hm hla hlb hlc hE
  generalize hP : (2 : Nat) ^ 52 = P at *
  have hP2 : (2 : Nat) ^ 53 = 2 * P := by rw [← hP]
  rw [hP2] at hk
  have hP0 : 0 < P := by rw [← hP]; exact Nat.two_pow_pos _
  have hc4 : c ≤ 1922 := by omega
  have h9 : c * P + kept ≤ (c + 2) * P := by rw [Nat.add_mul]; omega
  have h10 : (c + 2) * P < 2047 * P := Nat.mul_lt_mul_of_pos_right (by omega) hP0
  rw [Nat.min_eq_left (by omega)]
  refine ⟨by omega, ?_⟩
  have h11 : (c * P + kept) / P ≤ c + 2 := by
    rw [Nat.div_le_iff_le_mul_add_pred hP0]
    rw [Nat.mul_comm P]
    omega
  omega
theorem rootFrom_le (n : Nat) : ∀ (todo root : Nat), root * root ≤ n → Datum.rootFrom n todo root * Datum.rootFrom n todo root ≤ n
  | 0, root, h => h
  | todo + 1, root, h => by
    unfold Datum.rootFrom
    dsimp only
    split
    · rename_i h2
      exact rootFrom_le n todo _ h2
    · exact rootFrom_le n todo _ h
theorem sq_lt {w k : Nat} (h : w * w < 2 ^ (k + k)) : w < 2 ^ k := by
  rcases Nat.lt_or_ge w (2 ^ k) with h1 | h1
  · exact h1
  · exfalso
    have := Nat.mul_le_mul h1 h1
    rw [← Nat.pow_add] at this
    omega
theorem sqrt_double {m : Nat} {p : Int} (hm : m < 2 ^ 53) (hp : p ≤ 14) :
    ∃ m' p', (Datum.number false m p).root 54 = some (.number false m' p') ∧ (m' = 0 ∨ (m' ≠ 0 ∧ p' + m'.log2 ≤ 34)) := by
  unfold Datum.root
  by_cases h0 : m = 0
  · subst h0
    exact ⟨0, p, rfl, .inl rfl⟩
  · simp only [if_neg h0, Bool.false_eq_true, if_false]
    refine ⟨_, _, rfl, ?_⟩
    have hlog : m.log2 ≤ 52 := log2_lt hm
    obtain ⟨more, hmore⟩ : ∃ more, more = 2 * 54 - m.log2 + ((p - ((2 * 54 - m.log2 : Nat) : Int)) % 2).toNat := ⟨_, rfl⟩
    rw [← hmore]
    have hm1 : 56 ≤ more := by omega
    have hm2 : m.log2 + more ≤ 109 := by omega
    clear hmore
    have hn : m <<< more < 2 ^ (55 + 55) := by
      rw [Nat.shiftLeft_eq]
      calc m * 2 ^ more < 2 ^ (m.log2 + 1) * 2 ^ more := Nat.mul_lt_mul_of_pos_right Nat.lt_log2_self (Nat.two_pow_pos _)
        _ = 2 ^ (m.log2 + 1 + more) := (Nat.pow_add _ _ _).symm
        _ ≤ 2 ^ (55 + 55) := Nat.pow_le_pow_right (by decide) (by omega)
    have hr := rootFrom_le (m <<< more) ((m <<< more).log2 / 2 + 1) 0 (Nat.zero_le _)
    obtain ⟨whole, hw⟩ : ∃ whole, whole = Datum.rootFrom (m <<< more) ((m <<< more).log2 / 2 + 1) 0 := ⟨_, rfl⟩
    rw [← hw] at hr ⊢
    have hw2 : whole < 2 ^ 55 := sq_lt (Nat.lt_of_le_of_lt hr hn)
    have hb : ∀ b : Bool, b.toNat ≤ 1 := fun b => by cases b <;> simp
    have hb1 := hb (whole * whole != m <<< more)
    obtain ⟨m', hm'⟩ : ∃ m', m' = 2 * whole + (whole * whole != m <<< more).toNat := ⟨_, rfl⟩
    rw [← hm']
    have : m' < 2 ^ (55 + 1) := by omega
    have hl := log2_lt this
    by_cases hz : m' = 0
    · exact .inl hz
    · refine .inr ⟨hz, ?_⟩
      omega
theorem cut_zero_le (neg : Bool) (n drop : Nat) : Toward.zero.cut neg n drop ≤ n := by
  unfold Toward.cut
  simp only [Bool.toNat_false, Nat.add_zero]
  exact Nat.div_le_self _ _
theorem toInt_small {m : Nat} {p : Int} (hm : m < 2 ^ 53) (hp : p ≤ 0) : ∃ k : Nat, (Datum.number false m p).toInt .zero = some (k : Int) ∧ k < 2 ^ 53 := by
  have h0 : p.toNat = 0 := by omega
  unfold Datum.toInt Datum.integral
  simp only [h0, Nat.shiftLeft_zero]
  refine ⟨_, rfl, ?_⟩
  rw [Nat.shiftLeft_zero]
  exact Nat.lt_of_le_of_lt (cut_zero_le _ _ _) hm
/-- int(math.Sqrt(float64(n))) of a positive n -/
theorem sqrt_int {n : Int} (h1 : 1 ≤ n) (h2 : n ≤ 9223372036854775807) :
    ∃ R k, Go.FloatKind.f64.format.sqrt (Go.FloatKind.f64.nearest n) = some R ∧ Go.floatToIntVal .f64 R .i64 = some k ∧ 0 ≤ k ∧ k ≤ 9007199254740992 := by
  have hd : Go.FloatKind.f64.format = double := rfl
  have e1 : Go.FloatKind.f64.nearest n = double.nearest false n.natAbs 0 := by
    unfold Go.FloatKind.nearest Go.FloatKind.encode Format.write
    rw [hd, decide_eq_false (by omega)]
  obtain ⟨R1, hR1, hR2, hR3⟩ := nearest_double (mag := n.natAbs) (place := 0) (E := 62) (by omega) (by have := @log2_lt n.natAbs 62 (by omega); omega) (by omega) (by omega)
  obtain ⟨m, p, hm1, hm2, hm3, hm4⟩ := read_double hR2
  obtain ⟨m', p', hr1, hr2⟩ := sqrt_double (m := m) (p := p) hm2 (by omega)
  have e2 : Go.FloatKind.f64.format.sqrt (Go.FloatKind.f64.nearest n) = some (double.nearest false m' p') := by
    rw [e1, hR1, hd]
    unfold Format.sqrt
    rw [hm1, show double.fractionBits + 2 = 54 from rfl, hr1]
    rfl
  have key : ∃ R k, double.nearest false m' p' = R ∧ (double.read R).toInt .zero = some (k : Int) ∧ 0 ≤ k ∧ k ≤ 9007199254740992 := by
    rcases hr2 with rfl | ⟨h0, hE⟩
    · refine ⟨0, 0, ?_, by decide, by omega, by omega⟩
      unfold Format.nearest
      rw [if_pos rfl]
      rfl
    · obtain ⟨R, hR1, hR2, hR3⟩ := nearest_double h0 hE (by omega) (by omega)
      obtain ⟨m2, p2, hq1, hq2, hq3, _⟩ := read_double hR2
      obtain ⟨k, hk1, hk2⟩ := toInt_small (m := m2) (p := p2) hq2 (by omega)
      exact ⟨R, k, hR1, by rw [hq1, hk1], by omega, by omega⟩
  obtain ⟨R, k, hk1, hk2, hk3, hk4⟩ := key
  refine ⟨R, k, by rw [e2, hk1], ?_, hk3, hk4⟩
  unfold Go.floatToIntVal Go.FloatKind.decode
  rw [hd, hk2]
  have : Go.IntKind.i64.min ≤ k ∧ k ≤ Go.IntKind.i64.max := by
    have a1 : Go.IntKind.i64.min = -9223372036854775808 := rfl
    have a2 : Go.IntKind.i64.max = 9223372036854775807 := rfl
    omega
  simp only [this, and_self, if_true]
end Go.Proofs.Ytdbhbfmbpldmnaa
