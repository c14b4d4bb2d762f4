/- Plain laws of turns, distances and roots. -/
import Derived.Test.YtdbhbfmbpldmnaaG
namespace Go.Proofs.Ytdbhbfmbpldmnaa
open Go.RowKit
theorem sgz_neg (n : Int) : sgz (-n) = -sgz n := by unfold sgz; (repeat' split) <;> omega
theorem sgz_range (n : Int) : sgz n = -1 ∨ sgz n = 0 ∨ sgz n = 1 := by unfold sgz; (repeat' split) <;> omega
theorem turnZ_range (ax ay bx b_y cx cy : Int) : turnZ ax ay bx b_y cx cy = -1 ∨ turnZ ax ay bx b_y cx cy = 0 ∨ turnZ ax ay bx b_y cx cy = 1 := by
  unfold turnZ
  split
  · exact sgz_range _
  · exact .inr (.inl rfl)
theorem twz_cyc (ax ay bx b_y cx cy : Int) : twz bx b_y cx cy ax ay = twz ax ay bx b_y cx cy := by unfold twz; grind
theorem twz_swap (ax ay bx b_y cx cy : Int) : twz bx b_y ax ay cx cy = -twz ax ay bx b_y cx cy := by unfold twz; grind
theorem twz_shift (ax ay bx b_y cx cy x y : Int) : twz (ax + x) (ay + y) (bx + x) (b_y + y) (cx + x) (cy + y) = twz ax ay bx b_y cx cy := by unfold twz; grind
theorem turnZ_cyc (ax ay bx b_y cx cy : Int) : turnZ bx b_y cx cy ax ay = turnZ ax ay bx b_y cx cy := by
  unfold turnZ
  rw [twz_cyc]
  cases okp (ax, ay) <;> cases okp (bx, b_y) <;> cases okp (cx, cy) <;> rfl
theorem turnZ_swap (ax ay bx b_y cx cy : Int) : turnZ bx b_y ax ay cx cy = -turnZ ax ay bx b_y cx cy := by
  unfold turnZ
  rw [twz_swap, sgz_neg]
  cases okp (ax, ay) <;> cases okp (bx, b_y) <;> cases okp (cx, cy) <;> simp
theorem turnZ_swap2 (ax ay bx b_y cx cy : Int) : turnZ ax ay cx cy bx b_y = -turnZ ax ay bx b_y cx cy := by
  rw [← turnZ_cyc ax ay cx cy bx b_y, ← turnZ_cyc ax ay bx b_y cx cy, turnZ_swap]
theorem turnZ_shift {ax ay bx b_y cx cy x y : Int} (h1 : okp (ax, ay) = true) (h2 : okp (bx, b_y) = true) (h3 : okp (cx, cy) = true) (k1 : okp (ax + x, ay + y) = true) (k2 : okp (bx + x, b_y + y) = true) (k3 : okp (cx + x, cy + y) = true) :
    turnZ (ax + x) (ay + y) (bx + x) (b_y + y) (cx + x) (cy + y) = turnZ ax ay bx b_y cx cy := by
  unfold turnZ
  rw [h1, h2, h3, k1, k2, k3, twz_shift]
theorem dsz_comm (ax ay bx b_y : Int) : dsz bx b_y ax ay = dsz ax ay bx b_y := by unfold dsz; grind
theorem dsz_shift (ax ay bx b_y x y : Int) : dsz (ax + x) (ay + y) (bx + x) (b_y + y) = dsz ax ay bx b_y := by unfold dsz; grind
theorem distZ_comm (ax ay bx b_y : Int) : distZ bx b_y ax ay = distZ ax ay bx b_y := by
  unfold distZ
  rw [dsz_comm]
  cases okp (ax, ay) <;> cases okp (bx, b_y) <;> rfl
theorem distZ_shift {ax ay bx b_y x y : Int} (h1 : okp (ax, ay) = true) (h2 : okp (bx, b_y) = true) (k1 : okp (ax + x, ay + y) = true) (k2 : okp (bx + x, b_y + y) = true) :
    distZ (ax + x) (ay + y) (bx + x) (b_y + y) = distZ ax ay bx b_y := by
  unfold distZ
  rw [h1, h2, k1, k2, dsz_shift]
theorem sq_nonneg (a : Int) : 0 ≤ a * a := by
  rcases Int.le_total 0 a with h | h
  · exact Int.mul_nonneg h h
  · have := Int.mul_nonneg (a := -a) (b := -a) (by omega) (by omega)
    grind
theorem sq_zero {a : Int} (h : a * a = 0) : a = 0 := by
  rcases Int.mul_eq_zero.1 h with h | h <;> exact h
theorem distZ_zero {ax ay bx b_y : Int} (h1 : okp (ax, ay) = true) (h2 : okp (bx, b_y) = true) : distZ ax ay bx b_y = 0 ↔ ax = bx ∧ ay = b_y := by
  unfold distZ
  simp only [h1, h2, Bool.and_self, if_true]
  unfold dsz
  constructor
  · intro h
    have a := sq_nonneg (ax - bx)
    have b := sq_nonneg (ay - b_y)
    have a0 := sq_zero (a := ax - bx) (by omega)
    have b0 := sq_zero (a := ay - b_y) (by omega)
    omega
  · rintro ⟨rfl, rfl⟩
    simp
theorem rootZ_u32 {n : Int} (h0 : 0 ≤ n) (h1 : n ≤ 4294967295) : (0 ≤ rootZ n ∧ rootZ n ≤ 65535) ∧ (rootZ n * rootZ n ≤ n ∧ n < (rootZ n + 1) * (rootZ n + 1)) ∧ (rootZ n + 1) * (rootZ n + 1) ≤ 4294967296 := by
  have h : 0 ≤ rootZ n ∧ rootZ n * rootZ n ≤ n ∧ n < (rootZ n + 1) * (rootZ n + 1) := by
    rcases rootZ_ok (n := n) (by omega) with ⟨h, h2⟩ | ⟨h, h2⟩
    · have : n = 0 := by omega
      rw [h2, this]
      decide
    · exact h2
  obtain ⟨a, b, c⟩ := h
  have h3 : rootZ n ≤ 65535 := by
    rcases Int.lt_or_le 65535 (rootZ n) with k | k
    · have := sq_mono (a := 65536) (b := rootZ n) (by omega) (by omega)
      omega
    · exact k
  have := sq_mono (a := rootZ n + 1) (b := 65536) (by omega) (by omega)
  exact ⟨⟨a, h3⟩, ⟨b, c⟩, by omega⟩
end Go.Proofs.Ytdbhbfmbpldmnaa
