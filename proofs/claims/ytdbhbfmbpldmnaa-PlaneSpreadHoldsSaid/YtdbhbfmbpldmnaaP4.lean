/- Plain laws of Meet, Cover and Cut. -/
import Derived.Test.YtdbhbfmbpldmnaaX7
import Derived.Test.YtdbhbfmbpldmnaaX3
namespace Go.Proofs.Ytdbhbfmbpldmnaa
theorem boxB_iff (a b c d : Int) : boxB a b c d = true ↔ (-1048576 ≤ a ∧ a ≤ b ∧ b ≤ 1048576) ∧ (-1048576 ≤ c ∧ c ≤ d ∧ d ≤ 1048576) := by
  simp [boxB, spanB, winB]; omega
theorem holdB_iff (a b c d x y : Int) : holdB a b c d x y = true ↔ boxB a b c d = true ∧ (a ≤ x ∧ x ≤ b) ∧ (c ≤ y ∧ y ≤ d) := by
  simp [holdB, winB, and_assoc]
theorem meet_comm (a b c d e f g h : Int) : meetR a b c d e f g h = meetR e f g h a b c d := by
  unfold meetR
  rw [Int.max_comm a e, Int.min_comm b f, Int.max_comm c g, Int.min_comm d h, Bool.and_comm (boxB a b c d)]
theorem cover_comm (a b c d e f g h : Int) : coverR a b c d e f g h = coverR e f g h a b c d := by
  unfold coverR
  rw [Int.min_comm a e, Int.max_comm b f, Int.min_comm c g, Int.max_comm d h, Bool.and_comm (boxB a b c d)]
theorem cover_ok (a b c d e f g h : Int) : (coverR a b c d e f g h).2 = (boxB a b c d && boxB e f g h) := by
  unfold coverR
  split
  · rename_i k; rw [k]
  · rename_i k; simpa using k
theorem meet_hold (a b c d e f g h x y : Int) : (holdB a b c d x y && holdB e f g h x y) = ((meetR a b c d e f g h).2 && holdB (meetR a b c d e f g h).1.1 (meetR a b c d e f g h).1.2.1 (meetR a b c d e f g h).1.2.2.1 (meetR a b c d e f g h).1.2.2.2 x y) := by
  rw [Bool.eq_iff_iff]
  unfold meetR
  split
  · rename_i k
    simp only [Bool.and_eq_true, boxB_iff] at k
    simp only [Bool.and_eq_true, holdB_iff, boxB_iff, true_and]
    omega
  · rename_i k
    simp only [Bool.and_eq_true, boxB_iff] at k
    simp only [Bool.and_eq_true, holdB_iff, boxB_iff]
    constructor
    · intro m; exact absurd (by omega) k
    · intro m; simp at m
theorem cover_hold (a b c d e f g h x y : Int) (hg : (coverR a b c d e f g h).2 = true) (hp : (holdB a b c d x y || holdB e f g h x y) = true) : holdB (coverR a b c d e f g h).1.1 (coverR a b c d e f g h).1.2.1 (coverR a b c d e f g h).1.2.2.1 (coverR a b c d e f g h).1.2.2.2 x y = true := by
  rw [cover_ok] at hg
  unfold coverR
  rw [if_pos hg]
  simp only [Bool.and_eq_true, boxB_iff] at hg
  simp only [Bool.or_eq_true, holdB_iff, boxB_iff] at hp ⊢
  omega
theorem cut_no (a b c d : Int) (h : (cutR a b c d).2 = false) : boxB a b c d = false ∨ (a = b ∧ c = d) := by
  unfold cutR at h
  split at h
  · split at h <;> simp at h
  · rename_i k
    cases e : boxB a b c d
    · exact .inl rfl
    · rw [e] at k
      simp at k
      exact .inr k
theorem cut_yes (a b c d x y : Int) (h : (cutR a b c d).2 = true) :
    (holdB (cutR a b c d).1.1.1 (cutR a b c d).1.1.2.1 (cutR a b c d).1.1.2.2.1 (cutR a b c d).1.1.2.2.2 x y || holdB (cutR a b c d).1.2.1 (cutR a b c d).1.2.2.1 (cutR a b c d).1.2.2.2.1 (cutR a b c d).1.2.2.2.2 x y) = holdB a b c d x y ∧
    (holdB (cutR a b c d).1.1.1 (cutR a b c d).1.1.2.1 (cutR a b c d).1.1.2.2.1 (cutR a b c d).1.1.2.2.2 x y && holdB (cutR a b c d).1.2.1 (cutR a b c d).1.2.2.1 (cutR a b c d).1.2.2.2.1 (cutR a b c d).1.2.2.2.2 x y) = false ∧
    coverR (cutR a b c d).1.1.1 (cutR a b c d).1.1.2.1 (cutR a b c d).1.1.2.2.1 (cutR a b c d).1.1.2.2.2 (cutR a b c d).1.2.1 (cutR a b c d).1.2.2.1 (cutR a b c d).1.2.2.2.1 (cutR a b c d).1.2.2.2.2 = ((a, b, c, d), true) := by
  unfold cutR at h ⊢
  split at h
  · rename_i k
    rw [if_pos k]
    simp only [Bool.and_eq_true, boxB_iff, Bool.not_eq_true', Bool.and_eq_false_iff, decide_eq_false_iff_not] at k
    unfold midZ
    by_cases q : d - c ≤ b - a
    · rw [if_pos q]
      refine ⟨?_, ?_, ?_⟩
      · rw [Bool.eq_iff_iff]
        simp only [Bool.or_eq_true, holdB_iff, boxB_iff]
        omega
      · rw [Bool.and_eq_false_iff, ← Bool.not_eq_true, ← Bool.not_eq_true]
        simp only [holdB_iff, boxB_iff]
        omega
      · simp only [coverR]
        rw [if_pos (by simp only [Bool.and_eq_true, boxB_iff]; omega)]
        simp only [Prod.mk.injEq, and_true]
        omega
    · rw [if_neg q]
      refine ⟨?_, ?_, ?_⟩
      · rw [Bool.eq_iff_iff]
        simp only [Bool.or_eq_true, holdB_iff, boxB_iff]
        omega
      · rw [Bool.and_eq_false_iff, ← Bool.not_eq_true, ← Bool.not_eq_true]
        simp only [holdB_iff, boxB_iff]
        omega
      · simp only [coverR]
        rw [if_pos (by simp only [Bool.and_eq_true, boxB_iff]; omega)]
        simp only [Prod.mk.injEq, and_true]
        omega
  · simp at h
end Go.Proofs.Ytdbhbfmbpldmnaa
