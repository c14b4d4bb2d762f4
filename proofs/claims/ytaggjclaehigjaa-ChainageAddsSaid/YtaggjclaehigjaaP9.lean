/- Plain law of sums of distances, and of a greater slack. -/
import Derived.Test.YtaggjclaehigjaaK7
namespace Go.Proofs.Ytaggjclaehigjaa
theorem totL_from (C P R : List Five) (b : List Five) : ∀ x : Int × Int, b.foldl (totS C P R) (x, 0) = if (totL C P R b).2 = 0 then ((x.1 + (totL C P R b).1.1, x.2 + (totL C P R b).1.2), 0) else totL C P R b := by
  induction b using snoc_ind with
  | h0 => intro x; unfold totL; simp
  | h1 l m ih =>
    intro x
    have e : totL C P R (l ++ [m]) = totS C P R (totL C P R l) m := by unfold totL; rw [List.foldl_append]; rfl
    rw [List.foldl_append, ih x, e]
    show totS C P R _ m = _
    by_cases h : (totL C P R l).2 = 0
    · rw [if_pos h]
      unfold totS
      simp only [if_true]
      rw [if_pos h]
      by_cases h2 : (distM C P R m).2 = 0
      · rw [if_pos h2, if_pos h2]
        simp only [if_true]
        rw [Int.add_assoc, Int.add_assoc]
      · rw [if_neg h2, if_neg h2]
        simp only
        rw [if_neg h2]
    · rw [if_neg h]
      have e2 : totS C P R (totL C P R l) m = totL C P R l := if_neg h
      rw [e2, if_neg h]
/-- a sum of both lists -/
theorem totR_app {C P R a b : List Five} (ha : a.length ≤ 20) (hb : b.length ≤ 20) :
    ((totR C P R (a ++ b)).2 = 0 ↔ (totR C P R a).2 = 0 ∧ (totR C P R b).2 = 0) ∧
      ((totR C P R (a ++ b)).2 = 0 → (totR C P R (a ++ b)).1 = ((totR C P R a).1.1 + (totR C P R b).1.1, (totR C P R a).1.2 + (totR C P R b).1.2)) := by
  unfold totR
  by_cases h0 : chk C P R = 0
  · rw [if_pos h0, if_pos h0, if_pos h0, if_neg (by rw [List.length_append]; omega), if_neg (by omega), if_neg (by omega)]
    have e : totL C P R (a ++ b) = b.foldl (totS C P R) (totL C P R a) := by unfold totL; rw [List.foldl_append]
    rw [e]
    by_cases h : (totL C P R a).2 = 0
    · have e2 : totL C P R a = ((totL C P R a).1, 0) := by rw [← h]
      rw [e2, totL_from]
      by_cases h2 : (totL C P R b).2 = 0
      · rw [if_pos h2]
        exact ⟨⟨fun _ => ⟨rfl, h2⟩, fun _ => rfl⟩, fun _ => rfl⟩
      · rw [if_neg h2]
        exact ⟨⟨fun h => absurd h h2, fun h => absurd h.2 h2⟩, fun h => absurd h h2⟩
    · rw [totS_stick h]
      exact ⟨⟨fun k => absurd k h, fun k => absurd k.1 h⟩, fun k => absurd k h⟩
  · rw [if_neg h0, if_neg h0, if_neg h0]
    exact ⟨⟨fun h => absurd h h0, fun h => absurd h.1 h0⟩, fun h => absurd h h0⟩
def more (m : Five) (n : Int) : Five := ⟨m.a, m.b, m.c, m.d, m.e + n⟩
/-- with a greater slack a distance is not narrower -/
theorem dist_more {C P R : List Five} {m : Five} {n : Int} (h : (distM C P R m).2 = 0) (hn : 0 ≤ n) (hm : m.e + n ≤ 100000) :
    (distM C P R (more m n)).2 = 0 ∧ (distM C P R (more m n)).1.1 ≤ (distM C P R m).1.1 ∧ (distM C P R m).1.2 ≤ (distM C P R (more m n)).1.2 := by
  unfold distM distR more at *
  by_cases h0 : chk C P R = 0
  · simp only [if_pos h0] at h ⊢
    cases hf : findC C m.a with
    | none => rw [hf] at h; simp at h
    | some c =>
      rw [hf] at h
      simp only at h ⊢
      cases hk : okM c m.b m.c m.d m.e
      · rw [hk] at h; simp at h
      · rw [hk] at h
        rw [if_pos rfl] at h ⊢
        have hk2 : okM c m.b m.c m.d (m.e + n) = true := by
          unfold okM at hk ⊢
          simp only [Bool.and_eq_true, inB_iff] at hk ⊢
          omega
        rw [hk2, if_pos rfl]
        by_cases hl : (longR C P R m.a m.b).2 = 0
        · rw [if_pos hl] at h ⊢
          rw [if_pos hl]
          unfold okM at hk
          simp only [Bool.and_eq_true] at hk
          have hb := long_bd h0 hf hk.1.1.1 (a := (longR C P R m.a m.b).1.1) (b := (longR C P R m.a m.b).1.2) (by rw [← hl])
          simp only [inB_iff] at hk
          generalize (longR C P R m.a m.b).1.1 = a at hb ⊢
          generalize (longR C P R m.a m.b).1.2 = b at hb ⊢
          simp only
          refine ⟨trivial, ?_, ?_⟩
          · refine Int.ediv_le_ediv (show (0 : Int) < 10000 by decide) (Int.mul_le_mul_of_nonneg_right ?_ (by omega))
            omega
          · refine Int.ediv_le_ediv (show (0 : Int) < 10000 by decide) ?_
            have := Int.mul_le_mul_of_nonneg_right (show 100 * m.c + m.d + m.e ≤ 100 * m.c + m.d + (m.e + n) by omega) (show 0 ≤ b by omega)
            omega
        · rw [if_neg hl] at h; exact absurd h hl
  · rw [if_neg h0] at h
    exact absurd h h0
end Go.Proofs.Ytaggjclaehigjaa
