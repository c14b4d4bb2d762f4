/- Plain law of the specification's Check: proofs and repairs in one list. -/
import Derived.Test.YtaggjclaehigjaaE
namespace Go.Proofs.Ytaggjclaehigjaa
def hitT (P R : List Five) (i k : Nat) : Bool :=
  ((P ++ R).getD k default).a == ((P ++ R).getD i default).a || (decide (P.length ≤ i) && decide (P.length ≤ k) && (((P ++ R).getD k default).b == ((P ++ R).getD i default).b) && (((P ++ R).getD k default).c == ((P ++ R).getD i default).c))
def errT (C P R : List Five) (i : Nat) : Int :=
  if okT C ((P ++ R).getD i default) (if i < P.length then 0 else 1) then (if (List.range i).any (hitT P R i) then 6 else 0) else 1
theorem getD_left {l m : List Five} {k : Nat} (h : k < l.length) : (l ++ m).getD k default = l.getD k default := by
  simp only [List.getD_eq_getElem?_getD, List.getElem?_append_left h]
theorem getD_right {l m : List Five} {k : Nat} : (l ++ m).getD (l.length + k) default = m.getD k default := by
  simp only [List.getD_eq_getElem?_getD, List.getElem?_append_right (Nat.le_add_right _ _), Nat.add_sub_cancel_left]
theorem any_congr' {α β : Type} {l : List α} {m : List β} {p : α → Bool} {q : β → Bool} (h : (∃ x ∈ l, p x = true) ↔ ∃ x ∈ m, q x = true) : l.any p = m.any q := by
  rw [Bool.eq_iff_iff, List.any_eq_true, List.any_eq_true]
  exact h
theorem mem_take_iff {l : List Five} {i : Nat} (hi : i ≤ l.length) {p : Five → Prop} : (∃ x ∈ l.take i, p x) ↔ ∃ k, k < i ∧ p (l.getD k default) := by
  constructor
  · rintro ⟨x, hx, h⟩
    obtain ⟨k, hk, rfl⟩ := List.mem_iff_getElem.1 hx
    simp only [List.length_take] at hk
    refine ⟨k, by omega, ?_⟩
    rw [List.getElem_take] at h
    rw [getD_at (by omega) rfl]
    exact h
  · rintro ⟨k, hk, h⟩
    refine ⟨l.getD k default, ?_, h⟩
    rw [getD_at (show k < l.length by omega) rfl]
    exact List.mem_iff_getElem.2 ⟨k, by simp; omega, by simp⟩
theorem errT_left {C P R : List Five} {i : Nat} (hi : i < P.length) : errT C P R i = errP C P i := by
  unfold errT errP
  rw [getD_left hi, if_pos hi]
  have : (List.range i).any (hitT P R i) = (P.take i).any (fun x => x.a == (P.getD i default).a) := by
    refine any_congr' ?_
    rw [mem_take_iff (by omega)]
    constructor
    · rintro ⟨k, hk, h⟩
      have hk := List.mem_range.1 hk
      refine ⟨k, hk, ?_⟩
      unfold hitT at h
      rw [getD_left hi, getD_left (show k < P.length by omega)] at h
      have : decide (P.length ≤ i) = false := by simp; omega
      simpa [this] using h
    · rintro ⟨k, hk, h⟩
      refine ⟨k, List.mem_range.2 hk, ?_⟩
      unfold hitT
      rw [getD_left hi, getD_left (show k < P.length by omega), h]
      rfl
  rw [this]
theorem errT_right {C P R : List Five} {j : Nat} (hj : j < R.length) : errT C P R (P.length + j) = errR C P R j := by
  unfold errT errR
  rw [getD_right, if_neg (show ¬ (P.length + j < P.length) by omega)]
  have : (List.range (P.length + j)).any (hitT P R (P.length + j)) = ((P ++ R.take j).any (fun x => x.a == (R.getD j default).a) || againB R j) := by
    rw [Bool.eq_iff_iff, Bool.or_eq_true, List.any_eq_true]
    unfold againB
    rw [List.any_eq_true, List.any_eq_true, mem_take_iff (by omega)]
    constructor
    · rintro ⟨k, hk, h⟩
      have hk := List.mem_range.1 hk
      unfold hitT at h
      rw [getD_right] at h
      by_cases hk2 : k < P.length
      · rw [getD_left hk2] at h
        have e : decide (P.length ≤ k) = false := by simp; omega
        left
        refine ⟨P.getD k default, ?_, by simpa [e] using h⟩
        rw [getD_at hk2 rfl]
        exact List.mem_append_left _ (List.getElem_mem hk2)
      · obtain ⟨m, rfl⟩ : ∃ m, k = P.length + m := ⟨k - P.length, by omega⟩
        rw [getD_right] at h
        simp only [Bool.or_eq_true, Bool.and_eq_true] at h
        rcases h with h | h
        · left
          refine ⟨R.getD m default, ?_, h⟩
          refine List.mem_append_right _ ?_
          rw [getD_at (show m < R.length by omega) rfl]
          exact List.mem_iff_getElem.2 ⟨m, by simp; omega, by simp⟩
        · right
          refine ⟨m, by omega, ?_⟩
          simp only [Bool.and_eq_true]
          exact ⟨h.1.2, h.2⟩
    · rintro (⟨x, hx, h⟩ | ⟨m, hm, h⟩)
      · rcases List.mem_append.1 hx with hx | hx
        · obtain ⟨k, hk, rfl⟩ := List.mem_iff_getElem.1 hx
          refine ⟨k, List.mem_range.2 (by omega), ?_⟩
          unfold hitT
          rw [getD_right, getD_left hk, getD_at hk rfl, h]
          rfl
        · obtain ⟨m, hm, h⟩ := (mem_take_iff (p := fun x => (x.a == (R.getD j default).a) = true) (by omega)).1 ⟨x, hx, h⟩
          refine ⟨P.length + m, List.mem_range.2 (by omega), ?_⟩
          unfold hitT
          rw [getD_right, getD_right, h]
          rfl
      · refine ⟨P.length + m, List.mem_range.2 (by omega), ?_⟩
        unfold hitT
        rw [getD_right, getD_right]
        simp only [Bool.and_eq_true] at h
        rw [h.1, h.2]
        simp
  rw [this]
theorem scan_tail (C P R : List Five) : scan (errT C P R) (P.length + R.length) = orE (scan (errP C P) P.length) (scan (errR C P R) R.length) := by
  rw [scan_add, scan_congr (fun k hk => errT_left hk), scan_congr (f := fun k => errT C P R (P.length + k)) (fun k hk => errT_right hk)]
theorem chk3_tail {C P R : List Five} (h : scan (errC C) C.length = 0) : chk3 C P R = scan (errT C P R) (P.length + R.length) := by
  unfold chk3
  rw [scan_tail]
  unfold orE
  rw [if_pos h]
theorem chk3_head {C P R : List Five} (h : scan (errC C) C.length ≠ 0) : chk3 C P R = scan (errC C) C.length := by
  unfold chk3 orE
  rw [if_neg h]
theorem errT_arg {C P R : List Five} {i : Nat} {x : Five} (hx : (P ++ R).getD i default = x) (h : okT C x (if i < P.length then 0 else 1) = false) : errT C P R i = 1 := by
  unfold errT
  rw [hx, h]
  simp
theorem errT_hit {C P R : List Five} {i k : Nat} {x : Five} (hx : (P ++ R).getD i default = x) (h : okT C x (if i < P.length then 0 else 1) = true) (hk : k < i) (hh : hitT P R i k = true) : errT C P R i = 6 := by
  unfold errT
  rw [hx, h, if_pos rfl, if_pos]
  exact List.any_eq_true.2 ⟨k, List.mem_range.2 hk, hh⟩
theorem errT_no {C P R : List Five} {i : Nat} {x : Five} (hx : (P ++ R).getD i default = x) (h : okT C x (if i < P.length then 0 else 1) = true) (hh : ∀ k, k < i → hitT P R i k = false) : errT C P R i = 0 := by
  unfold errT
  rw [hx, h, if_pos rfl, if_neg]
  intro e
  obtain ⟨k, hk, h⟩ := List.any_eq_true.1 e
  rw [hh k (List.mem_range.1 hk)] at h
  cases h
end Go.Proofs.Ytaggjclaehigjaa
