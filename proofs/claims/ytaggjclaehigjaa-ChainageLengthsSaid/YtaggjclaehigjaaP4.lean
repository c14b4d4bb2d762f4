/- The pairs of a chain are determined: plain law. -/
import Derived.Test.YtaggjclaehigjaaN5
namespace Go.Proofs.Ytaggjclaehigjaa
open Go.RowKit Go.Sort
theorem sortP_perm {a b : List (Int × Int)} (h : a.Perm b) : sortP a = sortP b := by
  have tr : ∀ x y z : Int × Int, (!(ltOf cmpP) y x) = true → (!(ltOf cmpP) z y) = true → (!(ltOf cmpP) z x) = true := by
    intro x y z h1 h2
    simp only [ltOf, Bool.not_eq_true', decide_eq_false_iff_not] at *
    rw [cmpP_lt] at *
    omega
  have tl : ∀ x y : Int × Int, ((!(ltOf cmpP) y x) || (!(ltOf cmpP) x y)) = true := by
    intro x y
    simp only [ltOf, Bool.or_eq_true, Bool.not_eq_true', decide_eq_false_iff_not]
    rw [cmpP_lt, cmpP_lt]
    omega
  have s1 := List.pairwise_mergeSort tr tl a
  have s2 := List.pairwise_mergeSort tr tl b
  have hp : (sortP a).Perm (sortP b) := (List.mergeSort_perm a _).trans (h.trans (List.mergeSort_perm b _).symm)
  refine hp.eq_of_pairwise (le := fun x y => (!(ltOf cmpP) y x) = true) ?_ s1 s2
  intro x y _ _ h1 h2
  simp only [ltOf, Bool.not_eq_true', decide_eq_false_iff_not] at *
  rw [cmpP_lt] at *
  exact Prod.ext (by omega) (by omega)
/-- the first years of the spells, and their last years -/
structure InvL (pre : List Th) (S : List Sp) : Prop where
  ne : S ≠ []
  lo : S.map Sp.lo = (pre.filter begB).map Th.y
  hi : S.map Sp.hi = ((pre.filter begB).map Th.y).tail.map (· - 1) ++ [4000]
theorem InvL.step {wear : Int} {pre : List Th} {S : List Sp} (h : InvL pre S) (t : Th) : InvL (pre ++ [t]) (stepS wear S t) := by
  have hlo := h.lo
  have hhi := h.hi
  rcases List.eq_nil_or_concat S with rfl | ⟨I, s, rfl⟩
  · exact absurd rfl h.ne
  · rw [List.concat_eq_append] at *
    cases hb : begB t
    · rw [stepS_not hb]
      refine ⟨by simp, ?_, ?_⟩
      · rw [List.filter_append]
        simp [hb] at hlo ⊢
        exact hlo
      · rw [List.filter_append]
        simp [hb] at hhi ⊢
        exact hhi
    · rw [stepS_beg hb]
      have e : ((pre ++ [t]).filter begB).map Th.y = (pre.filter begB).map Th.y ++ [t.y] := by
        rw [List.filter_append, List.map_append]
        simp [hb]
      have hne : (pre.filter begB).map Th.y ≠ [] := by
        intro e
        rw [e] at hlo
        simp at hlo
      refine ⟨by simp, ?_, ?_⟩
      · rw [e, ← hlo]
        simp
      · rw [e, List.tail_append_of_ne_nil hne]
        simp at hhi ⊢
        exact hhi.1
theorem splitS_l (wear : Int) (t : Th) (r : List Th) (hb : begB t = true) : InvL (t :: r) (splitS wear (t :: r)) := by
  have key : ∀ (ts pre : List Th) (S : List Sp), InvL pre S → InvL (pre ++ ts) (ts.foldl (stepS wear) S) := by
    intro ts
    induction ts with
    | nil => intro pre S h; rw [List.append_nil]; exact h
    | cons t ts ih =>
      intro pre S h
      have := ih (pre ++ [t]) _ (h.step (wear := wear) t)
      rw [List.append_assoc] at this
      exact this
  refine key r [t] _ ⟨?_, ?_, ?_⟩
  · rw [stepS_nil]; simp
  · rw [stepS_nil]; simp [hb]
  · rw [stepS_nil]; simp [hb]
/-- the years in which spells begin hang on the things alone -/
theorem begs_eq {ts ts' : List Th} (hp : ts.Perm ts') (hs : SortedT ts) (hs' : SortedT ts') : (ts.filter begB).map Th.y = (ts'.filter begB).map Th.y := by
  have h1 : ∀ l : List Th, SortedT l → ((l.filter begB).map Th.y).Pairwise (fun a b : Int => a ≤ b) := by
    intro l hl
    rw [List.pairwise_map]
    refine (List.Pairwise.filter _ hl).imp ?_
    intro a b h
    rw [cmpT_neg] at h
    omega
  exact ((hp.filter _).map _).eq_of_pairwise (fun a b _ _ h1 h2 => Int.le_antisymm h1 h2) (h1 _ hs) (h1 _ hs')
end Go.Proofs.Ytaggjclaehigjaa
