/- The pairs of a permuted list are permuted. -/
import Derived.Test.YtaggjclaehigjaaP3
import Derived.Test.YtaggjclaehigjaaH
namespace Go.Proofs.Ytaggjclaehigjaa
open Go.RowKit
def pC (w : Int) : List Four → List (Int × Int)
  | [] => []
  | t :: l => rowPairs w l t ++ pC w l
theorem pairF_comm (t u : Four) : pairF t u = pairF u t := by unfold pairF; rw [Int.min_comm, Int.max_comm]
theorem rowPairs_perm {w : Int} {l l' : List Four} (h : l.Perm l') (t : Four) : (rowPairs w l t).Perm (rowPairs w l' t) := (h.filter _).map _
theorem rowPairs_cons (w : Int) (l : List Four) (t u : Four) : rowPairs w (u :: l) t = (if clashB w t u = true then [pairF t u] else []) ++ rowPairs w l t := by
  unfold rowPairs
  rw [List.filter_cons]
  split <;> simp
theorem pC_perm {w : Int} {l l' : List Four} (h : l.Perm l') : (pC w l).Perm (pC w l') := by
  induction h with
  | nil => exact .refl _
  | cons t h ih => exact (rowPairs_perm h t).append ih
  | swap t u l =>
    show (rowPairs w (t :: l) u ++ (rowPairs w l t ++ pC w l)).Perm (rowPairs w (u :: l) t ++ (rowPairs w l u ++ pC w l))
    rw [rowPairs_cons, rowPairs_cons, clashB_comm w u t, pairF_comm u t, List.append_assoc, List.append_assoc]
    refine List.Perm.append_left _ ?_
    rw [← List.append_assoc, ← List.append_assoc]
    exact List.perm_append_comm.append_right _
  | trans _ _ h1 h2 => exact h1.trans h2
theorem pairsUp_append {w : Int} {l : List Four} {t : Four} : ∀ k, k ≤ l.length → pairsUp w (l ++ [t]) k = pairsUp w l k := by
  intro k
  induction k with
  | zero => intro _; rfl
  | succ k ih =>
    intro hk
    have h1 : k < (l ++ [t]).length := by simp; omega
    rw [pairsUp_succ (t := l[k]) h1 (by rw [List.getElem_append_left (by omega)]), pairsUp_succ (t := l[k]) (by omega) rfl, ih (by omega), List.take_append_of_le_length (by omega)]
theorem pairsOf_concat (w : Int) (l : List Four) (t : Four) : pairsOf w (l ++ [t]) = pairsOf w l ++ rowPairs w l t := by
  unfold pairsOf
  rw [List.length_append, List.length_singleton, pairsUp_succ (t := t) (by simp) (by simp), pairsUp_append _ (Nat.le_refl _)]
  simp
theorem pairsOf_pC (w : Int) (l : List Four) : (pairsOf w l).Perm (pC w l) := by
  have key : ∀ r : List Four, (pairsOf w r.reverse).Perm (pC w r) := by
    intro r
    induction r with
    | nil => exact .refl _
    | cons t r ih =>
      rw [List.reverse_cons, pairsOf_concat]
      exact List.perm_append_comm.trans ((rowPairs_perm r.reverse_perm t).append ih)
  have := key l.reverse
  rw [List.reverse_reverse] at this
  exact this.trans (pC_perm l.reverse_perm)
theorem pairsOf_perm {w : Int} {l l' : List Four} (h : l.Perm l') : (pairsOf w l).Perm (pairsOf w l') := (pairsOf_pC w l).trans ((pC_perm h).trans (pairsOf_pC w l').symm)
end Go.Proofs.Ytaggjclaehigjaa
