/- Plain law of the insertion of an order. -/
import Derived.Test.YtdbhbfmbpldmnaaTT
namespace Go.Proofs.Ytdbhbfmbpldmnaa
open Go.Sort
def lowZ (p o : Int × Int) : Int := if p.2 < o.2 ∨ (p.2 = o.2 ∧ p.1 < o.1) then 1 else 0
def aheadB (o p q : Int × Int) : Bool :=
  if lowZ p o = lowZ q o then (if tw o p q = 0 then decide (sqd o p < sqd o q) else decide (0 < tw o p q)) else decide (lowZ p o < lowZ q o)
theorem low_hf {p o : Int × Int} (h : p ≠ o) : lowZ p o = hfZ (p.1 - o.1) (p.2 - o.2) := by
  have : p.1 ≠ o.1 ∨ p.2 ≠ o.2 := by
    rcases p with ⟨a, b⟩; rcases o with ⟨c, d⟩
    simp only [ne_eq, Prod.mk.injEq] at h ⊢
    omega
  unfold lowZ hfZ
  split <;> split <;> omega
theorem sqd_comm (a b : Int × Int) : sqd a b = sqd b a := by unfold sqd dsz; grind
theorem ahead_cf {o p q : Int × Int} (hp : p ≠ o) (hq : q ≠ o) : aheadB o p q = decide (cfZ o p q < 0) := by
  rw [Bool.eq_iff_iff, decide_eq_true_iff, cfZ_neg]
  unfold aheadB seeP
  rw [low_hf hp, low_hf hq]
  split
  · rename_i e
    split
    · rename_i t
      rw [decide_eq_true_iff, sqd_comm o p, sqd_comm o q]
      omega
    · rename_i t
      rw [decide_eq_true_iff]
      omega
  · rename_i e
    rw [decide_eq_true_iff]
    omega
/-- out is the order of the first i points -/
def ArP (o : Int × Int) (l : List (Int × Int)) (i : Nat) (r : List Nat) : Prop :=
  r.Perm (List.range i) ∧ r.Pairwise (fun i k => lt2 (ltOf fun i k : Nat => cfZ o (l.getD i (0, 0)) (l.getD k (0, 0))) id k i = false)
theorem ArP.zero (o : Int × Int) (l : List (Int × Int)) : ArP o l 0 [] := ⟨List.Perm.refl _, List.Pairwise.nil⟩
theorem ArP.lt {o : Int × Int} {l : List (Int × Int)} {i : Nat} {r : List Nat} (h : ArP o l i r) : ∀ k ∈ r, k < i := fun k hk => by simpa using (h.1.mem_iff).1 hk
theorem ArP.len {o : Int × Int} {l : List (Int × Int)} {i : Nat} {r : List Nat} (h : ArP o l i r) : r.length = i := by simpa using h.1.length_eq
theorem ins_ok {o : Int × Int} {l : List (Int × Int)} {i k : Nat} (pt : ∀ j, j ≤ i → l.getD j (0, 0) ≠ o) {r : List Nat} (h : ArP o l i r)
    (h1 : ∀ j, j < r.length → k ≤ j → aheadB o (l.getD i (0, 0)) (l.getD (r.getD j 0) (0, 0)) = true)
    (h2 : k = 0 ∨ (k ≤ r.length ∧ aheadB o (l.getD i (0, 0)) (l.getD (r.getD (k - 1) 0) (0, 0)) = false)) : ArP o l (i + 1) (r.take k ++ i :: r.drop k) := by
  have hlt := h.lt
  have rg : ∀ j (hj : j < r.length), r.getD j 0 = r[j] := fun j hj => by simp [hj]
  have hsplit : r.take k ++ r.drop k = r := List.take_append_drop k r
  have pw := h.2
  rw [← hsplit, List.pairwise_append] at pw
  constructor
  · have e : (r.take k ++ i :: r.drop k).Perm (i :: (r.take k ++ r.drop k)) := List.perm_middle
    rw [hsplit] at e
    rw [List.range_succ]
    exact e.trans ((List.Perm.cons i h.1).trans (List.perm_append_singleton i _).symm)
  · rw [List.pairwise_append]
    refine ⟨pw.1, List.pairwise_cons.2 ⟨?_, pw.2.1⟩, ?_⟩
    · intro b hb
      obtain ⟨j, hj, rfl⟩ := List.getElem_of_mem hb
      rw [List.getElem_drop]
      have hj2 : k + j < r.length := by rw [List.length_drop] at hj; omega
      have a := h1 (k + j) hj2 (by omega)
      rw [rg _ hj2] at a
      have hb2 := hlt _ (List.getElem_mem hj2)
      rw [ahead_cf (pt i (Nat.le_refl i)) (pt _ (by omega)), decide_eq_true_iff, cfZ_neg] at a
      have n : ¬ seeP o (l.getD r[k + j] (0, 0)) (l.getD i (0, 0)) := fun c => seeP_irrefl _ _ (seeP_trans (pt i (Nat.le_refl i)) (pt _ (by omega)) (pt i (Nat.le_refl i)) a c)
      have a' : ltOf (fun i k : Nat => cfZ o (l.getD i (0, 0)) (l.getD k (0, 0))) i r[k + j] = true := decide_eq_true ((cfZ_neg _ _ _).2 a)
      have n' : ltOf (fun i k : Nat => cfZ o (l.getD i (0, 0)) (l.getD k (0, 0))) r[k + j] i = false := decide_eq_false (fun c => n ((cfZ_neg _ _ _).1 c))
      unfold lt2
      rw [a', n']
      rfl
    · intro a ha b hb
      rcases List.mem_cons.1 hb with rfl | hb
      · obtain ⟨j, hj, rfl⟩ := List.getElem_of_mem ha
        have hj1 : j < k ∧ j < r.length := by rw [List.length_take] at hj; omega
        rw [List.getElem_take]
        obtain ⟨h3, h4⟩ := h2.resolve_left (by omega)
        rw [rg _ (by omega)] at h4
        have hx := hlt _ (List.getElem_mem (show k - 1 < r.length by omega))
        have hy := hlt _ (List.getElem_mem hj1.2)
        rw [ahead_cf (pt b (Nat.le_refl b)) (pt _ (by omega)), decide_eq_false_iff_not, cfZ_neg] at h4
        have n : ¬ seeP o (l.getD b (0, 0)) (l.getD r[j] (0, 0)) := by
          by_cases e : j = k - 1
          · subst e; exact h4
          · have q := List.pairwise_iff_getElem.1 h.2 j (k - 1) hj1.2 (by omega) (by omega)
            have q2 := of_decide_eq_false (lt2_of q)
            rw [cfZ_neg] at q2
            exact seeP_ntrans (pt b (Nat.le_refl b)) (pt _ (by omega)) (pt _ (by omega)) h4 q2
        have n' : ltOf (fun i k : Nat => cfZ o (l.getD i (0, 0)) (l.getD k (0, 0))) b r[j] = false := decide_eq_false (fun c => n ((cfZ_neg _ _ _).1 c))
        unfold lt2
        rw [n', decide_eq_false (show ¬ (id b < id r[j]) by simp only [id]; omega)]
        simp
      · exact pw.2.2 a ha b hb
end Go.Proofs.Ytdbhbfmbpldmnaa
