/- A closed way: the sign of its area. -/
import Derived.Test.YtdbhbfmbpldmnaaJ4
namespace Go.Proofs.Ytdbhbfmbpldmnaa
variable {n : Nat} {x y : Nat → Int} {Z : Nat → Int → Int}
theorem edge_sum (p q a b K : Int) (ha : K ≤ a) (hab : a ≤ b) : ∀ D : Nat, sumN D (fun u => if a ≤ K + (u : Int) ∧ K + (u : Int) < b then (p + q * (K + (u : Int))) + (p + q * (K + (u : Int) + 1)) else 0) = ((p + q * a) + (p + q * (max a (min (K + (D : Int)) b)))) * (max a (min (K + (D : Int)) b) - a)
  | 0 => by
    simp only [sumN]
    rw [show max a (min (K + ((0 : Nat) : Int)) b) = a by omega, Int.sub_self, Int.mul_zero]
  | D + 1 => by
    simp only [sumN]
    rw [edge_sum p q a b K ha hab D]
    by_cases c : a ≤ K + (D : Int) ∧ K + (D : Int) < b
    · rw [if_pos c, show max a (min (K + (D : Int)) b) = K + (D : Int) by omega, show max a (min (K + ((D + 1 : Nat) : Int)) b) = K + (D : Int) + 1 by omega]
      generalize K + (D : Int) = s
      grind
    · rw [if_neg c, show max a (min (K + ((D + 1 : Nat) : Int)) b) = max a (min (K + (D : Int)) b) by omega, Int.add_zero]
theorem Way.edge_area (w : Way n x y Z) {j : Nat} (hj : j < n) (K : Int) (D : Nat) (h1 : K ≤ y j) (h2 : K ≤ y (j + 1)) (h3 : y j ≤ K + D) (h4 : y (j + 1) ≤ K + D) :
    sumN D (fun u => dk y j (K + (u : Int)) * Sk Z j (K + (u : Int))) = (x j + x (j + 1)) * (y (j + 1) - y j) := by
  obtain ⟨p, q, hz⟩ := w.aff j
  have zl := w.zl j hj
  have zr := w.zr j hj
  rw [hz] at zl zr
  by_cases c : y j ≤ y (j + 1)
  · have e := edge_sum p q (y j) (y (j + 1)) K h1 c D
    rw [show max (y j) (min (K + (D : Int)) (y (j + 1))) = y (j + 1) by omega, zl, zr] at e
    rw [← e]
    apply sumN_congr
    intro u _
    unfold Sk
    rw [hz, hz]
    by_cases r : y j ≤ K + (u : Int) ∧ K + (u : Int) < y (j + 1)
    · rw [if_pos r, dk_up.2 r, Int.one_mul]
    · rw [if_neg r, dk_zero.2 (by omega), Int.zero_mul]
  · have e := edge_sum p q (y (j + 1)) (y j) K h2 (by omega) D
    rw [show max (y (j + 1)) (min (K + (D : Int)) (y j)) = y j by omega, zl, zr] at e
    have e2 : (x j + x (j + 1)) * (y (j + 1) - y j) = (-1) * ((x (j + 1) + x j) * (y j - y (j + 1))) := by grind
    rw [e2, ← e, ← sumN_mul]
    apply sumN_congr
    intro u _
    unfold Sk
    rw [hz, hz]
    by_cases r : y (j + 1) ≤ K + (u : Int) ∧ K + (u : Int) < y j
    · rw [if_pos r, dk_down.2 r]
    · rw [if_neg r, dk_zero.2 (by omega), Int.zero_mul]; rfl
theorem Way.area (w : Way n x y Z) {c : Int} (hc : ∀ i k, i < n → dk y i k ≠ 0 → Lk n y Z i k = c) :
    0 < (2 * c - 1) * sumN n (fun j => (x j + x (j + 1)) * (y (j + 1) - y j)) := by
  have h2 := w.two
  have n0 : 0 < n := by omega
  obtain ⟨a, ha, _, hl⟩ := max_ex (fun _ => True) (fun j => -y j) n ⟨0, n0, trivial⟩
  obtain ⟨b, hb, _, hm⟩ := max_ex (fun _ => True) (fun j => y j) n ⟨0, n0, trivial⟩
  have lo : ∀ j, j < n → y a ≤ y j := fun j hj => by have := hl j hj trivial; omega
  have hi : ∀ j, j < n → y j ≤ y b := fun j hj => hm j hj trivial
  have lo' : ∀ j, j < n → y a ≤ y (j + 1) := fun j hj => by rw [← per_mod w.py n0 hj]; exact lo _ (Nat.mod_lt _ n0)
  have hi' : ∀ j, j < n → y (j + 1) ≤ y b := fun j hj => by rw [← per_mod w.py n0 hj]; exact hi _ (Nat.mod_lt _ n0)
  obtain ⟨D, hD⟩ : ∃ D : Nat, (D : Int) = y b - y a := ⟨(y b - y a).toNat, by have := lo b hb; omega⟩
  have s : sumN n (fun j => (x j + x (j + 1)) * (y (j + 1) - y j)) = sumN D (fun u => sumN n (fun j => dk y j (y a + (u : Int)) * Sk Z j (y a + (u : Int)))) := by
    rw [← sumN_swap (fun j u => dk y j (y a + (u : Int)) * Sk Z j (y a + (u : Int))) D n]
    apply sumN_congr
    intro j hj
    have q1 := lo j hj
    have q2 := lo' j hj
    have q3 := hi j hj
    have q4 := hi' j hj
    exact (w.edge_area hj (y a) D q1 q2 (by omega) (by omega)).symm
  obtain ⟨⟨k, dk0, _⟩, _⟩ := w.ends n0
  have ck := dk_cases y 0 k
  have z1 := lo 0 n0
  have z2 := lo' 0 n0
  have z3 := hi 0 n0
  have z4 := hi' 0 n0
  rw [s, ← sumN_mul]
  refine sumN_pos (fun u _ => (w.slab hc (y a + (u : Int))).1) (e := (k - y a).toNat) (by omega) ?_
  rw [show y a + ((k - y a).toNat : Int) = k by omega]
  exact (w.slab hc k).2 ⟨0, n0, dk0⟩
end Go.Proofs.Ytdbhbfmbpldmnaa
