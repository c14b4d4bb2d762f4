/- A closed way: its winding numbers, and the sign of its area. -/
import Derived.Test.YtdbhbfmbpldmnaaJ3
namespace Go.Proofs.Ytdbhbfmbpldmnaa
variable {n : Nat} {x y : Nat → Int} {Z : Nat → Int → Int}
theorem max_ex (P : Nat → Prop) (f : Nat → Int) : ∀ n : Nat, (∃ j, j < n ∧ P j) → ∃ e, e < n ∧ P e ∧ ∀ j, j < n → P j → f j ≤ f e
  | 0, ⟨j, h, _⟩ => by omega
  | n + 1, h => by
    by_cases q : ∃ j, j < n ∧ P j
    · obtain ⟨e, he, pe, hm⟩ := max_ex P f n q
      by_cases c : P n ∧ f e < f n
      · refine ⟨n, by omega, c.1, fun j hj pj => ?_⟩
        by_cases a : j = n
        · subst a; exact Int.le_refl _
        · have := hm j (by omega) pj; omega
      · refine ⟨e, by omega, pe, fun j hj pj => ?_⟩
        by_cases a : j = n
        · subst a
          have : ¬ f e < f j := fun z => c ⟨pj, z⟩
          omega
        · exact hm j (by omega) pj
    · obtain ⟨j, hj, pj⟩ := h
      have hjn : j = n := Classical.byContradiction fun c => q ⟨j, by omega, pj⟩
      subst hjn
      refine ⟨j, by omega, pj, fun i hi pi => ?_⟩
      have : i = j := Classical.byContradiction fun c => q ⟨i, by omega, pi⟩
      rw [this]; exact Int.le_refl _
theorem sumN_add (F G : Nat → Int) : ∀ n : Nat, sumN n (fun j => F j + G j) = sumN n F + sumN n G
  | 0 => rfl
  | n + 1 => by simp only [sumN]; rw [sumN_add F G n]; omega
theorem sumN_at (d : Int) {e n : Nat} (he : e < n) : sumN n (fun j => if j = e then d else 0) = d := by
  rw [sumN_one _ he, if_pos rfl, sumN_zero (fun j _ => by split <;> simp_all)]
  omega
theorem Way.top (_ : Way n x y Z) {c k : Int} (hc : ∀ i k, i < n → dk y i k ≠ 0 → Lk n y Z i k = c) {e : Nat} (he : e < n) (d : dk y e k ≠ 0) (hm : ∀ j, j < n → dk y j k ≠ 0 → Sk Z j k ≤ Sk Z e k) :
    (c = 1 ∧ dk y e k = 1) ∨ (c = 0 ∧ dk y e k = -1) := by
  have r : Rk n y Z e k = 0 := by
    unfold Rk
    apply sumN_zero
    intro j hj
    unfold Tk
    by_cases z : dk y j k = 0
    · rw [z, ite_self]
    · have := hm j hj z
      rw [if_neg (by omega)]
  have l := hc e k he d
  unfold Lk at l
  rw [r] at l
  have := dk_cases y e k
  split at l <;> omega
theorem Way.c01 (w : Way n x y Z) {c : Int} (hc : ∀ i k, i < n → dk y i k ≠ 0 → Lk n y Z i k = c) : c = 0 ∨ c = 1 := by
  have h2 := w.two
  obtain ⟨⟨k, d, _⟩, _⟩ := w.ends (show 0 < n by omega)
  obtain ⟨e, he, de, hm⟩ := max_ex (fun j => dk y j k ≠ 0) (fun j => Sk Z j k) n ⟨0, by omega, d⟩
  rcases w.top hc he de hm with h | h
  · exact .inr h.1
  · exact .inl h.1
/-- the directions of a slab's edges beyond a bound -/
theorem Way.thr (w : Way n x y Z) {c k : Int} (hc : ∀ i k, i < n → dk y i k ≠ 0 → Lk n y Z i k = c) (g : Nat → Int) (t : Int)
    (hg : ∀ e j, e < n → j < n → dk y e k ≠ 0 → dk y j k ≠ 0 → Sk Z e k < Sk Z j k → g e ≤ g j) :
    sumN n (fun j => if t < g j then dk y j k else 0) = 0 ∨ sumN n (fun j => if t < g j then dk y j k else 0) = c ∨ sumN n (fun j => if t < g j then dk y j k else 0) = c - 1 := by
  by_cases q : ∃ j, j < n ∧ (dk y j k ≠ 0 ∧ t < g j)
  · obtain ⟨e, he, ⟨de, te⟩, hm⟩ := max_ex (fun j => dk y j k ≠ 0 ∧ t < g j) (fun j => -Sk Z j k) n q
    have s : sumN n (fun j => if t < g j then dk y j k else 0) = dk y e k + Rk n y Z e k := by
      unfold Rk
      rw [← sumN_at (dk y e k) he, ← sumN_add]
      apply sumN_congr
      intro j hj
      by_cases a : j = e
      · subst a
        rw [if_pos te, if_pos rfl]
        unfold Tk
        rw [if_neg (Int.lt_irrefl _)]
        omega
      · rw [if_neg a]
        unfold Tk
        by_cases z : dk y j k = 0
        · rw [z, ite_self, ite_self]; rfl
        · have ne := w.Sne he hj (fun c => a c.symm) de z
          by_cases b : Sk Z e k < Sk Z j k
          · have := hg e j he hj de z b
            rw [if_pos b, if_pos (by omega)]
            omega
          · rw [if_neg b, if_neg (fun tj => by have := hm j hj ⟨z, tj⟩; omega)]
            rfl
    rw [s]
    have l := hc e k he de
    unfold Lk at l
    have := dk_cases y e k
    split at l <;> omega
  · left
    apply sumN_zero
    intro j hj
    by_cases z : dk y j k = 0
    · rw [z, ite_self]
    · rw [if_neg (fun tj => q ⟨j, hj, z, tj⟩)]
theorem Way.mono (w : Way n x y Z) {k : Int} {e j : Nat} (he : e < n) (hj : j < n) (de : dk y e k ≠ 0) (dj : dk y j k ≠ 0) (h : Sk Z e k < Sk Z j k) : Z e k ≤ Z j k := by
  obtain ⟨i1, i2⟩ := dk_in de
  obtain ⟨j1, j2⟩ := dk_in dj
  have b := w.sa e j (k + 1) k he hj i2 i1 j2 j1
  unfold Sk at h
  by_cases f : Z j k < Z e k
  · exact (b (by omega) f).elim
  · omega
/-- the winding number at a point in the slab over k -/
theorem Way.wind (w : Way n x y Z) {c : Int} (hc : ∀ i k, i < n → dk y i k ≠ 0 → Lk n y Z i k = c) (t k : Int) :
    sumN n (fun j => if t < Z j k then dk y j k else 0) = 0 ∨ sumN n (fun j => if t < Z j k then dk y j k else 0) = 2 * c - 1 := by
  have h := w.thr hc (fun j => Z j k) t (fun e j he hj de dj => w.mono he hj de dj)
  rcases w.c01 hc with e | e <;> subst e <;> omega
theorem sumN_swap (F : Nat → Nat → Int) (m : Nat) : ∀ n : Nat, sumN n (fun j => sumN m (fun u => F j u)) = sumN m (fun u => sumN n (fun j => F j u))
  | 0 => by simp only [sumN]; exact (sumN_zero (fun _ _ => rfl)).symm
  | n + 1 => by simp only [sumN]; rw [sumN_swap F m n, ← sumN_add]
theorem count_up (d s T : Int) (hs : T ≤ s) : ∀ D : Nat, sumN D (fun u => if T + (u : Int) < s then d else 0) = d * min (s - T) (D : Int)
  | 0 => by simp only [sumN]; rw [show min (s - T) ((0 : Nat) : Int) = 0 by omega]; simp
  | D + 1 => by
    simp only [sumN]
    rw [count_up d s T hs D]
    by_cases c : T + (D : Int) < s
    · rw [if_pos c, show min (s - T) (D : Int) = (D : Int) by omega, show min (s - T) ((D + 1 : Nat) : Int) = (D : Int) + 1 by omega, Int.mul_add, Int.mul_one]
    · rw [if_neg c, show min (s - T) (D : Int) = s - T by omega, show min (s - T) ((D + 1 : Nat) : Int) = s - T by omega, Int.add_zero]
theorem sumN_le {F : Nat → Int} : ∀ {n : Nat}, (∀ j, j < n → 0 ≤ F j) → 0 ≤ sumN n F
  | 0, _ => Int.le_refl _
  | n + 1, h => by have := sumN_le (n := n) (F := F) (fun j hj => h j (by omega)); have := h n (by omega); simp only [sumN]; omega
theorem sumN_pos {F : Nat → Int} {n e : Nat} (h : ∀ j, j < n → 0 ≤ F j) (he : e < n) (hp : 0 < F e) : 0 < sumN n F := by
  rw [sumN_one F he]
  have := sumN_le (n := n) (F := fun j => if j = e then 0 else F j) (fun j hj => by
    split
    · exact Int.le_refl _
    · exact h j hj)
  omega
theorem sumN_mul (a : Int) (F : Nat → Int) : ∀ n : Nat, sumN n (fun j => a * F j) = a * sumN n F
  | 0 => by simp [sumN]
  | n + 1 => by simp only [sumN]; rw [sumN_mul a F n, Int.mul_add]
/-- all edges of a slab go up as often as down -/
theorem Way.zero (w : Way n x y Z) (k : Int) : sumN n (fun j => dk y j k) = 0 := by
  unfold dk
  rw [sumN_tele (fun m => if y m ≤ k then 1 else 0) n]
  have p := w.py 0
  rw [Nat.zero_add] at p
  rw [p]
  omega
/-- a slab's part of the area -/
theorem Way.slab (w : Way n x y Z) {c : Int} (hc : ∀ i k, i < n → dk y i k ≠ 0 → Lk n y Z i k = c) (k : Int) :
    0 ≤ (2 * c - 1) * sumN n (fun j => dk y j k * Sk Z j k) ∧ ((∃ j, j < n ∧ dk y j k ≠ 0) → 0 < (2 * c - 1) * sumN n (fun j => dk y j k * Sk Z j k)) := by
  by_cases q : ∃ j, j < n ∧ dk y j k ≠ 0
  · obtain ⟨e, he, de, hm⟩ := max_ex (fun j => dk y j k ≠ 0) (fun j => Sk Z j k) n q
    obtain ⟨b, hb, db, hl⟩ := max_ex (fun j => dk y j k ≠ 0) (fun j => -Sk Z j k) n q
    obtain ⟨T, hT⟩ : ∃ T, Sk Z b k - 1 = T := ⟨_, rfl⟩
    obtain ⟨D, hD⟩ : ∃ D : Nat, (D : Int) = Sk Z e k - T := ⟨(Sk Z e k - T).toNat, by have := hm b hb db; omega⟩
    have s : sumN n (fun j => dk y j k * Sk Z j k) = sumN D (fun u => sumN n (fun j => if T + (u : Int) < Sk Z j k then dk y j k else 0)) := by
      rw [← sumN_swap (fun j u => if T + (u : Int) < Sk Z j k then dk y j k else 0) D n]
      have z : sumN n (fun j => dk y j k * T) = 0 := by
        have e1 : (fun j => dk y j k * T) = fun j => T * dk y j k := by funext j; exact Int.mul_comm _ _
        rw [e1, sumN_mul, w.zero k, Int.mul_zero]
      have z2 := sumN_sub (fun j => dk y j k * Sk Z j k) (fun j => dk y j k * T) n
      rw [z, Int.sub_zero] at z2
      rw [← z2]
      apply sumN_congr
      intro j hj
      by_cases c0 : dk y j k = 0
      · rw [c0, sumN_zero (fun u _ => ite_self _)]; simp
      · have h1 := hm j hj c0
        have h2 := hl j hj c0
        rw [count_up (dk y j k) (Sk Z j k) T (by omega) D, show min (Sk Z j k - T) (D : Int) = Sk Z j k - T by omega, Int.mul_sub]
    have each : ∀ u, 0 ≤ (2 * c - 1) * sumN n (fun j => if T + (u : Int) < Sk Z j k then dk y j k else 0) := by
      intro u
      have h := w.thr hc (fun j => Sk Z j k) (T + (u : Int)) (fun _ _ _ _ _ _ h => Int.le_of_lt h)
      generalize sumN n (fun j => if T + (u : Int) < Sk Z j k then dk y j k else 0) = v at h ⊢
      rcases w.c01 hc with e | e <;> subst e <;> omega
    have last : 0 < (2 * c - 1) * sumN n (fun j => if T + ((D - 1 : Nat) : Int) < Sk Z j k then dk y j k else 0) := by
      have hDb := hm b hb db
      have v : sumN n (fun j => if T + ((D - 1 : Nat) : Int) < Sk Z j k then dk y j k else 0) = dk y e k := by
        rw [← sumN_at (dk y e k) he]
        apply sumN_congr
        intro j hj
        by_cases a : j = e
        · subst a
          rw [if_pos rfl, if_pos (by omega)]
        · rw [if_neg a]
          by_cases c0 : dk y j k = 0
          · rw [c0, ite_self]
          · have h1 := hm j hj c0
            have h2 := w.Sne hj he a c0 de
            rw [if_neg (by omega)]
      rw [v]
      rcases w.top hc he de hm with ⟨h1, h2⟩ | ⟨h1, h2⟩ <;> rw [h1, h2] <;> decide
    have pos : 0 < (2 * c - 1) * sumN n (fun j => dk y j k * Sk Z j k) := by
      rw [s, ← sumN_mul]
      exact sumN_pos (fun u _ => each u) (e := D - 1) (by have := hm b hb db; omega) last
    exact ⟨Int.le_of_lt pos, fun _ => pos⟩
  · have z : sumN n (fun j => dk y j k * Sk Z j k) = 0 := by
      apply sumN_zero
      intro j hj
      rw [show dk y j k = 0 from Classical.byContradiction fun h => q ⟨j, hj, h⟩, Int.zero_mul]
    rw [z]
    exact ⟨by omega, fun h => absurd h q⟩
end Go.Proofs.Ytdbhbfmbpldmnaa
