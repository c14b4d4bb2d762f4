/- A closed way whose corners have distinct heights and whose edges do not cross: its sums from the right. -/
import Derived.Test.YtdbhbfmbpldmnaaB
namespace Go.Proofs.Ytdbhbfmbpldmnaa
def sumN : Nat → (Nat → Int) → Int
  | 0, _ => 0
  | n + 1, F => sumN n F + F n
theorem sumN_congr {F G : Nat → Int} : ∀ {n : Nat}, (∀ j, j < n → F j = G j) → sumN n F = sumN n G
  | 0, _ => rfl
  | n + 1, h => by simp only [sumN]; rw [sumN_congr (n := n) (fun j hj => h j (by omega)), h n (by omega)]
theorem sumN_sub (F G : Nat → Int) : ∀ n : Nat, sumN n (fun j => F j - G j) = sumN n F - sumN n G
  | 0 => rfl
  | n + 1 => by simp only [sumN]; rw [sumN_sub F G n]; omega
theorem sumN_tele (p : Nat → Int) : ∀ n : Nat, sumN n (fun j => p j - p (j + 1)) = p 0 - p n
  | 0 => by simp [sumN]
  | n + 1 => by simp only [sumN]; rw [sumN_tele p n]; omega
theorem sumN_zero {F : Nat → Int} : ∀ {n : Nat}, (∀ j, j < n → F j = 0) → sumN n F = 0
  | 0, _ => rfl
  | n + 1, h => by simp only [sumN]; rw [sumN_zero (n := n) (fun j hj => h j (by omega)), h n (by omega)]; rfl
theorem sumN_one (F : Nat → Int) {e : Nat} : ∀ {n : Nat}, e < n → sumN n F = F e + sumN n (fun j => if j = e then 0 else F j)
  | 0, h => by omega
  | n + 1, h => by
    simp only [sumN]
    by_cases c : e = n
    · subst c
      rw [if_pos rfl, sumN_congr (n := e) (F := fun j => if j = e then 0 else F j) (G := F) (fun j hj => if_neg (by omega))]
      omega
    · have q := sumN_one F (n := n) (e := e) (by omega)
      rw [q, if_neg (fun k => c k.symm)]
      omega
/-- t lies in the heights of edge i -/
def inR (y : Nat → Int) (i : Nat) (t : Int) : Prop := (y i ≤ t ∧ t ≤ y (i + 1)) ∨ (y (i + 1) ≤ t ∧ t ≤ y i)
structure Way (n : Nat) (x y : Nat → Int) (Z : Nat → Int → Int) : Prop where
  two : 2 ≤ n
  px : ∀ i, x (i + n) = x i
  py : ∀ i, y (i + n) = y i
  di : ∀ i j, i < n → j < n → y i = y j → i = j
  aff : ∀ i, ∃ a b, ∀ t, Z i t = a + b * t
  zl : ∀ i, i < n → Z i (y i) = x i
  zr : ∀ i, i < n → Z i (y (i + 1)) = x (i + 1)
  sa : ∀ i j s t, i < n → j < n → inR y i s → inR y i t → inR y j s → inR y j t → Z i s < Z j s → Z j t < Z i t → False
  sb : ∀ i j s t, i < n → j < n → i ≠ j → inR y i s → inR y i t → inR y j s → inR y j t → s < t → Z i s = Z j s → Z i t = Z j t → False
  vt : ∀ i m, i < n → m < n → inR y i (y m) → x m = Z i (y m) → m = i ∨ m = (i + 1) % n
variable {n : Nat} {x y : Nat → Int} {Z : Nat → Int → Int}
theorem per_mod {f : Nat → Int} (h : ∀ i, f (i + n) = f i) (_ : 0 < n) {j : Nat} (hj : j < n) : f ((j + 1) % n) = f (j + 1) := by
  by_cases e : j + 1 < n
  · rw [Nat.mod_eq_of_lt e]
  · have e2 : j + 1 = 0 + n := by omega
    rw [e2, h, Nat.zero_add, Nat.mod_self]
theorem Way.ne (w : Way n x y Z) {j : Nat} (hj : j < n) : y j ≠ y (j + 1) := by
  have h2 := w.two
  rw [← per_mod w.py (by omega) hj]
  intro e
  have := w.di j ((j + 1) % n) hj (Nat.mod_lt _ (by omega)) e
  by_cases c : j + 1 < n
  · rw [Nat.mod_eq_of_lt c] at this; omega
  · have e2 : j + 1 = n := by omega
    rw [e2, Nat.mod_self] at this; omega
/-- the direction of edge j in the slab over k: 1 up, -1 down, 0 not there -/
def dk (y : Nat → Int) (j : Nat) (k : Int) : Int := (if y j ≤ k then 1 else 0) - (if y (j + 1) ≤ k then 1 else 0)
theorem dk_up {y : Nat → Int} {j : Nat} {k : Int} : dk y j k = 1 ↔ y j ≤ k ∧ k < y (j + 1) := by unfold dk; split <;> split <;> omega
theorem dk_down {y : Nat → Int} {j : Nat} {k : Int} : dk y j k = -1 ↔ y (j + 1) ≤ k ∧ k < y j := by unfold dk; split <;> split <;> omega
theorem dk_zero {y : Nat → Int} {j : Nat} {k : Int} : dk y j k = 0 ↔ (y j ≤ k ∧ y (j + 1) ≤ k) ∨ (k < y j ∧ k < y (j + 1)) := by unfold dk; split <;> split <;> omega
theorem dk_cases (y : Nat → Int) (j : Nat) (k : Int) : (dk y j k = 1 ∧ y j ≤ k ∧ k < y (j + 1)) ∨ (dk y j k = -1 ∧ y (j + 1) ≤ k ∧ k < y j) ∨ (dk y j k = 0 ∧ ((y j ≤ k ∧ y (j + 1) ≤ k) ∨ (k < y j ∧ k < y (j + 1)))) := by unfold dk; split <;> split <;> omega
theorem dk_in {y : Nat → Int} {j : Nat} {k : Int} (h : dk y j k ≠ 0) : inR y j k ∧ inR y j (k + 1) := by
  have := dk_cases y j k
  unfold inR
  omega
def Sk (Z : Nat → Int → Int) (j : Nat) (k : Int) : Int := Z j k + Z j (k + 1)
/-- which of two edges of a slab is to the right is seen at either end of the slab -/
theorem Way.right (w : Way n x y Z) {i j : Nat} {k h : Int} (hi : i < n) (hj : j < n) (di : dk y i k ≠ 0) (dj : dk y j k ≠ 0) (hh : h = k ∨ h = k + 1) (hne : Z i h ≠ Z j h) :
    (Sk Z i k < Sk Z j k ↔ Z i h < Z j h) := by
  obtain ⟨i1, i2⟩ := dk_in di
  obtain ⟨j1, j2⟩ := dk_in dj
  have a := w.sa i j k (k + 1) hi hj i1 i2 j1 j2
  have b := w.sa i j (k + 1) k hi hj i2 i1 j2 j1
  unfold Sk
  rcases hh with rfl | rfl
  · constructor
    · intro c
      rcases Int.lt_or_gt_of_ne hne with e | e
      · exact e
      · exfalso
        by_cases f : Z i (h + 1) < Z j (h + 1)
        · exact b f e
        · omega
    · intro c
      by_cases f : Z j (h + 1) < Z i (h + 1)
      · exact (a c f).elim
      · omega
  · constructor
    · intro c
      rcases Int.lt_or_gt_of_ne hne with e | e
      · exact e
      · exfalso
        by_cases f : Z i k < Z j k
        · exact a f e
        · omega
    · intro c
      by_cases f : Z j k < Z i k
      · exact (b c f).elim
      · omega
theorem Way.Sne (w : Way n x y Z) {i j : Nat} {k : Int} (hi : i < n) (hj : j < n) (hij : i ≠ j) (di : dk y i k ≠ 0) (dj : dk y j k ≠ 0) : Sk Z i k ≠ Sk Z j k := by
  obtain ⟨i1, i2⟩ := dk_in di
  obtain ⟨j1, j2⟩ := dk_in dj
  intro c
  have a := w.sa i j k (k + 1) hi hj i1 i2 j1 j2
  have b := w.sa i j (k + 1) k hi hj i2 i1 j2 j1
  have e := w.sb i j k (k + 1) hi hj hij i1 i2 j1 j2 (by omega)
  unfold Sk at c
  rcases Int.lt_trichotomy (Z i k) (Z j k) with f | f | f
  · exact a f (by omega)
  · exact e f (by omega)
  · exact b (by omega) f
/-- edges that go through a height do not meet there -/
theorem Way.thru (w : Way n x y Z) {i j : Nat} {k : Int} (hi : i < n) (hj : j < n) (hij : i ≠ j) (d1 : dk y i k ≠ 0) (d2 : dk y i (k + 1) ≠ 0) (d3 : dk y j k ≠ 0) (d4 : dk y j (k + 1) ≠ 0) : Z i (k + 1) ≠ Z j (k + 1) := by
  obtain ⟨i1, i2⟩ := dk_in d1
  obtain ⟨_, i3⟩ := dk_in d2
  obtain ⟨j1, j2⟩ := dk_in d3
  obtain ⟨_, j3⟩ := dk_in d4
  intro c
  have e := w.sb i j (k + 1) (k + 1 + 1) hi hj hij i2 i3 j2 j3 (by omega) c
  obtain ⟨a, b, hz⟩ := w.aff i
  obtain ⟨a', b', hz'⟩ := w.aff j
  have h1 := w.sa i j k (k + 1 + 1) hi hj i1 i3 j1 j3
  have h2 := w.sa i j (k + 1 + 1) k hi hj i3 i1 j3 j1
  simp only [hz, hz'] at c e h1 h2
  have x1 : b * (k + 1) = b * k + b := by grind
  have x2 : b' * (k + 1) = b' * k + b' := by grind
  have x3 : b * (k + 1 + 1) = b * k + b + b := by grind
  have x4 : b' * (k + 1 + 1) = b' * k + b' + b' := by grind
  rw [x1, x2] at c
  rw [x3, x4] at e h1 h2
  generalize b * k = u at *
  generalize b' * k = v at *
  by_cases f : a + u < a' + v
  · exact h1 f (by omega)
  · by_cases g : a' + v < a + u
    · exact h2 (by omega) g
    · exact e (by omega)
def Tk (y : Nat → Int) (Z : Nat → Int → Int) (i : Nat) (k : Int) (j : Nat) : Int := if Sk Z i k < Sk Z j k then dk y j k else 0
def Rk (n : Nat) (y : Nat → Int) (Z : Nat → Int → Int) (i : Nat) (k : Int) : Int := sumN n (Tk y Z i k)
theorem Way.step_j (w : Way n x y Z) {i j : Nat} {k : Int} (hi : i < n) (hj : j < n) (d1 : dk y i k ≠ 0) (d2 : dk y i (k + 1) ≠ 0) :
    Tk y Z i (k + 1) j - Tk y Z i k j = (if y j = k + 1 ∧ Z i (k + 1) < x j then 1 else 0) - (if y (j + 1) = k + 1 ∧ Z i (k + 1) < x (j + 1) then 1 else 0) := by
  have ci := dk_cases y i k
  have ci2 := dk_cases y i (k + 1)
  have hyi : y i ≠ k + 1 ∧ y (i + 1) ≠ k + 1 := by omega
  by_cases e : j = i
  · subst e
    unfold Tk
    rw [if_neg (Int.lt_irrefl _), if_neg (Int.lt_irrefl _), if_neg (fun c => hyi.1 c.1), if_neg (fun c => hyi.2 c.1)]
  have n0 : 0 < n := by omega
  have off : ∀ m, m < n → y m = k + 1 → x m ≠ Z i (k + 1) := by
    intro m hm hy hx
    have inr : inR y i (y m) := by rw [hy]; exact (dk_in d1).2
    rcases w.vt i m hi hm inr (by rw [hy]; exact hx) with c | c
    · exact hyi.1 (by rw [← c]; exact hy)
    · exact hyi.2 (by rw [← per_mod w.py n0 hi, ← c]; exact hy)
  have off2 : y (j + 1) = k + 1 → x (j + 1) ≠ Z i (k + 1) := by
    intro hy
    rw [← per_mod w.px n0 hj]
    exact off _ (Nat.mod_lt _ n0) (by rw [per_mod w.py n0 hj]; exact hy)
  have cj := dk_cases y j k
  have cj2 := dk_cases y j (k + 1)
  have yne := w.ne hj
  unfold Tk
  by_cases c1 : dk y j k = 0
  · rw [c1, ite_self]
    by_cases c2 : dk y j (k + 1) = 0
    · rw [c2, ite_self, if_neg (show ¬ (y j = k + 1 ∧ Z i (k + 1) < x j) by omega), if_neg (show ¬ (y (j + 1) = k + 1 ∧ Z i (k + 1) < x (j + 1)) by omega)]
    · by_cases u : y j = k + 1
      · have r := w.right hi hj d2 c2 (.inl rfl) (by have := off j hj u; rw [show Z j (k + 1) = x j by rw [← u]; exact w.zl j hj]; exact fun c => this c.symm)
        rw [show Z j (k + 1) = x j by rw [← u]; exact w.zl j hj] at r
        rw [show dk y j (k + 1) = 1 by omega, if_neg (show ¬ (y (j + 1) = k + 1 ∧ Z i (k + 1) < x (j + 1)) by omega)]
        by_cases f : Z i (k + 1) < x j
        · rw [if_pos (r.2 f), if_pos (And.intro u f)]
        · rw [if_neg (fun c => f (r.1 c)), if_neg (fun c => f c.2)]
      · have u2 : y (j + 1) = k + 1 := by omega
        have r := w.right hi hj d2 c2 (.inl rfl) (by have := off2 u2; rw [show Z j (k + 1) = x (j + 1) by rw [← u2]; exact w.zr j hj]; exact fun c => this c.symm)
        rw [show Z j (k + 1) = x (j + 1) by rw [← u2]; exact w.zr j hj] at r
        rw [show dk y j (k + 1) = -1 by omega, if_neg (show ¬ (y j = k + 1 ∧ Z i (k + 1) < x j) by omega)]
        by_cases f : Z i (k + 1) < x (j + 1)
        · rw [if_pos (r.2 f), if_pos (And.intro u2 f)]; simp
        · rw [if_neg (fun c => f (r.1 c)), if_neg (fun c => f c.2)]
  · by_cases c2 : dk y j (k + 1) = 0
    · rw [c2, ite_self]
      by_cases u : y j = k + 1
      · have r := w.right hi hj d1 c1 (.inr rfl) (by have := off j hj u; rw [show Z j (k + 1) = x j by rw [← u]; exact w.zl j hj]; exact fun c => this c.symm)
        rw [show Z j (k + 1) = x j by rw [← u]; exact w.zl j hj] at r
        rw [show dk y j k = -1 by omega, if_neg (show ¬ (y (j + 1) = k + 1 ∧ Z i (k + 1) < x (j + 1)) by omega)]
        by_cases f : Z i (k + 1) < x j
        · rw [if_pos (r.2 f), if_pos (And.intro u f)]; simp
        · rw [if_neg (fun c => f (r.1 c)), if_neg (fun c => f c.2)]
      · have u2 : y (j + 1) = k + 1 := by omega
        have r := w.right hi hj d1 c1 (.inr rfl) (by have := off2 u2; rw [show Z j (k + 1) = x (j + 1) by rw [← u2]; exact w.zr j hj]; exact fun c => this c.symm)
        rw [show Z j (k + 1) = x (j + 1) by rw [← u2]; exact w.zr j hj] at r
        rw [show dk y j k = 1 by omega, if_neg (show ¬ (y j = k + 1 ∧ Z i (k + 1) < x j) by omega)]
        by_cases f : Z i (k + 1) < x (j + 1)
        · rw [if_pos (r.2 f), if_pos (And.intro u2 f)]
        · rw [if_neg (fun c => f (r.1 c)), if_neg (fun c => f c.2)]
    · have t := w.thru hi hj (fun c => e c.symm) d1 d2 c1 c2
      have r1 := w.right hi hj d1 c1 (.inr rfl) t
      have r2 := w.right hi hj d2 c2 (.inl rfl) t
      rw [show dk y j (k + 1) = dk y j k by omega, if_neg (show ¬ (y j = k + 1 ∧ Z i (k + 1) < x j) by omega), if_neg (show ¬ (y (j + 1) = k + 1 ∧ Z i (k + 1) < x (j + 1)) by omega)]
      by_cases f : Z i (k + 1) < Z j (k + 1)
      · rw [if_pos (r1.2 f), if_pos (r2.2 f)]; simp
      · rw [if_neg (fun c => f (r1.1 c)), if_neg (fun c => f (r2.1 c))]
/-- along an edge the sum to its right stays -/
theorem Way.step (w : Way n x y Z) {i : Nat} {k : Int} (hi : i < n) (d1 : dk y i k ≠ 0) (d2 : dk y i (k + 1) ≠ 0) : Rk n y Z i (k + 1) = Rk n y Z i k := by
  have e := sumN_sub (Tk y Z i (k + 1)) (Tk y Z i k) n
  rw [sumN_congr (fun j hj => w.step_j hi hj d1 d2), sumN_tele (fun m => if y m = k + 1 ∧ Z i (k + 1) < x m then 1 else 0) n] at e
  have p1 := w.py 0
  have p2 := w.px 0
  rw [Nat.zero_add] at p1 p2
  rw [p1, p2] at e
  unfold Rk
  omega
end Go.Proofs.Ytdbhbfmbpldmnaa
