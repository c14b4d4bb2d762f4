/- A closed way: the sum on an edge's left is the same at all edges. -/
import Derived.Test.YtdbhbfmbpldmnaaJ2
namespace Go.Proofs.Ytdbhbfmbpldmnaa
variable {n : Nat} {x y : Nat → Int} {Z : Nat → Int → Int}
def Lk (n : Nat) (y : Nat → Int) (Z : Nat → Int → Int) (i : Nat) (k : Int) : Int := Rk n y Z i k + (if dk y i k = 1 then 1 else 0)
theorem sumN_two (F : Nat → Int) {e f : Nat} {n : Nat} (he : e < n) (hf : f < n) (hne : e ≠ f) : sumN n F = F e + F f + sumN n (fun j => if j = e ∨ j = f then 0 else F j) := by
  rw [sumN_one F he, sumN_one (fun j => if j = e then 0 else F j) hf, if_neg (fun c => hne c.symm)]
  have h : sumN n (fun j => if j = f then 0 else if j = e then 0 else F j) = sumN n (fun j => if j = e ∨ j = f then 0 else F j) := by
    apply sumN_congr
    intro j _
    by_cases a : j = f
    · rw [if_pos a, if_pos (Or.inr a)]
    · by_cases b : j = e
      · rw [if_neg a, if_pos b, if_pos (Or.inl b)]
      · rw [if_neg a, if_neg b, if_neg (fun c => c.elim b a)]
  rw [h]
  omega
/-- the other edges to the right of the corner behind edge m -/
def Ck (n : Nat) (x y : Nat → Int) (Z : Nat → Int → Int) (m : Nat) : Int :=
  sumN n (fun j => if j = m ∨ j = (m + 1) % n then 0 else if x (m + 1) < Z j (y (m + 1)) then dk y j (y (m + 1)) else 0)
theorem Way.near (w : Way n x y Z) {m e : Nat} {k : Int} (hm : m < n) (he : e = m ∨ e = (m + 1) % n) (d : dk y e k ≠ 0) (hk : y (m + 1) = k ∨ y (m + 1) = k + 1) :
    Rk n y Z e k = Tk y Z e k m + Tk y Z e k ((m + 1) % n) + Ck n x y Z m := by
  have h2 := w.two
  have n0 : 0 < n := by omega
  obtain ⟨f, hf⟩ : ∃ f, (m + 1) % n = f := ⟨_, rfl⟩
  have hfn : f < n := by rw [← hf]; exact Nat.mod_lt _ n0
  have yf : y f = y (m + 1) := by rw [← hf]; exact per_mod w.py n0 hm
  have xf : x f = x (m + 1) := by rw [← hf]; exact per_mod w.px n0 hm
  have hmf : m ≠ f := by
    intro c
    have := w.ne hm
    rw [← yf, ← c] at this
    exact this rfl
  have hen : e < n := by rcases he with c | c <;> omega
  rw [hf] at he ⊢
  have ze : Z e (y (m + 1)) = x (m + 1) := by
    rcases he with c | c
    · rw [c]; exact w.zr m hm
    · rw [c, ← yf, ← xf]; exact w.zl f hfn
  unfold Rk Ck
  rw [sumN_two (Tk y Z e k) hm hfn hmf, hf]
  congr 1
  apply sumN_congr
  intro j hj
  by_cases a : j = m ∨ j = f
  · rw [if_pos a, if_pos a]
  · rw [if_neg a, if_neg a]
    have jm : j ≠ m := fun c => a (.inl c)
    have jf : j ≠ f := fun c => a (.inr c)
    have y1 : y j ≠ y (m + 1) := fun c => jf (w.di j f hj hfn (c.trans yf.symm))
    have y2 : y (j + 1) ≠ y (m + 1) := by
      intro c
      rw [← per_mod w.py n0 hj, ← yf] at c
      have q := w.di _ _ (Nat.mod_lt _ n0) hfn c
      rw [← hf] at q
      have : j = m := by
        by_cases c1 : j + 1 < n
        · rw [Nat.mod_eq_of_lt c1] at q
          by_cases c2 : m + 1 < n
          · rw [Nat.mod_eq_of_lt c2] at q; omega
          · rw [show m + 1 = n by omega, Nat.mod_self] at q; omega
        · rw [show j + 1 = n by omega, Nat.mod_self] at q
          by_cases c2 : m + 1 < n
          · rw [Nat.mod_eq_of_lt c2] at q; omega
          · omega
      exact jm this
    have cj := dk_cases y j k
    have cj2 := dk_cases y j (y (m + 1))
    have same : dk y j (y (m + 1)) = dk y j k := by omega
    rw [same]
    unfold Tk
    by_cases z : dk y j k = 0
    · rw [z]; simp
    · have zj : Z e (y (m + 1)) ≠ Z j (y (m + 1)) := by
        rw [ze, ← xf, ← yf]
        intro c
        have inr : inR y j (y f) := by
          rw [yf]
          rcases hk with q | q
          · rw [q]; exact (dk_in z).1
          · rw [q]; exact (dk_in z).2
        rcases w.vt j f hj hfn inr c with q | q
        · exact jf q.symm
        · apply y2
          rw [← per_mod w.py n0 hj, ← q, yf]
      have r := w.right hen hj d z (h := y (m + 1)) hk zj
      rw [ze] at r
      by_cases g : x (m + 1) < Z j (y (m + 1))
      · rw [if_pos (r.2 g), if_pos g]
      · rw [if_neg (fun c => g (r.1 c)), if_neg g]
theorem Way.corner (w : Way n x y Z) {m : Nat} {k k' : Int} (hm : m < n) (d : dk y m k ≠ 0) (hk : y (m + 1) = k ∨ y (m + 1) = k + 1) (d' : dk y ((m + 1) % n) k' ≠ 0) (hk' : y (m + 1) = k' ∨ y (m + 1) = k' + 1) :
    Lk n y Z m k = Lk n y Z ((m + 1) % n) k' := by
  have h2 := w.two
  have n0 : 0 < n := by omega
  have e1 := w.near hm (.inl rfl) d hk
  have e2 := w.near hm (.inr rfl) d' hk'
  obtain ⟨f, hf⟩ : ∃ f, (m + 1) % n = f := ⟨_, rfl⟩
  have hfn : f < n := by rw [← hf]; exact Nat.mod_lt _ n0
  have yf : y f = y (m + 1) := by rw [← hf]; exact per_mod w.py n0 hm
  rw [hf] at e1 e2 d' ⊢
  have hmf : m ≠ f := by
    intro c
    have := w.ne hm
    rw [← yf, ← c] at this
    exact this rfl
  have nm := w.ne hm
  have nf := w.ne hfn
  have a1 := dk_cases y m k
  have a2 := dk_cases y m k'
  have b1 := dk_cases y f k
  have b2 := dk_cases y f k'
  rw [yf] at nf b1 b2
  have self : ∀ i t, Tk y Z i t i = 0 := fun i t => by unfold Tk; rw [if_neg (Int.lt_irrefl _)]
  rw [self] at e1 e2
  unfold Lk
  rw [e1, e2]
  by_cases hkk : k = k'
  · subst hkk
    have ne := w.Sne hm hfn hmf d d'
    unfold Tk
    rcases Int.lt_or_gt_of_ne ne with c | c
    · rw [if_pos c, if_neg (show ¬ Sk Z f k < Sk Z m k by omega)]
      split <;> split <;> omega
    · rw [if_neg (show ¬ Sk Z m k < Sk Z f k by omega), if_pos c]
      split <;> split <;> omega
  · have t1 : Tk y Z m k f = 0 := by
      unfold Tk
      rw [show dk y f k = 0 by omega]
      simp
    have t2 : Tk y Z f k' m = 0 := by
      unfold Tk
      rw [show dk y m k' = 0 by omega]
      simp
    rw [t1, t2]
    split <;> split <;> omega
theorem Way.along (w : Way n x y Z) {i : Nat} (hi : i < n) : ∀ (t : Nat) (k : Int), dk y i k ≠ 0 → dk y i (k + t) ≠ 0 → Lk n y Z i (k + t) = Lk n y Z i k
  | 0, k, _, _ => by simp
  | t + 1, k, h, h' => by
    have c0 := dk_cases y i k
    have c1 := dk_cases y i (k + ((t + 1 : Nat) : Int))
    have c2 := dk_cases y i (k + (t : Int))
    have hm : dk y i (k + (t : Int)) ≠ 0 := by omega
    have e : k + ((t + 1 : Nat) : Int) = k + (t : Int) + 1 := by omega
    rw [e] at h' c1 ⊢
    have s := w.step hi hm h'
    have ih := w.along hi t k h hm
    unfold Lk at ih ⊢
    rw [s, ← ih, show dk y i (k + (t : Int) + 1) = dk y i (k + (t : Int)) by omega]
theorem Way.edge_const (w : Way n x y Z) {i : Nat} {k k' : Int} (hi : i < n) (h : dk y i k ≠ 0) (h' : dk y i k' ≠ 0) : Lk n y Z i k = Lk n y Z i k' := by
  rcases Int.le_total k k' with c | c
  · have := w.along hi (k' - k).toNat k h (by rw [show k + ((k' - k).toNat : Int) = k' by omega]; exact h')
    rw [show k + ((k' - k).toNat : Int) = k' by omega] at this
    exact this.symm
  · have := w.along hi (k - k').toNat k' h' (by rw [show k' + ((k - k').toNat : Int) = k by omega]; exact h)
    rw [show k' + ((k - k').toNat : Int) = k by omega] at this
    exact this
/-- a slab at the start, and one at the end, of an edge -/
theorem Way.ends (w : Way n x y Z) {i : Nat} (hi : i < n) : (∃ k, dk y i k ≠ 0 ∧ (y i = k ∨ y i = k + 1)) ∧ (∃ k, dk y i k ≠ 0 ∧ (y (i + 1) = k ∨ y (i + 1) = k + 1)) := by
  have ne := w.ne hi
  by_cases c : y i < y (i + 1)
  · exact ⟨⟨y i, by have := dk_cases y i (y i); omega, .inl rfl⟩, ⟨y (i + 1) - 1, by have := dk_cases y i (y (i + 1) - 1); omega, .inr (by omega)⟩⟩
  · exact ⟨⟨y i - 1, by have := dk_cases y i (y i - 1); omega, .inr (by omega)⟩, ⟨y (i + 1), by have := dk_cases y i (y (i + 1)); omega, .inl rfl⟩⟩
theorem Way.const (w : Way n x y Z) : ∃ c, ∀ i k, i < n → dk y i k ≠ 0 → Lk n y Z i k = c := by
  have h2 := w.two
  obtain ⟨⟨k0, d0, _⟩, _⟩ := w.ends (show 0 < n by omega)
  refine ⟨Lk n y Z 0 k0, ?_⟩
  intro i
  induction i with
  | zero => intro k hi d; exact w.edge_const hi d d0
  | succ i ih =>
    intro k hi d
    obtain ⟨_, k1, d1, e1⟩ := w.ends (show i < n by omega)
    obtain ⟨⟨k2, d2, e2⟩, _⟩ := w.ends hi
    have hmod : (i + 1) % n = i + 1 := Nat.mod_eq_of_lt hi
    have c := w.corner (show i < n by omega) d1 e1 (by rw [hmod]; exact d2) e2
    rw [hmod] at c
    rw [w.edge_const hi d d2, ← c]
    exact ih k1 (by omega) d1
end Go.Proofs.Ytdbhbfmbpldmnaa
