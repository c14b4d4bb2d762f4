/- A simple polygon, sheared and stretched, is a closed way: the conditions. -/
import Derived.Test.YtdbhbfmbpldmnaaJ6
namespace Go.Proofs.Ytdbhbfmbpldmnaa
variable {l : List (Int × Int)}
theorem lin_opp {P Q s t lo hi : Int} (hs : 0 < P + Q * s) (ht : P + Q * t < 0) (h1 : lo ≤ s) (h2 : lo ≤ t) (h3 : s ≤ hi) (h4 : t ≤ hi) : (P + Q * lo < 0 ∧ 0 < P + Q * hi) ∨ (0 < P + Q * lo ∧ P + Q * hi < 0) := by
  rcases Int.le_total 0 Q with c | c
  · have a := Int.mul_le_mul_of_nonneg_left h2 c
    have b := Int.mul_le_mul_of_nonneg_left h3 c
    exact .inl ⟨by omega, by omega⟩
  · have a := Int.mul_le_mul_of_nonpos_left c h1
    have b := Int.mul_le_mul_of_nonpos_left c h4
    exact .inr ⟨by omega, by omega⟩
theorem Good.aff (_ : Good l) (i : Nat) : ∃ a b, ∀ t, Zv l i t = a + b * t :=
  ⟨Xv l i - (Mv l / den l i) * ((crn l (i + 1)).1 - (crn l i).1) * Yv l i, (Mv l / den l i) * ((crn l (i + 1)).1 - (crn l i).1), fun t => by unfold Zv; rw [Int.mul_sub]; omega⟩
theorem Good.sa (g : Good l) {i j : Nat} {s t : Int} (hi : i < l.length) (hj : j < l.length) (i1 : inR (Yv l) i s) (i2 : inR (Yv l) i t) (j1 : inR (Yv l) j s) (j2 : inR (Yv l) j t) (h1 : Zv l i s < Zv l j s) (h2 : Zv l j t < Zv l i t) : False := by
  obtain ⟨a, b, hz⟩ := g.aff i
  obtain ⟨a', b', hz'⟩ := g.aff j
  have ni := g.den_ne i
  have nj := g.den_ne j
  unfold den at ni nj
  have f : ∀ t, Zv l j t - Zv l i t = (a' - a) + (b' - b) * t := fun t => by rw [hz, hz', Int.sub_mul]; omega
  have fs : 0 < (a' - a) + (b' - b) * s := by rw [← f]; omega
  have ft : (a' - a) + (b' - b) * t < 0 := by rw [← f]; omega
  have key : ∀ e, (Yv l (e + 1) - Yv l e ≠ 0) → inR (Yv l) e s → inR (Yv l) e t → ((Zv l j (Yv l e) - Zv l i (Yv l e) < 0 ∧ 0 < Zv l j (Yv l (e + 1)) - Zv l i (Yv l (e + 1))) ∨ (0 < Zv l j (Yv l e) - Zv l i (Yv l e) ∧ Zv l j (Yv l (e + 1)) - Zv l i (Yv l (e + 1)) < 0)) := by
    intro e ne e1 e2
    unfold inR at e1 e2
    rw [f, f]
    by_cases c : Yv l e < Yv l (e + 1)
    · exact lin_opp fs ft (by omega) (by omega) (by omega) (by omega)
    · have := lin_opp (lo := Yv l (e + 1)) (hi := Yv l e) fs ft (by omega) (by omega) (by omega) (by omega)
      omega
  have kj := key j nj j1 j2
  have ki := key i ni i1 i2
  rw [g.zl j, g.zr hj] at kj
  rw [g.zl i, g.zr hi] at ki
  have M : 0 < Mv l * 4194304 := by have := g.M_pos; omega
  refine g.sp.nc i j ⟨?_, ?_⟩
  · refine opp (g.den_ne i) M (g.key hi (crn l j)) (g.key hi (crn l (j + 1))) ?_
    change (Zv l i (Yv l j) - Xv l j < 0 ∧ 0 < Zv l i (Yv l (j + 1)) - Xv l (j + 1)) ∨ (0 < Zv l i (Yv l j) - Xv l j ∧ Zv l i (Yv l (j + 1)) - Xv l (j + 1) < 0)
    omega
  · refine opp (g.den_ne j) M (g.key hj (crn l i)) (g.key hj (crn l (i + 1))) ?_
    change (Zv l j (Yv l i) - Xv l i < 0 ∧ 0 < Zv l j (Yv l (i + 1)) - Xv l (i + 1)) ∨ (0 < Zv l j (Yv l i) - Xv l i ∧ Zv l j (Yv l (i + 1)) - Xv l (i + 1) < 0)
    omega
theorem Yv_per (l : List (Int × Int)) (i : Nat) : Yv l (i + l.length) = Yv l i := by unfold Yv; rw [crn_per]
theorem Xv_per (l : List (Int × Int)) (i : Nat) : Xv l (i + l.length) = Xv l i := by unfold Xv; rw [crn_per]
/-- the lower and the upper end of an edge -/
theorem Good.two_ends (g : Good l) {e : Nat} (he : e < l.length) : ∃ a b, a < l.length ∧ b < l.length ∧ ((a = e ∧ b = (e + 1) % l.length) ∨ (b = e ∧ a = (e + 1) % l.length)) ∧ Yv l a < Yv l b ∧ (∀ t, inR (Yv l) e t ↔ Yv l a ≤ t ∧ t ≤ Yv l b) ∧ Xv l a = Zv l e (Yv l a) ∧ Xv l b = Zv l e (Yv l b) := by
  have n0 : 0 < l.length := by omega
  have hm := Nat.mod_lt (e + 1) n0
  have y1 := per_mod (Yv_per l) n0 he
  have x1 := per_mod (Xv_per l) n0 he
  have ne := g.den_ne e
  unfold den at ne
  by_cases c : Yv l e < Yv l (e + 1)
  · refine ⟨e, (e + 1) % l.length, he, hm, .inl ⟨rfl, rfl⟩, by rw [y1]; exact c, fun t => ?_, (g.zl e).symm, by rw [x1, y1]; exact (g.zr he).symm⟩
    rw [y1]; unfold inR; omega
  · refine ⟨(e + 1) % l.length, e, hm, he, .inr ⟨rfl, rfl⟩, by rw [y1]; omega, fun t => ?_, by rw [x1, y1]; exact (g.zr he).symm, (g.zl e).symm⟩
    rw [y1]; unfold inR; omega
theorem Good.sb (g : Good l) {i j : Nat} {s t : Int} (hi : i < l.length) (hj : j < l.length) (hij : i ≠ j) (i1 : inR (Yv l) i s) (i2 : inR (Yv l) i t) (j1 : inR (Yv l) j s) (j2 : inR (Yv l) j t) (hst : s < t) (h1 : Zv l i s = Zv l j s) (h2 : Zv l i t = Zv l j t) : False := by
  obtain ⟨a, b, hz⟩ := g.aff i
  obtain ⟨a', b', hz'⟩ := g.aff j
  have n3 := g.n3
  have same : ∀ u, Zv l i u = Zv l j u := by
    rw [hz, hz'] at h1 h2
    have e : (b - b') * (t - s) = 0 := by rw [Int.sub_mul, Int.mul_sub, Int.mul_sub]; omega
    have eb : b = b' := by
      rcases Int.mul_eq_zero.1 e with c | c
      · omega
      · omega
    subst eb
    intro u
    rw [hz, hz']
    omega
  obtain ⟨p, q, hp, hq, hpq, ypq, ri, xp, xq⟩ := g.two_ends hi
  obtain ⟨p', q', hp', hq', hpq', ypq', rj, xp', xq'⟩ := g.two_ends hj
  have s1 := (ri s).1 i1
  have s2 := (ri t).1 i2
  have s3 := (rj s).1 j1
  have s4 := (rj t).1 j2
  have low : p = p' := by
    by_cases c : Yv l p' ≤ Yv l p
    · have v := g.vt hj hp ((rj _).2 ⟨c, by omega⟩) (by rw [← same]; exact xp)
      have v2 : p = p' ∨ p = q' := by omega
      rcases v2 with v2 | v2
      · exact v2
      · rw [v2] at s1 s2; omega
    · have v := g.vt hi hp' ((ri _).2 ⟨by omega, by omega⟩) (by rw [same]; exact xp')
      have v2 : p' = p ∨ p' = q := by omega
      rcases v2 with v2 | v2
      · exact v2.symm
      · rw [v2] at s3 s4; omega
  have high : q = q' := by
    by_cases c : Yv l q ≤ Yv l q'
    · have v := g.vt hj hq ((rj _).2 ⟨by omega, c⟩) (by rw [← same]; exact xq)
      have v2 : q = p' ∨ q = q' := by omega
      rcases v2 with v2 | v2
      · rw [v2] at s1 s2; omega
      · exact v2
    · have v := g.vt hi hq' ((ri _).2 ⟨by omega, by omega⟩) (by rw [same]; exact xq')
      have v2 : q' = p ∨ q' = q := by omega
      rcases v2 with v2 | v2
      · rw [v2] at s3 s4; omega
      · exact v2.symm
  have cross : i = (j + 1) % l.length ∧ j = (i + 1) % l.length := by omega
  obtain ⟨c1, c2⟩ := cross
  by_cases u : i + 1 < l.length
  · rw [Nat.mod_eq_of_lt u] at c2
    by_cases v : j + 1 < l.length
    · rw [Nat.mod_eq_of_lt v] at c1; omega
    · rw [show j + 1 = l.length by omega, Nat.mod_self] at c1; omega
  · rw [show i + 1 = l.length by omega, Nat.mod_self] at c2
    subst c2
    rw [Nat.mod_eq_of_lt (by omega)] at c1
    omega
theorem Good.way (g : Good l) : Way l.length (Xv l) (Yv l) (Zv l) where
  two := by have := g.n3; omega
  px := Xv_per l
  py := Yv_per l
  di := fun _ _ hi hj h => g.inj hi hj h
  aff := g.aff
  zl := fun i _ => g.zl i
  zr := fun _ hi => g.zr hi
  sa := fun _ _ _ _ hi hj a b c d e f => g.sa hi hj a b c d e f
  sb := fun _ _ _ _ hi hj h a b c d e f k => g.sb hi hj h a b c d e f k
  vt := fun _ _ hi hm a b => g.vt hi hm a b
end Go.Proofs.Ytdbhbfmbpldmnaa
