/- Plain laws of Spread and Dists over boxes. -/
import Derived.Test.YtdbhbfmbpldmnaaP4
import Derived.Test.YtdbhbfmbpldmnaaX8
import Derived.Test.YtdbhbfmbpldmnaaY3
namespace Go.Proofs.Ytdbhbfmbpldmnaa
theorem sprF_le (f : Nat → Int) (n k : Nat) (h : k < n) : (sprF f n).1 ≤ f k ∧ f k ≤ (sprF f n).2 := by
  induction n with
  | zero => omega
  | succ n ih =>
    simp only [sprF]
    by_cases e : k = n
    · subst e; omega
    · have := ih (by omega); omega
theorem sprF_at (f : Nat → Int) (n : Nat) (h : 0 < n) : (∃ k, k < n ∧ f k = (sprF f n).1) ∧ (∃ k, k < n ∧ f k = (sprF f n).2) := by
  induction n with
  | zero => omega
  | succ n ih =>
    simp only [sprF]
    by_cases e : n = 0
    · subst e; simp [sprF]
    · obtain ⟨⟨k, hk, e1⟩, ⟨m, hm, e2⟩⟩ := ih (by omega)
      constructor
      · by_cases q : (sprF f n).1 ≤ f n
        · exact ⟨k, by omega, by omega⟩
        · exact ⟨n, by omega, by omega⟩
      · by_cases q : f n ≤ (sprF f n).2
        · exact ⟨m, by omega, by omega⟩
        · exact ⟨n, by omega, by omega⟩
theorem lin_lo (u x0 x1 x : Int) (h0 : x0 ≤ x) (h1 : x ≤ x1) : u * x0 ≤ u * x ∨ u * x1 ≤ u * x := by
  rcases Int.le_total 0 u with h | h
  · exact .inl (Int.mul_le_mul_of_nonneg_left h0 h)
  · exact .inr (Int.mul_le_mul_of_nonpos_left h h1)
theorem lin_hi (u x0 x1 x : Int) (h0 : x0 ≤ x) (h1 : x ≤ x1) : u * x ≤ u * x0 ∨ u * x ≤ u * x1 := by
  rcases Int.le_total 0 u with h | h
  · exact .inr (Int.mul_le_mul_of_nonneg_left h1 h)
  · exact .inl (Int.mul_le_mul_of_nonpos_left h h0)
theorem cnr_lo (u v a b c d x y : Int) (h0 : a ≤ x) (h1 : x ≤ b) (h2 : c ≤ y) (h3 : y ≤ d) : ∃ i, i < 4 ∧ u * (cnr a b c d i).1 + v * (cnr a b c d i).2 ≤ u * x + v * y := by
  rcases lin_lo u a b x h0 h1 with p | p <;> rcases lin_lo v c d y h2 h3 with q | q
  · exact ⟨0, by omega, by simp only [cnr]; omega⟩
  · exact ⟨3, by omega, by simp only [cnr]; omega⟩
  · exact ⟨1, by omega, by simp only [cnr]; omega⟩
  · exact ⟨2, by omega, by simp only [cnr]; omega⟩
theorem cnr_hi (u v a b c d x y : Int) (h0 : a ≤ x) (h1 : x ≤ b) (h2 : c ≤ y) (h3 : y ≤ d) : ∃ i, i < 4 ∧ u * x + v * y ≤ u * (cnr a b c d i).1 + v * (cnr a b c d i).2 := by
  rcases lin_hi u a b x h0 h1 with p | p <;> rcases lin_hi v c d y h2 h3 with q | q
  · exact ⟨0, by omega, by simp only [cnr]; omega⟩
  · exact ⟨3, by omega, by simp only [cnr]; omega⟩
  · exact ⟨1, by omega, by simp only [cnr]; omega⟩
  · exact ⟨2, by omega, by simp only [cnr]; omega⟩
theorem tw_a (a b c d e f : Int) : twz a b c d e f = (d - f) * a + (e - c) * b + (c * f - d * e) := by unfold twz; grind
theorem tw_b (a b c d e f : Int) : twz a b c d e f = (f - b) * c + (a - e) * d + (e * b - f * a) := by unfold twz; grind
theorem tw_c (a b c d e f : Int) : twz a b c d e f = (b - d) * e + (c - a) * f + (a * d - b * c) := by unfold twz; grind
theorem spr_lo (a b c d e f g h i j k l px py qx qy rx ry : Int) (h0 : a ≤ px ∧ px ≤ b) (h1 : c ≤ py ∧ py ≤ d) (h2 : e ≤ qx ∧ qx ≤ f) (h3 : g ≤ qy ∧ qy ≤ h) (h4 : i ≤ rx ∧ rx ≤ j) (h5 : k ≤ ry ∧ ry ≤ l) :
    ∃ m, m < 64 ∧ spr3 (cnr a b c d) (cnr e f g h) (cnr i j k l) m ≤ twz px py qx qy rx ry := by
  obtain ⟨s, hs, k1⟩ := cnr_lo (qy - ry) (rx - qx) a b c d px py h0.1 h0.2 h1.1 h1.2
  obtain ⟨X, hX⟩ : ∃ X, cnr a b c d s = X := ⟨_, rfl⟩
  rw [hX] at k1
  obtain ⟨t, ht, k2⟩ := cnr_lo (ry - X.2) (X.1 - rx) e f g h qx qy h2.1 h2.2 h3.1 h3.2
  obtain ⟨Y, hY⟩ : ∃ Y, cnr e f g h t = Y := ⟨_, rfl⟩
  rw [hY] at k2
  obtain ⟨u, hu, k3⟩ := cnr_lo (X.2 - Y.2) (Y.1 - X.1) i j k l rx ry h4.1 h4.2 h5.1 h5.2
  obtain ⟨Z, hZ⟩ : ∃ Z, cnr i j k l u = Z := ⟨_, rfl⟩
  rw [hZ] at k3
  refine ⟨16 * s + 4 * t + u, by omega, ?_⟩
  unfold spr3
  rw [show (16 * s + 4 * t + u) / 16 = s by omega, show (16 * s + 4 * t + u) / 4 % 4 = t by omega, show (16 * s + 4 * t + u) % 4 = u by omega, hX, hY, hZ]
  have e1 := tw_a px py qx qy rx ry
  have e2 := tw_a X.1 X.2 qx qy rx ry
  have e3 := tw_b X.1 X.2 qx qy rx ry
  have e4 := tw_b X.1 X.2 Y.1 Y.2 rx ry
  have e5 := tw_c X.1 X.2 Y.1 Y.2 rx ry
  have e6 := tw_c X.1 X.2 Y.1 Y.2 Z.1 Z.2
  omega
theorem spr_hi (a b c d e f g h i j k l px py qx qy rx ry : Int) (h0 : a ≤ px ∧ px ≤ b) (h1 : c ≤ py ∧ py ≤ d) (h2 : e ≤ qx ∧ qx ≤ f) (h3 : g ≤ qy ∧ qy ≤ h) (h4 : i ≤ rx ∧ rx ≤ j) (h5 : k ≤ ry ∧ ry ≤ l) :
    ∃ m, m < 64 ∧ twz px py qx qy rx ry ≤ spr3 (cnr a b c d) (cnr e f g h) (cnr i j k l) m := by
  obtain ⟨s, hs, k1⟩ := cnr_hi (qy - ry) (rx - qx) a b c d px py h0.1 h0.2 h1.1 h1.2
  obtain ⟨X, hX⟩ : ∃ X, cnr a b c d s = X := ⟨_, rfl⟩
  rw [hX] at k1
  obtain ⟨t, ht, k2⟩ := cnr_hi (ry - X.2) (X.1 - rx) e f g h qx qy h2.1 h2.2 h3.1 h3.2
  obtain ⟨Y, hY⟩ : ∃ Y, cnr e f g h t = Y := ⟨_, rfl⟩
  rw [hY] at k2
  obtain ⟨u, hu, k3⟩ := cnr_hi (X.2 - Y.2) (Y.1 - X.1) i j k l rx ry h4.1 h4.2 h5.1 h5.2
  obtain ⟨Z, hZ⟩ : ∃ Z, cnr i j k l u = Z := ⟨_, rfl⟩
  rw [hZ] at k3
  refine ⟨16 * s + 4 * t + u, by omega, ?_⟩
  unfold spr3
  rw [show (16 * s + 4 * t + u) / 16 = s by omega, show (16 * s + 4 * t + u) / 4 % 4 = t by omega, show (16 * s + 4 * t + u) % 4 = u by omega, hX, hY, hZ]
  have e1 := tw_a px py qx qy rx ry
  have e2 := tw_a X.1 X.2 qx qy rx ry
  have e3 := tw_b X.1 X.2 qx qy rx ry
  have e4 := tw_b X.1 X.2 Y.1 Y.2 rx ry
  have e5 := tw_c X.1 X.2 Y.1 Y.2 rx ry
  have e6 := tw_c X.1 X.2 Y.1 Y.2 Z.1 Z.2
  omega
theorem cnr_hold (a b c d : Int) (i : Nat) (h : boxB a b c d = true) : holdB a b c d (cnr a b c d i).1 (cnr a b c d i).2 = true := by
  rw [holdB_iff]
  have := (boxB_iff a b c d).1 h
  refine ⟨h, ?_⟩
  match i with
  | 0 => simp only [cnr]; omega
  | 1 => simp only [cnr]; omega
  | 2 => simp only [cnr]; omega
  | _ + 3 => simp only [cnr]; omega
theorem spread_in (a b c d e f g h i j k l px py qx qy rx ry : Int) (h0 : holdB a b c d px py = true) (h1 : holdB e f g h qx qy = true) (h2 : holdB i j k l rx ry = true) :
    (spreadR a b c d e f g h i j k l).1.1 ≤ twz px py qx qy rx ry ∧ twz px py qx qy rx ry ≤ (spreadR a b c d e f g h i j k l).1.2 := by
  rw [holdB_iff] at h0 h1 h2
  unfold spreadR
  rw [if_pos (by simp [h0.1, h1.1, h2.1])]
  obtain ⟨m, hm, k1⟩ := spr_lo a b c d e f g h i j k l px py qx qy rx ry h0.2.1 h0.2.2 h1.2.1 h1.2.2 h2.2.1 h2.2.2
  obtain ⟨n, hn, k2⟩ := spr_hi a b c d e f g h i j k l px py qx qy rx ry h0.2.1 h0.2.2 h1.2.1 h1.2.2 h2.2.1 h2.2.2
  have q1 := (sprF_le (spr3 (cnr a b c d) (cnr e f g h) (cnr i j k l)) 64 m hm).1
  have q2 := (sprF_le (spr3 (cnr a b c d) (cnr e f g h) (cnr i j k l)) 64 n hn).2
  exact ⟨Int.le_trans q1 k1, Int.le_trans k2 q2⟩
theorem spread_ok (a b c d e f g h i j k l : Int) : (spreadR a b c d e f g h i j k l).2 = (boxB a b c d && boxB e f g h && boxB i j k l) := by
  unfold spreadR
  split
  · rename_i q; rw [q]
  · rename_i q; simpa using q
/-- both ends are attained at corners -/
theorem spread_at (a b c d e f g h i j k l : Int) (h0 : (boxB a b c d && boxB e f g h && boxB i j k l) = true) :
    (∃ m, m < 64 ∧ spr3 (cnr a b c d) (cnr e f g h) (cnr i j k l) m = (spreadR a b c d e f g h i j k l).1.1) ∧ (∃ m, m < 64 ∧ spr3 (cnr a b c d) (cnr e f g h) (cnr i j k l) m = (spreadR a b c d e f g h i j k l).1.2) := by
  unfold spreadR
  rw [if_pos h0]
  exact sprF_at _ 64 (by omega)
theorem spread_le (a b c d e f g h i j k l : Int) (h0 : (boxB a b c d && boxB e f g h && boxB i j k l) = true) : (spreadR a b c d e f g h i j k l).1.1 ≤ (spreadR a b c d e f g h i j k l).1.2 := by
  obtain ⟨⟨m, hm, e1⟩, _⟩ := spread_at a b c d e f g h i j k l h0
  simp only [Bool.and_eq_true] at h0
  have := spread_in a b c d e f g h i j k l _ _ _ _ _ _ (cnr_hold a b c d (m / 16) h0.1.1) (cnr_hold e f g h (m / 4 % 4) h0.1.2) (cnr_hold i j k l (m % 4) h0.2)
  omega
/-- a function of a box that is attained, and bounds all points: it splits with the box -/
theorem halves_lo (P : Int → Int → Int → Prop) (A U V : Int → Int → Prop) (s u v : Int) (hsplit : ∀ x y, A x y ↔ U x y ∨ V x y)
    (hs : ∀ x y z, A x y → P x y z → s ≤ z) (hu : ∀ x y z, U x y → P x y z → u ≤ z) (hv : ∀ x y z, V x y → P x y z → v ≤ z)
    (hs1 : ∃ x y, A x y ∧ P x y s) (hu1 : ∃ x y, U x y ∧ P x y u) (hv1 : ∃ x y, V x y ∧ P x y v) : min u v = s := by
  obtain ⟨x, y, k1, k2⟩ := hs1
  obtain ⟨x', y', k3, k4⟩ := hu1
  obtain ⟨x'', y'', k5, k6⟩ := hv1
  have q1 := hs _ _ _ ((hsplit _ _).2 (.inl k3)) k4
  have q2 := hs _ _ _ ((hsplit _ _).2 (.inr k5)) k6
  rcases (hsplit _ _).1 k1 with k | k
  · have := hu _ _ _ k k2; omega
  · have := hv _ _ _ k k2; omega
theorem halves_hi (P : Int → Int → Int → Prop) (A U V : Int → Int → Prop) (s u v : Int) (hsplit : ∀ x y, A x y ↔ U x y ∨ V x y)
    (hs : ∀ x y z, A x y → P x y z → z ≤ s) (hu : ∀ x y z, U x y → P x y z → z ≤ u) (hv : ∀ x y z, V x y → P x y z → z ≤ v)
    (hs1 : ∃ x y, A x y ∧ P x y s) (hu1 : ∃ x y, U x y ∧ P x y u) (hv1 : ∃ x y, V x y ∧ P x y v) : max u v = s := by
  obtain ⟨x, y, k1, k2⟩ := hs1
  obtain ⟨x', y', k3, k4⟩ := hu1
  obtain ⟨x'', y'', k5, k6⟩ := hv1
  have q1 := hs _ _ _ ((hsplit _ _).2 (.inl k3)) k4
  have q2 := hs _ _ _ ((hsplit _ _).2 (.inr k5)) k6
  rcases (hsplit _ _).1 k1 with k | k
  · have := hu _ _ _ k k2; omega
  · have := hv _ _ _ k k2; omega
/-- z is a doubled area of a triangle with one corner at (x, y) -/
def TwP (e f g h i j k l x y z : Int) : Prop := ∃ qx qy rx ry, holdB e f g h qx qy = true ∧ holdB i j k l rx ry = true ∧ twz x y qx qy rx ry = z
theorem spread_mid (a b c d e f g h i j k l : Int) (h0 : (boxB a b c d && boxB e f g h && boxB i j k l) = true) :
    (∀ x y z, holdB a b c d x y = true → TwP e f g h i j k l x y z → (spreadR a b c d e f g h i j k l).1.1 ≤ z ∧ z ≤ (spreadR a b c d e f g h i j k l).1.2) ∧
    (∃ x y, holdB a b c d x y = true ∧ TwP e f g h i j k l x y (spreadR a b c d e f g h i j k l).1.1) ∧ (∃ x y, holdB a b c d x y = true ∧ TwP e f g h i j k l x y (spreadR a b c d e f g h i j k l).1.2) := by
  obtain ⟨⟨m, hm, e1⟩, ⟨n, hn, e2⟩⟩ := spread_at a b c d e f g h i j k l h0
  simp only [Bool.and_eq_true] at h0
  refine ⟨?_, ⟨_, _, cnr_hold a b c d (m / 16) h0.1.1, _, _, _, _, cnr_hold e f g h (m / 4 % 4) h0.1.2, cnr_hold i j k l (m % 4) h0.2, e1⟩, ⟨_, _, cnr_hold a b c d (n / 16) h0.1.1, _, _, _, _, cnr_hold e f g h (n / 4 % 4) h0.1.2, cnr_hold i j k l (n % 4) h0.2, e2⟩⟩
  rintro x y z hx ⟨qx, qy, rx, ry, h1, h2, rfl⟩
  exact spread_in a b c d e f g h i j k l x y qx qy rx ry hx h1 h2
theorem cut_split (a b c d : Int) (h : (cutR a b c d).2 = true) : (∀ x y, holdB a b c d x y = true ↔ holdB (cutR a b c d).1.1.1 (cutR a b c d).1.1.2.1 (cutR a b c d).1.1.2.2.1 (cutR a b c d).1.1.2.2.2 x y = true ∨ holdB (cutR a b c d).1.2.1 (cutR a b c d).1.2.2.1 (cutR a b c d).1.2.2.2.1 (cutR a b c d).1.2.2.2.2 x y = true) ∧
    boxB (cutR a b c d).1.1.1 (cutR a b c d).1.1.2.1 (cutR a b c d).1.1.2.2.1 (cutR a b c d).1.1.2.2.2 = true ∧ boxB (cutR a b c d).1.2.1 (cutR a b c d).1.2.2.1 (cutR a b c d).1.2.2.2.1 (cutR a b c d).1.2.2.2.2 = true := by
  constructor
  · intro x y
    rw [← (cut_yes a b c d x y h).1, Bool.or_eq_true]
  · have k := (cut_yes a b c d 0 0 h).2.2
    have k2 := congrArg Prod.snd k
    rw [cover_ok, Bool.and_eq_true] at k2
    exact k2
theorem spread_halves (a b c d e f g h i j k l u1 u2 u3 u4 v1 v2 v3 v4 : Int) (hc : cutR a b c d = (((u1, u2, u3, u4), (v1, v2, v3, v4)), true)) (h0 : (boxB a b c d && boxB e f g h && boxB i j k l) = true) :
    (spreadR u1 u2 u3 u4 e f g h i j k l).2 = true ∧ (spreadR v1 v2 v3 v4 e f g h i j k l).2 = true ∧
    min (spreadR u1 u2 u3 u4 e f g h i j k l).1.1 (spreadR v1 v2 v3 v4 e f g h i j k l).1.1 = (spreadR a b c d e f g h i j k l).1.1 ∧
    max (spreadR u1 u2 u3 u4 e f g h i j k l).1.2 (spreadR v1 v2 v3 v4 e f g h i j k l).1.2 = (spreadR a b c d e f g h i j k l).1.2 := by
  have q := cut_split a b c d (by rw [hc])
  rw [hc] at q
  obtain ⟨q1, q2, q3⟩ := q
  have h1 := h0
  simp only [Bool.and_eq_true] at h1
  have hu : (boxB u1 u2 u3 u4 && boxB e f g h && boxB i j k l) = true := by simp only [Bool.and_eq_true]; exact ⟨⟨q2, h1.1.2⟩, h1.2⟩
  have hv : (boxB v1 v2 v3 v4 && boxB e f g h && boxB i j k l) = true := by simp only [Bool.and_eq_true]; exact ⟨⟨q3, h1.1.2⟩, h1.2⟩
  obtain ⟨s1, s2, s3⟩ := spread_mid a b c d e f g h i j k l h0
  obtain ⟨t1, t2, t3⟩ := spread_mid u1 u2 u3 u4 e f g h i j k l hu
  obtain ⟨r1, r2, r3⟩ := spread_mid v1 v2 v3 v4 e f g h i j k l hv
  exact ⟨by rw [spread_ok]; exact hu, by rw [spread_ok]; exact hv,
    halves_lo (TwP e f g h i j k l) (holdB a b c d · · = true) (holdB u1 u2 u3 u4 · · = true) (holdB v1 v2 v3 v4 · · = true) _ _ _ q1 (fun x y z p q => (s1 x y z p q).1) (fun x y z p q => (t1 x y z p q).1) (fun x y z p q => (r1 x y z p q).1) s2 t2 r2,
    halves_hi (TwP e f g h i j k l) (holdB a b c d · · = true) (holdB u1 u2 u3 u4 · · = true) (holdB v1 v2 v3 v4 · · = true) _ _ _ q1 (fun x y z p q => (s1 x y z p q).2) (fun x y z p q => (t1 x y z p q).2) (fun x y z p q => (r1 x y z p q).2) s3 t3 r3⟩
/-! Dists -/
theorem sq_le {x y : Int} (h0 : 0 ≤ x) (h1 : x ≤ y) : x * x ≤ y * y := Int.mul_le_mul h1 h1 h0 (by omega)
theorem sq_abs (x y : Int) (h : x = y ∨ x = -y) : x * x = y * y := by rcases h with h | h <;> subst h <;> grind
theorem gap_lo (a b c d x y : Int) (h0 : a ≤ x ∧ x ≤ b) (h1 : c ≤ y ∧ y ≤ d) : apLo a b c d * apLo a b c d ≤ (x - y) * (x - y) := by
  rcases Int.le_total y x with h | h
  · exact sq_le (by unfold apLo; omega) (by unfold apLo; omega)
  · rw [sq_abs (x - y) (y - x) (by omega)]
    exact sq_le (by unfold apLo; omega) (by unfold apLo; omega)
theorem gap_hi (a b c d x y : Int) (h0 : a ≤ x ∧ x ≤ b) (h1 : c ≤ y ∧ y ≤ d) : (x - y) * (x - y) ≤ apHi a b c d * apHi a b c d := by
  rcases Int.le_total y x with h | h
  · exact sq_le (by omega) (by unfold apHi; omega)
  · rw [sq_abs (x - y) (y - x) (by omega)]
    exact sq_le (by omega) (by unfold apHi; omega)
theorem dists_ok (a b c d e f g h : Int) : (distsR a b c d e f g h).2 = (boxB a b c d && boxB e f g h) := by
  unfold distsR
  split
  · rename_i q; rw [q]
  · rename_i q; simpa using q
theorem dists_eq (a b c d e f g h : Int) (h0 : (boxB a b c d && boxB e f g h) = true) : distsR a b c d e f g h = ((apLo a b e f * apLo a b e f + apLo c d g h * apLo c d g h, apHi a b e f * apHi a b e f + apHi c d g h * apHi c d g h), true) := by
  unfold distsR
  rw [if_pos h0]
theorem dists_in (a b c d e f g h px py qx qy : Int) (h0 : holdB a b c d px py = true) (h1 : holdB e f g h qx qy = true) :
    (distsR a b c d e f g h).1.1 ≤ dsz px py qx qy ∧ dsz px py qx qy ≤ (distsR a b c d e f g h).1.2 := by
  rw [holdB_iff] at h0 h1
  rw [dists_eq a b c d e f g h (by simp [h0.1, h1.1])]
  unfold dsz
  have q1 := gap_lo a b e f px qx h0.2.1 h1.2.1
  have q2 := gap_lo c d g h py qy h0.2.2 h1.2.2
  have q3 := gap_hi a b e f px qx h0.2.1 h1.2.1
  have q4 := gap_hi c d g h py qy h0.2.2 h1.2.2
  exact ⟨by simp only; omega, by simp only; omega⟩
def clampZ (n lo hi : Int) : Int := max lo (min hi n)
theorem gap_near (a b c d : Int) (h0 : a ≤ b) (h1 : c ≤ d) : (clampZ c a b - clampZ (clampZ c a b) c d) * (clampZ c a b - clampZ (clampZ c a b) c d) = apLo a b c d * apLo a b c d :=
  sq_abs _ _ (by unfold clampZ apLo; omega)
theorem dists_near (a b c d e f g h : Int) (h0 : (boxB a b c d && boxB e f g h) = true) :
    holdB a b c d (clampZ e a b) (clampZ g c d) = true ∧ holdB e f g h (clampZ (clampZ e a b) e f) (clampZ (clampZ g c d) g h) = true ∧ dsz (clampZ e a b) (clampZ g c d) (clampZ (clampZ e a b) e f) (clampZ (clampZ g c d) g h) = (distsR a b c d e f g h).1.1 := by
  rw [dists_eq a b c d e f g h h0]
  simp only [Bool.and_eq_true, boxB_iff] at h0
  refine ⟨?_, ?_, ?_⟩
  · rw [holdB_iff, boxB_iff]; unfold clampZ; omega
  · rw [holdB_iff, boxB_iff]; unfold clampZ; omega
  · unfold dsz
    rw [gap_near a b e f h0.1.1.2.1 h0.2.1.2.1, gap_near c d g h h0.1.2.2.1 h0.2.2.2.1]
def far2 (p q : Nat → Int × Int) (k : Nat) : Int := dsz (p (k / 4)).1 (p (k / 4)).2 (q (k % 4)).1 (q (k % 4)).2
theorem far_mk (p q : Nat → Int × Int) (s t : Nat) (hs : s < 4) (ht : t < 4) (z : Int) (h : dsz (p s).1 (p s).2 (q t).1 (q t).2 = z) : ∃ m, m < 16 ∧ far2 p q m = z :=
  ⟨4 * s + t, by omega, by unfold far2; rw [show (4 * s + t) / 4 = s by omega, show (4 * s + t) % 4 = t by omega]; exact h⟩
theorem dists_far (a b c d e f g h : Int) (h0 : (boxB a b c d && boxB e f g h) = true) : ∃ m, m < 16 ∧ far2 (cnr a b c d) (cnr e f g h) m = (distsR a b c d e f g h).1.2 := by
  rw [dists_eq a b c d e f g h h0]
  have k1 : (apHi a b e f = b - e ∨ apHi a b e f = f - a) := by unfold apHi; omega
  have k2 : (apHi c d g h = d - g ∨ apHi c d g h = h - c) := by unfold apHi; omega
  rcases k1 with k1 | k1 <;> rcases k2 with k2 | k2 <;> rw [k1, k2]
  · exact far_mk _ _ 2 0 (by omega) (by omega) _ (by simp only [cnr, dsz])
  · exact far_mk _ _ 1 3 (by omega) (by omega) _ (by simp only [cnr, dsz]; rw [sq_abs (c - h) (h - c) (by omega)])
  · exact far_mk _ _ 3 1 (by omega) (by omega) _ (by simp only [cnr, dsz]; rw [sq_abs (a - f) (f - a) (by omega)])
  · exact far_mk _ _ 0 2 (by omega) (by omega) _ (by simp only [cnr, dsz]; rw [sq_abs (a - f) (f - a) (by omega), sq_abs (c - h) (h - c) (by omega)])
def DsP (e f g h x y z : Int) : Prop := ∃ qx qy, holdB e f g h qx qy = true ∧ dsz x y qx qy = z
theorem dists_mid (a b c d e f g h : Int) (h0 : (boxB a b c d && boxB e f g h) = true) :
    (∀ x y z, holdB a b c d x y = true → DsP e f g h x y z → (distsR a b c d e f g h).1.1 ≤ z ∧ z ≤ (distsR a b c d e f g h).1.2) ∧
    (∃ x y, holdB a b c d x y = true ∧ DsP e f g h x y (distsR a b c d e f g h).1.1) ∧ (∃ x y, holdB a b c d x y = true ∧ DsP e f g h x y (distsR a b c d e f g h).1.2) := by
  obtain ⟨n1, n2, n3⟩ := dists_near a b c d e f g h h0
  obtain ⟨m, hm, e1⟩ := dists_far a b c d e f g h h0
  simp only [Bool.and_eq_true] at h0
  refine ⟨?_, ⟨_, _, n1, _, _, n2, n3⟩, ⟨_, _, cnr_hold a b c d (m / 4) h0.1, _, _, cnr_hold e f g h (m % 4) h0.2, e1⟩⟩
  rintro x y z hx ⟨qx, qy, h1, rfl⟩
  exact dists_in a b c d e f g h x y qx qy hx h1
theorem dists_halves (a b c d e f g h u1 u2 u3 u4 v1 v2 v3 v4 : Int) (hc : cutR a b c d = (((u1, u2, u3, u4), (v1, v2, v3, v4)), true)) (h0 : (boxB a b c d && boxB e f g h) = true) :
    (distsR u1 u2 u3 u4 e f g h).2 = true ∧ (distsR v1 v2 v3 v4 e f g h).2 = true ∧
    min (distsR u1 u2 u3 u4 e f g h).1.1 (distsR v1 v2 v3 v4 e f g h).1.1 = (distsR a b c d e f g h).1.1 ∧
    max (distsR u1 u2 u3 u4 e f g h).1.2 (distsR v1 v2 v3 v4 e f g h).1.2 = (distsR a b c d e f g h).1.2 := by
  have q := cut_split a b c d (by rw [hc])
  rw [hc] at q
  obtain ⟨q1, q2, q3⟩ := q
  have h1 := h0
  simp only [Bool.and_eq_true] at h1
  have hu : (boxB u1 u2 u3 u4 && boxB e f g h) = true := by simp only [Bool.and_eq_true]; exact ⟨q2, h1.2⟩
  have hv : (boxB v1 v2 v3 v4 && boxB e f g h) = true := by simp only [Bool.and_eq_true]; exact ⟨q3, h1.2⟩
  obtain ⟨s1, s2, s3⟩ := dists_mid a b c d e f g h h0
  obtain ⟨t1, t2, t3⟩ := dists_mid u1 u2 u3 u4 e f g h hu
  obtain ⟨r1, r2, r3⟩ := dists_mid v1 v2 v3 v4 e f g h hv
  exact ⟨by rw [dists_ok]; exact hu, by rw [dists_ok]; exact hv,
    halves_lo (DsP e f g h) (holdB a b c d · · = true) (holdB u1 u2 u3 u4 · · = true) (holdB v1 v2 v3 v4 · · = true) _ _ _ q1 (fun x y z p q => (s1 x y z p q).1) (fun x y z p q => (t1 x y z p q).1) (fun x y z p q => (r1 x y z p q).1) s2 t2 r2,
    halves_hi (DsP e f g h) (holdB a b c d · · = true) (holdB u1 u2 u3 u4 · · = true) (holdB v1 v2 v3 v4 · · = true) _ _ _ q1 (fun x y z p q => (s1 x y z p q).2) (fun x y z p q => (t1 x y z p q).2) (fun x y z p q => (r1 x y z p q).2) s3 t3 r3⟩
/-! the triangle's area, the turn's sign -/
theorem area3Z (a b c : Int × Int) : areaZ [a, b, c] = 0 + crossE (a, b) + crossE (b, c) + crossE (c, a) := by
  have e : List.finRange [a, b, c].length = [⟨0, by simp⟩, ⟨1, by simp⟩, ⟨2, by simp⟩] := by
    simp [List.finRange, List.ofFn, Fin.foldr, Fin.foldr.loop]
  unfold areaZ
  rw [e]
  simp [areaF, edge]
theorem area3 (px py qx qy rx ry : Int) (h0 : okp (px, py) = true) (h1 : okp (qx, qy) = true) (h2 : okp (rx, ry) = true) : areaR [(px, py), (qx, qy), (rx, ry)] = (twz px py qx qy rx ry, 0) := by
  have e1 : ringE [(px, py), (qx, qy), (rx, ry)] [] = 0 := by
    unfold ringE
    rw [if_pos (by simp), if_pos (by simp [h0, h1, h2])]
  unfold areaR
  rw [if_pos e1]
  rw [area3Z]
  simp only [crossE]
  unfold twz
  congr 1
  grind
theorem hold_okp {a b c d x y : Int} (h : holdB a b c d x y = true) : okp (x, y) = true := by
  rw [holdB_iff, boxB_iff] at h
  simp [okp, okc]
  omega
theorem turns_law (lo hi n : Int) (h0 : lo ≤ n) (h1 : n ≤ hi) (t : Int) (ht : t = turnsF ((lo, hi), true)) :
    0 ≤ t ∧ t ≤ 7 ∧ (sgz n < 0 → t % 2 = 1) ∧ (sgz n = 0 → t / 2 % 2 = 1) ∧ (0 < sgz n → t / 4 = 1) ∧ (t % 2 = 1 ↔ lo < 0) ∧ (t / 4 = 1 ↔ 0 < hi) := by
  subst ht
  unfold turnsF sgz
  simp only [true_and]
  split <;> split <;> split <;> split <;> (try split) <;> omega
end Go.Proofs.Ytdbhbfmbpldmnaa
