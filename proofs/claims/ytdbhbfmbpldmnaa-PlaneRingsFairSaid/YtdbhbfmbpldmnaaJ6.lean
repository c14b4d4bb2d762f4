/- A simple polygon, sheared and stretched, is a closed way. -/
import Derived.Test.YtdbhbfmbpldmnaaJ5
import Derived.Test.YtdbhbfmbpldmnaaJ1
namespace Go.Proofs.Ytdbhbfmbpldmnaa
def shY (p : Int × Int) : Int := 4194304 * p.2 + p.1
def prodN : Nat → (Nat → Int) → Int
  | 0, _ => 1
  | n + 1, F => prodN n F * F n
theorem prodN_pos {F : Nat → Int} : ∀ {n : Nat}, (∀ j, j < n → 0 < F j) → 0 < prodN n F
  | 0, _ => by simp [prodN]
  | n + 1, h => by simp only [prodN]; exact Int.mul_pos (prodN_pos (fun j hj => h j (by omega))) (h n (by omega))
theorem prodN_dvd {F : Nat → Int} {i : Nat} : ∀ {n : Nat}, i < n → F i ∣ prodN n F
  | 0, h => by omega
  | n + 1, h => by
    simp only [prodN]
    by_cases c : i = n
    · subst c; exact Int.dvd_mul_left _ _
    · exact Int.dvd_trans (prodN_dvd (n := n) (by omega)) (Int.dvd_mul_right _ _)
section
variable (l : List (Int × Int))
def Yv (m : Nat) : Int := shY (crn l m)
def den (i : Nat) : Int := Yv l (i + 1) - Yv l i
def Mv : Int := prodN l.length (fun i => den l i * den l i)
def Xv (m : Nat) : Int := Mv l * (crn l m).1
def Zv (i : Nat) (t : Int) : Int := Xv l i + (Mv l / den l i) * ((crn l (i + 1)).1 - (crn l i).1) * (t - Yv l i)
end
variable {l : List (Int × Int)}
theorem shY_inj {p q : Int × Int} (hp : okp p = true) (hq : okp q = true) (h : shY p = shY q) : p = q := by
  unfold okp okc at hp hq
  simp only [Bool.and_eq_true, decide_eq_true_eq] at hp hq
  unfold shY at h
  exact Prod.ext (by omega) (by omega)
theorem coord_le {u v D E : Int} (h : v * D = u * E) (hD : 0 < D) (hE : 0 ≤ E) (hED : E ≤ D) : (0 ≤ u → 0 ≤ v ∧ v ≤ u) ∧ (u ≤ 0 → u ≤ v ∧ v ≤ 0) := by
  constructor
  · intro hu
    have a : 0 ≤ u * E := Int.mul_nonneg hu hE
    have b : u * E ≤ u * D := Int.mul_le_mul_of_nonneg_left hED hu
    exact ⟨Int.le_of_mul_le_mul_right (by omega : 0 * D ≤ v * D) hD, Int.le_of_mul_le_mul_right (by omega : v * D ≤ u * D) hD⟩
  · intro hu
    have a : u * E ≤ 0 * E := Int.mul_le_mul_of_nonneg_right hu hE
    have b : u * D ≤ u * E := Int.mul_le_mul_of_nonpos_left hu hED
    exact ⟨Int.le_of_mul_le_mul_right (by omega : u * D ≤ v * D) hD, Int.le_of_mul_le_mul_right (by omega : v * D ≤ 0 * D) hD⟩
theorem on_line {a b p : Int × Int} (h : tw a b p = 0) (hne : shY a ≠ shY b) (hr : (shY a ≤ shY p ∧ shY p ≤ shY b) ∨ (shY b ≤ shY p ∧ shY p ≤ shY a)) : onP a b p = true := by
  have hx : (p.1 - a.1) * (shY b - shY a) = (b.1 - a.1) * (shY p - shY a) := by unfold tw twz at h; unfold shY; grind
  have hy : (p.2 - a.2) * (shY b - shY a) = (b.2 - a.2) * (shY p - shY a) := by unfold tw twz at h; unfold shY; grind
  have key : ((0 ≤ b.1 - a.1 → 0 ≤ p.1 - a.1 ∧ p.1 - a.1 ≤ b.1 - a.1) ∧ (b.1 - a.1 ≤ 0 → b.1 - a.1 ≤ p.1 - a.1 ∧ p.1 - a.1 ≤ 0)) ∧ ((0 ≤ b.2 - a.2 → 0 ≤ p.2 - a.2 ∧ p.2 - a.2 ≤ b.2 - a.2) ∧ (b.2 - a.2 ≤ 0 → b.2 - a.2 ≤ p.2 - a.2 ∧ p.2 - a.2 ≤ 0)) := by
    by_cases c : shY a < shY b
    · exact ⟨coord_le hx (by omega) (by omega) (by omega), coord_le hy (by omega) (by omega) (by omega)⟩
    · have hx2 : (p.1 - a.1) * (shY a - shY b) = (b.1 - a.1) * (shY a - shY p) := by grind
      have hy2 : (p.2 - a.2) * (shY a - shY b) = (b.2 - a.2) * (shY a - shY p) := by grind
      exact ⟨coord_le hx2 (by omega) (by omega) (by omega), coord_le hy2 (by omega) (by omega) (by omega)⟩
  unfold onP onB
  rw [show twz a.1 a.2 b.1 b.2 p.1 p.2 = 0 from h]
  simp only [decide_true, Bool.true_and]
  unfold betB winB
  simp only [Bool.and_eq_true, decide_eq_true_eq]
  omega
theorem sg_neg {a : Int} (h : a < 0) : sgz a = -1 := by unfold sgz; rw [if_pos h]
theorem sg_pos {a : Int} (h : 0 < a) : sgz a = 1 := by unfold sgz; rw [if_neg (by omega), if_pos h]
theorem sgz_mul (a b : Int) : sgz (a * b) = sgz a * sgz b := by
  rcases Int.lt_trichotomy a 0 with ha | ha | ha
  · rcases Int.lt_trichotomy b 0 with hb | hb | hb
    · rw [sg_neg ha, sg_neg hb, sg_pos (Int.mul_pos_of_neg_of_neg ha hb)]; rfl
    · subst hb; rw [Int.mul_zero, show sgz 0 = 0 from rfl, Int.mul_zero]
    · rw [sg_neg ha, sg_pos hb, sg_neg (Int.mul_neg_of_neg_of_pos ha hb)]; rfl
  · subst ha; rw [Int.zero_mul, show sgz 0 = 0 from rfl, Int.zero_mul]
  · rcases Int.lt_trichotomy b 0 with hb | hb | hb
    · rw [sg_pos ha, sg_neg hb, sg_neg (Int.mul_neg_of_pos_of_neg ha hb)]; rfl
    · subst hb; rw [Int.mul_zero, show sgz 0 = 0 from rfl, Int.mul_zero]
    · rw [sg_pos ha, sg_pos hb, sg_pos (Int.mul_pos ha hb)]; rfl
theorem sg_key {d K u p : Int} (hK : 0 < K) (h : d * u = K * p) : sgz p = sgz d * sgz u := by
  rw [← sgz_mul, h, sgz_mul, sg_pos hK, Int.one_mul]
theorem opp {d K u v p q : Int} (hd : d ≠ 0) (hK : 0 < K) (h1 : d * u = K * p) (h2 : d * v = K * q) (h : (u < 0 ∧ 0 < v) ∨ (0 < u ∧ v < 0)) : sgz p * sgz q < 0 := by
  rw [sg_key hK h1, sg_key hK h2]
  rcases Int.lt_or_gt_of_ne hd with c | c
  · rw [sg_neg c]
    rcases h with ⟨a, b⟩ | ⟨a, b⟩
    · rw [sg_neg a, sg_pos b]; decide
    · rw [sg_pos a, sg_neg b]; decide
  · rw [sg_pos c]
    rcases h with ⟨a, b⟩ | ⟨a, b⟩
    · rw [sg_neg a, sg_pos b]; decide
    · rw [sg_pos a, sg_neg b]; decide
structure Good (l : List (Int × Int)) : Prop where
  sp : SimpP l
  ok : ∀ m, okp (crn l m) = true
  n3 : 3 ≤ l.length
theorem Good.den_ne (g : Good l) (i : Nat) : den l i ≠ 0 := by
  intro c
  unfold den Yv at c
  exact g.sp.dg i (shY_inj (g.ok i) (g.ok (i + 1)) (by omega))
theorem Good.M_pos (g : Good l) : 0 < Mv l := by
  unfold Mv
  apply prodN_pos
  intro j _
  rcases Int.lt_or_gt_of_ne (g.den_ne j) with c | c
  · exact Int.mul_pos_of_neg_of_neg c c
  · exact Int.mul_pos c c
theorem Good.quot (_ : Good l) {i : Nat} (hi : i < l.length) : den l i * (Mv l / den l i) = Mv l :=
  Int.mul_ediv_cancel' (Int.dvd_trans (Int.dvd_mul_right _ _) (prodN_dvd (F := fun i => den l i * den l i) hi))
theorem Good.key (g : Good l) {i : Nat} (hi : i < l.length) (p : Int × Int) : den l i * (Zv l i (shY p) - Mv l * p.1) = (Mv l * 4194304) * tw (crn l i) (crn l (i + 1)) p := by
  have q := g.quot hi
  unfold Zv Xv
  generalize Mv l / den l i = k at q ⊢
  have d : den l i = shY (crn l (i + 1)) - shY (crn l i) := rfl
  have e : den l i * (Mv l * (crn l i).1 + k * ((crn l (i + 1)).1 - (crn l i).1) * (shY p - Yv l i) - Mv l * p.1) = Mv l * (den l i * ((crn l i).1 - p.1) + ((crn l (i + 1)).1 - (crn l i).1) * (shY p - Yv l i)) := by grind
  rw [e, d]
  unfold Yv shY tw twz
  grind
theorem crn_per (l : List (Int × Int)) (i : Nat) : crn l (i + l.length) = crn l i := by unfold crn; rw [Nat.add_mod_right]
theorem Good.inj (g : Good l) {i j : Nat} (hi : i < l.length) (hj : j < l.length) (h : Yv l i = Yv l j) : i = j := by
  have e := shY_inj (g.ok i) (g.ok j) h
  have o := g.sp.own j i (by rw [e]; exact onP_left _ _)
  rw [Nat.mod_eq_of_lt hi, Nat.mod_eq_of_lt hj] at o
  rcases o with o | o
  · exact o
  · exfalso
    apply g.sp.dg j
    rw [← e, o]
    unfold crn
    rw [Nat.mod_mod]
theorem Good.zl (_ : Good l) (i : Nat) : Zv l i (Yv l i) = Xv l i := by unfold Zv; rw [Int.sub_self, Int.mul_zero, Int.add_zero]
theorem Good.zr (g : Good l) {i : Nat} (hi : i < l.length) : Zv l i (Yv l (i + 1)) = Xv l (i + 1) := by
  have q := g.quot hi
  unfold Zv
  rw [show Yv l (i + 1) - Yv l i = den l i from rfl]
  unfold Xv
  generalize Mv l / den l i = k at q ⊢
  rw [← q]
  grind
theorem Good.vt (g : Good l) {i m : Nat} (hi : i < l.length) (hm : m < l.length) (hr : inR (Yv l) i (Yv l m)) (h : Xv l m = Zv l i (Yv l m)) : m = i ∨ m = (i + 1) % l.length := by
  have k := g.key hi (crn l m)
  have M := g.M_pos
  rw [show Zv l i (shY (crn l m)) - Mv l * (crn l m).1 = 0 by rw [show Zv l i (shY (crn l m)) = Mv l * (crn l m).1 from h.symm]; omega, Int.mul_zero] at k
  have t : tw (crn l i) (crn l (i + 1)) (crn l m) = 0 := by
    rcases Int.mul_eq_zero.1 k.symm with c | c
    · exact absurd c (by omega)
    · exact c
  have o := g.sp.own i m (on_line t (by have := g.den_ne i; unfold den Yv at this; omega) hr)
  rw [Nat.mod_eq_of_lt hi, Nat.mod_eq_of_lt hm] at o
  exact o
end Go.Proofs.Ytdbhbfmbpldmnaa
