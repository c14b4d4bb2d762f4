/- A simple polygon's winding number is 0 or the sign of its area. -/
import Derived.Test.YtdbhbfmbpldmnaaJ7
namespace Go.Proofs.Ytdbhbfmbpldmnaa
variable {l : List (Int × Int)}
theorem range_sum (F : Nat → Int) : ∀ n : Nat, ((List.range n).map F).sum = sumN n F
  | 0 => rfl
  | n + 1 => by
    rw [List.range_succ, List.map_append, List.sum_append, range_sum F n]
    simp [sumN]
theorem edg_sum (F : Edg → Int) (l : List (Int × Int)) : ((edgL l).map F).sum = sumN l.length (fun j => F (crn l j, crn l (j + 1))) := by
  unfold edgL
  rw [List.map_map, range_sum]
  apply sumN_congr
  intro j hj
  simp only [Function.comp_apply]
  rw [edge_crn hj]
theorem area_way (l : List (Int × Int)) : sumN l.length (fun j => (Xv l j + Xv l (j + 1)) * (Yv l (j + 1) - Yv l j)) = Mv l * 4194304 * areaZ l := by
  have e1 := sumN_sub (fun j => Mv l * 4194304 * crossE (crn l j, crn l (j + 1))) (fun j => (fun m => Mv l * 4194304 * ((crn l m).1 * (crn l m).2) + Mv l * ((crn l m).1 * (crn l m).1)) j - (fun m => Mv l * 4194304 * ((crn l m).1 * (crn l m).2) + Mv l * ((crn l m).1 * (crn l m).1)) (j + 1)) l.length
  rw [sumN_tele (fun m => Mv l * 4194304 * ((crn l m).1 * (crn l m).2) + Mv l * ((crn l m).1 * (crn l m).1)), sumN_mul] at e1
  have p := crn_per l 0
  rw [Nat.zero_add] at p
  rw [p, Int.sub_self, Int.sub_zero] at e1
  rw [areaZ_sum, edg_sum, ← e1]
  apply sumN_congr
  intro j _
  simp only [crossE]
  unfold Xv Yv shY
  grind
theorem Good.area (g : Good l) {c : Int} (hc : ∀ i k, i < l.length → dk (Yv l) i k ≠ 0 → Lk l.length (Yv l) (Zv l) i k = c) : 0 < (2 * c - 1) * areaZ l := by
  have h := g.way.area hc
  rw [area_way] at h
  have M : 0 < Mv l * 4194304 := by have := g.M_pos; omega
  have e : (2 * c - 1) * (Mv l * 4194304 * areaZ l) = Mv l * 4194304 * ((2 * c - 1) * areaZ l) := by grind
  rw [e] at h
  rcases Int.lt_trichotomy ((2 * c - 1) * areaZ l) 0 with z | z | z
  · have := Int.mul_neg_of_pos_of_neg M z; omega
  · rw [z, Int.mul_zero] at h; omega
  · exact z
theorem tw_lev_a (a b p : Int × Int) (h : a.2 = p.2) : tw a b p = (b.2 - p.2) * (a.1 - p.1) := by unfold tw twz; rw [h]; grind
theorem tw_lev_b (a b p : Int × Int) (h : b.2 = p.2) : tw a b p = (p.2 - a.2) * (b.1 - p.1) := by unfold tw twz; rw [h]; grind
theorem Good.step (g : Good l) {j : Nat} (hj : j < l.length) (p : Int × Int) (hp : okp p = true) (off : onP (crn l j) (crn l (j + 1)) p = false) :
    stpE p.1 p.2 (crn l j, crn l (j + 1)) - (if Mv l * p.1 < Zv l j (shY p) then dk (Yv l) j (shY p) else 0) = (if (crn l j).2 = p.2 ∧ p.1 < (crn l j).1 then 1 else 0) - (if (crn l (j + 1)).2 = p.2 ∧ p.1 < (crn l (j + 1)).1 then 1 else 0) := by
  have k := g.key hj p
  have M : 0 < Mv l * 4194304 := by have := g.M_pos; omega
  have nd := g.den_ne j
  have sg := sg_key M k
  obtain ⟨a, ha⟩ : ∃ a, crn l j = a := ⟨_, rfl⟩
  obtain ⟨b, hb⟩ : ∃ b, crn l (j + 1) = b := ⟨_, rfl⟩
  have oa := g.ok j
  have ob := g.ok (j + 1)
  have ed : den l j = (4194304 * b.2 + b.1) - (4194304 * a.2 + a.1) := by unfold den Yv shY; rw [ha, hb]
  have ya : Yv l j = 4194304 * a.2 + a.1 := by unfold Yv shY; rw [ha]
  have yb : Yv l (j + 1) = 4194304 * b.2 + b.1 := by unfold Yv shY; rw [hb]
  rw [ha, hb] at off sg ⊢
  rw [ha] at oa
  rw [hb] at ob
  have offx : ¬ (a.2 = p.2 ∧ b.2 = p.2 ∧ ((a.1 ≤ p.1 ∧ p.1 < b.1) ∨ (b.1 ≤ p.1 ∧ p.1 < a.1))) := by
    rintro ⟨e1, e2, e3⟩
    have t : twz a.1 a.2 b.1 b.2 p.1 p.2 = 0 := by
      have := tw_lev_a a b p e1
      rw [e2, Int.sub_self, Int.zero_mul] at this
      exact this
    have : onP a b p = true := by
      unfold onP onB
      rw [t]
      simp only [decide_true, Bool.true_and]
      unfold betB winB
      simp only [Bool.and_eq_true, decide_eq_true_eq]
      omega
    rw [this] at off
    cases off
  have la := tw_lev_a a b p
  have lb := tw_lev_b a b p
  have la' : a.2 = p.2 → p.1 < a.1 → (p.2 < b.2 → 0 < tw a b p) ∧ (b.2 < p.2 → tw a b p < 0) := fun e c => by
    rw [la e]
    exact ⟨fun d => Int.mul_pos (by omega) (by omega), fun d => Int.mul_neg_of_neg_of_pos (by omega) (by omega)⟩
  have lb' : b.2 = p.2 → p.1 < b.1 → (a.2 < p.2 → 0 < tw a b p) ∧ (p.2 < a.2 → tw a b p < 0) := fun e c => by
    rw [lb e]
    exact ⟨fun d => Int.mul_pos (by omega) (by omega), fun d => Int.mul_neg_of_neg_of_pos (by omega) (by omega)⟩
  clear la lb off
  have te : twE (a, b) p.1 p.2 = tw a b p := rfl
  obtain ⟨T, hT⟩ : ∃ T, tw a b p = T := ⟨_, rfl⟩
  rw [hT] at sg la' lb' te
  obtain ⟨d, hd⟩ : ∃ d, den l j = d := ⟨_, rfl⟩
  rw [hd] at sg ed nd
  obtain ⟨z, hz⟩ : ∃ z, Zv l j (shY p) - Mv l * p.1 = z := ⟨_, rfl⟩
  rw [hz] at sg
  have rt : (Mv l * p.1 < Zv l j (shY p)) ↔ 0 < z := by omega
  have rt2 : 0 < z ↔ (0 < d ∧ 0 < T) ∨ (d < 0 ∧ T < 0) := by
    rcases Int.lt_trichotomy z 0 with z0 | z0 | z0
    · rw [sg_neg z0] at sg
      rcases Int.lt_or_gt_of_ne nd with c | c
      · rw [sg_neg c] at sg
        rcases Int.lt_trichotomy T 0 with t | t | t
        · rw [sg_neg t] at sg; exact absurd sg (by decide)
        · omega
        · omega
      · rw [sg_pos c] at sg
        rcases Int.lt_trichotomy T 0 with t | t | t
        · omega
        · omega
        · rw [sg_pos t] at sg; exact absurd sg (by decide)
    · subst z0
      rw [show sgz 0 = 0 from rfl, Int.mul_zero] at sg
      have := sgz_zero.1 sg
      omega
    · rw [sg_pos z0] at sg
      rcases Int.lt_or_gt_of_ne nd with c | c
      · rw [sg_neg c] at sg
        rcases Int.lt_trichotomy T 0 with t | t | t
        · omega
        · subst t; exact absurd sg (by decide)
        · rw [sg_pos t] at sg; exact absurd sg (by decide)
      · rw [sg_pos c] at sg
        rcases Int.lt_trichotomy T 0 with t | t | t
        · rw [sg_neg t] at sg; exact absurd sg (by decide)
        · subst t; exact absurd sg (by decide)
        · omega
  unfold okp okc at oa ob hp
  simp only [Bool.and_eq_true, decide_eq_true_eq] at oa ob hp
  have right : (Mv l * p.1 < Zv l j (shY p)) ↔ (0 < d ∧ 0 < T) ∨ (d < 0 ∧ T < 0) := rt.trans rt2
  clear sg rt rt2 hz k
  unfold stpE windStep dk
  rw [te, ya, yb]
  unfold shY at right ⊢
  simp only
  by_cases r : (0 < d ∧ 0 < T) ∨ (d < 0 ∧ T < 0)
  · rw [if_pos (right.2 r)]
    clear right
    (repeat' split) <;> omega
  · rw [if_neg (fun c => r (right.1 c))]
    clear right
    (repeat' split) <;> omega
theorem simple_wind (h : simpleB l = true) (hok : l.all okp = true) (h3 : 3 ≤ l.length) : areaZ l ≠ 0 ∧ ∀ px py, okp (px, py) = true → borderB l px py = false → windZ l px py = 0 ∨ windZ l px py = sgz (areaZ l) := by
  have n0 : 0 < l.length := by omega
  have g : Good l := ⟨simp_ok h hok h3, fun m => by
    unfold crn
    rw [getD_at' (Nat.mod_lt _ n0)]
    exact List.all_eq_true.1 hok _ (List.getElem_mem _), h3⟩
  obtain ⟨c, hc⟩ := g.way.const
  have ar := g.area hc
  have c01 := g.way.c01 hc
  have sgA : areaZ l ≠ 0 ∧ sgz (areaZ l) = 2 * c - 1 := by
    rcases c01 with e | e
    · subst e
      have : areaZ l < 0 := by omega
      exact ⟨by omega, by rw [sg_neg this]; rfl⟩
    · subst e
      have : 0 < areaZ l := by omega
      exact ⟨by omega, by rw [sg_pos this]; rfl⟩
  refine ⟨sgA.1, fun px py hp hb => ?_⟩
  rw [sgA.2]
  have off : ∀ j, j < l.length → onP (crn l j) (crn l (j + 1)) (px, py) = false := by
    intro j hj
    rw [borderB_any, List.any_eq_false] at hb
    have := hb (edge l j) (by unfold edgL; exact List.mem_map.2 ⟨j, by simpa using hj, rfl⟩)
    rw [edge_crn hj] at this
    simpa [onE, onP] using this
  have e : windZ l px py = sumN l.length (fun j => if Mv l * px < Zv l j (shY (px, py)) then dk (Yv l) j (shY (px, py)) else 0) := by
    rw [windZ_sum, edg_sum]
    have d := sumN_sub (fun j => stpE px py (crn l j, crn l (j + 1))) (fun j => if Mv l * px < Zv l j (shY (px, py)) then dk (Yv l) j (shY (px, py)) else 0) l.length
    rw [sumN_congr (fun j hj => g.step hj (px, py) hp (off j hj)), sumN_tele (fun m => if (crn l m).2 = py ∧ px < (crn l m).1 then 1 else 0)] at d
    have p := crn_per l 0
    rw [Nat.zero_add] at p
    rw [p, Int.sub_self] at d
    omega
  rw [e]
  exact g.way.wind hc (Mv l * px) (shY (px, py))
end Go.Proofs.Ytdbhbfmbpldmnaa
