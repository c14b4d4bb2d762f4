/- Plain laws of a hull's corners and edges. -/
import Derived.Test.YtdbhbfmbpldmnaaP6
import Derived.Test.YtdbhbfmbpldmnaaC3
namespace Go.Proofs.Ytdbhbfmbpldmnaa
theorem cons2_of_get {α : Type} {R : α → α → Prop} : ∀ {L : List α}, (∀ i, (h : i + 1 < L.length) → R (L[i]'(by omega)) L[i + 1]) → Cons2 R L
  | [], _ => trivial
  | [_], _ => trivial
  | a :: b :: r, c => ⟨c 0 (by simp), cons2_of_get (L := b :: r) (fun i h => by
      have := c (i + 1) (by simp at h ⊢; omega)
      simpa using this)⟩
/-- the corner of number i, in a circle -/
def cyc (H : List (Int × Int)) (i : Nat) : Int × Int := H.getD (i % H.length) (0, 0)
theorem cyc_mem {H : List (Int × Int)} (h : 0 < H.length) (i : Nat) : cyc H i ∈ H := by
  have hm := Nat.mod_lt i h
  unfold cyc
  rw [getD_at hm]
  exact List.getElem_mem hm
/-- consecutive corners in a circle -/
theorem hull_edge {l H : List (Int × Int)} (h : HullOf l H) (h2 : 2 ≤ H.length) (i : Nat) : Wrap l (cyc H i) (cyc H (i + 1)) := by
  obtain ⟨a, t, rfl, h1, h2', h3, h4⟩ := h
  have ht : t ≠ [] := by intro e; subst e; simp at h2
  obtain ⟨c, _⟩ := h4 ht
  have hm := Nat.mod_lt i (show 0 < (a :: t).length by omega)
  obtain ⟨j, hj⟩ : ∃ j, i % (a :: t).length = j := ⟨_, rfl⟩
  have g := cons2_get c j (by simp at hm hj ⊢; omega)
  have q1 : ((a :: t) ++ [a])[j]'(by simp at hm hj ⊢; omega) = (a :: t)[j]'(by omega) := List.getElem_append_left (by omega)
  have e1 : cyc (a :: t) i = (a :: t)[j]'(by omega) := by
    unfold cyc
    rw [hj, getD_at (by omega)]
  by_cases e : j + 1 < (a :: t).length
  · have q2 : ((a :: t) ++ [a])[j + 1]'(by simp at e ⊢; omega) = (a :: t)[j + 1] := List.getElem_append_left e
    have e2 : cyc (a :: t) (i + 1) = (a :: t)[j + 1] := by
      unfold cyc
      rw [Nat.add_mod, hj, Nat.mod_eq_of_lt (show 1 < (a :: t).length by omega), Nat.mod_eq_of_lt e, getD_at e]
    rw [q1, q2] at g
    rw [e1, e2]
    exact g
  · have hl : j + 1 = (a :: t).length := by omega
    have q2 : ((a :: t) ++ [a])[j + 1]'(by simp at hl ⊢; omega) = a := by
      rw [List.getElem_append_right (by omega)]
      simp
    have e2 : cyc (a :: t) (i + 1) = a := by
      unfold cyc
      rw [Nat.add_mod, hj, Nat.mod_eq_of_lt (show 1 < (a :: t).length by omega), hl, Nat.mod_self]
      rfl
    rw [q1, q2] at g
    rw [e1, e2]
    exact g
theorem hull_self {l H : List (Int × Int)} (h : HullOf l H) : HullOf H H := by
  have hm := hull_mem h
  have hl : 0 < H.length := by obtain ⟨a, t, rfl, _⟩ := h; simp
  obtain ⟨a, t, e, h1, h2, h3, h4⟩ := h
  refine ⟨a, t, e, by rw [e]; simp, fun q hq => h2 q (hm q hq), fun ht q hq => h3 ht q (hm q hq), fun ht => ⟨?_, (h4 ht).2⟩⟩
  have c := cons2_get (h4 ht).1
  refine cons2_of_get (fun i hi => ?_)
  obtain ⟨w1, w2, w3⟩ := c i hi
  refine ⟨?_, w2, fun q hq hne => w3 q (hm q hq) hne⟩
  rw [e]
  have : (a :: t ++ [a])[i + 1] ∈ a :: t ++ [a] := List.getElem_mem hi
  rcases List.mem_append.1 this with k | k
  · exact k
  · rw [List.mem_singleton.1 k]; simp
theorem hull_pos {l H : List (Int × Int)} (h : HullOf l H) : 0 < H.length := by obtain ⟨a, t, rfl, _⟩ := h; simp
theorem cyc_ne {l H : List (Int × Int)} (h : HullOf l H) (i j : Nat) (hij : i % H.length ≠ j % H.length) : cyc H i ≠ cyc H j := by
  have nd := hull_nodup h
  have hp := hull_pos h
  rw [List.Nodup, List.pairwise_iff_getElem] at nd
  have h1 := Nat.mod_lt i hp
  have h2 := Nat.mod_lt j hp
  unfold cyc
  rw [getD_at h1, getD_at h2]
  rcases Nat.lt_or_gt_of_ne hij with c | c
  · exact nd _ _ h1 h2 c
  · exact fun e => nd _ _ h2 h1 c e.symm
theorem tw_cyc (a b c : Int × Int) : tw b c a = tw a b c := by unfold tw twz; grind
theorem tw_rev (a b c : Int × Int) : tw b a c = -tw a b c := by unfold tw twz; grind
/-- a corner turns left -/
theorem hull_left {l H : List (Int × Int)} (h : HullOf l H) (h3 : 3 ≤ H.length) (i : Nat) : 0 < tw (cyc H i) (cyc H (i + 1)) (cyc H (i + 2)) := by
  have e1 := hull_edge h (by omega) i
  have e2 : Wrap l (cyc H (i + 1)) (cyc H (i + 2)) := hull_edge h (by omega) (i + 1)
  have n1 : (i + 2) % H.length ≠ i % H.length := by
    intro c
    have := Nat.mod_lt i (show 0 < H.length by omega)
    rw [Nat.add_mod, Nat.mod_eq_of_lt (show 2 < H.length by omega)] at c
    by_cases k : i % H.length + 2 < H.length
    · rw [Nat.mod_eq_of_lt k] at c; omega
    · rw [Nat.mod_eq_sub_mod (by omega), Nat.mod_eq_of_lt (by omega)] at c; omega
  have ca := cyc_ne h (i + 2) i n1
  have hm := fun k => hull_mem h _ (cyc_mem (hull_pos h) k)
  rcases e1.2.2 _ (hm (i + 2)) ca with c | c | ⟨c1, c2, c3⟩
  · exact absurd c e2.2.1
  · exact c
  · exfalso
    rcases e2.2.2 _ (hm i) (fun c => e1.2.1 c.symm) with d | d | ⟨d1, d2, d3⟩
    · exact ca d.symm
    · rw [tw_cyc] at d; omega
    · have s1 : sqd (cyc H (i + 1)) (cyc H i) = sqd (cyc H i) (cyc H (i + 1)) := by unfold sqd dsz; grind
      omega
/-- no point lies to the right of an edge -/
theorem hull_right {l H : List (Int × Int)} (h : HullOf l H) (i : Nat) (q : Int × Int) (hq : q ∈ l) : 0 ≤ tw (cyc H i) (cyc H (i + 1)) q := by
  by_cases h2 : 2 ≤ H.length
  · have e1 := hull_edge h h2 i
    by_cases e : q = cyc H i
    · rw [e, tw_self]; exact Int.le_refl _
    · rcases e1.2.2 q hq e with c | c | ⟨c, _⟩
      · rw [c, tw_self2]; exact Int.le_refl _
      · omega
      · omega
  · have hp := hull_pos h
    have e : H.length = 1 := by omega
    unfold cyc
    rw [e, Nat.mod_one, Nat.mod_one]
    have : ∀ a q : Int × Int, tw a a q = 0 := fun a q => by unfold tw twz; grind
    rw [this]
    exact Int.le_refl _
theorem hull_one {l H : List (Int × Int)} (h : HullOf l H) (h1 : H.length = 1) (q : Int × Int) (hq : q ∈ l) : q = cyc H 0 := by
  obtain ⟨a, t, rfl, _, _, h3, _⟩ := h
  have ht : t = [] := by simpa using h1
  subst ht
  exact h3 rfl q hq
theorem mul_self_nonneg' (x : Int) : 0 ≤ x * x := by
  rcases Int.le_total 0 x with h | h
  · exact Int.mul_nonneg h h
  · have := Int.mul_nonneg (show 0 ≤ -x by omega) (show 0 ≤ -x by omega); rwa [Int.neg_mul_neg] at this
theorem coord_in {u v D E : Int} (h : v * D = u * E) (hD : 0 < D) (hE : 0 < E) (hED : E < D) : (0 ≤ u → 0 ≤ v ∧ v ≤ u) ∧ (u ≤ 0 → u ≤ v ∧ v ≤ 0) := by
  constructor
  · intro hu
    have a : 0 ≤ u * E := Int.mul_nonneg hu (by omega)
    have b : u * E ≤ u * D := Int.mul_le_mul_of_nonneg_left (by omega) hu
    exact ⟨Int.le_of_mul_le_mul_right (by omega : 0 * D ≤ v * D) hD, Int.le_of_mul_le_mul_right (by omega : v * D ≤ u * D) hD⟩
  · intro hu
    have a : u * E ≤ 0 * E := Int.mul_le_mul_of_nonneg_right hu (by omega)
    have b : u * D ≤ u * E := Int.mul_le_mul_of_nonpos_left hu (by omega)
    exact ⟨Int.le_of_mul_le_mul_right (by omega : u * D ≤ v * D) hD, Int.le_of_mul_le_mul_right (by omega : v * D ≤ 0 * D) hD⟩
theorem on_of_near {a b q : Int × Int} (h0 : tw a b q = 0) (h1 : sqd a q < sqd a b) (h2 : sqd b q < sqd a b) : onB a.1 a.2 b.1 b.2 q.1 q.2 = true := by
  obtain ⟨ux, hux⟩ : ∃ u, b.1 - a.1 = u := ⟨_, rfl⟩
  obtain ⟨uy, huy⟩ : ∃ u, b.2 - a.2 = u := ⟨_, rfl⟩
  obtain ⟨vx, hvx⟩ : ∃ u, q.1 - a.1 = u := ⟨_, rfl⟩
  obtain ⟨vy, hvy⟩ : ∃ u, q.2 - a.2 = u := ⟨_, rfl⟩
  have c : ux * vy - uy * vx = 0 := by rw [← hux, ← huy, ← hvx, ← hvy]; exact h0
  have k1 : sqd a q = vx * vx + vy * vy := by rw [← hvx, ← hvy]; unfold sqd dsz; grind
  have k2 : sqd a b = ux * ux + uy * uy := by rw [← hux, ← huy]; unfold sqd dsz; grind
  have k3 : sqd b q = (vx * vx + vy * vy) - 2 * (ux * vx + uy * vy) + (ux * ux + uy * uy) := by rw [← hux, ← huy, ← hvx, ← hvy]; unfold sqd dsz; grind
  have p1 : 0 ≤ sqd a q := by rw [k1]; have := mul_self_nonneg' vx; have := mul_self_nonneg' vy; omega
  have p2 : 0 ≤ sqd b q := by
    unfold sqd dsz
    have := mul_self_nonneg' (b.1 - q.1)
    have := mul_self_nonneg' (b.2 - q.2)
    omega
  obtain ⟨D, hD⟩ : ∃ D, ux * ux + uy * uy = D := ⟨_, rfl⟩
  obtain ⟨E, hE⟩ : ∃ E, ux * vx + uy * vy = E := ⟨_, rfl⟩
  obtain ⟨V, hV⟩ : ∃ V, vx * vx + vy * vy = V := ⟨_, rfl⟩
  rw [hV] at k1 k3
  rw [hD] at k2 k3
  rw [hE] at k3
  have d1 : 0 < D := by omega
  have d2 : 0 < E := by omega
  have d3 : E < D := by omega
  have ex : vx * D = ux * E := by rw [← hD, ← hE]; grind
  have ey : vy * D = uy * E := by rw [← hD, ← hE]; grind
  obtain ⟨x1, x2⟩ := coord_in ex d1 d2 d3
  obtain ⟨y1, y2⟩ := coord_in ey d1 d2 d3
  unfold onB
  rw [show twz a.1 a.2 b.1 b.2 q.1 q.2 = 0 from h0]
  simp only [decide_true, Bool.true_and]
  unfold betB winB
  simp only [Bool.and_eq_true, decide_eq_true_eq]
  omega
theorem hull_two {l H : List (Int × Int)} (h : HullOf l H) (h2 : H.length = 2) (i : Nat) (q : Int × Int) (hq : q ∈ l) : onB (cyc H i).1 (cyc H i).2 (cyc H (i + 1)).1 (cyc H (i + 1)).2 q.1 q.2 = true := by
  have e1 := hull_edge h (by omega) i
  have e2 := hull_edge h (by omega) (i + 1)
  have e3 : cyc H (i + 1 + 1) = cyc H i := by
    unfold cyc
    rw [h2, show (i + 1 + 1) % 2 = i % 2 by omega]
  rw [e3] at e2
  have ends : ∀ a b : Int × Int, onB a.1 a.2 b.1 b.2 a.1 a.2 = true ∧ onB a.1 a.2 b.1 b.2 b.1 b.2 = true := fun a b => by
    have t1 : twz a.1 a.2 b.1 b.2 a.1 a.2 = 0 := tw_self a b
    have t2 : twz a.1 a.2 b.1 b.2 b.1 b.2 = 0 := tw_self2 a b
    constructor
    · unfold onB
      rw [t1]
      simp only [decide_true, Bool.true_and]
      unfold betB winB
      simp only [Bool.and_eq_true, decide_eq_true_eq]
      omega
    · unfold onB
      rw [t2]
      simp only [decide_true, Bool.true_and]
      unfold betB winB
      simp only [Bool.and_eq_true, decide_eq_true_eq]
      omega
  by_cases k1 : q = cyc H i
  · rw [k1]; exact (ends _ _).1
  by_cases k2 : q = cyc H (i + 1)
  · rw [k2]; exact (ends _ _).2
  rcases e1.2.2 q hq k1 with c | c | ⟨c1, c2, c3⟩
  · exact absurd c k2
  · exfalso
    rcases e2.2.2 q hq k2 with d | d | ⟨d, _⟩
    · exact k1 d
    · rw [tw_rev] at d; omega
    · rw [tw_rev] at d; omega
  · exact on_of_near c1 c2 c3
end Go.Proofs.Ytdbhbfmbpldmnaa
