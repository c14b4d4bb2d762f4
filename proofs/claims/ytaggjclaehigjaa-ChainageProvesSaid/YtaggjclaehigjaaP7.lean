/- Plain law of what the lengths rest on. -/
import Derived.Test.YtaggjclaehigjaaK5
namespace Go.Proofs.Ytaggjclaehigjaa
/-- r is the number of what a bound rests on: 0 if the bound is the base, else the least number of those that show it -/
def RestIs (val : Four → Int) (all base : Int) (l : List Four) (r : Int) : Prop :=
  (all = base ∧ r = 0) ∨ (all ≠ base ∧ (∃ t ∈ l, val t = all ∧ t.i = r) ∧ ∀ t ∈ l, val t = all → r ≤ t.i)
theorem RestIs.uniq {val : Four → Int} {all base : Int} {l : List Four} {r s : Int} (h : RestIs val all base l r) (k : RestIs val all base l s) : r = s := by
  rcases h with ⟨h1, h2⟩ | ⟨h1, ⟨t, ht, e1, e2⟩, h3⟩
  · rcases k with ⟨k1, k2⟩ | ⟨k1, _⟩
    · omega
    · exact absurd h1 k1
  · rcases k with ⟨k1, k2⟩ | ⟨k1, ⟨u, hu, f1, f2⟩, k3⟩
    · exact absurd k1 h1
    · have := h3 u hu f1
      have := k3 t ht e1
      omega
theorem RestIs.perm {val : Four → Int} {all base : Int} {l m : List Four} {r : Int} (h : RestIs val all base l r) (p : l.Perm m) : RestIs val all base m r := by
  rcases h with h | ⟨h1, ⟨t, ht, e1, e2⟩, h3⟩
  · exact .inl h
  · exact .inr ⟨h1, ⟨t, p.mem_iff.1 ht, e1, e2⟩, fun u hu => h3 u (p.mem_iff.2 hu)⟩
theorem stepR_fold (v : Four → Int) (all : Int) : ∀ (l : List Four) (s : Int), (∀ t ∈ l, 0 ≤ t.i) → 0 ≤ s →
    (l.foldl (fun one t => stepR (v t) all one t) s = s ∨ ∃ t ∈ l, v t = all ∧ t.i = l.foldl (fun one t => stepR (v t) all one t) s) ∧ l.foldl (fun one t => stepR (v t) all one t) s ≤ s ∧ 0 ≤ l.foldl (fun one t => stepR (v t) all one t) s ∧
      ∀ t ∈ l, v t = all → l.foldl (fun one t => stepR (v t) all one t) s ≤ t.i := by
  intro l
  induction l with
  | nil => intro s _ hs; exact ⟨.inl rfl, Int.le_refl _, hs, fun _ h => absurd h (by simp)⟩
  | cons t l ih =>
    intro s h0 hs
    rw [List.foldl_cons]
    have ht := h0 t (by simp)
    have hl : ∀ u ∈ l, 0 ≤ u.i := fun u hu => h0 u (by simp [hu])
    by_cases h : v t = all ∧ (s < 0 ∨ t.i < s)
    · have e : stepR (v t) all s t = t.i := by simp only [stepR, if_pos h]
      rw [e]
      obtain ⟨a, b, c, d⟩ := ih t.i hl ht
      refine ⟨.inr ?_, by omega, c, ?_⟩
      · rcases a with a | ⟨u, hu, a1, a2⟩
        · exact ⟨t, by simp, h.1, a.symm⟩
        · exact ⟨u, by simp [hu], a1, a2⟩
      · intro u hu hv
        rcases List.mem_cons.1 hu with rfl | hu
        · exact b
        · exact d u hu hv
    · have e : stepR (v t) all s t = s := by simp only [stepR, if_neg h]
      rw [e]
      obtain ⟨a, b, c, d⟩ := ih s hl hs
      refine ⟨?_, b, c, ?_⟩
      · rcases a with a | ⟨u, hu, a1, a2⟩
        · exact .inl a
        · exact .inr ⟨u, by simp [hu], a1, a2⟩
      · intro u hu hv
        rcases List.mem_cons.1 hu with rfl | hu
        · have : ¬ (s < 0 ∨ u.i < s) := fun k => h ⟨hv, k⟩
          omega
        · exact d u hu hv
theorem stepR_neg (v : Four → Int) (all : Int) : ∀ (l : List Four), (∀ t ∈ l, 0 ≤ t.i) → (∃ t ∈ l, v t = all) →
    (∃ t ∈ l, v t = all ∧ t.i = l.foldl (fun one t => stepR (v t) all one t) (-1)) ∧ ∀ t ∈ l, v t = all → l.foldl (fun one t => stepR (v t) all one t) (-1) ≤ t.i := by
  intro l
  induction l with
  | nil => rintro _ ⟨t, ht, _⟩; exact absurd ht (by simp)
  | cons t l ih =>
    intro h0 hx
    rw [List.foldl_cons]
    have ht := h0 t (by simp)
    have hl : ∀ u ∈ l, 0 ≤ u.i := fun u hu => h0 u (by simp [hu])
    by_cases h : v t = all
    · have e : stepR (v t) all (-1) t = t.i := by simp [stepR, h]
      rw [e]
      obtain ⟨a, b, c, d⟩ := stepR_fold v all l t.i hl ht
      refine ⟨?_, ?_⟩
      · rcases a with a | ⟨u, hu, a1, a2⟩
        · exact ⟨t, by simp, h, a.symm⟩
        · exact ⟨u, by simp [hu], a1, a2⟩
      · intro u hu hv
        rcases List.mem_cons.1 hu with rfl | hu
        · exact b
        · exact d u hu hv
    · have e : stepR (v t) all (-1) t = -1 := by simp [stepR, h]
      rw [e]
      obtain ⟨u, hu, hv⟩ := hx
      have hu' : u ∈ l := by
        rcases List.mem_cons.1 hu with rfl | hu
        · exact absurd hv h
        · exact hu
      obtain ⟨⟨q, hq, q1, q2⟩, b⟩ := ih hl ⟨u, hu', hv⟩
      refine ⟨⟨q, by simp [hq], q1, q2⟩, ?_⟩
      intro z hz hzv
      rcases List.mem_cons.1 hz with rfl | hz
      · exact absurd hzv h
      · exact b z hz hzv
theorem limLo_snoc (w y : Int) (l : List Four) (t : Four) : limLo w y (l ++ [t]) = max (limLo w y l) (loZ w y t) := by unfold limLo; rw [List.foldl_append]; rfl
theorem limHi_snoc (w y : Int) (l : List Four) (t : Four) : limHi w y (l ++ [t]) = min (limHi w y l) (hiZ w y t) := by unfold limHi; rw [List.foldl_append]; rfl
theorem limLo_ge (w y : Int) (l : List Four) : 9000 ≤ limLo w y l := le_limLo w y l 9000
theorem limHi_ge (w y : Int) (l : List Four) : limHi w y l ≤ 12000 := limHi_le w y l 12000
theorem snoc_ind {α : Type} {p : List α → Prop} (h0 : p []) (h1 : ∀ l x, p l → p (l ++ [x])) (l : List α) : p l := by
  have : ∀ r : List α, p r.reverse := by
    intro r
    induction r with
    | nil => exact h0
    | cons x r ih => rw [List.reverse_cons]; exact h1 _ _ ih
  simpa using this l.reverse
theorem lo_le_lim (w y : Int) (l : List Four) : ∀ t ∈ l, loZ w y t ≤ limLo w y l := by
  induction l using snoc_ind with
  | h0 => intro t h; exact absurd h (by simp)
  | h1 l x ih =>
    intro t ht
    rw [limLo_snoc]
    rcases List.mem_append.1 ht with h | h
    · exact Int.le_trans (ih t h) (Int.le_max_left _ _)
    · rw [List.mem_singleton.1 h]; exact Int.le_max_right _ _
theorem lim_le_hi (w y : Int) (l : List Four) : ∀ t ∈ l, limHi w y l ≤ hiZ w y t := by
  induction l using snoc_ind with
  | h0 => intro t h; exact absurd h (by simp)
  | h1 l x ih =>
    intro t ht
    rw [limHi_snoc]
    rcases List.mem_append.1 ht with h | h
    · exact Int.le_trans (Int.min_le_left _ _) (ih t h)
    · rw [List.mem_singleton.1 h]; exact Int.min_le_right _ _
theorem limLo_hit (w y : Int) (l : List Four) : limLo w y l = 9000 ∨ ∃ t ∈ l, loZ w y t = limLo w y l := by
  induction l using snoc_ind with
  | h0 => exact .inl rfl
  | h1 l x ih =>
    rw [limLo_snoc]
    by_cases h : loZ w y x ≤ limLo w y l
    · rw [Int.max_eq_left h]
      exact ih.imp id (fun ⟨t, ht, e⟩ => ⟨t, by simp [ht], e⟩)
    · rw [Int.max_eq_right (by omega)]
      exact .inr ⟨x, by simp, rfl⟩
theorem limHi_hit (w y : Int) (l : List Four) : limHi w y l = 12000 ∨ ∃ t ∈ l, hiZ w y t = limHi w y l := by
  induction l using snoc_ind with
  | h0 => exact .inl rfl
  | h1 l x ih =>
    rw [limHi_snoc]
    by_cases h : limHi w y l ≤ hiZ w y x
    · rw [Int.min_eq_left h]
      exact ih.imp id (fun ⟨t, ht, e⟩ => ⟨t, by simp [ht], e⟩)
    · rw [Int.min_eq_right (by omega)]
      exact .inr ⟨x, by simp, rfl⟩
theorem foldLo_rest {w y : Int} {l : List Four} (h0 : ∀ t ∈ l, 0 ≤ t.i) : RestIs (loZ w y) (limLo w y l) 9000 l (foldLo w y (limLo w y l) l) := by
  unfold foldLo
  by_cases h : limLo w y l = 9000
  · rw [if_pos h]
    obtain ⟨a, b, c, d⟩ := stepR_fold (fun t => limLo w y [t]) (limLo w y l) l 0 h0 (Int.le_refl _)
    exact .inl ⟨h, by omega⟩
  · rw [if_neg h]
    have e : ∀ t : Four, limLo w y [t] = limLo w y l ↔ loZ w y t = limLo w y l := by
      intro t
      have h9 := limLo_ge w y l
      show max 9000 (loZ w y t) = _ ↔ _
      omega
    obtain ⟨t, ht, hv⟩ := (limLo_hit w y l).resolve_left h
    obtain ⟨⟨u, hu, e1, e2⟩, b⟩ := stepR_neg (fun t => limLo w y [t]) (limLo w y l) l h0 ⟨t, ht, (e t).2 hv⟩
    exact .inr ⟨h, ⟨u, hu, (e u).1 e1, e2⟩, fun q hq hqv => b q hq ((e q).2 hqv)⟩
theorem foldHi_rest {w y : Int} {l : List Four} (h0 : ∀ t ∈ l, 0 ≤ t.i) : RestIs (hiZ w y) (limHi w y l) 12000 l (foldHi w y (limHi w y l) l) := by
  unfold foldHi
  by_cases h : limHi w y l = 12000
  · rw [if_pos h]
    obtain ⟨a, b, c, d⟩ := stepR_fold (fun t => limHi w y [t]) (limHi w y l) l 0 h0 (Int.le_refl _)
    exact .inl ⟨h, by omega⟩
  · rw [if_neg h]
    have e : ∀ t : Four, limHi w y [t] = limHi w y l ↔ hiZ w y t = limHi w y l := by
      intro t
      have h9 := limHi_ge w y l
      show min 12000 (hiZ w y t) = _ ↔ _
      omega
    obtain ⟨t, ht, hv⟩ := (limHi_hit w y l).resolve_left h
    obtain ⟨⟨u, hu, e1, e2⟩, b⟩ := stepR_neg (fun t => limHi w y [t]) (limHi w y l) l h0 ⟨t, ht, (e t).2 hv⟩
    exact .inr ⟨h, ⟨u, hu, (e u).1 e1, e2⟩, fun q hq hqv => b q hq ((e q).2 hqv)⟩
/-- the reference's steps -/
def refLo (w y : Int) (s : Int × Int) (t : Four) : Int × Int := if s.1 < loZ w y t then (loZ w y t, t.i) else if loZ w y t = s.1 ∧ 9000 < loZ w y t then (s.1, min s.2 t.i) else s
def refHi (w y : Int) (s : Int × Int) (t : Four) : Int × Int := if hiZ w y t < s.1 then (hiZ w y t, t.i) else if hiZ w y t = s.1 ∧ hiZ w y t < 12000 then (s.1, min s.2 t.i) else s
theorem refLo_rest (w y : Int) (l : List Four) : (l.foldl (refLo w y) (9000, 0)).1 = limLo w y l ∧ RestIs (loZ w y) (limLo w y l) 9000 l (l.foldl (refLo w y) (9000, 0)).2 := by
  induction l using snoc_ind with
  | h0 => exact ⟨rfl, .inl ⟨rfl, rfl⟩⟩
  | h1 l x ih =>
    obtain ⟨i1, i2⟩ := ih
    rw [List.foldl_append, limLo_snoc]
    show (refLo w y _ x).1 = _ ∧ RestIs _ _ _ _ (refLo w y _ x).2
    generalize l.foldl (refLo w y) (9000, 0) = s at i1 i2
    have h9 := limLo_ge w y l
    have hle := lo_le_lim w y l
    unfold refLo
    by_cases h : s.1 < loZ w y x
    · rw [if_pos h, Int.max_eq_right (by omega)]
      refine ⟨rfl, .inr ⟨by omega, ⟨x, by simp, rfl, rfl⟩, ?_⟩⟩
      intro t ht hv
      rcases List.mem_append.1 ht with k | k
      · have := hle t k; omega
      · rw [List.mem_singleton.1 k]; exact Int.le_refl _
    · rw [if_neg h, Int.max_eq_left (by omega)]
      by_cases h2 : loZ w y x = s.1 ∧ 9000 < loZ w y x
      · rw [if_pos h2]
        refine ⟨i1, ?_⟩
        rcases i2 with ⟨a, _⟩ | ⟨a, ⟨t, ht, e1, e2⟩, b⟩
        · omega
        · refine .inr ⟨a, ?_, ?_⟩
          · show ∃ t ∈ l ++ [x], loZ w y t = limLo w y l ∧ t.i = min s.2 x.i
            by_cases hm : s.2 ≤ x.i
            · exact ⟨t, by simp [ht], e1, by omega⟩
            · exact ⟨x, by simp, by omega, by omega⟩
          · intro u hu hv
            show min s.2 x.i ≤ u.i
            rcases List.mem_append.1 hu with k | k
            · have := b u k hv; omega
            · rw [List.mem_singleton.1 k]; omega
      · rw [if_neg h2]
        refine ⟨i1, ?_⟩
        rcases i2 with a | ⟨a, ⟨t, ht, e1, e2⟩, b⟩
        · exact .inl a
        · refine .inr ⟨a, ⟨t, by simp [ht], e1, e2⟩, ?_⟩
          intro u hu hv
          rcases List.mem_append.1 hu with k | k
          · exact b u k hv
          · rw [List.mem_singleton.1 k] at hv; omega
theorem refHi_rest (w y : Int) (l : List Four) : (l.foldl (refHi w y) (12000, 0)).1 = limHi w y l ∧ RestIs (hiZ w y) (limHi w y l) 12000 l (l.foldl (refHi w y) (12000, 0)).2 := by
  induction l using snoc_ind with
  | h0 => exact ⟨rfl, .inl ⟨rfl, rfl⟩⟩
  | h1 l x ih =>
    obtain ⟨i1, i2⟩ := ih
    rw [List.foldl_append, limHi_snoc]
    show (refHi w y _ x).1 = _ ∧ RestIs _ _ _ _ (refHi w y _ x).2
    generalize l.foldl (refHi w y) (12000, 0) = s at i1 i2
    have h9 := limHi_ge w y l
    have hle := lim_le_hi w y l
    unfold refHi
    by_cases h : hiZ w y x < s.1
    · rw [if_pos h, Int.min_eq_right (by omega)]
      refine ⟨rfl, .inr ⟨by omega, ⟨x, by simp, rfl, rfl⟩, ?_⟩⟩
      intro t ht hv
      rcases List.mem_append.1 ht with k | k
      · have := hle t k; omega
      · rw [List.mem_singleton.1 k]; exact Int.le_refl _
    · have em : min (limHi w y l) (hiZ w y x) = limHi w y l := by omega
      rw [if_neg h, em]
      by_cases h2 : hiZ w y x = s.1 ∧ hiZ w y x < 12000
      · rw [if_pos h2]
        refine ⟨i1, ?_⟩
        rcases i2 with ⟨a, _⟩ | ⟨a, ⟨t, ht, e1, e2⟩, b⟩
        · omega
        · refine .inr ⟨a, ?_, ?_⟩
          · show ∃ t ∈ l ++ [x], hiZ w y t = limHi w y l ∧ t.i = min s.2 x.i
            by_cases hm : s.2 ≤ x.i
            · exact ⟨t, by simp [ht], e1, by omega⟩
            · exact ⟨x, by simp, by omega, by omega⟩
          · intro u hu hv
            show min s.2 x.i ≤ u.i
            rcases List.mem_append.1 hu with k | k
            · have := b u k hv; omega
            · rw [List.mem_singleton.1 k]; omega
      · rw [if_neg h2]
        refine ⟨i1, ?_⟩
        rcases i2 with a | ⟨a, ⟨t, ht, e1, e2⟩, b⟩
        · exact .inl a
        · refine .inr ⟨a, ⟨t, by simp [ht], e1, e2⟩, ?_⟩
          intro u hu hv
          rcases List.mem_append.1 hu with k | k
          · exact b u k hv
          · rw [List.mem_singleton.1 k] at hv; omega
theorem clashesB_false {w : Int} {l : List Four} : clashesB w l = false ↔ ∀ i, (hi : i < l.length) → ∀ k, (hk : k < i) → clashB w l[i] (l[k]'(by omega)) = false := by
  induction l with
  | nil => simp [clashesB]
  | cons t l ih =>
    simp only [clashesB, Bool.or_eq_false_iff, List.any_eq_false, ih]
    constructor
    · rintro ⟨h1, h2⟩ i hi k hk
      cases i with
      | zero => omega
      | succ i =>
        cases k with
        | zero => simpa using h1 _ (List.getElem_mem (by simpa using hi))
        | succ k => simpa using h2 i (by simpa using hi) k (by omega)
    · intro h
      refine ⟨?_, ?_⟩
      · intro s hs
        obtain ⟨i, hi, rfl⟩ := List.mem_iff_getElem.1 hs
        have := h (i + 1) (by simpa using hi) 0 (by omega)
        simpa using this
      · intro i hi k hk
        have := h (i + 1) (by simpa using hi) (k + 1) (by omega)
        simpa using this
theorem clashesB_true {w : Int} {l : List Four} {i k : Nat} (hi : i < l.length) (hk : k < i) (h : clashB w l[i] (l[k]'(by omega)) = true) : clashesB w l = true := by
  cases e : clashesB w l
  · rw [clashesB_false.1 e i hi k hk] at h; cases h
  · rfl
end Go.Proofs.Ytaggjclaehigjaa
