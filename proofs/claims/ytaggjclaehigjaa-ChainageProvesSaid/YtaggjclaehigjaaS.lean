/- The stable sort of things: plain laws of a stable sort by insertion and merging in place; contracts of SortStableFunc and what it calls, at elements of one cell, whatever they are. -/
import Derived.Sort.LotA
import Derived.Test.YtaggjclaehigjaaB
import Derived.Lib.QuietBelow
import Derived.Shelf.SlSortCmp.Kit1
import Derived.Sort.WalkB2
import Derived.Sort.WalkB12
import Derived.Deep.DeepCutAuto
import Derived.Sort.WalkA
namespace Go.Proofs.Ytaggjclaehigjaa
open Go.Sort
variable {α : Type}
/-- the order that parts equals by their number -/
def lt2 (lt : α → α → Bool) (ix : α → Nat) (x y : α) : Bool := lt x y || (!lt y x && decide (ix x < ix y))
theorem lt2_of {lt : α → α → Bool} {ix : α → Nat} {x y : α} (h : lt2 lt ix x y = false) : lt x y = false := by
  unfold lt2 at h; simp only [Bool.or_eq_false_iff] at h; exact h.1
theorem swo_asymm {lt : α → α → Bool} (hO : SWO lt) {x y : α} (h : lt x y = true) : lt y x = false := by
  cases e : lt y x
  · rfl
  · have := hO.trans _ _ _ h e; rw [hO.irrefl] at this; cases this
theorem lt2_swo {lt : α → α → Bool} (hO : SWO lt) (ix : α → Nat) : SWO (lt2 lt ix) := by
  have tr : ∀ x y z, lt x y = true → lt z y = false → lt x z = true := by
    intro x y z h k
    cases e : lt x z
    · have := hO.ntrans _ _ _ e k; rw [this] at h; cases h
    · rfl
  have tl : ∀ x y z, lt y x = false → lt y z = true → lt x z = true := by
    intro x y z h k
    cases e : lt x z
    · have := hO.ntrans _ _ _ h e; rw [this] at k; cases k
    · rfl
  refine ⟨fun x => by simp [lt2, hO.irrefl], fun x y z h k => ?_, fun x y z h k => ?_⟩
  · simp only [lt2, Bool.or_eq_true, Bool.and_eq_true, Bool.not_eq_true', decide_eq_true_eq] at h k ⊢
    rcases h with h | ⟨h, h'⟩ <;> rcases k with k | ⟨k, k'⟩
    · exact .inl (hO.trans _ _ _ h k)
    · exact .inl (tr _ _ _ h k)
    · exact .inl (tl _ _ _ h k)
    · exact .inr ⟨hO.ntrans _ _ _ k h, by omega⟩
  · simp only [lt2, Bool.or_eq_false_iff, Bool.and_eq_false_imp, Bool.not_eq_true', decide_eq_false_iff_not] at h k ⊢
    refine ⟨hO.ntrans _ _ _ h.1 k.1, fun e => ?_⟩
    -- lt z x = false; so all three are equal
    have h1 : lt y x = false := by
      cases e1 : lt y x
      · rfl
      · have := tr _ _ _ e1 e; rw [k.1] at this; cases this
    have h2 : lt z y = false := by
      cases e1 : lt z y
      · rfl
      · have := tl _ _ _ e e1; rw [h.1] at this; cases this
    have := h.2 h1
    have := k.2 h2
    omega
theorem lt2_cross {lt : α → α → Bool} {ix : α → Nat} {x y : α} (h : lt y x = false) (hi : ix x < ix y) : lt2 lt ix y x = false := by
  simp only [lt2, Bool.or_eq_false_iff, Bool.and_eq_false_imp, decide_eq_false_iff_not]
  exact ⟨h, fun _ => by omega⟩
theorem lt2_less {lt : α → α → Bool} (hO : SWO lt) {ix : α → Nat} {x y : α} (h : lt x y = true) : lt2 lt ix y x = false := by
  simp [lt2, swo_asymm hO h, h]

variable [Inhabited α]
/-- d' is d with n places from a on exchanged with those from b on. -/
structure SwR (d : Array α) (a b n : Nat) (d' : Array α) : Prop where
  size : d'.size = d.size
  one : ∀ i, i < n → d'[a + i]! = d[b + i]!
  two : ∀ i, i < n → d'[b + i]! = d[a + i]!
  els : ∀ i, (i < a ∨ a + n ≤ i) → (i < b ∨ b + n ≤ i) → d'[i]! = d[i]!
  perm : ∀ lo hi, lo ≤ a → a + n ≤ hi → lo ≤ b → b + n ≤ hi → hi ≤ d.size → PermIn lo hi d d'
/-- d' is d with [a, m) and [m, b) exchanged. -/
structure Rot (d : Array α) (a m b : Nat) (d' : Array α) : Prop where
  perm : PermIn a b d d'
  left : ∀ i, i < b - m → d'[a + i]! = d[m + i]!
  right : ∀ i, i < m - a → d'[a + (b - m) + i]! = d[a + i]!
theorem SwR.zero (d : Array α) (a b : Nat) : SwR d a b 0 d := ⟨rfl, by omega, by omega, fun _ _ _ => rfl, fun _ _ _ _ _ _ _ => permIn_refl _ _ _⟩
theorem SwR.step {d d' : Array α} {a b n : Nat} (h : SwR d a b n d') (hab : a + n < b ∨ b + n < a) (ha : a + n < d.size) (hb : b + n < d.size) : SwR d a b (n + 1) (swp d' (a + n) (b + n)) := by
  have hne : a + n ≠ b + n := by omega
  have e1 : (swp d' (a + n) (b + n))[a + n]! = d[b + n]! := by rw [swp_left _ _ _ (by rw [h.size]; omega) hne]; exact h.els _ (by omega) (by omega)
  have e2 : (swp d' (a + n) (b + n))[b + n]! = d[a + n]! := by rw [swp_right _ _ _ (by rw [h.size]; omega)]; exact h.els _ (by omega) (by omega)
  refine ⟨by rw [size_swp]; exact h.size, fun i hi => ?_, fun i hi => ?_, fun i h1 h2 => ?_, fun lo hi k1 k2 k3 k4 k5 => ?_⟩
  · by_cases e : i = n
    · subst e; exact e1
    · rw [swp_other _ _ _ _ (by omega) (by omega)]; exact h.one i (by omega)
  · by_cases e : i = n
    · subst e; exact e2
    · rw [swp_other _ _ _ _ (by omega) (by omega)]; exact h.two i (by omega)
  · rw [swp_other _ _ _ _ (by omega) (by omega)]; exact h.els i (by omega) (by omega)
  · have := h.perm lo hi k1 (by omega) k3 (by omega) k5
    exact permIn_trans _ _ _ _ _ this (swp_permIn _ _ _ _ _ (by omega) (by omega) (by omega) (by omega) (by rw [h.size]; exact k5))
theorem Rot.size {d d' : Array α} {a m b : Nat} (h : Rot d a m b d') : d'.size = d.size := h.perm.1
theorem Rot.els {d d' : Array α} {a m b : Nat} (h : Rot d a m b d') (i : Nat) (hi : i < a ∨ b ≤ i) : d'[i]! = d[i]! := h.perm.2.1 i hi
theorem rot_eq {d d' : Array α} {m i : Nat} (h : SwR d (m - i) m i d') (hi : i ≤ m) (hs : m + i ≤ d.size) : Rot d (m - i) m (m + i) d' := by
  refine ⟨h.perm _ _ (Nat.le_refl _) (by omega) (by omega) (Nat.le_refl _) hs, fun k hk => h.one k (by omega), fun k hk => ?_⟩
  have := h.two k (by omega)
  rw [show m - i + (m + i - m) + k = m + k from by omega]
  exact this
theorem rot_gt {d d1 d2 : Array α} {m i j : Nat} (hj : j < i) (hi : i ≤ m) (hs : m + j ≤ d.size) (h : SwR d (m - i) m j d1) (k : Rot d1 (m - (i - j)) m (m + j) d2) : Rot d (m - i) m (m + j) d2 := by
  refine ⟨permIn_trans _ _ _ _ _ (h.perm _ _ (Nat.le_refl _) (by omega) (by omega) (Nat.le_refl _) hs) (permIn_mono _ _ _ _ _ _ (by omega) (Nat.le_refl _) (by rw [h.size]; exact hs) k.perm), fun n hn => ?_, fun n hn => ?_⟩
  · rw [k.els _ (by omega)]; exact h.one n (by omega)
  · by_cases hnj : n < j
    · have := k.left n (by omega)
      rw [show m - i + (m + j - m) + n = m - (i - j) + n from by omega, this]
      exact h.two n hnj
    · have := k.right (n - j) (by omega)
      rw [show m - i + (m + j - m) + n = m - (i - j) + (m + j - m) + (n - j) from by omega, this, h.els _ (by omega) (by omega)]
      congr 1; omega
theorem rot_lt {d d1 d2 : Array α} {m i j : Nat} (hj : i < j) (hi : i ≤ m) (hs : m + j ≤ d.size) (h : SwR d (m - i) (m + j - i) i d1) (k : Rot d1 (m - i) m (m + (j - i)) d2) : Rot d (m - i) m (m + j) d2 := by
  refine ⟨permIn_trans _ _ _ _ _ (h.perm _ _ (Nat.le_refl _) (by omega) (by omega) (by omega) hs) (permIn_mono _ _ _ _ _ _ (Nat.le_refl _) (by omega) (by rw [h.size]; exact hs) k.perm), fun n hn => ?_, fun n hn => ?_⟩
  · by_cases hnj : n < j - i
    · rw [k.left n (by omega)]; exact h.els _ (by omega) (by omega)
    · have := k.right (n - (j - i)) (by omega)
      rw [show m - i + n = m - i + (m + (j - i) - m) + (n - (j - i)) from by omega, this, h.one _ (by omega)]
      congr 1; omega
  · rw [k.els _ (by omega), show m - i + (m + j - m) + n = m + j - i + n from by omega]
    exact h.two n (by omega)
theorem rot_none_left (d : Array α) (m b : Nat) : Rot d m m b d := ⟨permIn_refl _ _ _, fun _ _ => rfl, by omega⟩
theorem rot_none_right (d : Array α) (a m : Nat) : Rot d a m m d := ⟨permIn_refl _ _ _, by omega, fun i _ => by rw [Nat.sub_self]; rfl⟩
/-- one more step to the right of an element on its way -/
theorem rot_up {d d' : Array α} {a k : Nat} (h : Rot d a (a + 1) (k + 1) d') (hk : a ≤ k) (hs : k + 1 < d.size) : Rot d a (a + 1) (k + 1 + 1) (swp d' k (k + 1)) := by
  have hz := h.size
  have e0 : d'[k]! = d[a]! := by have := h.right 0 (by omega); rw [show a + (k + 1 - (a + 1)) + 0 = k from by omega] at this; exact this
  refine ⟨permIn_trans _ _ _ _ _ (permIn_mono _ _ _ _ _ _ (Nat.le_refl _) (by omega) (by omega) h.perm) (swp_permIn _ _ _ _ _ (by omega) (by omega) (by omega) (by omega) (by omega)), fun n hn => ?_, fun n hn => ?_⟩
  · by_cases e : a + n = k
    · rw [e, swp_left _ _ _ (by omega) (by omega), h.els _ (by omega)]; congr 1; omega
    · rw [swp_other _ _ _ _ (by omega) (by omega)]; exact h.left n (by omega)
  · rw [show a + (k + 1 + 1 - (a + 1)) + n = k + 1 from by omega, swp_right _ _ _ (by omega), e0]; congr 1; omega
/-- one more step to the left of an element on its way -/
theorem rot_down {d d' : Array α} {m k : Nat} (h : Rot d (k + 1) m (m + 1) d') (hk : k + 1 ≤ m) (hs : m < d.size) : Rot d k m (m + 1) (swp d' (k + 1) k) := by
  have hz := h.size
  have e0 : d'[k + 1]! = d[m]! := by have := h.left 0 (by omega); exact this
  refine ⟨permIn_trans _ _ _ _ _ (permIn_mono _ _ _ _ _ _ (by omega) (Nat.le_refl _) (by omega) h.perm) (swp_permIn _ _ _ _ _ (by omega) (by omega) (by omega) (by omega) (by omega)), fun n hn => ?_, fun n hn => ?_⟩
  · obtain rfl : n = 0 := by omega
    rw [show k + 0 = k from rfl, swp_right _ _ _ (by omega), e0]; rfl
  · by_cases e : n = 0
    · subst e
      rw [show k + (m + 1 - m) + 0 = k + 1 from by omega, swp_left _ _ _ (by omega) (by omega), h.els _ (by omega)]; rfl
    · rw [swp_other _ _ _ _ (by omega) (by omega)]
      have := h.right (n - 1) (by omega)
      rw [show k + (m + 1 - m) + n = k + 1 + (m + 1 - m) + (n - 1) from by omega, this]
      congr 1; omega

def Cross (ix : α → Nat) (a m b : Nat) (d : Array α) : Prop := ∀ i j, a ≤ i → i < m → m ≤ j → j < b → ix d[i]! < ix d[j]!
/-- what a merge asks -/
structure MPre (lt : α → α → Bool) (ix : α → Nat) (a m b : Nat) (d : Array α) : Prop where
  l : SortedIn (lt2 lt ix) a m d
  r : SortedIn (lt2 lt ix) m b d
  x : Cross ix a m b d
/-- what a merge gives -/
def MPost (lt : α → α → Bool) (ix : α → Nat) (a b : Nat) (d d' : Array α) : Prop := PermIn a b d d' ∧ SortedIn (lt2 lt ix) a b d'
theorem SortedIn.le {lt : α → α → Bool} (hO : SWO lt) {a b : Nat} {d : Array α} (h : SortedIn lt a b d) {i j : Nat} (hi : a ≤ i) (hij : i ≤ j) (hj : j < b) : lt d[j]! d[i]! = false := by
  by_cases e : i = j
  · subst e; exact hO.irrefl _
  · exact h i j hi (by omega) hj
theorem SortedIn.part {lt : α → α → Bool} {a b a' b' : Nat} {d : Array α} (h : SortedIn lt a b d) (ha : a ≤ a') (hb : b' ≤ b) : SortedIn lt a' b' d := fun i j hi hij hj => h i j (by omega) hij (by omega)
/-- the way that a merge is cut -/
structure MCut (lt : α → α → Bool) (a m b s e : Nat) (d : Array α) : Prop where
  asm : a ≤ s
  sm : s ≤ m
  me : m ≤ e
  eb : e ≤ b
  c1 : ∀ k h, a ≤ k → k < s → e ≤ h → h < b → lt d[h]! d[k]! = false
  c2 : ∀ h k, m ≤ h → h < e → s ≤ k → k < m → lt d[h]! d[k]! = true
section
variable {lt : α → α → Bool} {ix : α → Nat}
theorem rot_at {d d1 : Array α} {s m e : Nat} (h : Rot d s m e d1) (i : Nat) (h1 : s ≤ i) (h2 : i < s + (e - m)) : d1[i]! = d[m + (i - s)]! := by
  have := h.left (i - s) (by omega)
  rw [show s + (i - s) = i from by omega] at this; exact this
theorem rot_at2 {d d1 : Array α} {s m e : Nat} (h : Rot d s m e d1) (hm : m ≤ e) (i : Nat) (h1 : s + (e - m) ≤ i) (h2 : i < e) : d1[i]! = d[s + (i - (s + (e - m)))]! := by
  have := h.right (i - (s + (e - m))) (by omega)
  rw [show s + (e - m) + (i - (s + (e - m))) = i from by omega] at this; exact this
/-- the two halves behind the rotation -/
theorem cut_pre {d d1 : Array α} {a m b s e : Nat} (hp : MPre lt ix a m b d) (c : MCut lt a m b s e d) (hr : Rot d s m e d1) :
    MPre lt ix a s (s + (e - m)) d1 ∧ MPre lt ix (s + (e - m)) e b d1 := by
  have := c.asm; have := c.sm; have := c.me; have := c.eb
  refine ⟨⟨fun i j hi hij hj => ?_, fun i j hi hij hj => ?_, fun i j hi hij hj hk => ?_⟩, ⟨fun i j hi hij hj => ?_, fun i j hi hij hj => ?_, fun i j hi hij hj hk => ?_⟩⟩
  · rw [hr.els i (by omega), hr.els j (by omega)]; exact hp.l i j hi hij (by omega)
  · rw [rot_at hr i (by omega) (by omega), rot_at hr j (by omega) hj]; exact hp.r _ _ (by omega) (by omega) (by omega)
  · rw [hr.els i (by omega), rot_at hr j (by omega) (by omega)]; exact hp.x _ _ hi (by omega) (by omega) (by omega)
  · rw [rot_at2 hr (by omega) i hi (by omega), rot_at2 hr (by omega) j (by omega) (by omega)]; exact hp.l _ _ (by omega) (by omega) (by omega)
  · rw [hr.els i (by omega), hr.els j (by omega)]; exact hp.r i j (by omega) hij (by omega)
  · rw [rot_at2 hr (by omega) i hi (by omega), hr.els j (by omega)]; exact hp.x _ _ (by omega) (by omega) (by omega) (by omega)
theorem cut_post (hO : SWO lt) {d d1 d2 d3 : Array α} {a m b s e : Nat} (hs : b ≤ d.size) (hp : MPre lt ix a m b d) (c : MCut lt a m b s e d) (hr : Rot d s m e d1)
    (h2 : MPost lt ix a (s + (e - m)) d1 d2) (h3 : MPost lt ix (s + (e - m)) b d2 d3) : MPost lt ix a b d d3 := by
  have := c.asm; have := c.sm; have := c.me; have := c.eb
  have z1 := hr.size
  have z2 := h2.1.1
  have z3 := h3.1.1
  have hx : ∀ i j, a ≤ i → i < s + (e - m) → s + (e - m) ≤ j → j < b → lt2 lt ix d1[j]! d1[i]! = false := by
    intro i j hi hi2 hj hj2
    by_cases k1 : i < s
    · rw [hr.els i (by omega)]
      by_cases k2 : j < e
      · rw [rot_at2 hr (by omega) j hj k2]; exact hp.l _ _ hi (by omega) (by omega)
      · rw [hr.els j (by omega)]
        exact lt2_cross (c.c1 _ _ hi k1 (by omega) hj2) (hp.x _ _ hi (by omega) (by omega) hj2)
    · rw [rot_at hr i (by omega) hi2]
      by_cases k2 : j < e
      · rw [rot_at2 hr (by omega) j hj k2]; exact lt2_less hO (c.c2 _ _ (by omega) (by omega) (by omega) (by omega))
      · rw [hr.els j (by omega)]; exact hp.r _ _ (by omega) (by omega) hj2
  have hx2 : ∀ i, a ≤ i → i < s + (e - m) → ∀ j, s + (e - m) ≤ j → j < b → lt2 lt ix d1[j]! d2[i]! = false :=
    permIn_all d1 d2 a (s + (e - m)) (fun x => ∀ j, s + (e - m) ≤ j → j < b → lt2 lt ix d1[j]! x = false) (by omega) h2.1 (fun i hi hi2 j => hx i j hi hi2)
  have hx3 : ∀ j, s + (e - m) ≤ j → j < b → ∀ i, a ≤ i → i < s + (e - m) → lt2 lt ix d3[j]! d2[i]! = false :=
    permIn_all d2 d3 (s + (e - m)) b (fun x => ∀ i, a ≤ i → i < s + (e - m) → lt2 lt ix x d2[i]! = false) (by omega) h3.1 (fun j hj hj2 i hi hi2 => by rw [h2.1.2.1 j (.inr hj)]; exact hx2 i hi hi2 j hj hj2)
  refine ⟨permIn_trans _ _ _ _ _ (permIn_mono _ _ _ _ _ _ (by omega) (by omega) hs hr.perm) (permIn_trans _ _ _ _ _ (permIn_mono _ _ _ _ _ _ (by omega) (by omega) (by omega) h2.1) (permIn_mono _ _ _ _ _ _ (by omega) (by omega) (by omega) h3.1)), fun i j hi hij hj => ?_⟩
  by_cases k1 : j < s + (e - m)
  · rw [h3.1.2.1 j (.inl k1), h3.1.2.1 i (.inl (by omega))]; exact h2.2 i j hi hij k1
  · by_cases k2 : i < s + (e - m)
    · rw [h3.1.2.1 i (.inl k2)]; exact hx3 j (by omega) hj i hi k2
    · exact h3.2 i j (by omega) hij hj
theorem MPost.one {a b : Nat} {d : Array α} (h : b ≤ a + 1) : MPost lt ix a b d d := ⟨permIn_refl _ _ _, fun i j hi hij hj => by omega⟩
theorem MPost.none {a m b : Nat} {d : Array α} (hp : MPre lt ix a m b d) (h : m = a ∨ m = b) : MPost lt ix a b d d :=
  ⟨permIn_refl _ _ _, by rcases h with rfl | rfl
                         · exact hp.r
                         · exact hp.l⟩
/-- the search of the middle cut: where it stands -/
structure SmS (lt : α → α → Bool) (p s0 r0 s r : Nat) (d : Array α) : Prop where
  s0s : s0 ≤ s
  sr : s ≤ r
  rr : r ≤ r0
  lo : ∀ c, s0 ≤ c → c < s → lt d[p - c]! d[c]! = false
  hi : ∀ c, r ≤ c → c < r0 → lt d[p - c]! d[c]! = true
/-- the bounds of the middle cut -/
def smS0 (a m b : Nat) : Nat := if (a + b) / 2 < m then (a + b) / 2 + m - b else a
def smR0 (a m b : Nat) : Nat := if (a + b) / 2 < m then (a + b) / 2 else m
theorem sm_bounds {a m b : Nat} (h1 : a < m) (h2 : m < b) : a ≤ smS0 a m b ∧ smS0 a m b ≤ smR0 a m b ∧ smR0 a m b ≤ m ∧ smR0 a m b ≤ (a + b) / 2 ∧ (a + b) / 2 + m - smS0 a m b ≤ b ∧ (smS0 a m b = a ∨ (a + b) / 2 + m - smS0 a m b = b) ∧ (smR0 a m b = m ∨ smR0 a m b = (a + b) / 2) := by
  unfold smS0 smR0
  split <;> omega
theorem sm_mono (hO : SWO lt) {a m b : Nat} {d : Array α} (h1 : a < m) (h2 : m < b) (hp : MPre lt ix a m b d) {c c' : Nat} (k1 : smS0 a m b ≤ c) (k2 : c ≤ c') (k3 : c' < smR0 a m b)
    (h : lt d[(a + b) / 2 + m - 1 - c]! d[c]! = true) : lt d[(a + b) / 2 + m - 1 - c']! d[c']! = true := by
  have hb := sm_bounds h1 h2
  have hL := lt2_swo hO ix
  cases e : lt d[(a + b) / 2 + m - 1 - c']! d[c']!
  · have e1 := lt2_of (SortedIn.le hL hp.l (i := c) (j := c') (by omega) k2 (by omega))
    have e2 := lt2_of (SortedIn.le hL hp.r (i := (a + b) / 2 + m - 1 - c') (j := (a + b) / 2 + m - 1 - c) (by omega) (by omega) (by omega))
    have := hO.ntrans _ _ _ e2 (hO.ntrans _ _ _ e e1)
    rw [this] at h; cases h
  · rfl
theorem SmS.start {a m b : Nat} (h1 : a < m) (h2 : m < b) (d : Array α) : SmS lt ((a + b) / 2 + m - 1) (smS0 a m b) (smR0 a m b) (smS0 a m b) (smR0 a m b) d := by
  have := sm_bounds h1 h2
  exact ⟨Nat.le_refl _, this.2.1, Nat.le_refl _, by omega, by omega⟩
theorem SmS.up (hO : SWO lt) {a m b s r : Nat} {d : Array α} (h1 : a < m) (h2 : m < b) (hp : MPre lt ix a m b d) (h : SmS lt ((a + b) / 2 + m - 1) (smS0 a m b) (smR0 a m b) s r d) (hsr : s < r)
    (hl : lt d[(a + b) / 2 + m - 1 - (s + r) / 2]! d[(s + r) / 2]! = false) : SmS lt ((a + b) / 2 + m - 1) (smS0 a m b) (smR0 a m b) ((s + r) / 2 + 1) r d := by
  have := h.s0s; have := h.rr
  refine ⟨by omega, by omega, h.rr, fun c k1 k2 => ?_, h.hi⟩
  cases e : lt d[(a + b) / 2 + m - 1 - c]! d[c]!
  · rfl
  · have := sm_mono hO h1 h2 hp k1 (show c ≤ (s + r) / 2 by omega) (by omega) e
    rw [this] at hl; cases hl
theorem SmS.down (hO : SWO lt) {a m b s r : Nat} {d : Array α} (h1 : a < m) (h2 : m < b) (hp : MPre lt ix a m b d) (h : SmS lt ((a + b) / 2 + m - 1) (smS0 a m b) (smR0 a m b) s r d) (hsr : s < r)
    (hl : lt d[(a + b) / 2 + m - 1 - (s + r) / 2]! d[(s + r) / 2]! = true) : SmS lt ((a + b) / 2 + m - 1) (smS0 a m b) (smR0 a m b) s ((s + r) / 2) d := by
  have := h.s0s; have := h.rr
  exact ⟨h.s0s, by omega, by omega, h.lo, fun c k1 k2 => sm_mono hO h1 h2 hp (by omega) k1 k2 hl⟩
theorem SmS.cut (hO : SWO lt) {a m b s : Nat} {d : Array α} (h1 : a < m) (h2 : m < b) (hp : MPre lt ix a m b d) (h : SmS lt ((a + b) / 2 + m - 1) (smS0 a m b) (smR0 a m b) s s d) :
    MCut lt a m b s ((a + b) / 2 + m - s) d := by
  have hb := sm_bounds h1 h2
  have hL := lt2_swo hO ix
  have := h.s0s; have := h.rr
  refine ⟨by omega, by omega, by omega, by omega, fun k t k1 k2 k3 k4 => ?_, fun t k k1 k2 k3 k4 => ?_⟩
  · have e := h.lo (s - 1) (by omega) (by omega)
    rw [show (a + b) / 2 + m - 1 - (s - 1) = (a + b) / 2 + m - s from by omega] at e
    have e1 := lt2_of (SortedIn.le hL hp.l (i := k) (j := s - 1) (by omega) (by omega) (by omega))
    have e2 := lt2_of (SortedIn.le hL hp.r (i := (a + b) / 2 + m - s) (j := t) (by omega) (by omega) (by omega))
    exact hO.ntrans _ _ _ e2 (hO.ntrans _ _ _ e e1)
  · have e := h.hi s (Nat.le_refl _) (by omega)
    cases f : lt d[t]! d[k]!
    · have e1 := lt2_of (SortedIn.le hL hp.l (i := s) (j := k) (by omega) (by omega) (by omega))
      have e2 := lt2_of (SortedIn.le hL hp.r (i := t) (j := (a + b) / 2 + m - 1 - s) (by omega) (by omega) (by omega))
      have := hO.ntrans _ _ _ e2 (hO.ntrans _ _ _ f e1)
      rw [this] at e; cases e
    · rfl
/-- one element on the left: the search -/
structure OneL (lt : α → α → Bool) (a m b i j : Nat) (d : Array α) : Prop where
  mi : m ≤ i
  ij : i ≤ j
  jb : j ≤ b
  lo : ∀ k, m ≤ k → k < i → lt d[k]! d[a]! = true
  hi : ∀ k, j ≤ k → k < b → lt d[k]! d[a]! = false
theorem OneL.up (hO : SWO lt) {a m b i j : Nat} {d : Array α} (hp : MPre lt ix a m b d) (h : OneL lt a m b i j d) (hij : i < j) (hl : lt d[(i + j) / 2]! d[a]! = true) : OneL lt a m b ((i + j) / 2 + 1) j d := by
  have := h.mi; have := h.jb
  refine ⟨by omega, by omega, h.jb, fun k k1 k2 => ?_, h.hi⟩
  cases e : lt d[k]! d[a]!
  · have := hO.ntrans _ _ _ (lt2_of (SortedIn.le (lt2_swo hO ix) hp.r (i := k) (j := (i + j) / 2) k1 (by omega) (by omega))) e
    rw [this] at hl; cases hl
  · rfl
theorem OneL.down (hO : SWO lt) {a m b i j : Nat} {d : Array α} (hp : MPre lt ix a m b d) (h : OneL lt a m b i j d) (hij : i < j) (hl : lt d[(i + j) / 2]! d[a]! = false) : OneL lt a m b i ((i + j) / 2) d := by
  have := h.mi; have := h.jb
  exact ⟨h.mi, by omega, by omega, h.lo, fun k k1 k2 => hO.ntrans _ _ _ (lt2_of (SortedIn.le (lt2_swo hO ix) hp.r (i := (i + j) / 2) (j := k) (by omega) k1 k2)) hl⟩
theorem OneL.post (hO : SWO lt) {a m b i : Nat} {d d' : Array α} (hs : b ≤ d.size) (hm : m = a + 1) (hp : MPre lt ix a m b d) (h : OneL lt a m b i i d) (hr : Rot d a m i d') : MPost lt ix a b d d' := by
  have := h.mi; have := h.jb
  have c : MCut lt a m b a i d := ⟨Nat.le_refl _, by omega, h.mi, h.jb, by omega, fun t k k1 k2 k3 k4 => by rw [show k = a from by omega]; exact h.lo t k1 k2⟩
  have hq := cut_pre hp c hr
  refine cut_post hO hs hp c hr (MPost.none hq.1 (.inl rfl)) ⟨permIn_refl _ _ _, fun u v h1 h2 h3 => ?_⟩
  by_cases k1 : v < i
  · omega
  · by_cases k2 : u < i
    · have e1 := hr.els v (by omega)
      rw [rot_at2 hr (by omega) u h1 k2, e1, show a + (u - (a + (i - m))) = a from by omega]
      exact lt2_cross (h.hi v (by omega) h3) (hp.x _ _ (Nat.le_refl _) (by omega) (by omega) h3)
    · exact hq.2.r u v (by omega) h2 h3
/-- one element on the right: the search -/
structure OneR (lt : α → α → Bool) (a m i j : Nat) (d : Array α) : Prop where
  ai : a ≤ i
  ij : i ≤ j
  jm : j ≤ m
  lo : ∀ k, a ≤ k → k < i → lt d[m]! d[k]! = false
  hi : ∀ k, j ≤ k → k < m → lt d[m]! d[k]! = true
theorem OneR.up (hO : SWO lt) {a m b i j : Nat} {d : Array α} (hp : MPre lt ix a m b d) (h : OneR lt a m i j d) (hij : i < j) (hl : lt d[m]! d[(i + j) / 2]! = false) : OneR lt a m ((i + j) / 2 + 1) j d := by
  have := h.ai; have := h.jm
  exact ⟨by omega, by omega, h.jm, fun k k1 k2 => hO.ntrans _ _ _ hl (lt2_of (SortedIn.le (lt2_swo hO ix) hp.l (i := k) (j := (i + j) / 2) k1 (by omega) (by omega))), h.hi⟩
theorem OneR.down (hO : SWO lt) {a m b i j : Nat} {d : Array α} (hp : MPre lt ix a m b d) (h : OneR lt a m i j d) (hij : i < j) (hl : lt d[m]! d[(i + j) / 2]! = true) : OneR lt a m i ((i + j) / 2) d := by
  have := h.ai; have := h.jm
  refine ⟨h.ai, by omega, by omega, h.lo, fun k k1 k2 => ?_⟩
  cases e : lt d[m]! d[k]!
  · have := hO.ntrans _ _ _ e (lt2_of (SortedIn.le (lt2_swo hO ix) hp.l (i := (i + j) / 2) (j := k) (by omega) k1 k2))
    rw [this] at hl; cases hl
  · rfl
theorem OneR.post (hO : SWO lt) {a m b i : Nat} {d d' : Array α} (hs : b ≤ d.size) (hb : b = m + 1) (hp : MPre lt ix a m b d) (h : OneR lt a m i i d) (hr : Rot d i m b d') : MPost lt ix a b d d' := by
  have := h.ai; have := h.jm
  have c : MCut lt a m b i b d := ⟨h.ai, h.jm, by omega, Nat.le_refl _, by omega, fun t k k1 k2 k3 k4 => by rw [show t = m from by omega]; exact h.hi k k3 k4⟩
  have hq := cut_pre hp c hr
  refine cut_post hO hs hp c hr ⟨permIn_refl _ _ _, fun u v h1 h2 h3 => ?_⟩ (MPost.none hq.2 (.inr rfl))
  by_cases k1 : v < i
  · rw [hr.els u (by omega), hr.els v (by omega)]; exact hp.l u v h1 h2 (by omega)
  · have e1 := hr.els u (by omega)
    rw [rot_at hr v (by omega) h3, e1, show m + (v - i) = m from by omega]
    exact lt2_cross (h.lo u h1 (by omega)) (hp.x _ _ h1 (by omega) (Nat.le_refl _) (by omega))
end
end Go.Proofs.Ytaggjclaehigjaa
namespace Go.Proofs.Ytaggjclaehigjaa
open Go.Sort
variable {α : Type} [Inhabited α] {lt : α → α → Bool} {ix : α → Nat}
theorem inner_perm (a : Nat) : ∀ j (d : Array α), a ≤ j → j < d.size → PermIn a (j + 1) d (insInner lt a j d)
  | 0, d, _, _ => permIn_refl _ _ _
  | j + 1, d, ha, hs => by
    rw [insInner]
    split
    · rename_i h
      simp only [Bool.and_eq_true, decide_eq_true_eq] at h
      refine permIn_trans _ _ _ _ _ (swp_permIn d a (j + 1 + 1) (j + 1) j (by omega) (by omega) (by omega) (by omega) (by omega)) ?_
      exact permIn_mono _ _ _ _ _ _ (Nat.le_refl _) (by omega) (by rw [size_swp]; omega) (inner_perm a j _ (by omega) (by rw [size_swp]; omega))
    · exact permIn_refl _ _ _
theorem inner_eq (a : Nat) : ∀ j (d : Array α), j < d.size → (∀ p, a ≤ p → p < j → ix d[p]! < ix d[j]!) → insInner lt a j d = insInner (lt2 lt ix) a j d
  | 0, d, _, _ => rfl
  | j + 1, d, hs, h => by
    rw [insInner, insInner]
    by_cases ha : j + 1 > a
    · have hx := h j (by omega) (by omega)
      have e : lt2 lt ix d[j + 1]! d[j]! = lt d[j + 1]! d[j]! := by
        unfold lt2
        rw [show decide (ix d[j + 1]! < ix d[j]!) = false from decide_eq_false (by omega)]
        simp
      rw [e]
      split
      · refine inner_eq a j _ (by rw [size_swp]; omega) (fun p hp hpj => ?_)
        rw [swp_right _ _ _ (by omega), swp_other _ _ _ _ (by omega) (by omega)]
        exact h p hp (by omega)
      · rfl
    · simp [ha]
theorem out_go (lt : α → α → Bool) (a b i : Nat) (d : Array α) (h : i < b) : insOuter lt a b i d = insOuter lt a b (i + 1) (insInner lt a i d) := by rw [insOuter]; simp [h]
theorem out_stop (lt : α → α → Bool) (a b i : Nat) (d : Array α) (h : ¬ i < b) : insOuter lt a b i d = d := by rw [insOuter]; simp [h]
theorem outer_eq (a b : Nat) (n : Nat) : ∀ i (d : Array α), b - i ≤ n → a ≤ i → b ≤ d.size → (∀ p q, a ≤ p → p < q → i ≤ q → q < b → ix d[p]! < ix d[q]!) → insOuter lt a b i d = insOuter (lt2 lt ix) a b i d := by
  induction n with
  | zero =>
    intro i d hn ha hs h
    rw [out_stop _ _ _ _ _ (show ¬ i < b from by omega), out_stop _ _ _ _ _ (show ¬ i < b from by omega)]
  | succ n ih =>
    intro i d hn ha hs h
    by_cases hi : i < b
    · rw [out_go _ _ _ _ _ hi, out_go (lt2 lt ix) _ _ _ _ hi]
      have e : insInner lt a i d = insInner (lt2 lt ix) a i d := inner_eq a i d (by omega) (fun p hp hpi => h p i hp hpi (Nat.le_refl _) hi)
      rw [← e]
      have hp := inner_perm (lt := lt) a i d ha (by omega)
      refine ih (i + 1) _ (by omega) (by omega) (by rw [hp.1]; exact hs) (fun p q h1 h2 h3 h4 => ?_)
      rw [hp.2.1 q (by omega)]
      by_cases hpi : p < i + 1
      · exact permIn_all d _ a (i + 1) (fun x => ix x < ix d[q]!) (by omega) hp (fun k k1 k2 => h k q k1 (by omega) (by omega) h4) p h1 hpi
      · rw [hp.2.1 p (by omega)]; exact h p q h1 h2 (by omega) h4
    · rw [out_stop _ _ _ _ _ hi, out_stop _ _ _ _ _ hi]
theorem insertion_post (hO : SWO lt) {a b : Nat} {d : Array α} (hab : a ≤ b) (hb : b ≤ d.size) (h : ∀ p q, a ≤ p → p < q → q < b → ix d[p]! < ix d[q]!) : MPost lt ix a b d (insertionSort lt d a b) := by
  have e : insertionSort lt d a b = insertionSort (lt2 lt ix) d a b := by
    unfold insertionSort
    exact outer_eq a b (b - (a + 1)) (a + 1) d (Nat.le_refl _) (by omega) hb (fun p q h1 h2 _ h4 => h p q h1 h2 h4)
  rw [e]
  exact insertionSort_holds (lt2_swo hO ix) d a b hab hb

theorem div_same {B k i : Nat} (h1 : k * B ≤ i) (h2 : i < k * B + B) : i / B = k := by
  apply Nat.div_eq_of_lt_le h1
  rw [Nat.succ_mul]; exact h2
theorem div_less {B k i : Nat} (hB : 0 < B) (h : i < k * B) : i / B < k := (Nat.div_lt_iff_lt_mul hB).2 h
theorem div_more {B k i : Nat} (hB : 0 < B) (h : k * B ≤ i) : k ≤ i / B := (Nat.le_div_iff_mul_le hB).2 h
theorem div_twice {B i j : Nat} (h : i / (2 * B) < j / (2 * B)) : i / B < j / B := by
  rw [show 2 * B = B * 2 from Nat.mul_comm _ _, ← Nat.div_div_eq_div_mul, ← Nat.div_div_eq_div_mul] at h
  omega
/-- the blocks before a are sorted, those behind are as they were -/
structure InsI (lt : α → α → Bool) (ix : α → Nat) (B n a : Nat) (d : Array α) : Prop where
  one : ∀ i j, i < j → j < a → i / B = j / B → lt2 lt ix d[j]! d[i]! = false
  two : ∀ i j, i / B < j / B → j < n → ix d[i]! < ix d[j]!
  three : ∀ i j, a ≤ i → i < j → j < n → ix d[i]! < ix d[j]!
theorem InsI.start {B n : Nat} {d : Array α} (h : ∀ i j, i < j → j < n → ix d[i]! < ix d[j]!) : InsI lt ix B n 0 d :=
  ⟨by omega, fun i j h1 h2 => h i j (by
    by_cases e : i < j
    · exact e
    · have := Nat.div_le_div_right (c := B) (show j ≤ i by omega); omega) h2, fun i j _ h1 h2 => h i j h1 h2⟩
theorem InsI.step {B n k b : Nat} {d d' : Array α} (hB : 0 < B) (hn : n ≤ d.size) (h : InsI lt ix B n (k * B) d) (h1 : k * B ≤ b) (h2 : b = k * B + B ∨ (b = n ∧ n ≤ k * B + B)) (hbn : b ≤ n) (hm : MPost lt ix (k * B) b d d') : InsI lt ix B n b d' := by
  have hp := hm.1
  have blk : ∀ i, k * B ≤ i → i < b → i / B = k := fun i k1 k2 => div_same k1 (by omega)
  refine ⟨fun i j hij hj he => ?_, fun i j he hj => ?_, fun i j hi hij hj => ?_⟩
  · by_cases k1 : j < k * B
    · rw [hp.2.1 i (by omega), hp.2.1 j (by omega)]; exact h.one i j hij k1 he
    · have e := blk j (by omega) hj
      have : k * B ≤ i := by
        by_cases k2 : k * B ≤ i
        · exact k2
        · have := div_less (k := k) (i := i) hB (by omega); omega
      exact hm.2 i j this hij hj
  · by_cases ki : k * B ≤ i ∧ i < b
    · have ei := blk i ki.1 ki.2
      have kj : b ≤ j := by
        by_cases k2 : b ≤ j
        · exact k2
        · by_cases k3 : k * B ≤ j
          · have := blk j k3 (by omega); omega
          · have := div_less (k := k) (i := j) hB (by omega); omega
      rw [hp.2.1 j (.inr kj)]
      exact permIn_all d d' (k * B) b (fun x => ix x < ix d[j]!) (by omega) hp (fun t t1 t2 => h.two t j (by rw [blk t t1 t2]; omega) hj) i ki.1 ki.2
    · rw [hp.2.1 i (by omega)]
      by_cases kj : k * B ≤ j ∧ j < b
      · have ej := blk j kj.1 kj.2
        exact permIn_all d d' (k * B) b (fun x => ix d[i]! < ix x) (by omega) hp (fun t t1 t2 => h.two i t (by rw [blk t t1 t2]; omega) (by omega)) j kj.1 kj.2
      · rw [hp.2.1 j (by omega)]; exact h.two i j he hj
  · rw [hp.2.1 i (by omega), hp.2.1 j (by omega)]; exact h.three i j (by omega) hij hj
/-- sorted blocks -/
structure Blk (lt : α → α → Bool) (ix : α → Nat) (B n : Nat) (d : Array α) : Prop where
  one : ∀ i j, i < j → j < n → i / B = j / B → lt2 lt ix d[j]! d[i]! = false
  two : ∀ i j, i / B < j / B → j < n → ix d[i]! < ix d[j]!
theorem InsI.done {B n : Nat} {d : Array α} (h : InsI lt ix B n n d) : Blk lt ix B n d := ⟨h.one, h.two⟩
theorem Blk.sorted {B n : Nat} {d : Array α} (h : Blk lt ix B n d) (hn : n ≤ B) : SortedIn (lt2 lt ix) 0 n d := fun i j _ hij hj =>
  h.one i j hij hj (by rw [Nat.div_eq_of_lt (by omega), Nat.div_eq_of_lt (by omega)])
/-- the blocks before a are merged by twos -/
structure MrgI (lt : α → α → Bool) (ix : α → Nat) (B n a : Nat) (d : Array α) : Prop where
  one : ∀ i j, i < j → j < a → i / (2 * B) = j / (2 * B) → lt2 lt ix d[j]! d[i]! = false
  two : ∀ i j, i / (2 * B) < j / (2 * B) → j < n → ix d[i]! < ix d[j]!
  three : ∀ i j, a ≤ i → i < j → j < n → i / B = j / B → lt2 lt ix d[j]! d[i]! = false
  four : ∀ i j, a ≤ i → i / B < j / B → j < n → ix d[i]! < ix d[j]!
theorem MrgI.start {B n : Nat} {d : Array α} (h : Blk lt ix B n d) : MrgI lt ix B n 0 d :=
  ⟨by omega, fun i j h1 h2 => h.two i j (div_twice h1) h2, fun i j _ h1 h2 h3 => h.one i j h1 h2 h3, fun i j _ h1 h2 => h.two i j h1 h2⟩
theorem MrgI.pre {B n k b : Nat} {d : Array α} (h : MrgI lt ix B n (k * (2 * B)) d) (hm : k * (2 * B) + B < b) (h2 : b ≤ k * (2 * B) + 2 * B) (hbn : b ≤ n) : MPre lt ix (k * (2 * B)) (k * (2 * B) + B) b d := by
  have e1 : k * (2 * B) = 2 * k * B := by rw [← Nat.mul_assoc, Nat.mul_comm k 2]
  have blk1 : ∀ i, k * (2 * B) ≤ i → i < k * (2 * B) + B → i / B = 2 * k := fun i k1 k2 => div_same (by omega) (by omega)
  have blk2 : ∀ i, k * (2 * B) + B ≤ i → i < b → i / B = 2 * k + 1 := fun i k1 k2 => div_same (by rw [Nat.succ_mul]; omega) (by rw [Nat.succ_mul]; omega)
  exact ⟨fun i j hi hij hj => h.three i j hi hij (by omega) (by rw [blk1 i hi (by omega), blk1 j (by omega) hj]),
    fun i j hi hij hj => h.three i j (by omega) hij (by omega) (by rw [blk2 i hi (by omega), blk2 j (by omega) hj]),
    fun i j hi hi2 hj hj2 => h.four i j hi (by rw [blk1 i hi hi2, blk2 j hj hj2]; omega) (by omega)⟩
theorem MrgI.step {B n k b : Nat} {d d' : Array α} (hB : 0 < B) (hn : n ≤ d.size) (h : MrgI lt ix B n (k * (2 * B)) d) (h1 : k * (2 * B) ≤ b) (h2 : b = k * (2 * B) + 2 * B ∨ (b = n ∧ n ≤ k * (2 * B) + 2 * B)) (hbn : b ≤ n) (hm : MPost lt ix (k * (2 * B)) b d d') : MrgI lt ix B n b d' := by
  have hp := hm.1
  have hB2 : 0 < 2 * B := by omega
  have blk : ∀ i, k * (2 * B) ≤ i → i < b → i / (2 * B) = k := fun i k1 k2 => div_same k1 (by omega)
  refine ⟨fun i j hij hj he => ?_, fun i j he hj => ?_, fun i j hi hij hj he => ?_, fun i j hi he hj => ?_⟩
  · by_cases k1 : j < k * (2 * B)
    · rw [hp.2.1 i (by omega), hp.2.1 j (by omega)]; exact h.one i j hij k1 he
    · have e := blk j (by omega) hj
      have : k * (2 * B) ≤ i := by
        by_cases k2 : k * (2 * B) ≤ i
        · exact k2
        · have := div_less (k := k) (i := i) hB2 (by omega); omega
      exact hm.2 i j this hij hj
  · by_cases ki : k * (2 * B) ≤ i ∧ i < b
    · have ei := blk i ki.1 ki.2
      have kj : b ≤ j := by
        by_cases k2 : b ≤ j
        · exact k2
        · by_cases k3 : k * (2 * B) ≤ j
          · have := blk j k3 (by omega); omega
          · have := div_less (k := k) (i := j) hB2 (by omega); omega
      rw [hp.2.1 j (.inr kj)]
      exact permIn_all d d' (k * (2 * B)) b (fun x => ix x < ix d[j]!) (by omega) hp (fun t t1 t2 => h.two t j (by rw [blk t t1 t2]; omega) hj) i ki.1 ki.2
    · rw [hp.2.1 i (by omega)]
      by_cases kj : k * (2 * B) ≤ j ∧ j < b
      · have ej := blk j kj.1 kj.2
        exact permIn_all d d' (k * (2 * B)) b (fun x => ix d[i]! < ix x) (by omega) hp (fun t t1 t2 => h.two i t (by rw [blk t t1 t2]; omega) (by omega)) j kj.1 kj.2
      · rw [hp.2.1 j (by omega)]; exact h.two i j he hj
  · rw [hp.2.1 i (by omega), hp.2.1 j (by omega)]; exact h.three i j (by omega) hij hj he
  · have : i < j := by
      by_cases e : i < j
      · exact e
      · have := Nat.div_le_div_right (c := B) (show j ≤ i by omega); omega
    rw [hp.2.1 i (by omega), hp.2.1 j (by omega)]; exact h.four i j (by omega) he hj
/-- one block alone is left -/
theorem MrgI.last {B n k : Nat} {d : Array α} (hB : 0 < B) (h : MrgI lt ix B n (k * (2 * B)) d) (h2 : n ≤ k * (2 * B) + B) : Blk lt ix (2 * B) n d := by
  have e1 : k * (2 * B) = 2 * k * B := by rw [← Nat.mul_assoc, Nat.mul_comm k 2]
  have blk1 : ∀ i, k * (2 * B) ≤ i → i < k * (2 * B) + B → i / B = 2 * k := fun i k1 k2 => div_same (by omega) (by omega)
  refine ⟨fun i j hij hj he => ?_, h.two⟩
  by_cases k1 : j < k * (2 * B)
  · exact h.one i j hij k1 he
  · have : k * (2 * B) ≤ i := by
      by_cases k2 : k * (2 * B) ≤ i
      · exact k2
      · have := div_less (i := i) (show 0 < 2 * B by omega) (show i < k * (2 * B) by omega)
        have := div_more (i := j) (show 0 < 2 * B by omega) (show k * (2 * B) ≤ j by omega)
        omega
    exact h.three i j this hij hj (by rw [blk1 i this (by omega), blk1 j (by omega) (by omega)])
theorem MrgI.done {B n : Nat} {d : Array α} (h : MrgI lt ix B n n d) : Blk lt ix (2 * B) n d := ⟨h.one, h.two⟩
end Go.Proofs.Ytaggjclaehigjaa
namespace Go.Proofs.Ytaggjclaehigjaa
open Go.RowKit Go.Sort
variable {α : Type} [Inhabited α]
/-- w' is w but for new blocks and block R -/
def KX (R : Nat) (w w' : World) : Prop := w.heap.size ≤ w'.heap.size ∧ ∀ b, b < w.heap.size → b ≠ R → w'.heap[b]? = w.heap[b]?
theorem KX.refl (R : Nat) (w : World) : KX R w w := ⟨Nat.le_refl _, fun _ _ _ => rfl⟩
theorem KX.ext {R : Nat} {w0 w w' : World} (h : KX R w0 w) (x : Ext w w') : KX R w0 w' := ⟨Nat.le_trans h.1 x.le, fun b hb hR => ((Below.block x b (Nat.lt_of_lt_of_le hb h.1))).trans (h.2 b hb hR)⟩
theorem KX.set {R : Nat} {w0 w : World} (h : KX R w0 w) (i : Nat) (u : Value) : KX R w0 (w.setCell ⟨R, i, none⟩ u) :=
  ⟨by simpa using h.1, fun b hb hR => (Below.heap_setCell w ⟨R, i, none⟩ u b hR).trans (h.2 b hb hR)⟩
/-- W is w0 but for new blocks; the row holds d -/
structure RW (v : α → Value) (w0 : World) (blk off : Nat) (d : Array α) (W : World) : Prop where
  kx : KX blk w0 W
  one : ∀ x, ∃ T u, v x = .iface T u
  same : W.os = w0.os ∧ W.tape = w0.tape ∧ W.output = w0.output
  row : ∀ i, i < d.size → W.cell? ⟨blk, off + i, none⟩ = some ((v d[i]!)) ∧ W.frozen? ⟨blk, off + i, none⟩ = false
variable {v : α → Value} {w0 W : World} {blk off : Nat} {d : Array α}
theorem RW.ext (h : RW v w0 blk off d W) {W' : World} (x : Ext W W') : RW v w0 blk off d W' :=
  ⟨h.kx.ext x, h.one, ⟨x.os.trans h.same.1, x.tape.trans h.same.2.1, x.output.trans h.same.2.2⟩, fun i hi => ⟨x.cell (h.row i hi).1, x.frozen (lt_of_cell (h.row i hi).1) (h.row i hi).2⟩⟩
theorem RW.drew (h : RW v w0 blk off d W) : RW v w0 blk off d W.drew := h.ext (Ext.refl _).drew
theorem RW.swapped (h : RW v w0 blk off d W) (i j : Nat) (hi : i < d.size) (hj : j < d.size) :
    RW v w0 blk off (swp d i j) ((W.setCell ⟨blk, off + i, none⟩ ((v d[j]!))).setCell ⟨blk, off + j, none⟩ ((v d[i]!))).drew := by
  refine RW.drew ⟨(h.kx.set (off + i) _).set (off + j) _, h.one, ⟨h.same.1, h.same.2.1, h.same.2.2⟩, fun k hk => ?_⟩
  rw [size_swp] at hk
  refine ⟨?_, by rw [World.frozen?_setCell, World.frozen?_setCell]; exact (h.row k hk).2⟩
  rw [swp_get d hi hj k]
  by_cases e1 : k = j
  · subst e1
    simp only [if_true]
    have : ∃ u, (W.setCell ⟨blk, off + i, none⟩ ((v d[k]!))).cell? ⟨blk, off + k, none⟩ = some u := by
      by_cases e : i = k
      · subst e; exact ⟨_, World.cell?_setCell_same _ _ _ (h.row i hi).1⟩
      · exact ⟨_, (World.cell?_setCell_other _ _ _ _ (by intro e'; simp only [Addr.mk.injEq] at e'; omega)).trans (h.row k hk).1⟩
    obtain ⟨u, hu⟩ := this
    exact World.cell?_setCell_same _ _ _ hu
  · rw [if_neg e1]
    rw [World.cell?_setCell_other _ _ _ _ (by intro e'; simp only [Addr.mk.injEq] at e'; omega)]
    by_cases e2 : k = i
    · subst e2
      rw [if_pos rfl]
      exact World.cell?_setCell_same _ _ _ (h.row k hk).1
    · rw [if_neg e2]
      exact (World.cell?_setCell_other _ _ _ _ (by intro e'; simp only [Addr.mk.injEq] at e'; omega)).trans (h.row k hk).1
theorem RW.c2 (h : RW v w0 blk off d W) (i j : Nat) (hi : i < d.size) (hj : j < d.size) (u : Value) : ∃ u', (W.setCell ⟨blk, off + i, none⟩ u).cell? ⟨blk, off + j, none⟩ = some u' := by
  by_cases e : i = j
  · subst e; exact ⟨_, World.cell?_setCell_same _ _ _ (h.row i hi).1⟩
  · exact ⟨_, (World.cell?_setCell_other _ _ _ _ (by intro e'; simp only [Addr.mk.injEq] at e'; omega)).trans (h.row j hj).1⟩
set_option maxHeartbeats 4000000 in
set_option maxRecDepth 1000000 in
theorem swapRange_any (blk off cap a b n : Nat) (d : Array α) (w0 w : World) (fv : Value) (S : RW v w0 blk off d w) (hab : a + n ≤ b ∨ b + n ≤ a) (ha : a + n ≤ d.size) (hb : b + n ≤ d.size) (hsz : d.size < 4611686018427387904) :
    Calls Try.prog 144 #[.slice (some ⟨blk, off, none⟩) d.size cap, .int .i64 a, .int .i64 b, .int .i64 n, fv] w fun e w' => e = .returned (.tuple #[]) ∧ ∃ d', RW v w0 blk off d' w' ∧ SwR d a b n d' := by
  go_enter Try.func144, Try.ntmps144
  go_wp2_with fail
  go_loopw [10] (fun x wr => ∃ i : Nat, x = .int .i64 i ∧ i ≤ n ∧ ∃ dk, RW v w0 blk off dk wr ∧ SwR d a b i dk) (fun x _ => n - (intOf x).toNat)
  case atStart => exact ⟨0, rfl, by omega, d, S, SwR.zero _ _ _⟩
  case round =>
    clear S
    obtain ⟨i, rfl, hi, dk, S1, hw⟩ := hrel
    by_cases hlt : i < n
    · have hltz : (i : Int) < (n : Int) := by omega
      have hz := hw.size
      obtain ⟨iN, hiN⟩ : ∃ q, q = a + i := ⟨_, rfl⟩
      obtain ⟨jN, hjN⟩ : ∃ q, q = b + i := ⟨_, rfl⟩
      have ea : ((a : Int) + (i : Int)).toNat = iN := by omega
      have pa : (0 : Int) ≤ (a : Int) + (i : Int) := by omega
      have ba : (a : Int) + (i : Int) < (d.size : Int) := by omega
      have ra : IntKind.i64.wrap ((a : Int) + (i : Int)) = (a : Int) + (i : Int) := by rw [IntKind.wrap_i64]; omega
      have ec : ((b : Int) + (i : Int)).toNat = jN := by omega
      have pc : (0 : Int) ≤ (b : Int) + (i : Int) := by omega
      have bc : (b : Int) + (i : Int) < (d.size : Int) := by omega
      have rc : IntKind.i64.wrap ((b : Int) + (i : Int)) = (b : Int) + (i : Int) := by rw [IntKind.wrap_i64]; omega
      have S2 := Lib.hid (S1.swapped (a + i) (b + i) (by omega) (by omega))
      have hw2 := hw.step (by omega) (by omega) (by omega)
      have c1 := (S1.row (a + i) (by omega)).1
      have c2 := (S1.row (b + i) (by omega)).1
      have f1 := (S1.row (a + i) (by omega)).2
      have f2 := (S1.row (b + i) (by omega)).2
      obtain ⟨u, c3⟩ := S1.c2 (a + i) (b + i) (by omega) (by omega) ((v dk[b + i]!))
      obtain ⟨x, ux, hx⟩ := S1.one (dk[a + i]!)
      replace hx := hx.symm
      obtain ⟨y, uy, hy⟩ := S1.one (dk[b + i]!)
      replace hy := hy.symm
      have S2 := S2.out
      rw [← hx, ← hy, ← hiN, ← hjN] at S2
      rw [← hy, ← hiN, ← hjN] at c3
      rw [← hx, ← hiN] at c1
      rw [← hy, ← hjN] at c2
      rw [← hiN] at f1
      rw [← hjN] at f2
      rw [← hiN, ← hjN] at hw2
      have S2 := Lib.hid S2
      have hw2 := Lib.hid hw2
      clear S1 hx hy hiN hjN hw
      go_wp2_with fail
      have mixed : Try.prog.follows .mixedOrders = true := by kernel_rfl
      go_big_region_o
      clear mixed
      clear c1 c2 c3 f1 f2
      generalize ((wr.setCell ⟨blk, off + iN, none⟩ (.iface y uy)).setCell ⟨blk, off + jN, none⟩ (.iface x ux)).drew = w2 at S2 ⊢
      clear ea ec
      go_wp2
      exact ⟨⟨i + 1, by simp, by omega, _, S2.out, hw2.out⟩, by simp [intOf]; omega⟩
    · obtain rfl : i = n := by omega
      go_wp2_with fail
      go_end0
      exact ⟨rfl, dk, S1, hw⟩
set_option maxHeartbeats 4000000 in
set_option maxRecDepth 1000000 in
theorem rotate_any (blk off cap a m b : Nat) (d : Array α) (w0 w : World) (fv : Value) (S : RW v w0 blk off d w) (ham : a < m) (hmb : m < b) (hb : b ≤ d.size) (hsz : d.size < 4611686018427387904) :
    Calls Try.prog 133 #[.slice (some ⟨blk, off, none⟩) d.size cap, .int .i64 a, .int .i64 m, .int .i64 b, fv] w fun e w' => e = .returned (.tuple #[]) ∧ ∃ d', RW v w0 blk off d' w' ∧ Rot d a m b d' := by
  go_enter Try.func133, Try.ntmps133
  go_wp2_with fail
  go_loopw [10, 11] (fun x y wr => ∃ i j : Nat, x = .int .i64 i ∧ y = .int .i64 j ∧ 0 < i ∧ 0 < j ∧ i ≤ m ∧ m + j ≤ d.size ∧ ∃ dk, RW v w0 blk off dk wr ∧ dk.size = d.size ∧ Hid (∀ d', Rot dk (m - i) m (m + j) d' → Rot d a m b d')) (fun x y _ => (intOf x).toNat + (intOf y).toNat)
  case atStart => exact ⟨m - a, b - m, by congr 1; omega, by congr 1; omega, by omega, by omega, by omega, by omega, d, S, rfl, fun d' h => by rwa [show m - (m - a) = a from by omega, show m + (b - m) = b from by omega] at h⟩
  case round =>
    clear S
    obtain ⟨i, j, rfl, rfl, hi, hj, him, hjs, dk, S1, hz, HR⟩ := hrel
    have e1 : (m : Int) - (i : Int) = ((m - i : Nat) : Int) := by omega
    by_cases hne : i = j
    · subst hne
      go_wp2_with fail
      rw [← hz]
      (try rw [e1])
      with_reducible refine (swapRange_any blk off cap (m - i) m i dk w0 _ _ S1 (by omega) (by omega) (by omega) (by omega)).mono ?_
      rintro en w2 ⟨rfl, d2, S2, hs2⟩
      go_wp2_with fail
      go_end0
      exact ⟨rfl, d2, S2, HR.out _ (rot_eq hs2 him (by omega))⟩
    · have hnez : ¬ (i : Int) = (j : Int) := by omega
      by_cases hlt : j < i
      · have hltz : (j : Int) < (i : Int) := by omega
        go_wp2_with fail
        rw [← hz]
        (try rw [e1])
        with_reducible refine (swapRange_any blk off cap (m - i) m j dk w0 _ _ S1 (by omega) (by omega) (by omega) (by omega)).mono ?_
        rintro en w2 ⟨rfl, d2, S2, hs2⟩
        go_wp2_with fail
        exact ⟨⟨i - j, j, by congr 1; omega, rfl, by omega, hj, by omega, hjs, d2, S2, hs2.size.trans hz, fun d' h => HR.out _ (rot_gt hlt him (by omega) hs2 h)⟩, by simp [intOf]; omega⟩
      · have hltz : ¬ (j : Int) < (i : Int) := by omega
        have e2 : (m : Int) + (j : Int) - (i : Int) = ((m + j - i : Nat) : Int) := by omega
        go_wp2_with fail
        rw [← hz]
        (try rw [e1])
        (try rw [e2])
        with_reducible refine (swapRange_any blk off cap (m - i) (m + j - i) i dk w0 _ _ S1 (by omega) (by omega) (by omega) (by omega)).mono ?_
        rintro en w2 ⟨rfl, d2, S2, hs2⟩
        go_wp2_with fail
        exact ⟨⟨i, j - i, rfl, by congr 1; omega, hi, by omega, him, by omega, d2, S2, hs2.size.trans hz, fun d' h => HR.out _ (rot_lt (by omega) him (by omega) hs2 h)⟩, by simp [intOf]; omega⟩
end Go.Proofs.Ytaggjclaehigjaa
namespace Go.Proofs.Ytaggjclaehigjaa
open Go.RowKit Go.Sort
variable {α : Type} [Inhabited α]
theorem regrow2 {P : Program} {f : FuncId} {args : Array Value} {w : World} {v : Value} (h : ∀ w', Ext w w' → Calls P f args w' (fun e w'' => e = .returned v ∧ Ext w' w'')) (x : Nat) (os : Array Obj) :
    Calls P f args (grow (redrawn w x) os) fun e w'' => e = .returned v ∧ ∃ p : Regrown, w'' = grow (redrawn w p.d) p.os := Calls.regrown_of (h _ (below_regrown w x os))
/-- what is asked of cmp -/
def CmpOk (v : α → Value) (cf : α → α → Int) (w0 : World) (blk off n : Nat) : Prop :=
  ∀ W (d' : Array α), d'.size = n → RW v w0 blk off d' W → ∀ x y, Calls Try.prog 97 #[(v x), (v y)] W fun e w' => e = .returned (.int .i64 (cf x y)) ∧ Ext W w'
theorem CmpOk.re {v : α → Value} {cf : α → α → Int} {w0 : World} {blk off n : Nat} (h : CmpOk v cf w0 blk off n) {W : World} {d : Array α} (hs : d.size = n) (S : RW v w0 blk off d W) (x y : α) (k : Nat) (os : Array Obj) :
    Calls Try.prog 97 #[(v x), (v y)] (grow (redrawn W k) os) fun e w'' => e = .returned (.int .i64 (cf x y)) ∧ ∃ p : Regrown, w'' = grow (redrawn W p.d) p.os :=
  regrow2 (fun w' hw => h w' d hs (S.ext hw) x y) k os
theorem RW.cl {v : α → Value} {w0 W : World} {blk off : Nat} {d : Array α} (h : RW v w0 blk off d W) (i : Nat) (hi : i < d.size) (k : Nat) (os : Array Obj) : (grow (redrawn W k) os).cell? ⟨blk, off + i, none⟩ = some ((v d[i]!)) := cell_regrown (h.row i hi).1 k os
set_option maxHeartbeats 16000000 in
set_option maxRecDepth 1000000 in
theorem symMerge1 (v : α → Value) (cf : α → α → Int) (ix : α → Nat) (hO : SWO (ltOf cf)) (blk off cap : Nat) (w0 : World) (N : Nat) (hC : CmpOk v cf w0 blk off N) (hsz : N < 4611686018427387904)
    (a m b : Nat) (d : Array α) (w : World) (hN : d.size = N) (hmb : m < b) (hb : b ≤ N) (S : RW v w0 blk off d w) (hp : MPre (ltOf cf) ix a m b d) (hm : m = a + 1) :
    Calls Try.prog 130 #[.slice (some ⟨blk, off, none⟩) N cap, .int .i64 a, .int .i64 m, .int .i64 b, .func (.func 97) #[] #[]] w fun e w' => e = .returned (.tuple #[]) ∧ ∃ d', RW v w0 blk off d' w' ∧ MPost (ltOf cf) ix a b d d' := by
  have HC := Lib.hid hC
  have HP := Lib.hid hp
  clear hC hp
  have e0 : (m : Int) - (a : Int) = 1 := by omega
  have HM := Lib.hid hm
  clear hm
  go_enter Try.func130, Try.ntmps130
  go_wp2_with fail
  go_loopw [10, 11] (fun x y wr => ∃ i j : Nat, x = .int .i64 i ∧ y = .int .i64 j ∧ Hid (OneL (ltOf cf) a m b i j d) ∧ RW v w0 blk off d wr) (fun x y _ => (intOf y).toNat - (intOf x).toNat)
  case atStart => exact ⟨m, b, rfl, rfl, ⟨Nat.le_refl _, by omega, Nat.le_refl _, by omega, by omega⟩, S⟩
  case round =>
    clear S
    obtain ⟨i, j, rfl, rfl, HL, S1⟩ := hrel
    by_cases hlt : i < j
    · have hltz : (i : Int) < (j : Int) := by omega
      have b1 := HL.out.mi
      have b2 := HL.out.jb
      obtain ⟨h, hh⟩ : ∃ h, (i + j) / 2 = h := ⟨_, rfl⟩
      have hhz : ((i : Int) + (j : Int)) / 2 = (h : Int) := by omega
      have bh : (h : Int) < (N : Int) := by omega
      have ba : (a : Int) < (N : Int) := by omega
      obtain ⟨x, hx⟩ : ∃ x, d[h]! = x := ⟨_, rfl⟩
      obtain ⟨y, hy⟩ : ∃ y, d[a]! = y := ⟨_, rfl⟩
      have l1 := S1.cl h (by omega)
      have l2 := S1.cl a (by omega)
      have cc := HC.out.re hN S1 d[h]! d[a]!
      rw [hx] at l1
      rw [hy] at l2
      rw [hx, hy] at cc
      cases hL : ltOf cf x y with
      | true =>
        have hd : decide (cf x y < 0) = true := hL
        have hd2 : cf x y < 0 := of_decide_eq_true hd
        have HL2 := Lib.hid (HL.out.up hO HP.out hlt (by rw [hh, hx, hy]; exact hL))
        rw [hh] at HL2
        clear hL hx hy hh b1 b2
        go_wp2_with fail
        refine wp_region_quiet_below (by kernel_rfl) (by kernel_rfl) ?_
        repeat (quiet_step (with_reducible exact cc _ _))
        refine wpQuiet_nil ?_
        intro _ hw'
        obtain ⟨⟨dq, osq⟩, hw''⟩ := hw'
        subst hw''
        have S2 := S1.ext (below_regrown wr dq osq)
        change Exit.then _ _ Exit.normal _ (grow (redrawn wr dq) osq)
        generalize grow (redrawn wr dq) osq = w2 at S2 ⊢
        clear l1 l2 cc S1
        go_wp2_with fail
        go_round
        case rel => exact ⟨h + 1, j, by simp, rfl, HL2.out, S2⟩
        case measure => simp [intOf]; omega
      | false =>
        have hd : decide (cf x y < 0) = false := hL
        have hd2 : ¬ cf x y < 0 := of_decide_eq_false hd
        have HL2 := Lib.hid (HL.out.down hO HP.out hlt (by rw [hh, hx, hy]; exact hL))
        rw [hh] at HL2
        clear hL hx hy b1 b2
        go_wp2_with fail
        refine wp_region_quiet_below (by kernel_rfl) (by kernel_rfl) ?_
        repeat (quiet_step (with_reducible exact cc _ _))
        refine wpQuiet_nil ?_
        intro _ hw'
        obtain ⟨⟨dq, osq⟩, hw''⟩ := hw'
        subst hw''
        have S2 := S1.ext (below_regrown wr dq osq)
        change Exit.then _ _ Exit.normal _ (grow (redrawn wr dq) osq)
        generalize grow (redrawn wr dq) osq = w2 at S2 ⊢
        clear l1 l2 cc S1
        go_wp2_with fail
        go_round
        case rel => exact ⟨i, h, rfl, rfl, HL2.out, S2⟩
        case measure => simp [intOf]; omega
    · have hltz : ¬ (i : Int) < (j : Int) := by omega
      have b1 := HL.out.mi
      have b2 := HL.out.ij
      have b3 := HL.out.jb
      obtain rfl : i = j := by omega
      clear b2 hlt hltz
      go_wp2_with fail
      go_loopw [13] (fun x wt => ∃ k : Nat, x = .int .i64 k ∧ a ≤ k ∧ k + 1 ≤ i ∧ ∃ dk, RW v w0 blk off dk wt ∧ Hid (Rot d a (a + 1) (k + 1) dk)) (fun x _ => i - (intOf x).toNat)
      case atStart => exact ⟨a, rfl, Nat.le_refl _, by have := HM.out; omega, d, S1, rot_none_right _ _ _⟩
      case round =>
        clear S1
        obtain ⟨k, rfl, hak, hki, dk, S1, HR⟩ := hrel
        have hz := HR.out.size
        by_cases hlt : k + 1 < i
        · have hltz : (k : Int) < (i : Int) - 1 := by omega
          obtain ⟨iN, hiN⟩ : ∃ q, q = k := ⟨_, rfl⟩
          obtain ⟨jN, hjN⟩ : ∃ q, q = k + 1 := ⟨_, rfl⟩
          have ea : ((k : Int)).toNat = iN := by omega
          have pa : (0 : Int) ≤ (k : Int) := by omega
          have ba : (k : Int) < (N : Int) := by omega
          have ra : IntKind.i64.wrap ((k : Int)) = (k : Int) := by rw [IntKind.wrap_i64]; omega
          have ec : ((k : Int) + 1).toNat = jN := by omega
          have pc : (0 : Int) ≤ (k : Int) + 1 := by omega
          have bc : (k : Int) + 1 < (N : Int) := by omega
          have rc : IntKind.i64.wrap ((k : Int) + 1) = (k : Int) + 1 := by rw [IntKind.wrap_i64]; omega
          have S2 := S1.swapped (k) (k + 1) (by omega) (by omega)
          have hw2 := rot_up HR.out hak (by omega)
          have cc1 := (S1.row (k) (by omega)).1
          have cc2 := (S1.row (k + 1) (by omega)).1
          have f1 := (S1.row (k) (by omega)).2
          have f2 := (S1.row (k + 1) (by omega)).2
          obtain ⟨u, cc3⟩ := S1.c2 (k) (k + 1) (by omega) (by omega) ((v dk[k + 1]!))
          obtain ⟨x, ux, hx⟩ := S1.one (dk[k]!)
          replace hx := hx.symm
          obtain ⟨y, uy, hy⟩ := S1.one (dk[k + 1]!)
          replace hy := hy.symm
          rw [← hx, ← hy, ← hjN, ← hiN] at S2
          rw [← hy, ← hjN, ← hiN] at cc3
          rw [← hx, ← hiN] at cc1
          rw [← hy, ← hjN] at cc2
          rw [← hiN] at f1
          rw [← hjN] at f2
          have S2 := Lib.hid S2
          have hw2 := Lib.hid hw2
          have HI := Lib.hid hiN
          have HJ := Lib.hid hjN
          clear S1 hx hy hiN hjN
          go_wp2_with fail
          have mixed : Try.prog.follows .mixedOrders = true := by kernel_rfl
          go_big_region_o
          clear mixed cc1 cc2 cc3 f1 f2
          generalize ((wr.setCell ⟨blk, off + iN, none⟩ (.iface y uy)).setCell ⟨blk, off + jN, none⟩ (.iface x ux)).drew = w2 at S2 ⊢
          clear ea ec
          go_wp2
          go_round
          case rel => exact ⟨k + 1, by simp, by omega, by omega, _, S2.out, by rw [HI.out, HJ.out]; exact hw2⟩
          case measure => simp [intOf]; omega
        · have hltz : ¬ (k : Int) < (i : Int) - 1 := by omega
          obtain rfl : i = k + 1 := by omega
          have hm := HM.out
          go_wp2_with fail
          refine bodyPost_ret (results_none rfl _ _ _) rfl ?_
          exact ⟨rfl, dk, S1, HL.out.post hO (by omega) HM.out HP.out (by rw [HM.out]; exact HR.out)⟩
set_option maxHeartbeats 16000000 in
set_option maxRecDepth 1000000 in
theorem symMerge2 (v : α → Value) (cf : α → α → Int) (ix : α → Nat) (hO : SWO (ltOf cf)) (blk off cap : Nat) (w0 : World) (N : Nat) (hC : CmpOk v cf w0 blk off N) (hsz : N < 4611686018427387904)
    (a m b : Nat) (d : Array α) (w : World) (hN : d.size = N) (ham : a < m) (hb : b ≤ N) (S : RW v w0 blk off d w) (hp : MPre (ltOf cf) ix a m b d) (hm : m ≠ a + 1) (hbm : b = m + 1) :
    Calls Try.prog 130 #[.slice (some ⟨blk, off, none⟩) N cap, .int .i64 a, .int .i64 m, .int .i64 b, .func (.func 97) #[] #[]] w fun e w' => e = .returned (.tuple #[]) ∧ ∃ d', RW v w0 blk off d' w' ∧ MPost (ltOf cf) ix a b d d' := by
  have HC := Lib.hid hC
  have HP := Lib.hid hp
  clear hC hp
  have e0 : ((m : Int) - (a : Int) == 1) = false := by rw [beq_eq_false_iff_ne]; omega
  have e0' : ¬ (m : Int) - (a : Int) = 1 := by omega
  have e1 : (b : Int) - (m : Int) = 1 := by omega
  have HM := Lib.hid hbm
  clear hm hbm
  go_enter Try.func130, Try.ntmps130
  go_wp2_with fail
  go_loopw [14, 15] (fun x y wr => ∃ i j : Nat, x = .int .i64 i ∧ y = .int .i64 j ∧ Hid (OneR (ltOf cf) a m i j d) ∧ RW v w0 blk off d wr) (fun x y _ => (intOf y).toNat - (intOf x).toNat)
  case atStart => exact ⟨a, m, rfl, rfl, ⟨Nat.le_refl _, by omega, Nat.le_refl _, by omega, by omega⟩, S⟩
  case round =>
    clear S
    obtain ⟨i, j, rfl, rfl, HL, S1⟩ := hrel
    have b1 := HL.out.ai
    have b2 := HL.out.ij
    have b3 := HL.out.jm
    have hmN : m < N := by have := HM.out; omega
    by_cases hlt : i < j
    · have hltz : (i : Int) < (j : Int) := by omega
      obtain ⟨h, hh⟩ : ∃ h, (i + j) / 2 = h := ⟨_, rfl⟩
      have hhz : ((i : Int) + (j : Int)) / 2 = (h : Int) := by omega
      have bh : (h : Int) < (N : Int) := by omega
      have ba : (m : Int) < (N : Int) := by omega
      obtain ⟨x, hx⟩ : ∃ x, d[m]! = x := ⟨_, rfl⟩
      obtain ⟨y, hy⟩ : ∃ y, d[h]! = y := ⟨_, rfl⟩
      have l1 := S1.cl m (by omega)
      have l2 := S1.cl h (by omega)
      have cc := HC.out.re hN S1 d[m]! d[h]!
      rw [hx] at l1
      rw [hy] at l2
      rw [hx, hy] at cc
      cases hL : ltOf cf x y with
      | false =>
        have hd : decide (cf x y < 0) = false := hL
        have hd2 : ¬ cf x y < 0 := of_decide_eq_false hd
        have HL2 := Lib.hid (HL.out.up hO HP.out hlt (by rw [hh, hx, hy]; exact hL))
        rw [hh] at HL2
        clear hL hx hy hh b1 b2 b3
        go_wp2_with fail
        refine wp_region_quiet_below (by kernel_rfl) (by kernel_rfl) ?_
        repeat (quiet_step (with_reducible exact cc _ _))
        refine wpQuiet_nil ?_
        intro _ hw'
        obtain ⟨⟨dq, osq⟩, hw''⟩ := hw'
        subst hw''
        have S2 := S1.ext (below_regrown wr dq osq)
        change Exit.then _ _ Exit.normal _ (grow (redrawn wr dq) osq)
        generalize grow (redrawn wr dq) osq = w2 at S2 ⊢
        clear l1 l2 cc S1
        go_wp2_with fail
        go_round
        case rel => exact ⟨h + 1, j, by simp, rfl, HL2.out, S2⟩
        case measure => simp [intOf]; omega
      | true =>
        have hd : decide (cf x y < 0) = true := hL
        have hd2 : cf x y < 0 := of_decide_eq_true hd
        have HL2 := Lib.hid (HL.out.down hO HP.out hlt (by rw [hh, hx, hy]; exact hL))
        rw [hh] at HL2
        clear hL hx hy b1 b2 b3
        go_wp2_with fail
        refine wp_region_quiet_below (by kernel_rfl) (by kernel_rfl) ?_
        repeat (quiet_step (with_reducible exact cc _ _))
        refine wpQuiet_nil ?_
        intro _ hw'
        obtain ⟨⟨dq, osq⟩, hw''⟩ := hw'
        subst hw''
        have S2 := S1.ext (below_regrown wr dq osq)
        change Exit.then _ _ Exit.normal _ (grow (redrawn wr dq) osq)
        generalize grow (redrawn wr dq) osq = w2 at S2 ⊢
        clear l1 l2 cc S1
        go_wp2_with fail
        go_round
        case rel => exact ⟨i, h, rfl, rfl, HL2.out, S2⟩
        case measure => simp [intOf]; omega
    · have hltz : ¬ (i : Int) < (j : Int) := by omega
      obtain rfl : i = j := by omega
      clear b2 hlt hltz
      go_wp2_with fail
      go_loopw [17] (fun x wt => ∃ k : Nat, x = .int .i64 k ∧ i ≤ k ∧ k ≤ m ∧ ∃ dk, RW v w0 blk off dk wt ∧ Hid (Rot d k m (m + 1) dk)) (fun x _ => (intOf x).toNat)
      case atStart => exact ⟨m, rfl, b3, Nat.le_refl _, d, S1, rot_none_left _ _ _⟩
      case round =>
        clear S1
        obtain ⟨k, rfl, hik, hkm, dk, S1, HR⟩ := hrel
        have hz := HR.out.size
        by_cases hlt : i < k
        · have hltz : (i : Int) < (k : Int) := by omega
          have hw0 : Rot d (k - 1) m (m + 1) (swp dk k (k - 1)) := by
            have h := rot_down (k := k - 1) (d' := dk) (d := d) (m := m) (by rw [show k - 1 + 1 = k from by omega]; exact HR.out) (by omega) (by omega)
            rwa [show k - 1 + 1 = k from by omega] at h
          obtain ⟨iN, hiN⟩ : ∃ q, q = k := ⟨_, rfl⟩
          obtain ⟨jN, hjN⟩ : ∃ q, q = k - 1 := ⟨_, rfl⟩
          have ea : ((k : Int)).toNat = iN := by omega
          have pa : (0 : Int) ≤ (k : Int) := by omega
          have ba : (k : Int) < (N : Int) := by omega
          have ra : IntKind.i64.wrap ((k : Int)) = (k : Int) := by rw [IntKind.wrap_i64]; omega
          have ec : ((k : Int) - 1).toNat = jN := by omega
          have pc : (0 : Int) ≤ (k : Int) - 1 := by omega
          have bc : (k : Int) - 1 < (N : Int) := by omega
          have rc : IntKind.i64.wrap ((k : Int) - 1) = (k : Int) - 1 := by rw [IntKind.wrap_i64]; omega
          have S2 := S1.swapped (k) (k - 1) (by omega) (by omega)
          have hw2 := hw0
          clear hw0
          have cc1 := (S1.row (k) (by omega)).1
          have cc2 := (S1.row (k - 1) (by omega)).1
          have f1 := (S1.row (k) (by omega)).2
          have f2 := (S1.row (k - 1) (by omega)).2
          obtain ⟨u, cc3⟩ := S1.c2 (k) (k - 1) (by omega) (by omega) ((v dk[k - 1]!))
          obtain ⟨x, ux, hx⟩ := S1.one (dk[k]!)
          replace hx := hx.symm
          obtain ⟨y, uy, hy⟩ := S1.one (dk[k - 1]!)
          replace hy := hy.symm
          rw [← hx, ← hy, ← hjN, ← hiN] at S2
          rw [← hy, ← hjN, ← hiN] at cc3
          rw [← hx, ← hiN] at cc1
          rw [← hy, ← hjN] at cc2
          rw [← hiN] at f1
          rw [← hjN] at f2
          have S2 := Lib.hid S2
          have hw2 := Lib.hid hw2
          have HI := Lib.hid hiN
          have HJ := Lib.hid hjN
          clear S1 hx hy hiN hjN
          go_wp2_with fail
          have mixed : Try.prog.follows .mixedOrders = true := by kernel_rfl
          go_big_region_o
          clear mixed cc1 cc2 cc3 f1 f2
          generalize ((wr.setCell ⟨blk, off + iN, none⟩ (.iface y uy)).setCell ⟨blk, off + jN, none⟩ (.iface x ux)).drew = w2 at S2 ⊢
          clear ea ec
          go_wp2
          go_round
          case rel => exact ⟨k - 1, by congr 1; omega, by omega, by omega, _, S2.out, by rw [HI.out, HJ.out]; exact hw2⟩
          case measure => simp [intOf]; omega
        · have hltz : ¬ (i : Int) < (k : Int) := by omega
          obtain rfl : i = k := by omega
          go_wp2_with fail
          refine bodyPost_ret (results_none rfl _ _ _) rfl ?_
          exact ⟨rfl, dk, S1, HL.out.post hO (by omega) HM.out HP.out (by rw [HM.out]; exact HR.out)⟩
end Go.Proofs.Ytaggjclaehigjaa
namespace Go.Proofs.Ytaggjclaehigjaa
open Go.RowKit Go.Sort
variable {α : Type} [Inhabited α]
theorem mpre_keep {lt : α → α → Bool} {ix : α → Nat} {a m e b : Nat} {d1 d2 : Array α} (he : m ≤ e) (h : MPre lt ix m e b d1) (k : MPost lt ix a m d1 d2) : MPre lt ix m e b d2 := by
  have eq : ∀ i, m ≤ i → d2[i]! = d1[i]! := fun i hi => k.1.2.1 i (.inr hi)
  refine ⟨fun i j hi hij hj => ?_, fun i j hi hij hj => ?_, fun i j hi hi2 hj hj2 => ?_⟩
  · rw [eq i hi, eq j (by omega)]; exact h.l i j hi hij hj
  · rw [eq i (by omega), eq j (by omega)]; exact h.r i j hi hij hj
  · rw [eq i hi, eq j (by omega)]; exact h.x i j hi hi2 hj hj2
set_option maxHeartbeats 16000000 in
set_option maxRecDepth 1000000 in
theorem symMerge_step (v : α → Value) (cf : α → α → Int) (ix : α → Nat) (hO : SWO (ltOf cf)) (blk off cap : Nat) (w0 : World) (N : Nat) (hC : CmpOk v cf w0 blk off N) (hsz : N < 4611686018427387904)
    (a m b : Nat) (d : Array α) (w : World) (hN : d.size = N) (ham : a < m) (hmb : m < b) (hb : b ≤ N) (S : RW v w0 blk off d w) (hp : MPre (ltOf cf) ix a m b d) (hm : m ≠ a + 1) (hbm : b ≠ m + 1)
    (ih : ∀ (a' m' b' : Nat) (d' : Array α) (w' : World), b' - a' < b - a → d'.size = N → a' < m' → m' < b' → b' ≤ N → RW v w0 blk off d' w' → MPre (ltOf cf) ix a' m' b' d' →
      Calls Try.prog 130 #[.slice (some ⟨blk, off, none⟩) N cap, .int .i64 a', .int .i64 m', .int .i64 b', .func (.func 97) #[] #[]] w' fun e w'' => e = .returned (.tuple #[]) ∧ ∃ d'', RW v w0 blk off d'' w'' ∧ MPost (ltOf cf) ix a' b' d' d'') :
    Calls Try.prog 130 #[.slice (some ⟨blk, off, none⟩) N cap, .int .i64 a, .int .i64 m, .int .i64 b, .func (.func 97) #[] #[]] w fun e w' => e = .returned (.tuple #[]) ∧ ∃ d', RW v w0 blk off d' w' ∧ MPost (ltOf cf) ix a b d d' := by
  have HC := Lib.hid hC
  have HP := Lib.hid hp
  have IH := Lib.hid ih
  clear hC hp ih
  have e0 : ((m : Int) - (a : Int) == 1) = false := by rw [beq_eq_false_iff_ne]; omega
  have e0' : ¬ (m : Int) - (a : Int) = 1 := by omega
  have e1 : ((b : Int) - (m : Int) == 1) = false := by rw [beq_eq_false_iff_ne]; omega
  have e1' : ¬ (b : Int) - (m : Int) = 1 := by omega
  have hB := Lib.hid (sm_bounds ham hmb)
  obtain ⟨mid, hmid⟩ : ∃ q, (a + b) / 2 = q := ⟨_, rfl⟩
  have hmz : ((a : Int) + (b : Int)) / 2 = (mid : Int) := by omega
  obtain ⟨s0, hs0⟩ : ∃ q, smS0 a m b = q := ⟨_, rfl⟩
  obtain ⟨r0, hr0⟩ : ∃ q, smR0 a m b = q := ⟨_, rfl⟩
  have HS0 : Hid (s0 = if mid < m then mid + m - b else a) := by unfold Hid; rw [← hs0, ← hmid]; rfl
  have HR0 : Hid (r0 = if mid < m then mid else m) := by unfold Hid; rw [← hr0, ← hmid]; rfl
  have hB := hB.out
  rw [hs0, hr0, hmid] at hB
  have HB := Lib.hid hB
  clear hB hm hbm
  have HMID := Lib.hid hmid
  have HSE := Lib.hid hs0
  have HRE := Lib.hid hr0
  clear hmid hs0 hr0
  go_enter Try.func130, Try.ntmps130
  go_upto_if 140 with fail
  go_cut [20, 21] (fun x y wx => x = .int .i64 s0 ∧ y = .int .i64 r0 ∧ wx = w)
  case first =>
    by_cases hmm : mid < m
    · have hmmz : (mid : Int) < (m : Int) := by omega
      go_wp2_with fail
      go_meet
      have h1 := HS0.out
      have h2 := HR0.out
      rw [if_pos hmm] at h1 h2
      exact ⟨by congr 1; omega, by congr 1; omega, rfl⟩
    · have hmmz : ¬ (mid : Int) < (m : Int) := by omega
      go_wp2_with fail
      go_meet
      have h1 := HS0.out
      have h2 := HR0.out
      rw [if_neg hmm] at h1 h2
      exact ⟨by congr 1; omega, by congr 1; omega, rfl⟩
  case rest =>
  obtain ⟨rfl, rfl, rfl⟩ := hcut
  go_wp2_with fail
  go_loopw [20, 21] (fun x y wr => ∃ s r : Nat, x = .int .i64 s ∧ y = .int .i64 r ∧ Hid (SmS (ltOf cf) ((a + b) / 2 + m - 1) (smS0 a m b) (smR0 a m b) s r d) ∧ RW v w0 blk off d wr) (fun x y _ => (intOf y).toNat - (intOf x).toNat)
  case atStart => exact ⟨s0, r0, rfl, rfl, by have := SmS.start (lt := ltOf cf) ham hmb d; rwa [HSE.out, HRE.out] at this ⊢, S⟩
  case round =>
    clear S
    obtain ⟨s, r, rfl, rfl, HL, S1⟩ := hrel
    have hb1 := HL.out.s0s
    have hb2 := HL.out.sr
    have hb3 := HL.out.rr
    rw [HSE.out] at hb1
    rw [HRE.out] at hb3
    obtain ⟨g1, g2, g3, g4, g5, g6, g7⟩ := HB.out
    by_cases hlt : s < r
    · have hltz : (s : Int) < (r : Int) := by omega
      obtain ⟨c, hc⟩ : ∃ c, (s + r) / 2 = c := ⟨_, rfl⟩
      have hcz : ((s : Int) + (r : Int)) / 2 = (c : Int) := by omega
      obtain ⟨q, hq⟩ : ∃ q, mid + m - 1 - c = q := ⟨_, rfl⟩
      have hqz : (mid : Int) + (m : Int) - 1 - (c : Int) = (q : Int) := by omega
      have wq : IntKind.i64.wrap (q : Int) = (q : Int) := by rw [IntKind.wrap_i64]; omega
      have bq : (q : Int) < (N : Int) := by omega
      have bc : (c : Int) < (N : Int) := by omega
      obtain ⟨x, hx⟩ : ∃ x, d[q]! = x := ⟨_, rfl⟩
      obtain ⟨y, hy⟩ : ∃ y, d[c]! = y := ⟨_, rfl⟩
      have l1 := S1.cl q (by omega)
      have l2 := S1.cl c (by omega)
      have cc := HC.out.re hN S1 d[q]! d[c]!
      have hxx : d[(a + b) / 2 + m - 1 - (s + r) / 2]! = x := by rw [HMID.out, hc, hq, hx]
      have hyy : d[(s + r) / 2]! = y := by rw [hc, hy]
      rw [hx] at l1
      rw [hy] at l2
      rw [hx, hy] at cc
      clear g1 g2 g3 g4 g5 g6 g7 hx hy
      cases hL : ltOf cf x y with
      | false =>
        have hd : decide (cf x y < 0) = false := hL
        have hd2 : ¬ cf x y < 0 := of_decide_eq_false hd
        have HL2 := Lib.hid (HL.out.up hO ham hmb HP.out hlt (by rw [hxx, hyy]; exact hL))
        rw [hc] at HL2
        have bsc : s ≤ c ∧ c < r := by omega
        clear hL hxx hyy hc hq hb1 hb2 hb3
        go_wp2_with fail
        refine wp_region_quiet_below (by kernel_rfl) (by kernel_rfl) ?_
        repeat (quiet_step (with_reducible exact cc _ _))
        refine wpQuiet_nil ?_
        intro _ hw'
        obtain ⟨⟨dq, osq⟩, hw''⟩ := hw'
        subst hw''
        have S2 := S1.ext (below_regrown wr dq osq)
        change Exit.then _ _ Exit.normal _ (grow (redrawn wr dq) osq)
        generalize grow (redrawn wr dq) osq = w2 at S2 ⊢
        clear l1 l2 cc S1
        go_wp2_with fail
        go_round
        case rel => exact ⟨c + 1, r, by simp, rfl, HL2.out, S2⟩
        case measure => simp [intOf]; omega
      | true =>
        have hd : decide (cf x y < 0) = true := hL
        have hd2 : cf x y < 0 := of_decide_eq_true hd
        have HL2 := Lib.hid (HL.out.down hO ham hmb HP.out hlt (by rw [hxx, hyy]; exact hL))
        rw [hc] at HL2
        have bsc : s ≤ c ∧ c < r := by omega
        clear hL hxx hyy hc hq hb1 hb2 hb3
        go_wp2_with fail
        refine wp_region_quiet_below (by kernel_rfl) (by kernel_rfl) ?_
        repeat (quiet_step (with_reducible exact cc _ _))
        refine wpQuiet_nil ?_
        intro _ hw'
        obtain ⟨⟨dq, osq⟩, hw''⟩ := hw'
        subst hw''
        have S2 := S1.ext (below_regrown wr dq osq)
        change Exit.then _ _ Exit.normal _ (grow (redrawn wr dq) osq)
        generalize grow (redrawn wr dq) osq = w2 at S2 ⊢
        clear l1 l2 cc S1
        go_wp2_with fail
        go_round
        case rel => exact ⟨s, c, rfl, rfl, HL2.out, S2⟩
        case measure => simp [intOf]; omega
    · have hltz : ¬ (s : Int) < (r : Int) := by omega
      obtain rfl : s = r := by omega
      have HCUT := Lib.hid (HL.out.cut hO ham hmb HP.out)
      rw [HMID.out] at HCUT
      obtain ⟨e, he⟩ : ∃ e, mid + m - s = e := ⟨_, rfl⟩
      have hez : (mid : Int) + (m : Int) - (s : Int) = (e : Int) := by omega
      rw [he] at HCUT
      have hme : m ≤ e := by omega
      have heb : e ≤ b := by omega
      have hsm : s + (e - m) = mid := by omega
      have hmidz : 2 * mid ≤ a + b ∧ a + b ≤ 2 * mid + 1 := by have := HMID.out; omega
      have has : a ≤ s := by omega
      have hsm2 : s ≤ m := by omega
      have hsmid : s ≤ mid := by omega
      have hmide : mid ≤ e := by omega
      clear hlt hltz hb1 hb2 hb3 g1 g2 g3 g4 g5 g6 g7
      rcases Nat.lt_or_ge s m with hw1 | hw1
      rotate_left
      · have z1 : ¬ (s : Int) < (m : Int) := by omega
        have hr : Rot d s m e d := by rw [show s = m from by omega]; exact rot_none_left d m e
        obtain ⟨d1, hd1⟩ : ∃ d1, d1 = d := ⟨_, rfl⟩
        rw [← hd1] at S1
        have HRR : Hid (Rot d s m e d1) := by rw [hd1]; exact hr
        clear hd1 hr
        have hN1 : d1.size = N := HRR.out.size.trans hN
        have HPP := Lib.hid (cut_pre HP.out HCUT.out HRR.out)
        rw [hsm] at HPP
        rcases Nat.lt_or_ge a s with hv1 | hv1
        rotate_left
        · have y1 : ¬ (a : Int) < (s : Int) := by omega
          have HP2 : Hid (MPost (ltOf cf) ix a mid d1 d1) := MPost.none HPP.out.1 (.inl (by omega))
          obtain ⟨d2, hd2⟩ : ∃ d2, d2 = d1 := ⟨_, rfl⟩
          have HP2 : Hid (MPost (ltOf cf) ix a mid d1 d2) := by rw [hd2]; exact HP2
          rw [← hd2] at S1
          clear hd2
          have hN2 : d2.size = N := HP2.out.1.1.trans hN1
          have HPR : Hid (MPre (ltOf cf) ix mid e b d2) := mpre_keep hmide HPP.out.2 HP2.out
          rcases Nat.lt_or_ge mid e with hu1 | hu1
          rotate_left
          · have x1 : ¬ (mid : Int) < (e : Int) := by omega
            go_wp2_with fail
            all_goals
              go_end0
              exact ⟨rfl, d2, S1, cut_post hO (by omega) HP.out HCUT.out HRR.out (by rw [hsm]; exact HP2.out) (by rw [hsm]; exact MPost.none HPR.out (.inl (by omega)))⟩
          rcases Nat.lt_or_ge e b with hu2 | hu2
          rotate_left
          · have x1 : (mid : Int) < (e : Int) := by omega
            have x2 : ¬ (e : Int) < (b : Int) := by omega
            go_wp2_with fail
            all_goals
              go_end0
              exact ⟨rfl, d2, S1, cut_post hO (by omega) HP.out HCUT.out HRR.out (by rw [hsm]; exact HP2.out) (by rw [hsm]; exact MPost.none HPR.out (.inr (by omega)))⟩
          · have x1 : (mid : Int) < (e : Int) := by omega
            have x2 : (e : Int) < (b : Int) := by omega
            go_wp2_with fail
            all_goals
              with_reducible refine (IH.out mid e b d2 _ (by omega) hN2 hu1 hu2 (by omega) S1 HPR.out).mono ?_
              rintro en w4 ⟨rfl, d3, S1, hp3⟩
              go_wp2_with fail
              go_end0
              exact ⟨rfl, d3, S1, cut_post hO (by omega) HP.out HCUT.out HRR.out (by rw [hsm]; exact HP2.out) (by rw [hsm]; exact hp3)⟩
        rcases Nat.lt_or_ge s mid with hv2 | hv2
        rotate_left
        · have y1 : (a : Int) < (s : Int) := by omega
          have y2 : ¬ (s : Int) < (mid : Int) := by omega
          have HP2 : Hid (MPost (ltOf cf) ix a mid d1 d1) := MPost.none HPP.out.1 (.inr (by omega))
          obtain ⟨d2, hd2⟩ : ∃ d2, d2 = d1 := ⟨_, rfl⟩
          have HP2 : Hid (MPost (ltOf cf) ix a mid d1 d2) := by rw [hd2]; exact HP2
          rw [← hd2] at S1
          clear hd2
          have hN2 : d2.size = N := HP2.out.1.1.trans hN1
          have HPR : Hid (MPre (ltOf cf) ix mid e b d2) := mpre_keep hmide HPP.out.2 HP2.out
          rcases Nat.lt_or_ge mid e with hu1 | hu1
          rotate_left
          · have x1 : ¬ (mid : Int) < (e : Int) := by omega
            go_wp2_with fail
            all_goals
              go_end0
              exact ⟨rfl, d2, S1, cut_post hO (by omega) HP.out HCUT.out HRR.out (by rw [hsm]; exact HP2.out) (by rw [hsm]; exact MPost.none HPR.out (.inl (by omega)))⟩
          rcases Nat.lt_or_ge e b with hu2 | hu2
          rotate_left
          · have x1 : (mid : Int) < (e : Int) := by omega
            have x2 : ¬ (e : Int) < (b : Int) := by omega
            go_wp2_with fail
            all_goals
              go_end0
              exact ⟨rfl, d2, S1, cut_post hO (by omega) HP.out HCUT.out HRR.out (by rw [hsm]; exact HP2.out) (by rw [hsm]; exact MPost.none HPR.out (.inr (by omega)))⟩
          · have x1 : (mid : Int) < (e : Int) := by omega
            have x2 : (e : Int) < (b : Int) := by omega
            go_wp2_with fail
            all_goals
              with_reducible refine (IH.out mid e b d2 _ (by omega) hN2 hu1 hu2 (by omega) S1 HPR.out).mono ?_
              rintro en w4 ⟨rfl, d3, S1, hp3⟩
              go_wp2_with fail
              go_end0
              exact ⟨rfl, d3, S1, cut_post hO (by omega) HP.out HCUT.out HRR.out (by rw [hsm]; exact HP2.out) (by rw [hsm]; exact hp3)⟩
        · have y1 : (a : Int) < (s : Int) := by omega
          have y2 : (s : Int) < (mid : Int) := by omega
          go_wp2_with fail
          with_reducible refine (IH.out a s mid d1 _ (by omega) hN1 hv1 hv2 (by omega) S1 HPP.out.1).mono ?_
          rintro en w3 ⟨rfl, d2, S1, hp2⟩
          have HP2 := Lib.hid hp2
          clear hp2
          have hN2 : d2.size = N := HP2.out.1.1.trans hN1
          have HPR : Hid (MPre (ltOf cf) ix mid e b d2) := mpre_keep hmide HPP.out.2 HP2.out
          rcases Nat.lt_or_ge mid e with hu1 | hu1
          rotate_left
          · have x1 : ¬ (mid : Int) < (e : Int) := by omega
            go_wp2_with fail
            all_goals
              go_end0
              exact ⟨rfl, d2, S1, cut_post hO (by omega) HP.out HCUT.out HRR.out (by rw [hsm]; exact HP2.out) (by rw [hsm]; exact MPost.none HPR.out (.inl (by omega)))⟩
          rcases Nat.lt_or_ge e b with hu2 | hu2
          rotate_left
          · have x1 : (mid : Int) < (e : Int) := by omega
            have x2 : ¬ (e : Int) < (b : Int) := by omega
            go_wp2_with fail
            all_goals
              go_end0
              exact ⟨rfl, d2, S1, cut_post hO (by omega) HP.out HCUT.out HRR.out (by rw [hsm]; exact HP2.out) (by rw [hsm]; exact MPost.none HPR.out (.inr (by omega)))⟩
          · have x1 : (mid : Int) < (e : Int) := by omega
            have x2 : (e : Int) < (b : Int) := by omega
            go_wp2_with fail
            all_goals
              with_reducible refine (IH.out mid e b d2 _ (by omega) hN2 hu1 hu2 (by omega) S1 HPR.out).mono ?_
              rintro en w4 ⟨rfl, d3, S1, hp3⟩
              go_wp2_with fail
              go_end0
              exact ⟨rfl, d3, S1, cut_post hO (by omega) HP.out HCUT.out HRR.out (by rw [hsm]; exact HP2.out) (by rw [hsm]; exact hp3)⟩
      rcases Nat.lt_or_ge m e with hw2 | hw2
      rotate_left
      · have z1 : (s : Int) < (m : Int) := by omega
        have z2 : ¬ (m : Int) < (e : Int) := by omega
        have hr : Rot d s m e d := by rw [show e = m from by omega]; exact rot_none_right d s m
        obtain ⟨d1, hd1⟩ : ∃ d1, d1 = d := ⟨_, rfl⟩
        rw [← hd1] at S1
        have HRR : Hid (Rot d s m e d1) := by rw [hd1]; exact hr
        clear hd1 hr
        have hN1 : d1.size = N := HRR.out.size.trans hN
        have HPP := Lib.hid (cut_pre HP.out HCUT.out HRR.out)
        rw [hsm] at HPP
        rcases Nat.lt_or_ge a s with hv1 | hv1
        rotate_left
        · have y1 : ¬ (a : Int) < (s : Int) := by omega
          have HP2 : Hid (MPost (ltOf cf) ix a mid d1 d1) := MPost.none HPP.out.1 (.inl (by omega))
          obtain ⟨d2, hd2⟩ : ∃ d2, d2 = d1 := ⟨_, rfl⟩
          have HP2 : Hid (MPost (ltOf cf) ix a mid d1 d2) := by rw [hd2]; exact HP2
          rw [← hd2] at S1
          clear hd2
          have hN2 : d2.size = N := HP2.out.1.1.trans hN1
          have HPR : Hid (MPre (ltOf cf) ix mid e b d2) := mpre_keep hmide HPP.out.2 HP2.out
          rcases Nat.lt_or_ge mid e with hu1 | hu1
          rotate_left
          · have x1 : ¬ (mid : Int) < (e : Int) := by omega
            go_wp2_with fail
            all_goals
              go_end0
              exact ⟨rfl, d2, S1, cut_post hO (by omega) HP.out HCUT.out HRR.out (by rw [hsm]; exact HP2.out) (by rw [hsm]; exact MPost.none HPR.out (.inl (by omega)))⟩
          rcases Nat.lt_or_ge e b with hu2 | hu2
          rotate_left
          · have x1 : (mid : Int) < (e : Int) := by omega
            have x2 : ¬ (e : Int) < (b : Int) := by omega
            go_wp2_with fail
            all_goals
              go_end0
              exact ⟨rfl, d2, S1, cut_post hO (by omega) HP.out HCUT.out HRR.out (by rw [hsm]; exact HP2.out) (by rw [hsm]; exact MPost.none HPR.out (.inr (by omega)))⟩
          · have x1 : (mid : Int) < (e : Int) := by omega
            have x2 : (e : Int) < (b : Int) := by omega
            go_wp2_with fail
            all_goals
              with_reducible refine (IH.out mid e b d2 _ (by omega) hN2 hu1 hu2 (by omega) S1 HPR.out).mono ?_
              rintro en w4 ⟨rfl, d3, S1, hp3⟩
              go_wp2_with fail
              go_end0
              exact ⟨rfl, d3, S1, cut_post hO (by omega) HP.out HCUT.out HRR.out (by rw [hsm]; exact HP2.out) (by rw [hsm]; exact hp3)⟩
        rcases Nat.lt_or_ge s mid with hv2 | hv2
        rotate_left
        · have y1 : (a : Int) < (s : Int) := by omega
          have y2 : ¬ (s : Int) < (mid : Int) := by omega
          have HP2 : Hid (MPost (ltOf cf) ix a mid d1 d1) := MPost.none HPP.out.1 (.inr (by omega))
          obtain ⟨d2, hd2⟩ : ∃ d2, d2 = d1 := ⟨_, rfl⟩
          have HP2 : Hid (MPost (ltOf cf) ix a mid d1 d2) := by rw [hd2]; exact HP2
          rw [← hd2] at S1
          clear hd2
          have hN2 : d2.size = N := HP2.out.1.1.trans hN1
          have HPR : Hid (MPre (ltOf cf) ix mid e b d2) := mpre_keep hmide HPP.out.2 HP2.out
          rcases Nat.lt_or_ge mid e with hu1 | hu1
          rotate_left
          · have x1 : ¬ (mid : Int) < (e : Int) := by omega
            go_wp2_with fail
            all_goals
              go_end0
              exact ⟨rfl, d2, S1, cut_post hO (by omega) HP.out HCUT.out HRR.out (by rw [hsm]; exact HP2.out) (by rw [hsm]; exact MPost.none HPR.out (.inl (by omega)))⟩
          rcases Nat.lt_or_ge e b with hu2 | hu2
          rotate_left
          · have x1 : (mid : Int) < (e : Int) := by omega
            have x2 : ¬ (e : Int) < (b : Int) := by omega
            go_wp2_with fail
            all_goals
              go_end0
              exact ⟨rfl, d2, S1, cut_post hO (by omega) HP.out HCUT.out HRR.out (by rw [hsm]; exact HP2.out) (by rw [hsm]; exact MPost.none HPR.out (.inr (by omega)))⟩
          · have x1 : (mid : Int) < (e : Int) := by omega
            have x2 : (e : Int) < (b : Int) := by omega
            go_wp2_with fail
            all_goals
              with_reducible refine (IH.out mid e b d2 _ (by omega) hN2 hu1 hu2 (by omega) S1 HPR.out).mono ?_
              rintro en w4 ⟨rfl, d3, S1, hp3⟩
              go_wp2_with fail
              go_end0
              exact ⟨rfl, d3, S1, cut_post hO (by omega) HP.out HCUT.out HRR.out (by rw [hsm]; exact HP2.out) (by rw [hsm]; exact hp3)⟩
        · have y1 : (a : Int) < (s : Int) := by omega
          have y2 : (s : Int) < (mid : Int) := by omega
          go_wp2_with fail
          with_reducible refine (IH.out a s mid d1 _ (by omega) hN1 hv1 hv2 (by omega) S1 HPP.out.1).mono ?_
          rintro en w3 ⟨rfl, d2, S1, hp2⟩
          have HP2 := Lib.hid hp2
          clear hp2
          have hN2 : d2.size = N := HP2.out.1.1.trans hN1
          have HPR : Hid (MPre (ltOf cf) ix mid e b d2) := mpre_keep hmide HPP.out.2 HP2.out
          rcases Nat.lt_or_ge mid e with hu1 | hu1
          rotate_left
          · have x1 : ¬ (mid : Int) < (e : Int) := by omega
            go_wp2_with fail
            all_goals
              go_end0
              exact ⟨rfl, d2, S1, cut_post hO (by omega) HP.out HCUT.out HRR.out (by rw [hsm]; exact HP2.out) (by rw [hsm]; exact MPost.none HPR.out (.inl (by omega)))⟩
          rcases Nat.lt_or_ge e b with hu2 | hu2
          rotate_left
          · have x1 : (mid : Int) < (e : Int) := by omega
            have x2 : ¬ (e : Int) < (b : Int) := by omega
            go_wp2_with fail
            all_goals
              go_end0
              exact ⟨rfl, d2, S1, cut_post hO (by omega) HP.out HCUT.out HRR.out (by rw [hsm]; exact HP2.out) (by rw [hsm]; exact MPost.none HPR.out (.inr (by omega)))⟩
          · have x1 : (mid : Int) < (e : Int) := by omega
            have x2 : (e : Int) < (b : Int) := by omega
            go_wp2_with fail
            all_goals
              with_reducible refine (IH.out mid e b d2 _ (by omega) hN2 hu1 hu2 (by omega) S1 HPR.out).mono ?_
              rintro en w4 ⟨rfl, d3, S1, hp3⟩
              go_wp2_with fail
              go_end0
              exact ⟨rfl, d3, S1, cut_post hO (by omega) HP.out HCUT.out HRR.out (by rw [hsm]; exact HP2.out) (by rw [hsm]; exact hp3)⟩
      · have z1 : (s : Int) < (m : Int) := by omega
        have z2 : (m : Int) < (e : Int) := by omega
        go_wp2_with fail
        rw [← hN]
        with_reducible refine (rotate_any blk off cap s m e d w0 _ _ S1 hw1 hw2 (by omega) (by omega)).mono ?_
        rintro en w2 ⟨rfl, d1, S1, hr⟩
        rw [hN]
        have HRR := Lib.hid hr
        clear hr
        have hN1 : d1.size = N := HRR.out.size.trans hN
        have HPP := Lib.hid (cut_pre HP.out HCUT.out HRR.out)
        rw [hsm] at HPP
        rcases Nat.lt_or_ge a s with hv1 | hv1
        rotate_left
        · have y1 : ¬ (a : Int) < (s : Int) := by omega
          have HP2 : Hid (MPost (ltOf cf) ix a mid d1 d1) := MPost.none HPP.out.1 (.inl (by omega))
          obtain ⟨d2, hd2⟩ : ∃ d2, d2 = d1 := ⟨_, rfl⟩
          have HP2 : Hid (MPost (ltOf cf) ix a mid d1 d2) := by rw [hd2]; exact HP2
          rw [← hd2] at S1
          clear hd2
          have hN2 : d2.size = N := HP2.out.1.1.trans hN1
          have HPR : Hid (MPre (ltOf cf) ix mid e b d2) := mpre_keep hmide HPP.out.2 HP2.out
          rcases Nat.lt_or_ge mid e with hu1 | hu1
          rotate_left
          · have x1 : ¬ (mid : Int) < (e : Int) := by omega
            go_wp2_with fail
            all_goals
              go_end0
              exact ⟨rfl, d2, S1, cut_post hO (by omega) HP.out HCUT.out HRR.out (by rw [hsm]; exact HP2.out) (by rw [hsm]; exact MPost.none HPR.out (.inl (by omega)))⟩
          rcases Nat.lt_or_ge e b with hu2 | hu2
          rotate_left
          · have x1 : (mid : Int) < (e : Int) := by omega
            have x2 : ¬ (e : Int) < (b : Int) := by omega
            go_wp2_with fail
            all_goals
              go_end0
              exact ⟨rfl, d2, S1, cut_post hO (by omega) HP.out HCUT.out HRR.out (by rw [hsm]; exact HP2.out) (by rw [hsm]; exact MPost.none HPR.out (.inr (by omega)))⟩
          · have x1 : (mid : Int) < (e : Int) := by omega
            have x2 : (e : Int) < (b : Int) := by omega
            go_wp2_with fail
            all_goals
              with_reducible refine (IH.out mid e b d2 _ (by omega) hN2 hu1 hu2 (by omega) S1 HPR.out).mono ?_
              rintro en w4 ⟨rfl, d3, S1, hp3⟩
              go_wp2_with fail
              go_end0
              exact ⟨rfl, d3, S1, cut_post hO (by omega) HP.out HCUT.out HRR.out (by rw [hsm]; exact HP2.out) (by rw [hsm]; exact hp3)⟩
        rcases Nat.lt_or_ge s mid with hv2 | hv2
        rotate_left
        · have y1 : (a : Int) < (s : Int) := by omega
          have y2 : ¬ (s : Int) < (mid : Int) := by omega
          have HP2 : Hid (MPost (ltOf cf) ix a mid d1 d1) := MPost.none HPP.out.1 (.inr (by omega))
          obtain ⟨d2, hd2⟩ : ∃ d2, d2 = d1 := ⟨_, rfl⟩
          have HP2 : Hid (MPost (ltOf cf) ix a mid d1 d2) := by rw [hd2]; exact HP2
          rw [← hd2] at S1
          clear hd2
          have hN2 : d2.size = N := HP2.out.1.1.trans hN1
          have HPR : Hid (MPre (ltOf cf) ix mid e b d2) := mpre_keep hmide HPP.out.2 HP2.out
          rcases Nat.lt_or_ge mid e with hu1 | hu1
          rotate_left
          · have x1 : ¬ (mid : Int) < (e : Int) := by omega
            go_wp2_with fail
            all_goals
              go_end0
              exact ⟨rfl, d2, S1, cut_post hO (by omega) HP.out HCUT.out HRR.out (by rw [hsm]; exact HP2.out) (by rw [hsm]; exact MPost.none HPR.out (.inl (by omega)))⟩
          rcases Nat.lt_or_ge e b with hu2 | hu2
          rotate_left
          · have x1 : (mid : Int) < (e : Int) := by omega
            have x2 : ¬ (e : Int) < (b : Int) := by omega
            go_wp2_with fail
            all_goals
              go_end0
              exact ⟨rfl, d2, S1, cut_post hO (by omega) HP.out HCUT.out HRR.out (by rw [hsm]; exact HP2.out) (by rw [hsm]; exact MPost.none HPR.out (.inr (by omega)))⟩
          · have x1 : (mid : Int) < (e : Int) := by omega
            have x2 : (e : Int) < (b : Int) := by omega
            go_wp2_with fail
            all_goals
              with_reducible refine (IH.out mid e b d2 _ (by omega) hN2 hu1 hu2 (by omega) S1 HPR.out).mono ?_
              rintro en w4 ⟨rfl, d3, S1, hp3⟩
              go_wp2_with fail
              go_end0
              exact ⟨rfl, d3, S1, cut_post hO (by omega) HP.out HCUT.out HRR.out (by rw [hsm]; exact HP2.out) (by rw [hsm]; exact hp3)⟩
        · have y1 : (a : Int) < (s : Int) := by omega
          have y2 : (s : Int) < (mid : Int) := by omega
          go_wp2_with fail
          with_reducible refine (IH.out a s mid d1 _ (by omega) hN1 hv1 hv2 (by omega) S1 HPP.out.1).mono ?_
          rintro en w3 ⟨rfl, d2, S1, hp2⟩
          have HP2 := Lib.hid hp2
          clear hp2
          have hN2 : d2.size = N := HP2.out.1.1.trans hN1
          have HPR : Hid (MPre (ltOf cf) ix mid e b d2) := mpre_keep hmide HPP.out.2 HP2.out
          rcases Nat.lt_or_ge mid e with hu1 | hu1
          rotate_left
          · have x1 : ¬ (mid : Int) < (e : Int) := by omega
            go_wp2_with fail
            all_goals
              go_end0
              exact ⟨rfl, d2, S1, cut_post hO (by omega) HP.out HCUT.out HRR.out (by rw [hsm]; exact HP2.out) (by rw [hsm]; exact MPost.none HPR.out (.inl (by omega)))⟩
          rcases Nat.lt_or_ge e b with hu2 | hu2
          rotate_left
          · have x1 : (mid : Int) < (e : Int) := by omega
            have x2 : ¬ (e : Int) < (b : Int) := by omega
            go_wp2_with fail
            all_goals
              go_end0
              exact ⟨rfl, d2, S1, cut_post hO (by omega) HP.out HCUT.out HRR.out (by rw [hsm]; exact HP2.out) (by rw [hsm]; exact MPost.none HPR.out (.inr (by omega)))⟩
          · have x1 : (mid : Int) < (e : Int) := by omega
            have x2 : (e : Int) < (b : Int) := by omega
            go_wp2_with fail
            all_goals
              with_reducible refine (IH.out mid e b d2 _ (by omega) hN2 hu1 hu2 (by omega) S1 HPR.out).mono ?_
              rintro en w4 ⟨rfl, d3, S1, hp3⟩
              go_wp2_with fail
              go_end0
              exact ⟨rfl, d3, S1, cut_post hO (by omega) HP.out HCUT.out HRR.out (by rw [hsm]; exact HP2.out) (by rw [hsm]; exact hp3)⟩
end Go.Proofs.Ytaggjclaehigjaa
namespace Go.Proofs.Ytaggjclaehigjaa
open Go.RowKit Go.Sort
variable {α : Type} [Inhabited α]
theorem symMerge_any (v : α → Value) (cf : α → α → Int) (ix : α → Nat) (hO : SWO (ltOf cf)) (blk off cap : Nat) (w0 : World) (N : Nat) (hC : CmpOk v cf w0 blk off N) (hsz : N < 4611686018427387904) :
    ∀ (n a m b : Nat) (d : Array α) (w : World), b - a ≤ n → d.size = N → a < m → m < b → b ≤ N → RW v w0 blk off d w → MPre (ltOf cf) ix a m b d →
      Calls Try.prog 130 #[.slice (some ⟨blk, off, none⟩) N cap, .int .i64 a, .int .i64 m, .int .i64 b, .func (.func 97) #[] #[]] w fun e w' => e = .returned (.tuple #[]) ∧ ∃ d', RW v w0 blk off d' w' ∧ MPost (ltOf cf) ix a b d d' := by
  intro n
  induction n with
  | zero => intro a m b d w h1 h2 h3 h4; omega
  | succ n ih =>
    intro a m b d w h1 h2 h3 h4 h5 S hp
    by_cases hm : m = a + 1
    · exact symMerge1 v cf ix hO blk off cap w0 N hC hsz a m b d w h2 h4 h5 S hp hm
    by_cases hb : b = m + 1
    · exact symMerge2 v cf ix hO blk off cap w0 N hC hsz a m b d w h2 h3 h5 S hp hm hb
    exact symMerge_step v cf ix hO blk off cap w0 N hC hsz a m b d w h2 h3 h4 h5 S hp hm hb (fun a' m' b' d' w' k1 => ih a' m' b' d' w' (by omega))
set_option maxHeartbeats 16000000 in
set_option maxRecDepth 1000000 in
theorem insSort_any (v : α → Value) (cf : α → α → Int) (blk off cap : Nat) (w0 : World) (N : Nat) (hC : CmpOk v cf w0 blk off N) (hsz : N < 4611686018427387904)
    (a b : Nat) (d : Array α) (w : World) (hN : d.size = N) (hab : a ≤ b) (hb : b ≤ N) (S : RW v w0 blk off d w) :
    Calls Try.prog 129 #[.slice (some ⟨blk, off, none⟩) N cap, .int .i64 a, .int .i64 b, .func (.func 97) #[] #[]] w fun e w' => e = .returned (.tuple #[]) ∧ RW v w0 blk off (insertionSort (ltOf cf) d a b) w' := by
  have HC := Lib.hid hC
  clear hC
  go_enter Try.func129, Try.ntmps129
  go_wp2_with fail
  go_loopw [8] (fun vi wr => ∃ (i : Nat) (dk : Array α), vi = .int .i64 i ∧ a < i ∧ i ≤ b + 1 ∧ dk.size = N ∧ RW v w0 blk off dk wr ∧ Hid (insOuter (ltOf cf) a b i dk = insOuter (ltOf cf) a b (a + 1) d)) (fun vi _ => b + 1 - (intOf vi).toNat)
  case atStart => exact ⟨a + 1, d, by simp, by omega, by omega, hN, S, rfl⟩
  case round =>
    clear S
    obtain ⟨i, dk, rfl, hai, hib, hsk, S1, HO⟩ := hrel
    by_cases hlt : i < b
    · have hltz : (i : Int) < (b : Int) := by omega
      go_wp2_with fail
      go_loopw [9] (fun vj wt => ∃ (j : Nat) (dj : Array α), vj = .int .i64 j ∧ a ≤ j ∧ j ≤ i ∧ dj.size = N ∧ RW v w0 blk off dj wt ∧ Hid (insInner (ltOf cf) a j dj = insInner (ltOf cf) a i dk)) (fun vj _ => (intOf vj).toNat)
      case atStart => exact ⟨i, dk, rfl, by omega, Nat.le_refl _, hsk, S1, rfl⟩
      case round =>
        clear S1
        obtain ⟨j, dj, rfl, haj, hji, hz, S1, HI⟩ := hrel
        have out : (j ≤ a ∨ (ltOf cf) dj[j]! dj[j - 1]! = false) → Hid (insOuter (ltOf cf) a b (i + 1) dj = insOuter (ltOf cf) a b (a + 1) d) := fun hs => by
          show _ = _
          rw [← HO.out, insOuter_go _ _ _ _ _ hlt, ← HI.out, insInner_stop _ _ _ _ hs]
        have OUT := Lib.hid out
        clear out
        by_cases hja : a < j
        · have hjaz : (a : Int) < (j : Int) := by omega
          have hjad : decide ((j : Int) > (a : Int)) = true := decide_eq_true (by omega)
          cases hlv0 : (ltOf cf) dj[j]! dj[j - 1]! with
          | true =>
            have hlv := hlv0
            obtain ⟨jp, hjp⟩ : ∃ q, j - 1 = q := ⟨_, rfl⟩
            have hjz : (j : Int) - 1 = (jp : Int) := by omega
            have wjp : IntKind.i64.wrap (jp : Int) = (jp : Int) := by rw [IntKind.wrap_i64]; omega
            have bj : (j : Int) < (N : Int) := by omega
            have bjp : (jp : Int) < (N : Int) := by omega
            obtain ⟨x, hx⟩ : ∃ x, dj[j]! = x := ⟨_, rfl⟩
            obtain ⟨y, hy⟩ : ∃ y, dj[j - 1]! = y := ⟨_, rfl⟩
            have l1 := S1.cl (j) (by omega)
            have l2 := S1.cl (j - 1) (by omega)
            have cc := HC.out.re hz S1 dj[j]! dj[j - 1]!
            rw [hx] at l1
            rw [hy, hjp] at l2
            rw [hx, hy] at cc
            rw [hx, hy] at hlv
            have hd : decide (cf x y < 0) = true := hlv
            have hd2 : cf x y < 0 := of_decide_eq_true hd
            go_wp2_with fail
            refine wp_region_quiet_below (by kernel_rfl) (by kernel_rfl) ?_
            repeat (quiet_step (with_reducible exact cc _ _))
            refine wpQuiet_nil ?_
            intro _ hw'
            obtain ⟨⟨dq, osq⟩, hw''⟩ := hw'
            subst hw''
            have S2 := S1.ext (below_regrown wr dq osq)
            change Exit.then _ _ Exit.normal _ (grow (redrawn wr dq) osq)
            generalize grow (redrawn wr dq) osq = wy at S2 ⊢
            clear l1 l2 cc S1 hjz wjp bj bjp
            go_wp2_with fail
            have S1 := S2
            have dkx : dj = dj := rfl
            clear S2
            obtain ⟨iM, hiM⟩ : ∃ q, q = j := ⟨_, rfl⟩
            obtain ⟨jM, hjM⟩ : ∃ q, q = j - 1 := ⟨_, rfl⟩
            have ea : ((j : Int)).toNat = iM := by omega
            have pa : (0 : Int) ≤ (j : Int) := by omega
            have ba : (j : Int) < (N : Int) := by omega
            have rra : IntKind.i64.wrap ((j : Int)) = (j : Int) := by rw [IntKind.wrap_i64]; omega
            have ec : ((j : Int) - 1).toNat = jM := by omega
            have pc : (0 : Int) ≤ (j : Int) - 1 := by omega
            have bc : (j : Int) - 1 < (N : Int) := by omega
            have rrc : IntKind.i64.wrap ((j : Int) - 1) = (j : Int) - 1 := by rw [IntKind.wrap_i64]; omega
            have S3 := S1.swapped (j) (j - 1) (by omega) (by omega)
            have hw2 : True := trivial
            have cc1 := (S1.row (j) (by omega)).1
            have cc2 := (S1.row (j - 1) (by omega)).1
            have f1 := (S1.row (j) (by omega)).2
            have f2 := (S1.row (j - 1) (by omega)).2
            obtain ⟨u, cc3⟩ := S1.c2 (j) (j - 1) (by omega) (by omega) ((v dj[j - 1]!))
            obtain ⟨x2, ux2, hx2⟩ := S1.one (dj[j]!)
            replace hx2 := hx2.symm
            obtain ⟨y2, uy2, hy2⟩ := S1.one (dj[j - 1]!)
            replace hy2 := hy2.symm
            rw [← hx2, ← hy2, ← hjM, ← hiM] at S3
            rw [← hy2, ← hjM, ← hiM] at cc3
            rw [← hx2, ← hiM] at cc1
            rw [← hy2, ← hjM] at cc2
            rw [← hiM] at f1
            rw [← hjM] at f2
            have S3 := Lib.hid S3
            have hw2 := Lib.hid hw2
            have HI2 := Lib.hid hiM
            have HJ2 := Lib.hid hjM
            clear S1 hx2 hy2 hiM hjM
            go_wp2_with fail
            have mixed : Try.prog.follows .mixedOrders = true := by kernel_rfl
            go_big_region_o
            clear mixed cc1 cc2 cc3 f1 f2
            generalize ((wy.setCell ⟨blk, off + iM, none⟩ (.iface y2 uy2)).setCell ⟨blk, off + jM, none⟩ (.iface x2 ux2)).drew = wz at S3 ⊢
            clear ea ec
            go_wp2
            go_round
            case rel => exact ⟨j - 1, _, by congr 1; omega, by omega, by omega, by rw [size_swp]; exact hz, S3.out, by rw [HI2.out, HJ2.out]; exact (show Hid _ from by rw [← HI.out, insInner_go (ltOf cf) a j dj hja hlv0]; exact rfl)⟩
            case measure => simp [intOf]; omega
          | false =>
            have hlv := hlv0
            obtain ⟨jp, hjp⟩ : ∃ q, j - 1 = q := ⟨_, rfl⟩
            have hjz : (j : Int) - 1 = (jp : Int) := by omega
            have wjp : IntKind.i64.wrap (jp : Int) = (jp : Int) := by rw [IntKind.wrap_i64]; omega
            have bj : (j : Int) < (N : Int) := by omega
            have bjp : (jp : Int) < (N : Int) := by omega
            obtain ⟨x, hx⟩ : ∃ x, dj[j]! = x := ⟨_, rfl⟩
            obtain ⟨y, hy⟩ : ∃ y, dj[j - 1]! = y := ⟨_, rfl⟩
            have l1 := S1.cl (j) (by omega)
            have l2 := S1.cl (j - 1) (by omega)
            have cc := HC.out.re hz S1 dj[j]! dj[j - 1]!
            rw [hx] at l1
            rw [hy, hjp] at l2
            rw [hx, hy] at cc
            rw [hx, hy] at hlv
            have hd : decide (cf x y < 0) = false := hlv
            have hd2 : ¬ cf x y < 0 := of_decide_eq_false hd
            go_wp2_with fail
            refine wp_region_quiet_below (by kernel_rfl) (by kernel_rfl) ?_
            repeat (quiet_step (with_reducible exact cc _ _))
            refine wpQuiet_nil ?_
            intro _ hw'
            obtain ⟨⟨dq, osq⟩, hw''⟩ := hw'
            subst hw''
            have S2 := S1.ext (below_regrown wr dq osq)
            change Exit.then _ _ Exit.normal _ (grow (redrawn wr dq) osq)
            generalize grow (redrawn wr dq) osq = wy at S2 ⊢
            clear l1 l2 cc S1 hjz wjp bj bjp
            clear hx hy
            go_wp2_with fail
            go_round
            case rel => exact ⟨i + 1, dj, by simp, by omega, by omega, hz, S2, OUT.out (.inr hlv0)⟩
            case measure => simp [intOf]; omega
        · have hjaz : decide ((j : Int) > (a : Int)) = false := decide_eq_false (by omega)
          have hjaz' : ¬ (a : Int) < (j : Int) := by omega
          go_wp2_with fail
          have mixed : Try.prog.follows .mixedOrders = true := by kernel_rfl
          go_big_region_o
          clear mixed
          have S2 := S1.drew
          clear S1
          generalize wr.drew = wy at S2 ⊢
          go_wp2_with fail
          go_round
          case rel => exact ⟨i + 1, dj, by simp, by omega, by omega, hz, S2, OUT.out (.inl (by omega))⟩
          case measure => simp [intOf]; omega
    · have hltz : ¬ (i : Int) < (b : Int) := by omega
      go_wp2_with fail
      go_end0
      exact ⟨rfl, by unfold insertionSort; rw [← HO.out, insOuter_stop _ _ _ _ _ hlt]; exact S1⟩
end Go.Proofs.Ytaggjclaehigjaa
namespace Go.Proofs.Ytaggjclaehigjaa
open Go.RowKit Go.Sort
variable {α : Type} [Inhabited α]
theorem mpost_perm {lt : α → α → Bool} {ix : α → Nat} {a b N : Nat} {d0 d d' : Array α} (h : PermIn 0 N d0 d) (hs : d.size = N) (hb : b ≤ N) (k : MPost lt ix a b d d') : PermIn 0 N d0 d' :=
  permIn_trans _ _ _ _ _ h (permIn_mono _ _ _ _ _ _ (Nat.zero_le _) hb (by omega) k.1)
set_option maxHeartbeats 16000000 in
set_option maxRecDepth 1000000 in
theorem stable_any (v : α → Value) (cf : α → α → Int) (ix : α → Nat) (hO : SWO (ltOf cf)) (blk off cap : Nat) (w0 : World) (N : Nat) (hC : CmpOk v cf w0 blk off N) (hsz : N < 1152921504606846976)
    (d : Array α) (w : World) (hN : d.size = N) (S : RW v w0 blk off d w) (hix : ∀ i j, i < j → j < N → ix d[i]! < ix d[j]!) :
    Calls Try.prog 121 #[.slice (some ⟨blk, off, none⟩) N cap, .int .i64 N, .func (.func 97) #[] #[]] w fun e w' => e = .returned (.tuple #[]) ∧ ∃ d', RW v w0 blk off d' w' ∧ PermIn 0 N d d' ∧ SortedIn (lt2 (ltOf cf) ix) 0 N d' := by
  have HC := Lib.hid hC
  have HI := Lib.hid (InsI.start (lt := ltOf cf) (B := 20) hix)
  clear hC hix
  go_enter Try.func121, Try.ntmps121
  go_wp2_with fail
  go_loopw [7, 8] (fun x y wr => ∃ (k A b : Nat) (dk : Array α), x = .int .i64 A ∧ y = .int .i64 b ∧ Hid (A = k * 20) ∧ Hid (b = A + 20) ∧ b ≤ N + 20 ∧ A ≤ N ∧ dk.size = N ∧ RW v w0 blk off dk wr ∧ Hid (InsI (ltOf cf) ix 20 N (k * 20) dk) ∧ Hid (PermIn 0 N d dk)) (fun x _ _ => N - (intOf x).toNat)
  case atStart => exact ⟨0, 0, 20, d, rfl, rfl, rfl, rfl, by omega, Nat.zero_le _, hN, S, by rw [Nat.zero_mul]; exact HI, permIn_refl _ _ _⟩
  case round =>
    clear S HI
    obtain ⟨k, A, b, dk, rfl, rfl, HA, Hb, hbN, hAN, hz, S1, HI, HPm⟩ := hrel
    have hab : A ≤ b := by have := Hb.out; omega
    by_cases hlt : b ≤ N
    · have hltz : (b : Int) ≤ (N : Int) := by omega
      go_wp2_with fail
      with_reducible refine (insSort_any v cf blk off cap w0 N HC.out (by omega) A b dk _ hz hab hlt S1).mono ?_
      rintro en w2 ⟨rfl, S2⟩
      have hA := HA.out
      have hb := Hb.out
      have hm : MPost (ltOf cf) ix A b dk (insertionSort (ltOf cf) dk A b) := insertion_post hO (by omega) (by omega) (fun p q h1 h2 h3 => HI.out.three p q (by omega) h2 (by omega))
      have HM := Lib.hid hm
      clear hm
      obtain ⟨d2, hd2⟩ : ∃ d2, insertionSort (ltOf cf) dk A b = d2 := ⟨_, rfl⟩
      rw [hd2] at S2 HM
      clear hd2 hA hb
      go_wp2_with fail
      go_round
      case rel => exact ⟨k + 1, b, b + 20, d2, rfl, by simp, by have h1 := HA.out; have h2 := Hb.out; show _ = _; omega, rfl, by omega, hlt, HM.out.1.1.trans hz, S2, (by have h1 := HA.out; have h2 := Hb.out; rw [show (k + 1) * 20 = b from by omega]; exact HI.out.step (by omega) (by omega) (by omega) (.inl (by omega)) hlt (by rw [← h1]; exact HM.out)), mpost_perm HPm.out hz hlt HM.out⟩
      case measure => have h2 := Hb.out; simp [intOf]; omega
    · have hltz : ¬ (b : Int) ≤ (N : Int) := by omega
      go_wp2_with fail
      with_reducible refine (insSort_any v cf blk off cap w0 N HC.out (by omega) A N dk _ hz (by omega) (Nat.le_refl _) S1).mono ?_
      rintro en w2 ⟨rfl, S2⟩
      have hA := HA.out
      have hb := Hb.out
      have hm : MPost (ltOf cf) ix A N dk (insertionSort (ltOf cf) dk A N) := insertion_post hO (by omega) (by omega) (fun p q h1 h2 h3 => HI.out.three p q (by omega) h2 (by omega))
      obtain ⟨d2, hd2⟩ : ∃ d2, insertionSort (ltOf cf) dk A N = d2 := ⟨_, rfl⟩
      rw [hd2] at S2 hm
      have HB : Hid (Blk (ltOf cf) ix 20 N d2) := (HI.out.step (by omega) (by omega) (by omega) (.inr ⟨rfl, by omega⟩) (Nat.le_refl _) (by rw [← hA]; exact hm)).done
      have HP2 := Lib.hid (mpost_perm HPm.out hz (Nat.le_refl _) hm)
      have hz2 := hm.1.1.trans hz
      clear hm hd2 S1 HI HPm hz hA hAN hb HA Hb hab hbN hlt hltz
      go_wp2_with fail
      go_loopw [6] (fun x wr => ∃ (B : Nat) (dk : Array α), x = .int .i64 B ∧ 0 < B ∧ B ≤ 2 * N + 20 ∧ dk.size = N ∧ RW v w0 blk off dk wr ∧ Hid (Blk (ltOf cf) ix B N dk) ∧ Hid (PermIn 0 N d dk)) (fun x _ => N - (intOf x).toNat)
      case atStart => exact ⟨20, d2, rfl, by omega, by omega, hz2, S2, HB, HP2⟩
      case round =>
        clear S2 HB HP2 hz2
        obtain ⟨B, dk, rfl, hB, hB2, hz, S1, HB, HPm⟩ := hrel
        by_cases hlt : B < N
        · have hltz : (B : Int) < (N : Int) := by omega
          go_wp2_with fail
          go_loopw [7, 8] (fun x y wr => ∃ (k A b : Nat) (dj : Array α), x = .int .i64 A ∧ y = .int .i64 b ∧ Hid (A = k * (2 * B)) ∧ Hid (b = A + 2 * B) ∧ b ≤ 3 * N ∧ A ≤ N ∧ dj.size = N ∧ RW v w0 blk off dj wr ∧ Hid (MrgI (ltOf cf) ix B N (k * (2 * B)) dj) ∧ Hid (PermIn 0 N d dj)) (fun x _ _ => N - (intOf x).toNat)
          case atStart => exact ⟨0, 0, 2 * B, dk, rfl, by congr 1 <;> omega, by rw [Nat.zero_mul]; exact rfl, (by show _ = _; omega), by omega, Nat.zero_le _, hz, S1, by rw [Nat.zero_mul]; exact MrgI.start HB.out, HPm⟩
          case round =>
            clear S1 HB HPm hz
            obtain ⟨k, A, b, dj, rfl, rfl, HA, Hb, hbN, hAN, hz, S1, HM, HPm⟩ := hrel
            have hab : A < b := by have := Hb.out; omega
            by_cases hl2 : b ≤ N
            · have hl2z : (b : Int) ≤ (N : Int) := by omega
              have hp := HM.out.pre (b := b) (by have h1 := HA.out; have h2 := Hb.out; rw [← h1]; omega) (by have h1 := HA.out; have h2 := Hb.out; rw [← h1]; omega) hl2
              rw [← HA.out] at hp
              have HP := Lib.hid hp
              clear hp
              obtain ⟨m, hm⟩ : ∃ m, A + B = m := ⟨_, rfl⟩
              have hmz : (A : Int) + (B : Int) = (m : Int) := by omega
              rw [hm] at HP
              have hmb : m < b := by have := Hb.out; omega
              have hAm : A < m := by omega
              clear hm
              go_wp2_with fail
              with_reducible refine (symMerge_any v cf ix hO blk off cap w0 N HC.out (by omega) (b - A) A m b dj _ (Nat.le_refl _) hz hAm hmb hl2 S1 HP.out).mono ?_
              rintro en w3 ⟨rfl, d3, S3, hm3⟩
              have HM3 := Lib.hid hm3
              clear hm3 hmz hmb hAm HP
              go_wp2_with fail
              go_round
              case rel => exact ⟨k + 1, b, b + 2 * B, d3, rfl, by congr 1 <;> omega, (by have h1 := HA.out; have h2 := Hb.out; show _ = _; rw [Nat.succ_mul]; omega), rfl, by omega, hl2, HM3.out.1.1.trans hz, S3, (by have h1 := HA.out; have h2 := Hb.out; rw [show (k + 1) * (2 * B) = b from by rw [Nat.succ_mul]; omega]; exact HM.out.step hB (by omega) (by omega) (.inl (by omega)) hl2 (by rw [← h1]; exact HM3.out)), mpost_perm HPm.out hz hl2 HM3.out⟩
              case measure => simp [intOf]; omega
            · have hl2z : ¬ (b : Int) ≤ (N : Int) := by omega
              obtain ⟨m, hm⟩ : ∃ m, A + B = m := ⟨_, rfl⟩
              have hmz : (A : Int) + (B : Int) = (m : Int) := by omega
              by_cases hmn : m < N
              · have hmnz : (m : Int) < (N : Int) := by omega
                have hp := HM.out.pre (b := N) (by have h1 := HA.out; rw [← h1]; omega) (by have h1 := HA.out; have h2 := Hb.out; rw [← h1]; omega) (Nat.le_refl _)
                rw [← HA.out, hm] at hp
                have HP := Lib.hid hp
                have hAm : A < m := by omega
                clear hp hm
                go_wp2_with fail
                with_reducible refine (symMerge_any v cf ix hO blk off cap w0 N HC.out (by omega) (N - A) A m N dj _ (Nat.le_refl _) hz hAm hmn (Nat.le_refl _) S1 HP.out).mono ?_
                rintro en w3 ⟨rfl, d3, S3, hm3⟩
                have HM3 := Lib.hid hm3
                clear hm3 hmz HP
                have HB2 : Hid (Blk (ltOf cf) ix (2 * B) N d3) := (HM.out.step hB (by omega) (by have h1 := HA.out; omega) (.inr ⟨rfl, by have h1 := HA.out; have h2 := Hb.out; omega⟩) (Nat.le_refl _) (by have h1 := HA.out; rw [← h1]; exact HM3.out)).done
                go_wp2_with fail
                go_round
                case rel => exact ⟨2 * B, d3, by congr 1 <;> omega, by omega, by omega, HM3.out.1.1.trans hz, S3, HB2, mpost_perm HPm.out hz (Nat.le_refl _) HM3.out⟩
                case measure => simp [intOf]; omega
              · have hmnz : ¬ (m : Int) < (N : Int) := by omega
                have HB2 : Hid (Blk (ltOf cf) ix (2 * B) N dj) := HM.out.last hB (by have h1 := HA.out; omega)
                clear hm
                go_wp2_with fail
                go_round
                case rel => exact ⟨2 * B, dj, by congr 1 <;> omega, by omega, by omega, hz, S1, HB2, HPm⟩
                case measure => simp [intOf]; omega
        · have hltz : ¬ (B : Int) < (N : Int) := by omega
          go_wp2_with fail
          go_end0
          exact ⟨rfl, dk, S1, HPm.out, HB.out.sorted (by omega)⟩
set_option maxHeartbeats 1000000 in
theorem sortStable_any (v : α → Value) (cf : α → α → Int) (ix : α → Nat) (hO : SWO (ltOf cf)) (blk off cap : Nat) (w0 : World) (N : Nat) (hC : CmpOk v cf w0 blk off N) (hsz : N < 1152921504606846976)
    (d : Array α) (w : World) (hN : d.size = N) (S : RW v w0 blk off d w) (hix : ∀ i j, i < j → j < N → ix d[i]! < ix d[j]!) :
    Calls Try.prog 96 #[.slice (some ⟨blk, off, none⟩) N cap, .func (.func 97) #[] #[]] w fun e w' => e = .returned (.tuple #[]) ∧ ∃ d', RW v w0 blk off d' w' ∧ PermIn 0 N d d' ∧ SortedIn (lt2 (ltOf cf) ix) 0 N d' := by
  go_enter Try.func96, Try.ntmps96
  go_wp2_with fail
  with_reducible refine (stable_any v cf ix hO blk off cap w0 N hC hsz d _ hN S hix).mono ?_
  rintro en w2 ⟨rfl, d2, S2, h1, h2⟩
  go_wp2_with fail
  go_end0
  exact ⟨rfl, d2, S2, h1, h2⟩
end Go.Proofs.Ytaggjclaehigjaa
