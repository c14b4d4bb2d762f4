/- Plain law of Shortest and Longest: the spells in their order have all years, each once. -/
import Derived.Test.YtaggjclaehigjaaPF
namespace Go.Proofs.Ytaggjclaehigjaa
structure RowS (P R : List Five) (c : Five) (S : List SpE) (j : Nat) (s : SpE) : Prop where
  le : s.lo ≤ s.hi
  hi : s.hi = if h : j + 1 < S.length then S[j + 1].lo - 1 else 4000
  yr : c.b ≤ s.lo ∧ s.hi ≤ 4000
  sp : ∀ y, s.lo ≤ y → y ≤ s.hi → spellZ R c y = (s.lo, s.hi)
  we : s.w = c.e
  fs : s.fs.Perm (innZ P R c (s.lo, s.hi))
theorem spells_row {C P R : List Five} {id : Int} {c : Five} (g : Good C P R) (hf : findC C id = some c) {S : List SpE} {ts : List Th} (hp : ts.Perm (thAll P R c)) (hs : SortedT ts) (hm : S.map SpE.sp = splitS c.e ts) :
    (∃ h : 0 < S.length, S[0].lo = c.b) ∧ ∀ j, (hj : j < S.length) → RowS P R c S j S[j] := by
  obtain ⟨t, r, rfl, hb, hty⟩ := head_beg g hf hp hs
  have hL := splitS_l c.e t r hb
  have hlen : (splitS c.e (t :: r)).length = S.length := by rw [← hm]; simp
  have hat : ∀ j, (hj : j < S.length) → (splitS c.e (t :: r))[j]'(by omega) = S[j].sp := fun j hj => by simp only [← hm, List.getElem_map]
  have hls := hL.lo
  constructor
  · have h0 : 0 < (splitS c.e (t :: r)).length := by
      have : ((splitS c.e (t :: r)).map Sp.lo).length = (((t :: r).filter begB).map Th.y).length := by rw [hls]
      simp [hb] at this
      omega
    refine ⟨by omega, ?_⟩
    have e : ((splitS c.e (t :: r)).map Sp.lo)[0]? = some t.y := by rw [hls]; simp [hb]
    rw [List.getElem?_map, List.getElem?_eq_getElem h0, hat 0 (by omega)] at e
    have e2 : S[0].sp.lo = t.y := by simpa using e
    rw [← hty, ← e2]
    rfl
  · intro j hj
    have hj' : j < (splitS c.e (t :: r)).length := by omega
    have hh := hi_at hL hj'
    obtain ⟨y0, h1, h2, h3, h4, h5⟩ := spell_at2 g hf hp hs hj'
    rw [hat j hj] at hh h3 h4 h5
    have h3' : (S[j].lo, S[j].hi) = spellZ R c y0 := h3
    have hsl := spell_le (R := R) h1 h2
    rw [← h3'] at hsl h5
    simp only at hsl
    refine ⟨by omega, ?_, ⟨hsl.1, hsl.2.2.2⟩, fun y a b => ?_, h4, ?_⟩
    · have hh' : S[j].hi = _ := hh
      rw [hh']
      by_cases h : j + 1 < S.length
      · rw [dif_pos (by omega), dif_pos h, hat (j + 1) h]
        rfl
      · rw [dif_neg (by omega), dif_neg h]
    · rw [spellZ_same h1 h2 (by rw [← h3']; exact a) (by rw [← h3']; exact b), h3']
    · have e : S[j].fs = S[j].sp.ts.map Th.f := by simp [SpE.fs, SpE.sp, List.map_map]
      rw [e]
      exact h5
/-- the first year that was not yet come to, ahead of spell j -/
def PosS (S : List SpE) (lo hi : Int) (j : Nat) (n : Int) : Prop := n = if h : j < S.length then max lo (min (hi + 1) S[j].lo) else hi + 1
theorem pos_zero {S : List SpE} {lo hi b : Int} (h : ∃ h : 0 < S.length, S[0].lo = b) (hb : b ≤ lo) (hl : lo ≤ hi) : PosS S lo hi 0 lo := by
  obtain ⟨h0, e⟩ := h
  unfold PosS
  rw [dif_pos h0, e]
  omega
theorem pos_end {S : List SpE} {lo hi n : Int} (h : PosS S lo hi S.length n) : n = hi + 1 := by
  unfold PosS at h
  rw [dif_neg (by omega)] at h
  exact h
theorem pos_skip {P R : List Five} {c : Five} {S : List SpE} {lo hi n : Int} {j : Nat} (hj : j < S.length) (hr : RowS P R c S j S[j]) (hr2 : ∀ i, (hi : i < S.length) → RowS P R c S i S[i]) (hl : lo ≤ hi) (hh : hi ≤ 4000) (h : PosS S lo hi j n) (hc : ¬ (max lo S[j].lo ≤ min hi S[j].hi)) : PosS S lo hi (j + 1) n := by
  unfold PosS at *
  rw [dif_pos hj] at h
  have h1 := hr.hi
  have h2 := hr.le
  by_cases hj1 : j + 1 < S.length
  · rw [dif_pos hj1] at h1 ⊢
    have h3 := (hr2 _ hj1).le
    omega
  · rw [dif_neg hj1] at h1 ⊢
    omega
theorem pos_go {P R : List Five} {c : Five} {S : List SpE} {lo hi n : Int} {j : Nat} (hj : j < S.length) (hr : RowS P R c S j S[j]) (hl : lo ≤ hi) (hh : hi ≤ 4000) (h : PosS S lo hi j n) (hc : max lo S[j].lo ≤ min hi S[j].hi) : n = max lo S[j].lo ∧ PosS S lo hi (j + 1) (min hi S[j].hi + 1) := by
  unfold PosS at *
  rw [dif_pos hj] at h
  have h1 := hr.hi
  have h2 := hr.le
  refine ⟨by omega, ?_⟩
  by_cases hj1 : j + 1 < S.length
  · rw [dif_pos hj1] at h1 ⊢
    omega
  · rw [dif_neg hj1] at h1 ⊢
    omega
/-- a spell that contradicts itself -/
theorem row_cl {P R : List Five} {c : Five} {S : List SpE} {j : Nat} {s : SpE} (h : RowS P R c S j s) {y : Int} (h1 : s.lo ≤ y) (h2 : y ≤ s.hi) : clS s = clashesB c.e (innZ P R c (spellZ R c y)) := by
  have e : clS s = clashesB s.w s.fs := by unfold clS; exact clS_eq s
  rw [e, h.we, clashesB_perm h.fs, h.sp y h1 h2]
theorem row_lo {P R : List Five} {c : Five} {S : List SpE} {j : Nat} {s : SpE} (h : RowS P R c S j s) {y : Int} (h1 : s.lo ≤ y) (h2 : y ≤ s.hi) : limLo s.w y s.fs = loY P R c y := by
  rw [h.we, limLo_perm h.fs]
  unfold loY
  rw [h.sp y h1 h2]
theorem row_hi {P R : List Five} {c : Five} {S : List SpE} {j : Nat} {s : SpE} (h : RowS P R c S j s) {y : Int} (h1 : s.lo ≤ y) (h2 : y ≤ s.hi) : limHi s.w y s.fs = hiY P R c y := by
  rw [h.we, limHi_perm h.fs]
  unfold hiY
  rw [h.sp y h1 h2]
end Go.Proofs.Ytaggjclaehigjaa
