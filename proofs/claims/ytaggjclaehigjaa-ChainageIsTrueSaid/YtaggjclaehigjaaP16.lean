/- Plain law of ChainageIsTrue: what the law asks. -/
import Derived.Test.YtaggjclaehigjaaP15
namespace Go.Proofs.Ytaggjclaehigjaa
section
variable {C P R P' R' : List Five} {start : Int} {steps : List Int} {c : Five} {l : List Int}
theorem TruthIs.other (h : TruthIs C P R start steps c P' R' l) {d : Five} (hd : d.a ≠ c.a) (s : Int × Int) : clashesB d.e (innZ P' R' d s) = false := by
  have e : (P' ++ R').filter (fun t => t.b == d.a && inB t.c s.1 s.2) = [] := by
    rw [List.filter_eq_nil_iff]
    intro t ht
    have hb : t.b = c.a := by
      rcases List.mem_append.1 ht with ht | ht
      · obtain ⟨q, _, hk, _, e2, _⟩ := h.pro.mem ht
        unfold keepF at hk
        simp only [Bool.and_eq_true, beq_iff_eq] at hk
        rw [← e2]
        exact hk.1
      · exact (h.rep_ok t ht).1
    have : (t.b == d.a) = false := by
      rw [hb]
      simpa using fun e => hd e.symm
    simp [this]
  unfold innZ
  rw [e]
  split <;> simp [clashesB]
theorem TruthIs.pairs (h : TruthIs C P R start steps c P' R' l) : clsL C P' R' (clF P' R') = [] := by
  have g := h.good
  unfold clsL
  rw [if_pos (chk_zero.2 g), List.flatMap_eq_nil_iff]
  intro d hd
  have hf := find_self g hd
  obtain ⟨ts, hp, hs⟩ := sorted_ts (thAll P' R' d)
  have hc : ClC P' R' d (sortP (prS (splitS d.e ts))) := ⟨ts, hp, hs, rfl⟩
  rw [← clF_eq g hf hc]
  have hn : prS (splitS d.e ts) = [] := by
    unfold prS
    rw [List.flatMap_eq_nil_iff]
    intro s hsm
    obtain ⟨k, hk, rfl⟩ := List.getElem_of_mem hsm
    obtain ⟨y, h1, h2, h3, h4, h5⟩ := spell_at2 g hf hp hs hk
    rw [pairsOf_nil, h4, clashesB_perm h5]
    by_cases e : d.a = c.a
    · have hcm := List.mem_of_mem_head? h.hd
      have h6 := find_self g hcm
      rw [← e, hf] at h6
      obtain rfl := Option.some.inj h6
      exact no_clash h.free h1 h2
    · exact h.other e _
  rw [hn]
  exact List.eq_nil_of_length_eq_zero ((List.mergeSort_perm _ _).length_eq)
theorem TruthIs.at_ (_h : TruthIs C P R start steps c P' R' l) (j : Nat) : l.getD j 0 = trueAt l c (c.b + j) := by
  unfold trueAt
  rw [show (c.b + (j : Int) - c.b).toNat = j by omega]
theorem TruthIs.fits (h : TruthIs C P R start steps c P' R' l) : fitsR C P' R' c.a c.b l = (-1, true) := by
  have hl := h.len
  have ht := h.tlen
  have hn : l ≠ [] := by
    intro e
    rw [e] at ht
    simp at ht
    omega
  rw [fits_good h.find (chk_zero.2 h.good) hn (Int.le_refl _) h.chain_ok.1.2 (by omega), if_neg (by rw [h.free]; decide)]
  refine fitZ_all fun j hj => ?_
  have hlim := h.lim (y := c.b + j) (by omega) (by omega)
  unfold fitB
  rw [h.at_ j, Bool.and_eq_true]
  refine ⟨inB_iff.2 hlim, ?_⟩
  simp only [Bool.or_eq_true, decide_eq_true_eq]
  by_cases j0 : j = 0
  · exact .inl (.inl j0)
  · by_cases s0 : (spellZ R' c (c.b + j)).1 = c.b + j
    · exact .inl (.inr s0)
    · right
      rw [h.at_ (j - 1), show c.b + ((j - 1 : Nat) : Int) = c.b + (j : Int) - 1 by omega]
      exact inB_iff.2 (h.step (by omega) (by omega) s0)
theorem TruthIs.long (h : TruthIs C P R start steps c P' R' l) {y : Int} (h1 : c.b ≤ y) (h2 : y < c.b + steps.length) : longR C P' R' c.a y = ((loY P' R' c y, hiY P' R' c y), 0) := by
  have hl := h.len
  have hat : atE C P' R' c.a y = 0 := by
    unfold atE
    rw [if_pos (chk_zero.2 h.good), h.find]
    simp only
    rw [if_pos (inB_iff.2 ⟨h1, by omega⟩)]
  have e : agE C P' R' c.a y = 0 := by
    rw [agE_at hat h.find]
    have := no_clash h.free h1 (show y ≤ 4000 by omega)
    rw [this]
    rfl
  unfold longR
  rw [if_pos e, h.find]
  rfl
theorem ceil_le (a : Int) : a ≤ (a + 9999) / 10000 * 10000 := by omega
theorem TruthIs.dist (h : TruthIs C P R start steps c P' R' l) {y : Int} (h1 : c.b ≤ y) (h2 : y < c.b + steps.length) (n k s off : Int) :
    (distR C P' R' c.a y n k s).2 = 1 ∨ ((distR C P' R' c.a y n k s).2 = 0 ∧ (0 ≤ n ∧ n ≤ 100000) ∧ (0 ≤ k ∧ k ≤ 99) ∧ (0 ≤ s ∧ s ≤ 100000) ∧
      (0 ≤ (distR C P' R' c.a y n k s).1.1 ∧ (distR C P' R' c.a y n k s).1.1 ≤ 1000000000 ∧ 0 ≤ (distR C P' R' c.a y n k s).1.2 ∧ (distR C P' R' c.a y n k s).1.2 ≤ 1000000000) ∧
      0 ≤ max 0 (100 * n + k + intoZ off (-s) s) * trueAt l c y ∧ max 0 (100 * n + k + intoZ off (-s) s) * trueAt l c y ≤ 1000000000000 ∧
      (distR C P' R' c.a y n k s).1.1 * 100 * 100 ≤ max 0 (100 * n + k + intoZ off (-s) s) * trueAt l c y ∧ max 0 (100 * n + k + intoZ off (-s) s) * trueAt l c y ≤ (distR C P' R' c.a y n k s).1.2 * 100 * 100) := by
  have hlg := h.long h1 h2
  have hlim := h.lim h1 h2
  have hrg := h.rng h1 h2
  have h12 : hiY P' R' c y ≤ 12000 := limHi_le _ _ _ _
  have h9 : 9000 ≤ loY P' R' c y := le_limLo _ _ _ _
  have hd : distR C P' R' c.a y n k s = if okM c y n k s then ((max 0 (100 * n + k - s) * loY P' R' c y / 10000, ((100 * n + k + s) * hiY P' R' c y + 9999) / 10000), 0) else ((0, 0), 1) := by
    unfold distR
    rw [if_pos (chk_zero.2 h.good), h.find]
    simp only
    rw [hlg]
    simp only [if_true]
  rw [hd]
  cases ho : okM c y n k s
  · exact .inl rfl
  · right
    rw [if_pos rfl]
    unfold okM at ho
    simp only [Bool.and_eq_true, inB_iff] at ho
    obtain ⟨⟨⟨_, n1⟩, n2⟩, n3⟩ := ho
    have i1 := intoZ_ge off (-s) s
    have i2 := intoZ_le (n := off) (show -s ≤ s by omega)
    generalize intoZ off (-s) s = d at i1 i2
    generalize trueAt l c y = T at hlim hrg
    generalize loY P' R' c y = lo at hlim h9
    generalize hiY P' R' c y = hi at hlim h12
    have m1 := Int.mul_le_mul (show max 0 (100 * n + k - s) ≤ max 0 (100 * n + k + d) by omega) hlim.1 (by omega) (by omega)
    have m2 := Int.mul_le_mul (show max 0 (100 * n + k + d) ≤ 100 * n + k + s by omega) hlim.2 (by omega) (by omega)
    have m3 := mul_rng (a := max 0 (100 * n + k - s)) (b := lo) (A := 20000000) (B := 12000) (by omega) (by omega) (by omega) (by omega)
    have m4 := mul_rng (a := 100 * n + k + s) (b := hi) (A := 20000000) (B := 12000) (by omega) (by omega) (by omega) (by omega)
    have m5 := mul_rng (a := max 0 (100 * n + k + d)) (b := T) (A := 20000000) (B := 12000) (by omega) (by omega) (by omega) (by omega)
    generalize max 0 (100 * n + k - s) * lo = a at m1 m3
    generalize (100 * n + k + s) * hi = b at m2 m4
    generalize max 0 (100 * n + k + d) * T = e at m1 m2 m5
    simp only
    exact ⟨trivial, n1, n2, n3, by omega, by omega, by omega, by omega, by omega⟩
end
end Go.Proofs.Ytaggjclaehigjaa
