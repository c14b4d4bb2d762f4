/- Plain law of ChainageNarrows: one more proof, and less proofs. -/
import Derived.Test.YtaggjclaehigjaaPF
import Derived.Test.YtaggjclaehigjaaR11
import Derived.Test.YtaggjclaehigjaaDD
namespace Go.Proofs.Ytaggjclaehigjaa
theorem inn_mem {P R : List Five} {c : Five} {s : Int × Int} {t : Four} : t ∈ innZ P R c s ↔ (s.1 = c.b ∧ t = ⟨0, c.b, c.c, c.d⟩) ∨ ∃ x, (x ∈ P ∨ x ∈ R) ∧ x.b = c.a ∧ (s.1 ≤ x.c ∧ x.c ≤ s.2) ∧ t = ⟨x.a, x.c, x.d, x.e⟩ := by
  unfold innZ
  rw [List.mem_append]
  constructor
  · rintro (h | h)
    · split at h
      · rename_i e
        exact .inl ⟨e, List.mem_singleton.1 h⟩
      · simp at h
    · obtain ⟨x, hx, rfl⟩ := List.mem_map.1 h
      obtain ⟨h1, h2⟩ := List.mem_filter.1 hx
      simp only [Bool.and_eq_true, beq_iff_eq, inB_iff] at h2
      exact .inr ⟨x, List.mem_append.1 h1, h2.1, h2.2, rfl⟩
  · rintro (⟨e, rfl⟩ | ⟨x, hx, hb, hy, rfl⟩)
    · exact .inl (by rw [if_pos e]; exact List.mem_singleton.2 rfl)
    · refine .inr (List.mem_map.2 ⟨x, List.mem_filter.2 ⟨List.mem_append.2 hx, ?_⟩, rfl⟩)
      simp only [Bool.and_eq_true, beq_iff_eq, inB_iff]
      exact ⟨hb, hy⟩
theorem lim_sub {w y : Int} {l l' : List Four} (h : ∀ t ∈ l, t ∈ l') : limLo w y l ≤ limLo w y l' ∧ limHi w y l' ≤ limHi w y l := by
  have a := (limLo_iff (w := w) (y := y) (l := l')).1 (Int.le_refl _)
  have b := (limHi_iff (w := w) (y := y) (l := l')).1 (Int.le_refl _)
  exact ⟨limLo_iff.2 ⟨a.1, fun t ht => a.2 t (h t ht)⟩, limHi_iff.2 ⟨b.1, fun t ht => b.2 t (h t ht)⟩⟩
theorem agE_at0 {C P R : List Five} {id y : Int} (h : agE C P R id y = 0) : atE C P R id y = 0 ∧ chk C P R = 0 := by
  have h1 : atE C P R id y = 0 := by
    by_cases hz : atE C P R id y = 0
    · exact hz
    · unfold agE at h
      rw [if_neg hz] at h
      exact h
  refine ⟨h1, ?_⟩
  by_cases h2 : chk C P R = 0
  · exact h2
  · unfold atE at h1
    rw [if_neg h2] at h1
    exact h1
theorem long_of {C P R : List Five} {id y : Int} {c : Five} (h : agE C P R id y = 0) (hf : findC C id = some c) : longR C P R id y = ((loY P R c y, hiY P R c y), 0) := by
  unfold longR
  rw [if_pos h, hf]
  rfl
theorem ag_clash {C P R : List Five} {id y : Int} {c : Five} (h : agE C P R id y = 0) (hf : findC C id = some c) : clashesB c.e (innZ P R c (spellZ R c y)) = false := by
  have e := agE_at (agE_at0 h).1 hf
  rw [h] at e
  cases hc : clashesB c.e (innZ P R c (spellZ R c y))
  · rfl
  · rw [hc] at e
    simp at e
/-- with one more proof Long is not wider -/
theorem more_long {C P R : List Five} {id y : Int} {p : Five} (h : agE C P R id y = 0) (h' : agE C (P ++ [p]) R id y = 0) :
    (longR C P R id y).1.1 ≤ (longR C (P ++ [p]) R id y).1.1 ∧ (longR C (P ++ [p]) R id y).1.2 ≤ (longR C P R id y).1.2 ∧ (longR C (P ++ [p]) R id y).1.1 ≤ (longR C (P ++ [p]) R id y).1.2 := by
  obtain ⟨c, g, hf, hy⟩ := agE_zero h
  obtain ⟨c', g', hf', _⟩ := agE_zero h'
  rw [hf] at hf'
  cases hf'
  rw [long_of h hf, long_of h' hf]
  have hs := lim_sub (w := c.e) (y := y) (l := innZ P R c (spellZ R c y)) (l' := innZ (P ++ [p]) R c (spellZ R c y)) (fun t ht => by
    rw [inn_mem] at ht ⊢
    rcases ht with ht | ⟨x, hx, r⟩
    · exact .inl ht
    · exact .inr ⟨x, by rcases hx with hx | hx; exact .inl (List.mem_append.2 (.inl hx)); exact .inr hx, r⟩)
  have hsp := spell_le (R := R) hy.1 hy.2
  have hok := innZ_ok g' hf (lo := (spellZ R c y).1) (hi := (spellZ R c y).2) hsp.1 (by omega)
  exact ⟨hs.1, hs.2, lim_le (okC_parts (good_okT g hf).2.1).2.2.2.1 hok.1 (ag_clash h' hf)⟩
theorem more_err {C P R : List Five} {id y : Int} {p : Five} (h : agE C P R id y = 0) (h1 : agE C (P ++ [p]) R id y ≠ 0) (h2 : agE C (P ++ [p]) R id y ≠ 9) : chk C (P ++ [p]) R ≠ 0 := by
  intro hk
  obtain ⟨c, g, hf, hy⟩ := agE_zero h
  have hat : atE C (P ++ [p]) R id y = 0 := by
    unfold atE
    rw [if_pos hk, hf]
    simp only
    rw [if_pos (inB_iff.2 hy)]
  have e := agE_at hat hf
  cases hc : clashesB c.e (innZ (P ++ [p]) R c (spellZ R c y))
  · rw [hc] at e; exact h1 (by simpa using e)
  · rw [hc] at e; exact h2 (by simpa using e)
/-- the proofs that are struck -/
def restI (P : List Five) (low top : Int) : List Int := (P.filter (fun x => !(x.a == low) && !(x.a == top))).map (·.a)
theorem restI_yes {P : List Five} {low top : Int} {k : Nat} (hk : k < P.length) {x : Five} (hx : x = P[k]) (h : (!(x.a == low) && !(x.a == top)) = true) : restI (P.take (k + 1)) low top = restI (P.take k) low top ++ [x.a] := by
  unfold restI
  rw [List.take_succ_eq_append_getElem hk, List.filter_append, List.map_append, ← hx]
  simp only [List.filter_cons, h, if_true, List.filter_nil, List.map_cons, List.map_nil]
theorem restI_no {P : List Five} {low top : Int} {k : Nat} (hk : k < P.length) {x : Five} (hx : x = P[k]) (h : (!(x.a == low) && !(x.a == top)) = false) : restI (P.take (k + 1)) low top = restI (P.take k) low top := by
  unfold restI
  rw [List.take_succ_eq_append_getElem hk, List.filter_append, List.map_append, ← hx]
  simp [h]
theorem leftL_sub (G : List Int) (l : List Five) : (leftL G l).Sublist l := List.filter_sublist
theorem good_left {C P R : List Five} (g : Good C P R) (G : List Int) : Good C (leftL G P) (leftL G R) := by
  have sp := leftL_sub G P
  have sr := leftL_sub G R
  refine ⟨⟨g.few.1, ?_⟩, g.okc, g.twc, fun p hp => g.okp p (sp.subset hp), fun r hr => g.okr r (sr.subset hr), g.twt.sublist (sp.append sr), g.twr.sublist sr⟩
  have := sp.length_le
  have := sr.length_le
  have := g.few.2
  omega
theorem goneB_iff {G : List Int} {x : Five} : goneB G x = true ↔ x.a ∈ G := by
  unfold goneB
  rw [List.any_eq_true]
  constructor
  · rintro ⟨y, hy, e⟩
    have : x.a = y := by simpa using e
    rw [this]; exact hy
  · intro h
    exact ⟨x.a, h, by simp⟩
theorem mem_leftL {G : List Int} {l : List Five} {x : Five} : x ∈ leftL G l ↔ x ∈ l ∧ x.a ∉ G := by
  unfold leftL
  rw [List.mem_filter]
  constructor
  · rintro ⟨h1, h2⟩
    refine ⟨h1, fun h => ?_⟩
    rw [goneB_iff.2 h] at h2
    cases h2
  · rintro ⟨h1, h2⟩
    refine ⟨h1, ?_⟩
    cases hg : goneB G x
    · rfl
    · exact absurd (goneB_iff.1 hg) h2
theorem inn_sub {P R P' R' : List Five} (hp : P'.Sublist P) (hr : R'.Sublist R) (c : Five) (s : Int × Int) : (innZ P' R' c s).Sublist (innZ P R c s) := by
  unfold innZ
  exact (List.Sublist.refl _).append (((hp.append hr).filter _).map _)
theorem clashes_sub {w : Int} {l l' : List Four} (h : l'.Sublist l) (hc : clashesB w l = false) : clashesB w l' = false := clashesB_iff.2 ((clashesB_iff.1 hc).sublist h)
theorem rep_stay {C P R : List Five} (g : Good C P R) (low top : Int) : leftL (restI P low top) R = R := by
  unfold leftL
  rw [List.filter_eq_self]
  intro r hr
  cases hg : goneB (restI P low top) r
  · rfl
  · have hm := goneB_iff.1 hg
    unfold restI at hm
    obtain ⟨x, hx, e⟩ := List.mem_map.1 hm
    have hxP := (List.mem_filter.1 hx).1
    exact absurd e ((List.pairwise_append.1 g.twt).2.2 x hxP r hr)
theorem with_ok {C P R : List Five} (h : chk C P R = 0) (low top : Int) : withE C P R (restI P low top) = 0 := by
  unfold withE
  rw [if_pos h, if_neg]
  rw [Bool.not_eq_true, List.any_eq_false]
  intro a ha
  unfold restI at ha
  obtain ⟨x, hx, rfl⟩ := List.mem_map.1 ha
  have hxP := (List.mem_filter.1 hx).1
  have hk := (chk_zero.1 h).okp x hxP
  unfold okT at hk
  split at hk
  · cases hk
  · simp only [Bool.and_eq_true] at hk
    simp [hk.1.1]
theorem less_long {C P R : List Five} {id y low top : Int} (h : agE C P R id y = 0) (hr : (restR C P R id y).1 = (low, top)) : agE C (leftL (restI P low top) P) R id y = 0 ∧ longR C (leftL (restI P low top) P) R id y = longR C P R id y := by
  obtain ⟨c, g, hf, hy⟩ := agE_zero h
  have hk := (agE_at0 h).2
  have hcl := ag_clash h hf
  have g' : Good C (leftL (restI P low top) P) R := by
    have := good_left g (restI P low top)
    rw [rep_stay g] at this
    exact this
  have hsub := inn_sub (leftL_sub (restI P low top) P) (List.Sublist.refl R) c (spellZ R c y)
  have hat : atE C (leftL (restI P low top) P) R id y = 0 := by
    unfold atE
    rw [if_pos (chk_zero.2 g'), hf]
    simp only
    rw [if_pos (inB_iff.2 hy)]
  have hag : agE C (leftL (restI P low top) P) R id y = 0 := by
    have e := agE_at hat hf
    rw [clashes_sub hsub hcl] at e
    simpa using e
  refine ⟨hag, ?_⟩
  rw [long_of hag hf, long_of h hf]
  have hs := lim_sub (w := c.e) (y := y) (fun t ht => hsub.subset ht)
  unfold restR at hr
  rw [if_pos h, hf] at hr
  simp only [Prod.mk.injEq] at hr
  have l1 := (refLo_rest c.e y (innZ P R c (spellZ R c y))).2
  have l2 := (refHi_rest c.e y (innZ P R c (spellZ R c y))).2
  have e1 : (List.foldl (refLo c.e y) (9000, 0) (innZ P R c (spellZ R c y))).2 = low := hr.1
  have e2 : (List.foldl (refHi c.e y) (12000, 0) (innZ P R c (spellZ R c y))).2 = top := hr.2
  rw [e1] at l1
  rw [e2] at l2
  have keep : ∀ t ∈ innZ P R c (spellZ R c y), t.i = low ∨ t.i = top → t ∈ innZ (leftL (restI P low top) P) R c (spellZ R c y) := by
    intro t ht hi
    rw [inn_mem] at ht ⊢
    rcases ht with ht | ⟨x, hx, r1, r2, rfl⟩
    · exact .inl ht
    · refine .inr ⟨x, ?_, r1, r2, rfl⟩
      rcases hx with hx | hx
      · refine .inl (mem_leftL.2 ⟨hx, fun hm => ?_⟩)
        unfold restI at hm
        obtain ⟨z, hz, e⟩ := List.mem_map.1 hm
        have hz2 := (List.mem_filter.1 hz).2
        simp only [Bool.and_eq_true, Bool.not_eq_true', beq_eq_false_iff_ne, ne_eq] at hz2
        have hi' : x.a = low ∨ x.a = top := hi
        omega
      · exact .inr hx
  have a1 : loY P R c y ≤ loY (leftL (restI P low top) P) R c y := by
    rcases l1 with ⟨l1, _⟩ | ⟨_, ⟨t, ht, e3, e4⟩, _⟩
    · have := limLo_ge c.e y (innZ (leftL (restI P low top) P) R c (spellZ R c y))
      show limLo _ _ _ ≤ limLo _ _ _
      omega
    · have := lo_le_lim c.e y _ t (keep t ht (.inl e4))
      show limLo _ _ _ ≤ limLo _ _ _
      omega
  have a2 : hiY (leftL (restI P low top) P) R c y ≤ hiY P R c y := by
    rcases l2 with ⟨l2, _⟩ | ⟨_, ⟨t, ht, e3, e4⟩, _⟩
    · have := limHi_ge c.e y (innZ (leftL (restI P low top) P) R c (spellZ R c y))
      show limHi _ _ _ ≤ limHi _ _ _
      omega
    · have := lim_le_hi c.e y _ t (keep t ht (.inr e4))
      show limHi _ _ _ ≤ limHi _ _ _
      omega
  have b1 : loY (leftL (restI P low top) P) R c y ≤ loY P R c y := hs.1
  have b2 : hiY P R c y ≤ hiY (leftL (restI P low top) P) R c y := hs.2
  rw [show loY (leftL (restI P low top) P) R c y = loY P R c y by omega, show hiY (leftL (restI P low top) P) R c y = hiY P R c y by omega]
end Go.Proofs.Ytaggjclaehigjaa
