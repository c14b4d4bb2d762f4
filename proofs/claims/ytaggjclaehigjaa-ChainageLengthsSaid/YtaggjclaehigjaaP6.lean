/- The spells of a chain are determined, up to the order of their things. -/
import Derived.Test.YtaggjclaehigjaaP4
import Derived.Test.YtaggjclaehigjaaP5
namespace Go.Proofs.Ytaggjclaehigjaa
open Go.RowKit
theorem hi_at {pre : List Th} {S : List Sp} (h : InvL pre S) {k : Nat} (hk : k < S.length) : S[k].hi = if h2 : k + 1 < S.length then S[k + 1].lo - 1 else 4000 := by
  have e := h.hi
  rw [← h.lo] at e
  have e1 : (S.map Sp.hi)[k]? = some S[k].hi := by simp [hk]
  rw [e] at e1
  by_cases h2 : k + 1 < S.length
  · rw [dif_pos h2]
    rw [List.getElem?_append_left (by simp; omega)] at e1
    simp [h2] at e1
    exact e1.symm
  · rw [dif_neg h2]
    rw [List.getElem?_append_right (by simp; omega)] at e1
    have : k - ((S.map Sp.lo).tail.map (· - 1)).length = 0 := by simp; omega
    rw [this] at e1
    simpa using e1.symm
theorem spell_at {C P R : List Five} {id : Int} {c : Five} (g : Good C P R) (hf : findC C id = some c) {ts : List Th} (hp : ts.Perm (thAll P R c)) (hs : SortedT ts) {k : Nat} (hk : k < (splitS c.e ts).length) :
    ((splitS c.e ts)[k].ts.map Th.f).Perm (innZ P R c ((splitS c.e ts)[k].lo, (splitS c.e ts)[k].hi)) := by
  obtain ⟨t, r, rfl, hb, hty⟩ := head_beg g hf hp hs
  have hL := splitS_l c.e t r hb
  have hap := beg_apart g hf hp
  have hps := List.pairwise_cons.1 hs
  have hrise : ((splitS c.e (t :: r)).map Sp.lo).Pairwise (fun a b : Int => a < b) := by
    rw [hL.lo, List.pairwise_map, List.pairwise_filter]
    refine (hs.and hap).imp ?_
    intro a b h ha hb
    have h2 := h.2 ha hb
    have h1 := h.1
    rw [cmpT_neg] at h1
    omega
  have hyr : c.b ≤ (splitS c.e (t :: r))[k].lo ∧ (splitS c.e (t :: r))[k].lo ≤ 4000 := by
    have hm : (splitS c.e (t :: r))[k].lo ∈ ((t :: r).filter begB).map Th.y := by
      rw [← hL.lo]
      exact List.mem_map_of_mem (List.getElem_mem hk)
    obtain ⟨u, hu, he⟩ := List.mem_map.1 hm
    have hu := (List.mem_filter.1 hu).1
    rw [← he]
    refine ⟨?_, (thAll_ok g hf u (hp.mem_iff.1 hu)).1.1.2⟩
    rcases List.mem_cons.1 hu with rfl | hu
    · omega
    · have := hps.1 u hu
      rw [cmpT_neg] at this
      omega
  obtain ⟨k1, s1, e1, e2, e3, e4, e5, e6⟩ := spells_pick g hf hp hs hyr.1 hyr.2
  generalize splitS c.e (t :: r) = S at *
  obtain ⟨hk1, rfl⟩ := List.getElem?_eq_some_iff.1 e1
  have lt : ∀ i j, (hi : i < S.length) → (hj : j < S.length) → i < j → S[i].lo < S[j].lo := by
    intro i j hi hj hij
    have := List.pairwise_iff_getElem.1 hrise i j (by simpa using hi) (by simpa using hj) hij
    simpa using this
  have hkk : k1 = k := by
    rcases Nat.lt_trichotomy k1 k with h | h | h
    · exfalso
      have h1 := hi_at hL hk1
      rw [dif_pos (by omega)] at h1
      have h2 : S[k1 + 1].lo ≤ S[k].lo := by
        rcases Nat.lt_or_ge (k1 + 1) k with h3 | h3
        · exact Int.le_of_lt (lt _ _ _ _ h3)
        · have : k1 + 1 = k := by omega
          subst this
          exact Int.le_refl _
      omega
    · exact h
    · exfalso
      have h1 := hi_at hL hk
      rw [dif_pos (by omega)] at h1
      have h2 := lt k (k + 1) hk (by omega) (by omega)
      exact e3 k S[k] h (List.getElem?_eq_getElem hk) ⟨Int.le_refl _, by omega⟩
  subst hkk
  exact e6
theorem flat_perm {α β : Type} (f : α → List β) : ∀ S S' : List α, S.length = S'.length → (∀ k, (h : k < S.length) → (h' : k < S'.length) → (f S[k]).Perm (f S'[k])) → (S.flatMap f).Perm (S'.flatMap f) := by
  intro S
  induction S with
  | nil => intro S' h _; obtain rfl := List.length_eq_zero_iff.1 h.symm; exact .refl _
  | cons a S ih =>
    intro S' h hk
    cases S' with
    | nil => simp at h
    | cons b S' =>
      rw [List.flatMap_cons, List.flatMap_cons]
      refine List.Perm.append ?_ (ih S' (by simpa using h) fun k h h' => ?_)
      · exact hk 0 (by simp) (by simp)
      · exact hk (k + 1) (by simpa using h) (by simpa using h')
/-- the sorted pairs of a chain are determined -/
theorem cl_unique {C P R : List Five} {id : Int} {c : Five} (g : Good C P R) (hf : findC C id = some c) {l l' : List (Int × Int)} (h : ClC P R c l) (h' : ClC P R c l') : l = l' := by
  obtain ⟨ts, hp, hs, rfl⟩ := h
  obtain ⟨ts', hp', hs', rfl⟩ := h'
  refine sortP_perm ?_
  have hL : InvL ts (splitS c.e ts) := by
    obtain ⟨t, r, rfl, hb, _⟩ := head_beg g hf hp hs
    exact splitS_l c.e t r hb
  have hL' : InvL ts' (splitS c.e ts') := by
    obtain ⟨t, r, rfl, hb, _⟩ := head_beg g hf hp' hs'
    exact splitS_l c.e t r hb
  have hlo : (splitS c.e ts).map Sp.lo = (splitS c.e ts').map Sp.lo := by
    rw [hL.lo, hL'.lo]
    exact begs_eq (hp.trans hp'.symm) hs hs'
  have hhi : (splitS c.e ts).map Sp.hi = (splitS c.e ts').map Sp.hi := by
    rw [hL.hi, hL'.hi, begs_eq (hp.trans hp'.symm) hs hs']
  have hln : (splitS c.e ts).length = (splitS c.e ts').length := by simpa using congrArg List.length hlo
  refine flat_perm _ _ _ hln fun k h h' => ?_
  have h1 := spell_at g hf hp hs h
  have h2 := spell_at g hf hp' hs' h'
  have e1 : (splitS c.e ts)[k].lo = (splitS c.e ts')[k].lo := by
    have : ((splitS c.e ts).map Sp.lo)[k]? = ((splitS c.e ts').map Sp.lo)[k]? := by rw [hlo]
    simpa [h, h'] using this
  have e2 : (splitS c.e ts)[k].hi = (splitS c.e ts')[k].hi := by
    have : ((splitS c.e ts).map Sp.hi)[k]? = ((splitS c.e ts').map Sp.hi)[k]? := by rw [hhi]
    simpa [h, h'] using this
  have e3 := (splitS_inv c.e ts).we _ (List.getElem_mem h)
  have e4 := (splitS_inv c.e ts').we _ (List.getElem_mem h')
  rw [e3, e4]
  rw [e1, e2] at h1
  exact pairsOf_perm (h1.trans h2.symm)
end Go.Proofs.Ytaggjclaehigjaa
