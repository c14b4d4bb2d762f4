/- Plain laws: contradictions and lengths do not depend on the order of the things. -/
import Derived.Test.YtaggjclaehigjaaH
namespace Go.Proofs.Ytaggjclaehigjaa
theorem clashesB_iff {w : Int} {l : List Four} : clashesB w l = false ↔ l.Pairwise (fun a b => clashB w a b = false) := by
  induction l with
  | nil => simp [clashesB]
  | cons t l ih =>
    rw [List.pairwise_cons, ← ih]
    simp only [clashesB, Bool.or_eq_false_iff, List.any_eq_false]
    constructor
    · rintro ⟨h1, h2⟩
      exact ⟨fun s hs => by rw [clashB_comm]; simpa using h1 s hs, h2⟩
    · rintro ⟨h1, h2⟩
      exact ⟨fun s hs => by rw [clashB_comm]; simp [h1 s hs], h2⟩
theorem clashesB_perm {w : Int} {l l' : List Four} (h : l.Perm l') : clashesB w l = clashesB w l' := by
  have key : clashesB w l = false ↔ clashesB w l' = false := by
    rw [clashesB_iff, clashesB_iff]
    exact h.pairwise_iff (fun {x y} hxy => by rw [clashB_comm]; exact hxy)
  cases h1 : clashesB w l <;> cases h2 : clashesB w l' <;> simp_all
theorem pairsOf_nil {w : Int} {l : List Four} : pairsOf w l = [] ↔ clashesB w l = false := by
  rw [clashesB_iff, List.pairwise_iff_getElem]
  unfold pairsOf pairsUp
  rw [List.flatMap_eq_nil_iff]
  constructor
  · intro h i j hi hj hij
    have := h j (List.mem_range.2 hj)
    unfold rowPairs at this
    rw [List.map_eq_nil_iff, List.filter_eq_nil_iff] at this
    have hm : l[i] ∈ l.take j := by rw [List.mem_iff_getElem]; exact ⟨i, by simp; omega, by simp⟩
    have := this _ hm
    rw [clashB_comm]
    simpa [List.getD, hj] using this
  · intro h j hj
    have hj := List.mem_range.1 hj
    unfold rowPairs
    rw [List.map_eq_nil_iff, List.filter_eq_nil_iff]
    intro u hu
    obtain ⟨i, hi, rfl⟩ := List.mem_iff_getElem.1 hu
    have hi' : i < j := by simp at hi; omega
    have := h i j (by omega) hj hi'
    rw [clashB_comm] at this
    simpa [List.getD, hj] using this
theorem clS_eq (s : SpE) : (!(pairsOf s.w s.fs).isEmpty) = clashesB s.w s.fs := by
  cases h : clashesB s.w s.fs
  · rw [pairsOf_nil.2 h]; rfl
  · cases h2 : pairsOf s.w s.fs with
    | nil => rw [pairsOf_nil.1 h2] at h; cases h
    | cons a l => rfl
theorem limLo_perm {w y : Int} {l l' : List Four} (h : l.Perm l') : limLo w y l = limLo w y l' := by
  unfold limLo
  exact h.foldl_eq' (fun _ _ _ _ _ => by omega) _
theorem limHi_perm {w y : Int} {l l' : List Four} (h : l.Perm l') : limHi w y l = limHi w y l' := by
  unfold limHi
  exact h.foldl_eq' (fun _ _ _ _ _ => by omega) _
end Go.Proofs.Ytaggjclaehigjaa
