/- The example of the laws, plainly. -/
import Derived.Test.YtaggjclaehigjaaW2
namespace Go.Proofs.Ytaggjclaehigjaa
open Go.RowKit
def xc : Five := ⟨1, 1800, 10000, 10010, 5⟩
def xC : List Five := [xc]
def xP1 : List Five := [⟨3, 1, 1810, 10020, 10030⟩]
def xP2 : List Five := [⟨3, 1, 1810, 10020, 10030⟩, ⟨4, 1, 1804, 10022, 10025⟩]
def xP3 : List Five := [⟨3, 1, 1810, 10020, 10030⟩, ⟨5, 1, 1802, 10025, 10026⟩]
def xR : List Five := [⟨8, 1, 1815, 10000, 10000⟩]
theorem x_dist : distR xC xP1 [] 1 1810 3 50 1 = ((349, 353), 0) := by kernel_rfl
theorem x_long1 : isLong (longR xC xP1 [] 1 1800) 10000 10010 = true := by kernel_rfl
theorem x_long2 : isLong (longR xC xP1 [] 1 1805) 10000 10030 = true := by kernel_rfl
theorem x_long3 : isLong (longR xC xP1 [] 1 1810) 10020 10030 = true := by kernel_rfl
theorem x_long4 : isLong (longR xC xP1 [] 1 1820) 10020 10080 = true := by kernel_rfl
theorem x_long5 : isLong (longR xC xP2 [] 1 1800) 10002 10010 = true := by kernel_rfl
theorem x_long6 : isLong (longR xC xP2 [] 1 1804) 10022 10025 = true := by kernel_rfl
theorem x_spell1 : spellR xC xP3 xR 1 1810 = ((1800, 1814), 0) := by kernel_rfl
theorem x_spell2 : spellR xC xP3 xR 1 1815 = ((1815, 4000), 0) := by kernel_rfl
theorem x_chk : chk xC xP3 [] = 0 := by kernel_rfl
theorem x_agE : agE xC xP1 [] 1 1805 = 0 := by kernel_rfl
theorem perm_two {α : Type} {a b : α} {l : List α} (h : l.Perm [a, b]) : l = [a, b] ∨ l = [b, a] := by
  have hl := h.length_eq
  match l, hl with
  | [x, y], _ =>
    have hx : x = a ∨ x = b := by simpa using h.mem_iff.1 (show x ∈ [x, y] by simp)
    rcases hx with rfl | rfl
    · have := (List.perm_cons x).1 h
      rw [List.perm_singleton] at this
      exact .inl (by rw [this])
    · have h2 : [x, y].Perm [x, a] := h.trans (List.Perm.swap _ _ _)
      have := (List.perm_cons x).1 h2
      rw [List.perm_singleton] at this
      exact .inr (by rw [this])
theorem x_rest {l : List Four} (h : l.Perm (innZ xP1 [] xc (spellZ [] xc 1805))) : foldLo 5 1805 (limLo 5 1805 l) l = 0 ∧ foldHi 5 1805 (limHi 5 1805 l) l = 3 := by
  have e : innZ xP1 [] xc (spellZ [] xc 1805) = [⟨0, 1800, 10000, 10010⟩, ⟨3, 1810, 10020, 10030⟩] := by kernel_rfl
  rw [e] at h
  rcases perm_two h with rfl | rfl
  · exact ⟨by kernel_rfl, by kernel_rfl⟩
  · exact ⟨by kernel_rfl, by kernel_rfl⟩
theorem x_clash : clsL xC xP3 [] (clF xP3 []) = [(0, 5)] := by
  have g := chk_zero.1 x_chk
  have hf : findC xC 1 = some xc := rfl
  have hc : clF xP3 [] xc = [(0, 5)] := by
    refine (clF_eq g hf ⟨[mkT xc, (thAll xP3 [] xc).getD 2 (mkT xc), (thAll xP3 [] xc).getD 1 (mkT xc)], ?_, ?_, ?_⟩).symm
    · have : thAll xP3 [] xc = [mkT xc, (thAll xP3 [] xc).getD 1 (mkT xc), (thAll xP3 [] xc).getD 2 (mkT xc)] := rfl
      rw [this]
      exact (List.Perm.swap _ _ _).cons _
    · unfold SortedT
      simp only [cmpT_neg]
      decide
    · have : prS (splitS xc.e [mkT xc, (thAll xP3 [] xc).getD 2 (mkT xc), (thAll xP3 [] xc).getD 1 (mkT xc)]) = [(0, 5)] := by kernel_rfl
      rw [this]
      simp [sortP]
  unfold clsL
  rw [if_pos x_chk]
  show [xc].flatMap _ = _
  simp [hc]
end Go.Proofs.Ytaggjclaehigjaa
