/- Plain laws of a polygon's area, winding and border: another first corner, the opposite order. -/
import Derived.Test.YtdbhbfmbpldmnaaD7
namespace Go.Proofs.Ytdbhbfmbpldmnaa
abbrev Edg := (Int × Int) × (Int × Int)
def revE (e : Edg) : Edg := (e.2, e.1)
def edgL (l : List (Int × Int)) : List Edg := (List.range l.length).map (edge l)
def rotL (l : List (Int × Int)) : List (Int × Int) := (List.range l.length).map fun i => l.getD ((i + 1) % l.length) (0, 0)
theorem rotL_len (l : List (Int × Int)) : (rotL l).length = l.length := by simp [rotL]
theorem getD_at' {α : Type} {l : List α} {i : Nat} {d : α} (h : i < l.length) : l.getD i d = l[i] := by simp [h]
theorem perm_sum {l m : List Int} (h : l.Perm m) : l.sum = m.sum := by
  induction h with
  | nil => rfl
  | cons x _ ih => simp [ih]
  | swap x y l => simp only [List.sum_cons]; omega
  | trans _ _ h1 h2 => exact h1.trans h2
theorem fold_add {α : Type} (G : α → Int) : ∀ (L : List α) (a : Int), L.foldl (fun n i => n + G i) a = a + (L.map G).sum
  | [], a => by simp
  | x :: L, a => by
    rw [List.foldl_cons, fold_add G L, List.map_cons, List.sum_cons]
    omega
theorem fin_map {α : Type} (n : Nat) (G : Nat → α) : (List.finRange n).map (fun i => G i.1) = (List.range n).map G := by
  apply List.ext_getElem
  · simp
  · intro i h1 h2
    simp
theorem fin_any (n : Nat) (G : Nat → Bool) : ((List.finRange n).any fun i => G i.1) = (List.range n).any G := by
  have h : (List.finRange n).map (fun i => i.1) = List.range n := by simpa using fin_map n id
  rw [← h, List.any_map]
  rfl
theorem areaZ_sum (l : List (Int × Int)) : areaZ l = ((edgL l).map crossE).sum := by
  unfold areaZ areaF edgL
  rw [fold_add (fun i : Fin l.length => crossE (edge l i.1)), fin_map l.length (fun i => crossE (edge l i)), List.map_map]
  simp [Function.comp_def]
def stpE (px py : Int) (e : Edg) : Int := windStep px py 0 e
theorem wind_stp (px py n : Int) (e : Edg) : windStep px py n e = n + stpE px py e := by
  unfold stpE windStep
  split
  · omega
  · split <;> omega
theorem windZ_sum (l : List (Int × Int)) (px py : Int) : windZ l px py = ((edgL l).map (stpE px py)).sum := by
  unfold windZ windF edgL
  have e : (fun (n : Int) (i : Fin l.length) => windStep px py n (edge l i.1)) = fun n i => n + stpE px py (edge l i.1) := by
    funext n i; exact wind_stp px py n _
  rw [e, fold_add (fun i : Fin l.length => stpE px py (edge l i.1)), fin_map l.length (fun i => stpE px py (edge l i)), List.map_map]
  simp [Function.comp_def]
theorem borderB_any (l : List (Int × Int)) (px py : Int) : borderB l px py = (edgL l).any (fun e => onE e px py) := by
  unfold borderB edgL
  rw [fin_any l.length (fun i => onE (edge l i) px py), List.any_map]
  rfl
theorem perm_any {α : Type} {l m : List α} (h : l.Perm m) (p : α → Bool) : l.any p = m.any p := by
  rw [Bool.eq_iff_iff, List.any_eq_true, List.any_eq_true]
  exact ⟨fun ⟨x, hx, e⟩ => ⟨x, h.mem_iff.1 hx, e⟩, fun ⟨x, hx, e⟩ => ⟨x, h.mem_iff.2 hx, e⟩⟩
theorem rot_get (l : List (Int × Int)) (i : Nat) (hi : i < l.length) : (rotL l).getD i (0, 0) = l.getD ((i + 1) % l.length) (0, 0) := by
  rw [getD_at' (by rw [rotL_len]; exact hi)]
  simp [rotL]
theorem rot_perm (l : List (Int × Int)) : (edgL (rotL l)).Perm (edgL l) := by
  cases hn : l.length with
  | zero =>
    have : l = [] := List.length_eq_zero_iff.1 hn
    subst this
    exact List.Perm.refl _
  | succ m =>
    have e : edgL (rotL l) = ((List.range (m + 1)).map fun i => (i + 1) % (m + 1)).map (edge l) := by
      unfold edgL
      rw [rotL_len, hn, List.map_map]
      apply List.map_congr_left
      intro i hi
      have hi : i < m + 1 := by simpa using hi
      unfold edge
      rw [rotL_len, hn, rot_get l i (by omega), rot_get l ((i + 1) % (m + 1)) (by rw [hn]; exact Nat.mod_lt _ (by omega)), hn]
      rfl
    rw [e]
    unfold edgL
    rw [hn]
    refine List.Perm.map _ ?_
    have e1 : (List.range (m + 1)).map (fun i => (i + 1) % (m + 1)) = (List.range m).map Nat.succ ++ [0] := by
      rw [List.range_succ, List.map_append]
      congr 1
      · apply List.map_congr_left
        intro i hi
        have hi : i < m := by simpa using hi
        exact Nat.mod_eq_of_lt (by omega)
      · simp
    rw [e1, List.range_succ_eq_map]
    exact List.perm_append_singleton _ _
theorem rev_get (l : List (Int × Int)) (i : Nat) (hi : i < l.length) : l.reverse.getD i (0, 0) = l.getD (l.length - 1 - i) (0, 0) := by
  rw [getD_at' (by simpa using hi), getD_at' (by omega), List.getElem_reverse]
theorem rev_perm (l : List (Int × Int)) : (edgL l.reverse).Perm ((edgL l).map revE) := by
  cases hn : l.length with
  | zero =>
    have : l = [] := List.length_eq_zero_iff.1 hn
    subst this
    exact List.Perm.refl _
  | succ m =>
    have e : edgL l.reverse = (((List.range m).reverse ++ [m]).map (edge l)).map revE := by
      unfold edgL
      rw [List.length_reverse, hn, List.map_map, List.range_succ, List.map_append, List.map_append]
      congr 1
      · apply List.ext_getElem
        · simp
        · intro i h1 h2
          have hi : i < m := by simpa using h1
          simp only [List.getElem_map, List.getElem_range, List.getElem_reverse, List.length_range, Function.comp_apply]
          unfold edge revE
          rw [List.length_reverse, hn, Nat.mod_eq_of_lt (show i + 1 < m + 1 by omega), rev_get l i (by omega), rev_get l (i + 1) (by omega), hn, Nat.mod_eq_of_lt (show m - 1 - i + 1 < m + 1 by omega)]
          simp only
          rw [show m + 1 - 1 - i = m - 1 - i + 1 by omega, show m + 1 - 1 - (i + 1) = m - 1 - i by omega]
      · simp only [List.map_cons, List.map_nil, Function.comp_apply]
        congr 1
        unfold edge revE
        rw [List.length_reverse, hn, Nat.mod_self, rev_get l m (by omega), rev_get l 0 (by omega), hn]
        simp only
        rw [show m + 1 - 1 - m = 0 by omega, show m + 1 - 1 - 0 = m by omega]
    rw [e]
    unfold edgL
    rw [hn]
    refine List.Perm.map _ (List.Perm.map _ ?_)
    rw [List.range_succ]
    exact List.Perm.append_right _ (List.reverse_perm _)
theorem sum_neg {α : Type} (F G : α → Int) (h : ∀ x, F x = -G x) : ∀ L : List α, (L.map F).sum = -(L.map G).sum
  | [] => by simp
  | x :: L => by
    simp only [List.map_cons, List.sum_cons]
    rw [sum_neg F G h L, h x]
    omega
theorem area_rot (l : List (Int × Int)) : areaZ (rotL l) = areaZ l := by
  rw [areaZ_sum, areaZ_sum]
  exact perm_sum ((rot_perm l).map _)
theorem area_rev (l : List (Int × Int)) : areaZ l.reverse = -areaZ l := by
  rw [areaZ_sum, areaZ_sum, perm_sum ((rev_perm l).map crossE), List.map_map]
  exact sum_neg _ _ (fun e => by simp only [Function.comp_apply, crossE, revE]; rw [Int.mul_comm e.2.1, Int.mul_comm e.1.1]; omega) _
theorem stp_rev (px py : Int) (e : Edg) : stpE px py (revE e) = -stpE px py e := by
  have h : twE (revE e) px py = -twE e px py := by unfold twE revE twz; simp only; grind
  unfold stpE windStep
  rw [h]
  simp only [revE]
  (repeat' split) <;> omega
theorem wind_rev (l : List (Int × Int)) (px py : Int) : windZ l.reverse px py = -windZ l px py := by
  rw [windZ_sum, windZ_sum, perm_sum ((rev_perm l).map (stpE px py)), List.map_map]
  exact sum_neg _ _ (fun e => stp_rev px py e) _
theorem on_rev (px py : Int) (e : Edg) : onE (revE e) px py = onE e px py := by
  have h : twz e.2.1 e.2.2 e.1.1 e.1.2 px py = -twz e.1.1 e.1.2 e.2.1 e.2.2 px py := by unfold twz; grind
  unfold onE revE onB betB
  simp only
  rw [h, Int.min_comm e.2.1, Int.max_comm e.2.1, Int.min_comm e.2.2, Int.max_comm e.2.2]
  congr 1
  rw [Bool.eq_iff_iff, decide_eq_true_iff, decide_eq_true_iff]
  omega
theorem border_rev (l : List (Int × Int)) (px py : Int) : borderB l.reverse px py = borderB l px py := by
  rw [borderB_any, borderB_any, perm_any (rev_perm l), List.any_map]
  congr 1
  funext e
  exact on_rev px py e
theorem rot_all (l : List (Int × Int)) (h : l.all okp = true) : (rotL l).all okp = true := by
  rw [List.all_eq_true] at h ⊢
  intro p hp
  unfold rotL at hp
  rw [List.mem_map] at hp
  obtain ⟨i, hi, rfl⟩ := hp
  have hm : (i + 1) % l.length < l.length := Nat.mod_lt _ (by have : i < l.length := by simpa using hi
                                                              omega)
  rw [getD_at' hm]
  exact h _ (List.getElem_mem hm)
theorem ring_rot (l : List (Int × Int)) (h : ringE l [] = 0) : ringE (rotL l) [] = 0 := by
  unfold ringE at h ⊢
  rw [rotL_len]
  split at h
  · rename_i k
    rw [if_pos k]
    split at h
    · rename_i k2
      rw [if_pos ⟨rot_all l k2.1, rfl⟩]
    · cases h
  · cases h
theorem ring_rev (l m : List (Int × Int)) : ringE l.reverse m = ringE l m := by
  unfold ringE
  rw [List.length_reverse, List.all_reverse]
end Go.Proofs.Ytdbhbfmbpldmnaa
