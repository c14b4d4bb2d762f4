/- Plain laws of how two segments meet: the order of the segments and of their ends does not matter; who meets is not apart. -/
import Derived.Test.YtdbhbfmbpldmnaaP1
import Derived.Test.YtdbhbfmbpldmnaaP2
namespace Go.Proofs.Ytdbhbfmbpldmnaa
open Go.RowKit
theorem endsKind_zero {E : List (Int × Int)} : endsKind E = 0 ↔ E = [] := by
  cases E with
  | nil => simp [endsKind]
  | cons p t =>
    change (if (t.all fun q => decide (q = p)) = true then (1 : Int) else 3) = 0 ↔ _
    split <;> simp
theorem endsKind_one {E : List (Int × Int)} : endsKind E = 1 ↔ ∃ p, p ∈ E ∧ ∀ q ∈ E, q = p := by
  cases E with
  | nil => simp [endsKind]
  | cons p t =>
    change (if (t.all fun q => decide (q = p)) = true then (1 : Int) else 3) = 1 ↔ _
    constructor
    · intro h
      split at h
      · rename_i ha
        rw [List.all_eq_true] at ha
        refine ⟨p, by simp, fun q hq => ?_⟩
        rcases List.mem_cons.1 hq with hq | hq
        · exact hq
        · simpa using ha q hq
      · cases h
    · rintro ⟨r, hr, hall⟩
      rw [if_pos]
      rw [List.all_eq_true]
      intro q hq
      have h1 := hall q (List.mem_cons_of_mem _ hq)
      have h2 := hall p (by simp)
      simp [h1, h2]
theorem endsKind_cases (E : List (Int × Int)) : endsKind E = 0 ∨ endsKind E = 1 ∨ endsKind E = 3 := by
  cases E with
  | nil => exact .inl rfl
  | cons p t =>
    change (if (t.all fun q => decide (q = p)) = true then (1 : Int) else 3) = 0 ∨ (if (t.all fun q => decide (q = p)) = true then (1 : Int) else 3) = 1 ∨ (if (t.all fun q => decide (q = p)) = true then (1 : Int) else 3) = 3
    split <;> simp
theorem endsKind_congr {E F : List (Int × Int)} (h : ∀ p, p ∈ E ↔ p ∈ F) : endsKind E = endsKind F := by
  have h0 : endsKind E = 0 ↔ endsKind F = 0 := by
    rw [endsKind_zero, endsKind_zero, List.eq_nil_iff_forall_not_mem, List.eq_nil_iff_forall_not_mem]
    exact forall_congr' fun p => not_congr (h p)
  have h1 : endsKind E = 1 ↔ endsKind F = 1 := by
    rw [endsKind_one, endsKind_one]
    constructor
    · rintro ⟨p, hp, hall⟩
      exact ⟨p, (h p).1 hp, fun q hq => hall q ((h q).2 hq)⟩
    · rintro ⟨p, hp, hall⟩
      exact ⟨p, (h p).2 hp, fun q hq => hall q ((h q).1 hq)⟩
  rcases endsKind_cases E with e | e | e <;> rcases endsKind_cases F with f | f | f <;> omega
theorem onB_back (ax ay bx b_y px py : Int) : onB bx b_y ax ay px py = onB ax ay bx b_y px py := by
  unfold onB betB
  rw [twz_swap, Int.min_comm bx ax, Int.max_comm bx ax, Int.min_comm b_y ay, Int.max_comm b_y ay]
  congr 1
  rw [Bool.eq_iff_iff]
  simp
theorem propB_back (ax ay bx b_y : Int) : propB bx b_y ax ay = propB ax ay bx b_y := by
  unfold propB
  rw [Bool.and_comm (okp (bx, b_y)), show decide ((bx, b_y) ≠ (ax, ay)) = decide ((ax, ay) ≠ (bx, b_y)) from decide_eq_decide.2 ⟨fun h e => h e.symm, fun h e => h e.symm⟩]
theorem endsL_iff (ax ay bx b_y cx cy dx dy : Int) (p : Int × Int) : p ∈ endsL ax ay bx b_y cx cy dx dy ↔ (p = (ax, ay) ∨ p = (bx, b_y) ∨ p = (cx, cy) ∨ p = (dx, dy)) ∧ onB ax ay bx b_y p.1 p.2 = true ∧ onB cx cy dx dy p.1 p.2 = true := by
  unfold endsL alKeep
  simp [List.mem_filter]
theorem mtR_swap (ax ay bx b_y cx cy dx dy : Int) : mtR cx cy dx dy ax ay bx b_y = mtR ax ay bx b_y cx cy dx dy := by
  have hk : endsKind (endsL cx cy dx dy ax ay bx b_y) = endsKind (endsL ax ay bx b_y cx cy dx dy) := by
    apply endsKind_congr
    intro p
    rw [endsL_iff, endsL_iff]
    constructor
    · rintro ⟨h, h1, h2⟩
      exact ⟨by rcases h with h | h | h | h <;> simp [h], h2, h1⟩
    · rintro ⟨h, h1, h2⟩
      exact ⟨by rcases h with h | h | h | h <;> simp [h], h2, h1⟩
  unfold mtR
  rw [hk]
  simp only [and_comm]
theorem mtR_back (ax ay bx b_y cx cy dx dy : Int) : mtR bx b_y ax ay cx cy dx dy = mtR ax ay bx b_y cx cy dx dy := by
  have hk : endsKind (endsL bx b_y ax ay cx cy dx dy) = endsKind (endsL ax ay bx b_y cx cy dx dy) := by
    apply endsKind_congr
    intro p
    rw [endsL_iff, endsL_iff, onB_back]
    constructor
    · rintro ⟨h, h1, h2⟩
      exact ⟨by rcases h with h | h | h | h <;> simp [h], h1, h2⟩
    · rintro ⟨h, h1, h2⟩
      exact ⟨by rcases h with h | h | h | h <;> simp [h], h1, h2⟩
  unfold mtR
  rw [hk, propB_back, twz_swap ax ay bx b_y cx cy, twz_swap ax ay bx b_y dx dy, sgz_neg, sgz_neg, Int.neg_mul_neg, Int.mul_comm (sgz (twz cx cy dx dy bx b_y))]
theorem mtZ_swap (ax ay bx b_y cx cy dx dy : Int) : mtZ cx cy dx dy ax ay bx b_y = mtZ ax ay bx b_y cx cy dx dy := by rw [mt_eq, mt_eq, mtR_swap]
theorem mtZ_back (ax ay bx b_y cx cy dx dy : Int) : mtZ bx b_y ax ay cx cy dx dy = mtZ ax ay bx b_y cx cy dx dy := by rw [mt_eq, mt_eq, mtR_back]
theorem mtR_cases (ax ay bx b_y cx cy dx dy : Int) : mtR ax ay bx b_y cx cy dx dy = 0 ∨ mtR ax ay bx b_y cx cy dx dy = 1 ∨ mtR ax ay bx b_y cx cy dx dy = 2 ∨ mtR ax ay bx b_y cx cy dx dy = 3 := by
  unfold mtR
  split
  · rcases endsKind_cases (endsL ax ay bx b_y cx cy dx dy) with e | e | e
    · rw [e, if_neg (by decide)]
      split
      · exact .inr (.inr (.inl rfl))
      · exact .inl rfl
    · rw [e, if_pos (by decide)]
      exact .inr (.inl rfl)
    · rw [e, if_pos (by decide)]
      exact .inr (.inr (.inr rfl))
  · exact .inl rfl
theorem sgz_pos {n : Int} (h : 0 < n) : sgz n = 1 := by unfold sgz; split <;> (try split) <;> omega
theorem sgz_mul_nonpos {a b : Int} (h : ¬ (0 < a ∧ 0 < b)) (h2 : ¬ (a < 0 ∧ b < 0)) : sgz a * sgz b ≤ 0 := by
  unfold sgz
  (repeat' split) <;> first | omega | simp
/-- where a point of a segment lies on a line, the segment's ends do not lie on one side of it -/
theorem conv (ax ay bx b_y cx cy dx dy px py : Int) (hne : cx ≠ dx ∨ cy ≠ dy) (h1 : onB cx cy dx dy px py = true) (h2 : twz ax ay bx b_y px py = 0) : sgz (twz ax ay bx b_y cx cy) * sgz (twz ax ay bx b_y dx dy) ≤ 0 := by
  have ht := onB_tw h1
  have hb : min cx dx ≤ px ∧ px ≤ max cx dx ∧ min cy dy ≤ py ∧ py ≤ max cy dy := by
    simp [onB, betB, winB] at h1
    omega
  have i1 : (dx - cx) * twz ax ay bx b_y px py = (dx - px) * twz ax ay bx b_y cx cy + (px - cx) * twz ax ay bx b_y dx dy + (bx - ax) * twz cx cy dx dy px py := by unfold twz; grind
  have i2 : (dy - cy) * twz ax ay bx b_y px py = (dy - py) * twz ax ay bx b_y cx cy + (py - cy) * twz ax ay bx b_y dx dy + (b_y - ay) * twz cx cy dx dy px py := by unfold twz; grind
  rw [h2, ht] at i1 i2
  generalize twz ax ay bx b_y cx cy = u at *
  generalize twz ax ay bx b_y dx dy = v at *
  have pos : ∀ {l r x y : Int}, 0 ≤ l → 0 ≤ r → 0 < l + r → 0 < x → 0 < y → 0 < l * x + r * y := by
    intro l r x y hl hr hlr hx hy
    have a := Int.mul_nonneg hl (by omega : 0 ≤ x)
    have b := Int.mul_nonneg hr (by omega : 0 ≤ y)
    rcases Int.lt_or_le 0 l with h | h
    · have := Int.mul_pos h hx; omega
    · have := Int.mul_pos (show 0 < r by omega) hy; omega
  have key : ∀ {c d p : Int}, c ≠ d → min c d ≤ p → p ≤ max c d → 0 = (d - p) * u + (p - c) * v → ¬ (0 < u ∧ 0 < v) ∧ ¬ (u < 0 ∧ v < 0) := by
    intro c d p hcd hp1 hp2 he
    constructor
    · rintro ⟨hu, hv⟩
      rcases Int.lt_or_le c d with h | h
      · have := pos (l := d - p) (r := p - c) (by omega) (by omega) (by omega) hu hv; omega
      · have := pos (l := p - d) (r := c - p) (by omega) (by omega) (by omega) hu hv; grind
    · rintro ⟨hu, hv⟩
      rcases Int.lt_or_le c d with h | h
      · have := pos (l := d - p) (r := p - c) (x := -u) (y := -v) (by omega) (by omega) (by omega) (by omega) (by omega); grind
      · have := pos (l := p - d) (r := c - p) (x := -u) (y := -v) (by omega) (by omega) (by omega) (by omega) (by omega); grind
  rcases hne with h | h
  · have := key h hb.1 hb.2.1 (by omega)
    exact sgz_mul_nonpos this.1 this.2
  · have := key h hb.2.2.1 hb.2.2.2 (by omega)
    exact sgz_mul_nonpos this.1 this.2
theorem mtR_sides {ax ay bx b_y cx cy dx dy : Int} (h : mtR ax ay bx b_y cx cy dx dy ≠ 0) : (propB ax ay bx b_y = true ∧ propB cx cy dx dy = true) ∧ sgz (twz ax ay bx b_y cx cy) * sgz (twz ax ay bx b_y dx dy) ≤ 0 ∧ sgz (twz cx cy dx dy ax ay) * sgz (twz cx cy dx dy bx b_y) ≤ 0 := by
  unfold mtR at h
  split at h
  · rename_i hp
    refine ⟨hp, ?_⟩
    split at h
    · rename_i hk
      have hk' : endsL ax ay bx b_y cx cy dx dy ≠ [] := fun e => hk (endsKind_zero.2 e)
      obtain ⟨p, hp1⟩ := List.exists_mem_of_ne_nil _ hk'
      obtain ⟨_, o1, o2⟩ := (endsL_iff _ _ _ _ _ _ _ _ p).1 hp1
      exact ⟨conv ax ay bx b_y cx cy dx dy p.1 p.2 (propB_ne hp.2) o2 (onB_tw o1), conv cx cy dx dy ax ay bx b_y p.1 p.2 (propB_ne hp.1) o1 (onB_tw o2)⟩
    · split at h
      · rename_i hc
        exact ⟨by omega, by omega⟩
      · exact absurd rfl h
  · exact absurd rfl h
/-- an end of one on the other: they touch or overlap -/
theorem mtR_ends {ax ay bx b_y cx cy dx dy : Int} (h1 : propB ax ay bx b_y = true) (h2 : propB cx cy dx dy = true) :
    (onB ax ay bx b_y cx cy || onB ax ay bx b_y dx dy || onB cx cy dx dy ax ay || onB cx cy dx dy bx b_y) = decide (mtR ax ay bx b_y cx cy dx dy = 1 ∨ mtR ax ay bx b_y cx cy dx dy = 3) := by
  have hE := endsL_any ax ay bx b_y cx cy dx dy
  unfold mtR
  rw [if_pos ⟨h1, h2⟩]
  by_cases he : endsL ax ay bx b_y cx cy dx dy = []
  · rw [hE.1 he, he]
    simp [endsKind]
    split <;> simp
  · have hk : endsKind (endsL ax ay bx b_y cx cy dx dy) ≠ 0 := fun e => he (endsKind_zero.1 e)
    have ho : (onB ax ay bx b_y cx cy || onB ax ay bx b_y dx dy || onB cx cy dx dy ax ay || onB cx cy dx dy bx b_y) = true := by
      cases h : (onB ax ay bx b_y cx cy || onB ax ay bx b_y dx dy || onB cx cy dx dy ax ay || onB cx cy dx dy bx b_y)
      · exact absurd (hE.2 h) he
      · rfl
    rw [ho, if_pos hk]
    rcases endsKind_cases (endsL ax ay bx b_y cx cy dx dy) with e | e | e
    · exact absurd e hk
    · rw [e]; rfl
    · rw [e]; rfl
theorem OnB_own (ax ay bx b_y : Int) : OnB ax ay bx b_y ax ay = propB ax ay bx b_y := by
  unfold OnB
  rw [onB_left]
  cases h : propB ax ay bx b_y
  · rfl
  · have := propB_ok h
    simp [okp, this]
theorem OnB_eq {ax ay bx b_y cx cy dx dy : Int} (h1 : propB ax ay bx b_y = true) (h2 : propB cx cy dx dy = true) : OnB ax ay bx b_y cx cy = onB ax ay bx b_y cx cy ∧ OnB ax ay bx b_y dx dy = onB ax ay bx b_y dx dy := by
  have := propB_ok h2
  simp [OnB, h1, okp, this]
theorem turnZ_eq {ax ay bx b_y cx cy dx dy : Int} (h1 : propB ax ay bx b_y = true) (h2 : propB cx cy dx dy = true) : turnZ ax ay bx b_y cx cy = sgz (twz ax ay bx b_y cx cy) ∧ turnZ ax ay bx b_y dx dy = sgz (twz ax ay bx b_y dx dy) := by
  have := propB_ok h1
  have := propB_ok h2
  simp [turnZ, okp, *]
end Go.Proofs.Ytdbhbfmbpldmnaa
