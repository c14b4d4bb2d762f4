/- Plain law: how two segments meet, by the program and by the specification. -/
import Derived.Test.YtdbhbfmbpldmnaaC6
namespace Go.Proofs.Ytdbhbfmbpldmnaa
open Go.RowKit
def kindLen : Nat → Int
  | 0 => 0
  | 1 => 1
  | _ => 3
def endsKind : List (Int × Int) → Int
  | [] => 0
  | p :: t => if t.all (fun q => decide (q = p)) = true then 1 else 3
theorem alStep_len (keep : Int × Int → Bool) (acc : List (Int × Int)) (p : Int × Int) : acc.length ≤ (alStep keep acc p).length := by
  unfold alStep
  split <;> simp
theorem alFold_len (keep : Int × Int → Bool) : ∀ (l acc : List (Int × Int)), acc.length ≤ (l.foldl (alStep keep) acc).length
  | [], _acc => Nat.le_refl _
  | p :: l, acc => Nat.le_trans (alStep_len keep acc p) (alFold_len keep l _)
theorem kindLen_two {n : Nat} (h : 2 ≤ n) : kindLen n = 3 := by
  match n, h with
  | n + 2, _ => rfl
theorem alFold_one (keep : Int × Int → Bool) : ∀ (l : List (Int × Int)) (p : Int × Int), kindLen (l.foldl (alStep keep) [p]).length = if (l.filter keep).all (fun q => decide (q = p)) = true then 1 else 3
  | [], p => rfl
  | q :: l, p => by
    rw [List.foldl_cons]
    cases hk : keep q
    · rw [List.filter_cons_of_neg (by simp [hk]), show alStep keep [p] q = [p] from by simp [alStep, hk]]
      exact alFold_one keep l p
    · rw [List.filter_cons_of_pos (by simp [hk])]
      by_cases hq : q = p
      · subst hq
        rw [show alStep keep [q] q = [q] from by simp [alStep]]
        rw [alFold_one keep l q, List.all_cons, decide_eq_true (rfl : q = q), Bool.true_and]
      · rw [show alStep keep [p] q = [p, q] from by simp [alStep, hk, hq]]
        rw [kindLen_two (alFold_len keep l [p, q])]
        simp [hq]
theorem alF_kind (keep : Int × Int → Bool) : ∀ (l : List (Int × Int)), kindLen (alF keep l).length = endsKind (l.filter keep)
  | [] => rfl
  | q :: l => by
    unfold alF
    rw [List.foldl_cons]
    cases hk : keep q
    · rw [List.filter_cons_of_neg (by simp [hk]), show alStep keep [] q = [] from by simp [alStep, hk]]
      exact alF_kind keep l
    · rw [List.filter_cons_of_pos (by simp [hk]), show alStep keep [] q = [q] from by simp [alStep, hk]]
      exact alFold_one keep l q
theorem alZ_kind (ax ay bx b_y cx cy dx dy : Int) : alZ ax ay bx b_y cx cy dx dy = endsKind ([(ax, ay), (bx, b_y), (cx, cy), (dx, dy)].filter (alKeep ax ay bx b_y cx cy dx dy)) := by
  rw [← alF_kind]
  unfold alZ kindLen
  rfl
theorem onB_left (ax ay bx b_y : Int) : onB ax ay bx b_y ax ay = true := by
  simp [onB, betB, winB, twz]
  omega
theorem onB_right (ax ay bx b_y : Int) : onB ax ay bx b_y bx b_y = true := by
  simp [onB, betB, winB, twz, Int.mul_comm]
  omega
theorem onB_tw {ax ay bx b_y px py : Int} (h : onB ax ay bx b_y px py = true) : twz ax ay bx b_y px py = 0 := by
  simp [onB] at h
  exact h.1
/-- three points of the line through two others are on one line -/
theorem line3 {x1 x2 y1 y2 p1 p2 q1 q2 r1 r2 : Int} (h : x1 ≠ y1 ∨ x2 ≠ y2) (hp : twz x1 x2 y1 y2 p1 p2 = 0) (hq : twz x1 x2 y1 y2 q1 q2 = 0) (hr : twz x1 x2 y1 y2 r1 r2 = 0) : twz p1 p2 q1 q2 r1 r2 = 0 := by
  unfold twz at *
  have h1 : (y1 - x1) * ((q1 - p1) * (r2 - p2) - (q2 - p2) * (r1 - p1)) = 0 := by grind
  have h2 : (y2 - x2) * ((q1 - p1) * (r2 - p2) - (q2 - p2) * (r1 - p1)) = 0 := by grind
  rcases h with h | h
  · rcases Int.mul_eq_zero.1 h1 with h3 | h3
    · omega
    · exact h3
  · rcases Int.mul_eq_zero.1 h2 with h3 | h3
    · omega
    · exact h3
theorem twz_self1 (x1 x2 y1 y2 : Int) : twz x1 x2 y1 y2 x1 x2 = 0 := by unfold twz; grind
theorem twz_self2 (x1 x2 y1 y2 : Int) : twz x1 x2 y1 y2 y1 y2 = 0 := by unfold twz; grind
/-- two lines with two points in common are one -/
theorem line_same {ax ay bx b_y cx cy dx dy px py qx qy : Int} (h1 : ax ≠ bx ∨ ay ≠ b_y) (h2 : cx ≠ dx ∨ cy ≠ dy) (hpq : px ≠ qx ∨ py ≠ qy) (e1 : twz ax ay bx b_y px py = 0) (e2 : twz ax ay bx b_y qx qy = 0) (e3 : twz cx cy dx dy px py = 0) (e4 : twz cx cy dx dy qx qy = 0) :
    twz ax ay bx b_y cx cy = 0 ∧ twz ax ay bx b_y dx dy = 0 :=
  have a1 := line3 h1 e1 e2 (twz_self1 ax ay bx b_y)
  have a2 := line3 h1 e1 e2 (twz_self2 ax ay bx b_y)
  have a3 := line3 h2 e3 e4 (twz_self1 cx cy dx dy)
  have a4 := line3 h2 e3 e4 (twz_self2 cx cy dx dy)
  ⟨line3 hpq a1 a2 a3, line3 hpq a1 a2 a4⟩
def endsL (ax ay bx b_y cx cy dx dy : Int) : List (Int × Int) := [(ax, ay), (bx, b_y), (cx, cy), (dx, dy)].filter (alKeep ax ay bx b_y cx cy dx dy)
/-- as the specification has it -/
def mtR (ax ay bx b_y cx cy dx dy : Int) : Int :=
  if propB ax ay bx b_y = true ∧ propB cx cy dx dy = true then
    if endsKind (endsL ax ay bx b_y cx cy dx dy) ≠ 0 then endsKind (endsL ax ay bx b_y cx cy dx dy)
    else if sgz (twz ax ay bx b_y cx cy) * sgz (twz ax ay bx b_y dx dy) < 0 ∧ sgz (twz cx cy dx dy ax ay) * sgz (twz cx cy dx dy bx b_y) < 0 then 2 else 0
  else 0
theorem sgz_zero {n : Int} : sgz n = 0 ↔ n = 0 := by unfold sgz; (repeat' split) <;> omega
theorem sgz_wrap (a b : Int) : wrap64 (sgz a * sgz b) = sgz a * sgz b := by
  apply IntWalk.wrap64_in
  unfold sgz
  (repeat' split) <;> omega
theorem endsL_mem {ax ay bx b_y cx cy dx dy : Int} {p : Int × Int} (h : p ∈ endsL ax ay bx b_y cx cy dx dy) : twz ax ay bx b_y p.1 p.2 = 0 ∧ twz cx cy dx dy p.1 p.2 = 0 := by
  have := (List.mem_filter.1 h).2
  simp only [alKeep, Bool.and_eq_true] at this
  exact ⟨onB_tw this.1, onB_tw this.2⟩
theorem endsL_any (ax ay bx b_y cx cy dx dy : Int) : endsL ax ay bx b_y cx cy dx dy = [] ↔
    (onB ax ay bx b_y cx cy || onB ax ay bx b_y dx dy || onB cx cy dx dy ax ay || onB cx cy dx dy bx b_y) = false := by
  unfold endsL alKeep
  rw [List.filter_eq_nil_iff]
  simp [onB_left, onB_right]
  constructor
  · rintro ⟨h1, h2, h3, h4⟩
    exact ⟨⟨⟨h3, h4⟩, h1⟩, h2⟩
  · rintro ⟨⟨⟨h3, h4⟩, h1⟩, h2⟩
    exact ⟨h1, h2, h3, h4⟩
theorem propB_ne {ax ay bx b_y : Int} (h : propB ax ay bx b_y = true) : ax ≠ bx ∨ ay ≠ b_y := by
  simp [propB] at h
  exact h.2
theorem mt_eq (ax ay bx b_y cx cy dx dy : Int) : mtZ ax ay bx b_y cx cy dx dy = mtR ax ay bx b_y cx cy dx dy := by
  unfold mtZ mtR
  by_cases hp : propB ax ay bx b_y = true ∧ propB cx cy dx dy = true
  · rw [if_pos hp, if_pos hp, alZ_kind]
    change mtG _ _ _ _ (endsKind (endsL ax ay bx b_y cx cy dx dy)) _ = _
    have n1 := propB_ne hp.1
    have n2 := propB_ne hp.2
    unfold mtG
    rw [sgz_wrap, sgz_wrap]
    have hE := endsL_any ax ay bx b_y cx cy dx dy
    by_cases h0 : sgz (twz ax ay bx b_y cx cy) = 0 ∧ sgz (twz ax ay bx b_y dx dy) = 0
    · rw [if_pos h0, h0.1, Int.zero_mul]
      by_cases hk : endsKind (endsL ax ay bx b_y cx cy dx dy) = 0
      · simp [hk]
      · rw [if_pos hk]
    · rw [if_neg h0]
      by_cases hc : sgz (twz ax ay bx b_y cx cy) * sgz (twz ax ay bx b_y dx dy) < 0 ∧ sgz (twz cx cy dx dy ax ay) * sgz (twz cx cy dx dy bx b_y) < 0
      · rw [if_pos hc, if_pos hc]
        have hn : ∀ a b : Int, sgz a * sgz b < 0 → a ≠ 0 ∧ b ≠ 0 := by
          intro a b h
          constructor
          · rintro rfl; simp [sgz] at h
          · rintro rfl; simp [sgz] at h
        obtain ⟨k1, k2⟩ := hn _ _ hc.1
        obtain ⟨k3, k4⟩ := hn _ _ hc.2
        have hb : ∀ {a b c d e f : Int}, twz a b c d e f ≠ 0 → onB a b c d e f = false := by
          intro a b c d e f h
          cases h2 : onB a b c d e f
          · rfl
          · exact absurd (onB_tw h2) h
        rw [hE.2 (by rw [hb k1, hb k2, hb k3, hb k4]; rfl)]
        simp [endsKind]
      · rw [if_neg hc, if_neg hc]
        cases he : endsL ax ay bx b_y cx cy dx dy with
        | nil => rw [if_neg (by rw [hE.1 he]; simp)]; simp [endsKind]
        | cons p t =>
          have ho : (onB ax ay bx b_y cx cy || onB ax ay bx b_y dx dy || onB cx cy dx dy ax ay || onB cx cy dx dy bx b_y) = true := by
            cases h : (onB ax ay bx b_y cx cy || onB ax ay bx b_y dx dy || onB cx cy dx dy ax ay || onB cx cy dx dy bx b_y)
            · rw [hE.2 h] at he; cases he
            · rfl
          rw [if_pos ho]
          have hall : t.all (fun q => decide (q = p)) = true := by
            rw [List.all_eq_true]
            intro q hq
            rw [decide_eq_true_eq]
            by_cases hqp : q = p
            · exact hqp
            · exfalso
              have m1 := endsL_mem (p := p) (ax := ax) (ay := ay) (bx := bx) (b_y := b_y) (cx := cx) (cy := cy) (dx := dx) (dy := dy) (by rw [he]; simp)
              have m2 := endsL_mem (p := q) (ax := ax) (ay := ay) (bx := bx) (b_y := b_y) (cx := cx) (cy := cy) (dx := dx) (dy := dy) (by rw [he]; simp [hq])
              have hne : p.1 ≠ q.1 ∨ p.2 ≠ q.2 := by
                by_cases h1 : p.1 = q.1
                · exact .inr (fun h2 => hqp (Prod.ext h1.symm h2.symm))
                · exact .inl h1
              have := line_same n1 n2 hne m1.1 m2.1 m1.2 m2.2
              exact h0 ⟨sgz_zero.2 this.1, sgz_zero.2 this.2⟩
          simp [endsKind, hall]
  · rw [if_neg hp, if_neg hp]
end Go.Proofs.Ytdbhbfmbpldmnaa
