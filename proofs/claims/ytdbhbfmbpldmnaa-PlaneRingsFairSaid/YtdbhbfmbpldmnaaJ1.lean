/- A simple polygon: no two edges cross, and a corner lies on its own two edges alone. -/
import Derived.Test.YtdbhbfmbpldmnaaP9
import Derived.Test.YtdbhbfmbpldmnaaP3
import Derived.Test.YtdbhbfmbpldmnaaQQ
namespace Go.Proofs.Ytdbhbfmbpldmnaa
/-- the corner of number m, in a circle -/
def crn (l : List (Int × Int)) (m : Nat) : Int × Int := l.getD (m % l.length) (0, 0)
theorem edge_crn {l : List (Int × Int)} {i : Nat} (hi : i < l.length) : edge l i = (crn l i, crn l (i + 1)) := by
  unfold edge crn
  rw [Nat.mod_eq_of_lt hi]
theorem crn_mod (l : List (Int × Int)) (m : Nat) : crn l (m % l.length) = crn l m := by unfold crn; rw [Nat.mod_mod]
theorem crn_succ_mod (l : List (Int × Int)) (m : Nat) : crn l (m % l.length + 1) = crn l (m + 1) := by
  unfold crn
  rw [Nat.mod_add_mod]
def onP (a b p : Int × Int) : Bool := onB a.1 a.2 b.1 b.2 p.1 p.2
def crossP (a b c d : Int × Int) : Prop := sgz (tw a b c) * sgz (tw a b d) < 0 ∧ sgz (tw c d a) * sgz (tw c d b) < 0
theorem simple_row {l : List (Int × Int)} (h : simpleB l = true) {i : Nat} (hi : i < l.length) : rowBad l i = false := by
  unfold simpleB at h
  rw [Bool.not_eq_true', List.any_eq_false] at h
  have := h ⟨i, hi⟩ (List.mem_finRange _)
  simpa using this
theorem simple_dg {l : List (Int × Int)} (h : simpleB l = true) {i : Nat} (hi : i < l.length) : crn l i ≠ crn l (i + 1) := by
  have k := simple_row h hi
  unfold rowBad at k
  rw [Bool.or_eq_false_iff] at k
  have k1 := k.1
  rw [edge_crn hi] at k1
  unfold dgn at k1
  have k2 := of_decide_eq_false k1
  intro e
  exact k2 ⟨congrArg Prod.fst e, congrArg Prod.snd e⟩
theorem simple_pair {l : List (Int × Int)} (h : simpleB l = true) {i k : Nat} (hik : i < k) (hk : k < l.length) :
    ((k = i + 1 ∨ (i = 0 ∧ k + 1 = l.length)) → mtE (edge l i) (edge l k) = 1) ∧ (¬ (k = i + 1 ∨ (i = 0 ∧ k + 1 = l.length)) → mtE (edge l i) (edge l k) = 0) := by
  have r := simple_row h (show i < l.length by omega)
  have rk := simple_row h hk
  unfold rowBad at r rk
  rw [Bool.or_eq_false_iff, List.any_eq_false] at r rk
  have q := r.2 ⟨k, hk⟩ (List.mem_finRange _)
  have q : innerBad l i k = false := by simpa using q
  unfold innerBad at q
  rw [decide_eq_true hik, rk.1] at q
  have q : pairBad l i k = false := by simpa using q
  unfold pairBad at q
  constructor
  · intro c
    rw [if_pos c] at q
    have q2 := of_decide_eq_false q
    exact Classical.byContradiction fun e => q2 (.inl e)
  · intro c
    rw [if_neg c] at q
    have q2 := of_decide_eq_false q
    exact Classical.byContradiction fun e => q2 e
structure SimpP (l : List (Int × Int)) : Prop where
  dg : ∀ i, crn l i ≠ crn l (i + 1)
  nc : ∀ i k, ¬ crossP (crn l i) (crn l (i + 1)) (crn l k) (crn l (k + 1))
  own : ∀ i m, onP (crn l i) (crn l (i + 1)) (crn l m) = true → m % l.length = i % l.length ∨ m % l.length = (i + 1) % l.length
theorem crossP_swap {a b c d : Int × Int} (h : crossP a b c d) : crossP c d a b := ⟨h.2, h.1⟩
theorem onP_left (a b : Int × Int) : onP a b a = true := onB_left _ _ _ _
theorem onP_right (a b : Int × Int) : onP a b b = true := onB_right _ _ _ _
theorem simp_ok {l : List (Int × Int)} (h : simpleB l = true) (hok : l.all okp = true) (h3 : 3 ≤ l.length) : SimpP l := by
  have n0 : 0 < l.length := by omega
  have lt := fun i => Nat.mod_lt i n0
  have okc' : ∀ m, okp (crn l m) = true := fun m => by
    unfold crn
    rw [getD_at' (lt m)]
    exact List.all_eq_true.1 hok _ (List.getElem_mem _)
  have dg' : ∀ i, i < l.length → crn l i ≠ crn l (i + 1) := fun i hi => simple_dg h hi
  have pr : ∀ i, i < l.length → propB (crn l i).1 (crn l i).2 (crn l (i + 1)).1 (crn l (i + 1)).2 = true := fun i hi => by
    unfold propB
    rw [show okp ((crn l i).1, (crn l i).2) = true from okc' i, show okp ((crn l (i + 1)).1, (crn l (i + 1)).2) = true from okc' (i + 1)]
    simp only [Bool.and_self, Bool.true_and, decide_eq_true_eq]
    exact dg' i hi
  have key : ∀ i k, i < k → k < l.length →
      ((k = i + 1 ∨ (i = 0 ∧ k + 1 = l.length)) → ∃ p, ∀ q, (q = crn l i ∨ q = crn l (i + 1) ∨ q = crn l k ∨ q = crn l (k + 1)) → onP (crn l i) (crn l (i + 1)) q = true → onP (crn l k) (crn l (k + 1)) q = true → q = p) ∧
      (¬ (k = i + 1 ∨ (i = 0 ∧ k + 1 = l.length)) → (∀ q, (q = crn l i ∨ q = crn l (i + 1) ∨ q = crn l k ∨ q = crn l (k + 1)) → onP (crn l i) (crn l (i + 1)) q = true → onP (crn l k) (crn l (k + 1)) q = true → False) ∧ ¬ crossP (crn l i) (crn l (i + 1)) (crn l k) (crn l (k + 1))) := by
    intro i k hik hk
    have sp := simple_pair h hik hk
    rw [edge_crn hk, edge_crn (show i < l.length by omega)] at sp
    unfold mtE at sp
    rw [mt_eq] at sp
    unfold mtR at sp
    rw [if_pos ⟨pr i (by omega), pr k hk⟩] at sp
    constructor
    · intro c
      have s := sp.1 c
      have e1 : endsKind (endsL (crn l i).1 (crn l i).2 (crn l (i + 1)).1 (crn l (i + 1)).2 (crn l k).1 (crn l k).2 (crn l (k + 1)).1 (crn l (k + 1)).2) = 1 := by
        split at s
        · exact s
        · split at s <;> cases s
      obtain ⟨p, _, hp⟩ := endsKind_one.1 e1
      exact ⟨p, fun q hq h1 h2 => hp q ((endsL_iff _ _ _ _ _ _ _ _ q).2 ⟨hq, h1, h2⟩)⟩
    · intro c
      have s := sp.2 c
      have e0 : endsKind (endsL (crn l i).1 (crn l i).2 (crn l (i + 1)).1 (crn l (i + 1)).2 (crn l k).1 (crn l k).2 (crn l (k + 1)).1 (crn l (k + 1)).2) = 0 := by
        split at s
        · exact s
        · rename_i z
          exact Classical.byContradiction z
      rw [if_neg (by rw [e0]; simp)] at s
      refine ⟨fun q hq h1 h2 => ?_, fun x => ?_⟩
      · have this : q ∈ endsL (crn l i).1 (crn l i).2 (crn l (i + 1)).1 (crn l (i + 1)).2 (crn l k).1 (crn l k).2 (crn l (k + 1)).1 (crn l (k + 1)).2 := (endsL_iff _ _ _ _ _ _ _ _ q).2 ⟨hq, h1, h2⟩
        rw [endsKind_zero.1 e0] at this
        cases this
      · rw [if_pos ⟨x.1, x.2⟩] at s
        cases s
  have wrapV : ∀ k, k + 1 = l.length → crn l (k + 1) = crn l 0 := fun k hk => by unfold crn; rw [hk, Nat.mod_self, Nat.zero_mod]
  have ncl : ∀ i k, i < k → k < l.length → ¬ crossP (crn l i) (crn l (i + 1)) (crn l k) (crn l (k + 1)) := by
    intro i k hik hk
    by_cases c : k = i + 1 ∨ (i = 0 ∧ k + 1 = l.length)
    · rintro ⟨x1, _⟩
      rcases c with c | ⟨c1, c2⟩
      · subst c
        rw [tw_self2, show sgz 0 = 0 from rfl, Int.zero_mul] at x1
        exact absurd x1 (by omega)
      · subst c1
        rw [wrapV k c2, tw_self, show sgz 0 = 0 from rfl, Int.mul_zero] at x1
        exact absurd x1 (by omega)
    · exact ((key i k hik hk).2 c).2
  refine ⟨fun i => ?_, fun i k => ?_, fun i m hon => ?_⟩
  · have := dg' (i % l.length) (lt i)
    rwa [crn_mod, crn_succ_mod] at this
  · rw [← crn_mod l i, ← crn_succ_mod l i, ← crn_mod l k, ← crn_succ_mod l k]
    rcases Nat.lt_trichotomy (i % l.length) (k % l.length) with c | c | c
    · exact ncl _ _ c (lt k)
    · rw [c]
      rintro ⟨x1, _⟩
      rw [tw_self, show sgz 0 = 0 from rfl, Int.zero_mul] at x1
      exact absurd x1 (by omega)
    · exact fun x => ncl _ _ c (lt i) (crossP_swap x)
  · rw [← crn_mod l i, ← crn_succ_mod l i, ← crn_mod l m] at hon
    rw [show (i + 1) % l.length = (i % l.length + 1) % l.length by rw [Nat.mod_add_mod]]
    obtain ⟨j, hj⟩ : ∃ j, i % l.length = j := ⟨_, rfl⟩
    obtain ⟨p, hp⟩ : ∃ j, m % l.length = j := ⟨_, rfl⟩
    have hjl := lt i
    have hpl := lt m
    rw [hj] at hon hjl ⊢
    rw [hp] at hon hpl ⊢
    refine Classical.byContradiction fun hne => ?_
    have n1 : p ≠ j := fun e => hne (.inl e)
    have n2 : p ≠ (j + 1) % l.length := fun e => hne (.inr e)
    rcases Nat.lt_or_gt_of_ne n1 with c | c
    · by_cases a : j = p + 1 ∨ (p = 0 ∧ j + 1 = l.length)
      · rcases a with a | ⟨a1, a2⟩
        · obtain ⟨z, hz⟩ := (key p j c hjl).1 (.inl a)
          have e1 := hz (crn l p) (.inl rfl) (onP_left _ _) hon
          have e2 := hz (crn l (p + 1)) (.inr (.inl rfl)) (onP_right _ _) (by rw [← a]; exact onP_left _ _)
          exact dg' p hpl (e1.trans e2.symm)
        · rw [a2, Nat.mod_self] at n2
          exact n2 a1
      · exact ((key p j c hjl).2 a).1 (crn l p) (.inl rfl) (onP_left _ _) hon
    · have n3 : p ≠ j + 1 := fun e => by rw [Nat.mod_eq_of_lt (by omega)] at n2; exact n2 e
      by_cases a : p = j + 1 ∨ (j = 0 ∧ p + 1 = l.length)
      · obtain ⟨a1, a2⟩ := a.resolve_left n3
        obtain ⟨z, hz⟩ := (key j p c hpl).1 a
        have e1 := hz (crn l p) (.inr (.inr (.inl rfl))) hon (onP_left _ _)
        have e2 := hz (crn l (p + 1)) (.inr (.inr (.inr rfl))) (by rw [wrapV p a2, a1]; exact onP_left _ _) (onP_right _ _)
        exact dg' p hpl (e1.trans e2.symm)
      · exact ((key j p c hpl).2 a).1 (crn l p) (.inr (.inr (.inl rfl))) hon (onP_left _ _)
end Go.Proofs.Ytdbhbfmbpldmnaa
