/- Plain words of chainage: lengths, contradictions. -/
import Derived.Test.YtaggjclaehigjaaA
namespace Go.Proofs.Ytaggjclaehigjaa
/-- the least and the greatest length in a year that a thing leaves -/
def loZ (w y : Int) (t : Four) : Int := t.lo - w * max 0 (t.y - y)
def hiZ (w y : Int) (t : Four) : Int := t.hi + w * max 0 (y - t.y)
def limLo (w y : Int) (l : List Four) : Int := l.foldl (fun m t => max m (loZ w y t)) 9000
def limHi (w y : Int) (l : List Four) : Int := l.foldl (fun m t => min m (hiZ w y t)) 12000
def clashB (w : Int) (s t : Four) : Bool := decide (loZ w t.y s > t.hi) || decide (loZ w s.y t > s.hi)
/-- some two things of a list contradict each other -/
def clashesB (w : Int) : List Four → Bool
  | [] => false
  | t :: l => l.any (fun s => clashB w s t) || clashesB w l
theorem clashB_comm (w : Int) (s t : Four) : clashB w s t = clashB w t s := by unfold clashB; rw [Bool.or_comm]
/-- a thing of right works -/
def OkF (t : Four) : Prop := (0 ≤ t.y ∧ t.y ≤ 4000) ∧ 9000 ≤ t.lo ∧ t.lo ≤ t.hi ∧ t.hi ≤ 12000
theorem mul_rng {a b A B : Int} (h1 : 0 ≤ a) (h2 : a ≤ A) (h3 : 0 ≤ b) (h4 : b ≤ B) : 0 ≤ a * b ∧ a * b ≤ A * B :=
  ⟨Int.mul_nonneg h1 h3, Int.mul_le_mul h2 h4 h3 (by omega)⟩
theorem limHi_le (w y : Int) (l : List Four) : ∀ m, l.foldl (fun m t => min m (hiZ w y t)) m ≤ m := by
  induction l with
  | nil => intro m; exact Int.le_refl _
  | cons t l ih => intro m; exact Int.le_trans (ih _) (Int.min_le_left _ _)
theorem le_limLo (w y : Int) (l : List Four) : ∀ m, m ≤ l.foldl (fun m t => max m (loZ w y t)) m := by
  induction l with
  | nil => intro m; exact Int.le_refl _
  | cons t l ih => intro m; exact Int.le_trans (Int.le_max_left _ _) (ih _)
end Go.Proofs.Ytaggjclaehigjaa
