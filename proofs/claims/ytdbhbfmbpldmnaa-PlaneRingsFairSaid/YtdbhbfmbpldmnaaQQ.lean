/- Plain law of one half of a hull. Plain law of hulls: both halves; the wrapping. -/
import Derived.Test.YtdbhbfmbpldmnaaB
namespace Go.Proofs.Ytdbhbfmbpldmnaa
def tw (a b c : Int × Int) : Int := twz a.1 a.2 b.1 b.2 c.1 c.2
def sqd (a b : Int × Int) : Int := dsz a.1 a.2 b.1 b.2
def ltP (p q : Int × Int) : Prop := p.1 < q.1 ∨ (p.1 = q.1 ∧ p.2 < q.2)
theorem ltP.irrefl (p : Int × Int) : ¬ ltP p p := by unfold ltP; omega
theorem ltP.trans {p q r : Int × Int} (h : ltP p q) (k : ltP q r) : ltP p r := by unfold ltP at *; omega
theorem ltP.asymm {p q : Int × Int} (h : ltP p q) : ¬ ltP q p := by unfold ltP at *; omega
theorem ltP.total (p q : Int × Int) : ltP p q ∨ p = q ∨ ltP q p := by
  rcases p with ⟨a, b⟩; rcases q with ⟨c, d⟩
  simp only [ltP, Prod.mk.injEq]; omega
theorem comb_nonneg {s p1 p2 vx vy ux uy wx wy : Int} (hv : 0 < vx ∨ (vx = 0 ∧ 0 < vy)) (hu : 0 < ux ∨ (ux = 0 ∧ 0 < uy)) (hw : 0 < wx ∨ (wx = 0 ∧ 0 < wy))
    (ex : s * vx = p1 * ux + p2 * wx) (ey : s * vy = p1 * uy + p2 * wy) (h1 : 0 ≤ p1) (h2 : 0 ≤ p2) : 0 ≤ s := by
  by_cases hs : 0 ≤ s
  · exact hs
  exfalso
  have n1 := Int.mul_nonneg h1 (show 0 ≤ ux by omega)
  have n2 := Int.mul_nonneg h2 (show 0 ≤ wx by omega)
  rcases hv with hv | ⟨rfl, hv⟩
  · have := Int.mul_pos (show 0 < -s by omega) hv
    rw [Int.neg_mul] at this; omega
  · have := Int.mul_pos (show 0 < -s by omega) hv
    rw [Int.neg_mul] at this
    rw [Int.mul_zero] at ex
    have a1 : 0 ≤ p1 * uy := by
      rcases hu with hu | ⟨_, hu⟩
      · have : p1 = 0 := by
          rcases Int.mul_eq_zero.1 (show p1 * ux = 0 by omega) with h | h <;> omega
        rw [this]; simp
      · exact Int.mul_nonneg h1 (by omega)
    have a2 : 0 ≤ p2 * wy := by
      rcases hw with hw | ⟨_, hw⟩
      · have : p2 = 0 := by
          rcases Int.mul_eq_zero.1 (show p2 * wx = 0 by omega) with h | h <;> omega
        rw [this]; simp
      · exact Int.mul_nonneg h2 (by omega)
    omega
theorem comb_pos {s p1 p2 vx vy ux uy wx wy : Int} (hv : 0 < vx ∨ (vx = 0 ∧ 0 < vy)) (hu : 0 < ux ∨ (ux = 0 ∧ 0 < uy)) (hw : 0 < wx ∨ (wx = 0 ∧ 0 < wy))
    (ex : s * vx = p1 * ux + p2 * wx) (ey : s * vy = p1 * uy + p2 * wy) (h1 : 0 < p1) (h2 : 0 ≤ p2) : 0 < s := by
  have hs := comb_nonneg hv hu hw ex ey (by omega) h2
  by_cases h0 : s = 0
  · exfalso
    subst h0
    rw [Int.zero_mul] at ex ey
    have n1 := Int.mul_nonneg (show 0 ≤ p1 by omega) (show 0 ≤ ux by omega)
    have n2 := Int.mul_nonneg h2 (show 0 ≤ wx by omega)
    have hu0 : ux = 0 := by
      rcases Int.mul_eq_zero.1 (show p1 * ux = 0 by omega) with h | h <;> omega
    have hu1 : 0 < p1 * uy := Int.mul_pos h1 (by omega)
    have a2 : 0 ≤ p2 * wy := by
      rcases hw with hw | ⟨_, hw⟩
      · have : p2 = 0 := by
          rcases Int.mul_eq_zero.1 (show p2 * wx = 0 by omega) with h | h <;> omega
        rw [this]; simp
      · exact Int.mul_nonneg h2 (by omega)
    omega
  · omega
theorem ltP.fw {p q : Int × Int} (h : ltP p q) : 0 < q.1 - p.1 ∨ (q.1 - p.1 = 0 ∧ 0 < q.2 - p.2) := by unfold ltP at h; omega
theorem turn_trans {a b c d : Int × Int} (h1 : ltP a b) (h2 : ltP b c) (h3 : ltP c d) (k1 : 0 < tw a b c) (k2 : 0 < tw b c d) : 0 < tw a b d :=
  comb_pos h2.fw (h2.trans h3).fw h1.fw (by unfold tw twz; grind) (by unfold tw twz; grind) k1 (Int.le_of_lt k2)
theorem turn_k2 {a b q p : Int × Int} (h1 : ltP a b) (h2 : ltP b q) (h3 : ltP q p) (k1 : tw a b p ≤ 0) (k2 : 0 ≤ tw b p q) : 0 ≤ tw a p q :=
  comb_nonneg (p1 := -(tw a b p)) (p2 := tw b p q) (h2.trans h3).fw h3.fw (h1.trans (h2.trans h3)).fw (by unfold tw twz; grind) (by unfold tw twz; grind) (by omega) k2
theorem turn_k3 {a b q p : Int × Int} (h1 : ltP a q) (h2 : ltP q b) (h3 : ltP b p) (k1 : 0 ≤ tw a b q) (k2 : tw a b p ≤ 0) : 0 ≤ tw a p q :=
  comb_nonneg (p1 := -(tw a b p)) (p2 := tw a b q) (h1.trans h2).fw h1.fw (h1.trans (h2.trans h3)).fw (by unfold tw twz; grind) (by unfold tw twz; grind) (by omega) k1
theorem turn_k4 {a b q p : Int × Int} (h1 : ltP a b) (h2 : ltP q b) (h3 : ltP b p) (k1 : 0 ≤ tw a b q) (k2 : 0 < tw a b p) : 0 < tw b p q :=
  comb_pos h1.fw h2.fw h3.fw (by unfold tw twz; grind) (by unfold tw twz; grind) k2 k1
theorem tw_self (a b : Int × Int) : tw a b a = 0 := by unfold tw twz; grind
theorem tw_self2 (a b : Int × Int) : tw a b b = 0 := by unfold tw twz; grind
theorem tw_swap (a b c : Int × Int) : tw a c b = -tw a b c := by unfold tw twz; grind

def popF : List (Int × Int) → Int × Int → List (Int × Int)
  | b :: a :: r, p => if tw a b p ≤ 0 then popF (a :: r) p else b :: a :: r
  | st, _ => st
def pushF (st : List (Int × Int)) (p : Int × Int) : List (Int × Int) := p :: popF st p
/-- each element is so to the next one -/
def Cons2 {α : Type} (R : α → α → Prop) : List α → Prop
  | a :: b :: r => R a b ∧ Cons2 R (b :: r)
  | _ => True
/-- y behind x: all points of P lie to the left of x to y, or between them -/
def Edge (P : List (Int × Int)) (x y : Int × Int) : Prop := ∀ q ∈ P, 0 ≤ tw x y q ∧ (tw x y q = 0 → ¬ ltP q x ∧ ¬ ltP y q)
def Conv : List (Int × Int) → Prop
  | z :: y :: x :: r => 0 < tw x y z ∧ Conv (y :: x :: r)
  | _ => True
/-- a stack of one half: b is the top, m the bottom -/
structure Stk (P : List (Int × Int)) (m : Int × Int) (st : List (Int × Int)) : Prop where
  desc : Cons2 (fun y x => ltP x y) st
  sub : ∀ x ∈ st, x ∈ P
  conv : Conv st
  edges : Cons2 (fun y x => Edge P x y) st
  bot : st.getLast? = some m
theorem Stk.tail {P : List (Int × Int)} {m b a : Int × Int} {r : List (Int × Int)} (h : Stk P m (b :: a :: r)) : Stk P m (a :: r) := by
  refine ⟨h.desc.2, fun x hx => h.sub x (List.mem_cons_of_mem _ hx), ?_, h.edges.2, by have := h.bot; rwa [List.getLast?_cons_cons] at this⟩
  have := h.conv
  cases r with
  | nil => trivial
  | cons c r => exact this.2
theorem pop_ok {P : List (Int × Int)} {m p : Int × Int} (hP : ∀ q ∈ P, ltP q p) : ∀ (st : List (Int × Int)) (b : Int × Int) (r : List (Int × Int)), st = b :: r → Stk P m st → (∀ q ∈ P, ltP b q → 0 ≤ tw b p q) →
    ∃ b' r', popF st p = b' :: r' ∧ Stk P m (b' :: r') ∧ (∀ q ∈ P, ltP b' q → 0 ≤ tw b' p q) ∧ (∀ a r2, r' = a :: r2 → 0 < tw a b' p) := by
  intro st
  induction st with
  | nil => intro b r h; cases h
  | cons b0 r0 ih =>
    intro b r h hs hl
    obtain ⟨rfl, rfl⟩ : b0 = b ∧ r0 = r := by simpa using h
    cases r0 with
    | nil => exact ⟨b0, [], rfl, hs, hl, by intro a r2 h; cases h⟩
    | cons a r2 =>
      rw [popF]
      by_cases hk : tw a b0 p ≤ 0
      · rw [if_pos hk]
        have hab : ltP a b0 := hs.desc.1
        have hbp : ltP b0 p := hP _ (hs.sub _ (by simp))
        refine ih a r2 rfl hs.tail (fun q hq haq => ?_)
        rcases ltP.total q b0 with h1 | rfl | h1
        · exact turn_k3 haq h1 hbp (hs.edges.1 q hq).1 hk
        · have := tw_swap a q p; omega
        · exact turn_k2 hab h1 (hP q hq) hk (hl q hq h1)
      · rw [if_neg hk]
        refine ⟨b0, a :: r2, rfl, hs, hl, ?_⟩
        intro a' r' h
        obtain ⟨rfl, rfl⟩ : a = a' ∧ r2 = r' := by simpa using h
        omega
/-- a new point sees all edges from their left -/
theorem sees {P : List (Int × Int)} {m p : Int × Int} : ∀ (r : List (Int × Int)) (b a : Int × Int), Stk P m (b :: a :: r) → ltP b p → 0 < tw a b p → Cons2 (fun y x => 0 < tw x y p) (b :: a :: r) := by
  intro r
  induction r with
  | nil => intro b a _ _ h; exact ⟨h, trivial⟩
  | cons c r ih =>
    intro b a hs hb h
    have hab : ltP a b := hs.desc.1
    have hca : ltP c a := hs.desc.2.1
    exact ⟨h, ih a c hs.tail (hab.trans hb) (turn_trans hca hab hb hs.conv.1 h)⟩
theorem Cons2.and {α : Type} {R S : α → α → Prop} : ∀ {l : List α}, Cons2 R l → Cons2 S l → Cons2 (fun x y => R x y ∧ S x y) l
  | [], _, _ => trivial
  | [_], _, _ => trivial
  | _ :: b :: r, h, k => ⟨⟨h.1, k.1⟩, Cons2.and (l := b :: r) h.2 k.2⟩
theorem Cons2.imp {α : Type} {R S : α → α → Prop} (f : ∀ x y, R x y → S x y) : ∀ {l : List α}, Cons2 R l → Cons2 S l
  | [], _ => trivial
  | [_], _ => trivial
  | _ :: b :: r, h => ⟨f _ _ h.1, Cons2.imp f (l := b :: r) h.2⟩
theorem push_ok {P : List (Int × Int)} {m p b : Int × Int} {r : List (Int × Int)} (hP : ∀ q ∈ P, ltP q p) (hm : ∀ q ∈ P, ¬ ltP q m) (hb : ∀ q ∈ P, ¬ ltP b q) (hs : Stk P m (b :: r)) :
    Stk (P ++ [p]) m (pushF (b :: r) p) := by
  obtain ⟨b', r', e, h1, h2, h3⟩ := pop_ok hP (b :: r) b r rfl hs (fun q hq h => absurd h (hb q hq))
  have hbp : ltP b' p := hP _ (h1.sub _ (by simp))
  have hnew : Edge (P ++ [p]) b' p := by
    intro q hq
    rcases List.mem_append.1 hq with hq | hq
    · rcases ltP.total q b' with h | rfl | h
      · cases r' with
        | nil =>
          have := h1.bot
          simp at this
          subst this
          exact absurd h (hm q hq)
        | cons a r2 =>
          have := turn_k4 h1.desc.1 h hbp (h1.edges.1 q hq).1 (h3 a r2 rfl)
          exact ⟨by omega, by omega⟩
      · rw [tw_self]
        exact ⟨by omega, fun _ => ⟨ltP.irrefl _, ltP.asymm hbp⟩⟩
      · exact ⟨h2 q hq h, fun _ => ⟨ltP.asymm h, ltP.asymm (hP q hq)⟩⟩
    · obtain rfl : q = p := by simpa using hq
      rw [tw_self2]
      exact ⟨by omega, fun _ => ⟨ltP.asymm hbp, ltP.irrefl _⟩⟩
  have hold : Cons2 (fun y x => Edge (P ++ [p]) x y) (b' :: r') := by
    cases r' with
    | nil => trivial
    | cons a r2 =>
      refine ((h1.edges.and (sees r2 b' a h1 hbp (h3 a r2 rfl)))).imp (fun y x h q hq => ?_)
      rcases List.mem_append.1 hq with hq | hq
      · exact h.1 q hq
      · obtain rfl : q = p := by simpa using hq
        exact ⟨by omega, by omega⟩
  unfold pushF
  rw [e]
  refine ⟨⟨hbp, h1.desc⟩, ?_, ?_, ⟨hnew, hold⟩, by rw [List.getLast?_cons_cons]; exact h1.bot⟩
  · intro x hx
    rcases List.mem_cons.1 hx with rfl | hx
    · simp
    · exact List.mem_append.2 (.inl (h1.sub x hx))
  · cases r' with
    | nil => trivial
    | cons a r2 => exact ⟨h3 a r2 rfl, h1.conv⟩
def stkF (l : List (Int × Int)) : List (Int × Int) := l.foldl pushF []
theorem stk_head (l : List (Int × Int)) (p : Int × Int) : ∃ r, stkF (l ++ [p]) = p :: r := by
  unfold stkF
  rw [List.foldl_append]
  exact ⟨_, rfl⟩
theorem stk_ok (m : Int × Int) : ∀ (n : Nat) (l : List (Int × Int)), l.length = n → (m :: l).Pairwise ltP → Stk (m :: l) m (stkF (m :: l)) := by
  intro n
  induction n with
  | zero =>
    intro l hl h
    obtain rfl : l = [] := List.eq_nil_of_length_eq_zero hl
    exact ⟨trivial, by simp [stkF, pushF, popF], trivial, trivial, rfl⟩
  | succ n ih =>
    intro l hl h
    obtain ⟨l', p, rfl⟩ : ∃ l' p, l = l' ++ [p] := by
      have : l ≠ [] := by intro e; subst e; simp at hl
      exact ⟨_, _, (List.dropLast_concat_getLast this).symm⟩
    rw [← List.cons_append] at h ⊢
    have hp := List.pairwise_append.1 h
    have hi := ih l' (by simpa using hl) hp.1
    have hm : ∀ q ∈ m :: l', ¬ ltP q m := by
      intro q hq hlt
      rcases List.mem_cons.1 hq with rfl | hq
      · exact ltP.irrefl _ hlt
      · exact ltP.asymm hlt ((List.pairwise_cons.1 hp.1).1 q hq)
    have hlast : ∃ b r, stkF (m :: l') = b :: r ∧ ∀ q ∈ m :: l', ¬ ltP b q := by
      obtain ⟨l2, b, e⟩ : ∃ l2 b, m :: l' = l2 ++ [b] := ⟨_, _, (List.dropLast_concat_getLast (by simp)).symm⟩
      rw [e]
      obtain ⟨r, hr⟩ := stk_head l2 b
      refine ⟨b, r, hr, fun q hq hlt => ?_⟩
      rw [e] at hp
      rcases List.mem_append.1 hq with hq | hq
      · exact ltP.asymm hlt ((List.pairwise_append.1 hp.1).2.2 q hq b (by simp))
      · obtain rfl : q = b := by simpa using hq
        exact ltP.irrefl _ hlt
    obtain ⟨b, r, e, hb⟩ := hlast
    have e2 : stkF (m :: l' ++ [p]) = pushF (b :: r) p := by
      rw [← e]; unfold stkF; rw [List.foldl_append]; rfl
    rw [e2]
    rw [e] at hi
    exact push_ok (fun q hq => hp.2.2 q hq p (by simp)) hm hb hi
end Go.Proofs.Ytdbhbfmbpldmnaa
namespace Go.Proofs.Ytdbhbfmbpldmnaa
def ng (p : Int × Int) : Int × Int := (-p.1, -p.2)
theorem ng_ng (p : Int × Int) : ng (ng p) = p := by unfold ng; simp
theorem tw_ng (a b c : Int × Int) : tw (ng a) (ng b) (ng c) = tw a b c := by unfold tw twz ng; grind
theorem sq2_ng (a b : Int × Int) : sqd (ng a) (ng b) = sqd a b := by unfold sqd dsz ng; grind
theorem sq2_comm (a b : Int × Int) : sqd a b = sqd b a := by unfold sqd dsz; grind
theorem ltP_ng (a b : Int × Int) : ltP (ng a) (ng b) ↔ ltP b a := by unfold ltP ng; simp only; omega
theorem pop_ng (p : Int × Int) : ∀ st, popF (st.map ng) (ng p) = (popF st p).map ng
  | [] => rfl
  | [_] => rfl
  | b :: a :: r => by
    have ih := pop_ng p (a :: r)
    simp only [List.map_cons] at ih ⊢
    rw [popF, popF, tw_ng]
    split
    · exact ih
    · rfl
theorem push_ng (st : List (Int × Int)) (p : Int × Int) : pushF (st.map ng) (ng p) = (pushF st p).map ng := by
  unfold pushF; rw [pop_ng]; rfl
theorem stk_ng_aux (l : List (Int × Int)) : ∀ st, (l.map ng).foldl pushF (st.map ng) = (l.foldl pushF st).map ng := by
  induction l with
  | nil => intro st; rfl
  | cons p l ih => intro st; simp only [List.map_cons, List.foldl_cons]; rw [push_ng, ih]
theorem stk_ng (l : List (Int × Int)) : stkF (l.map ng) = (stkF l).map ng := stk_ng_aux l []
/-- a strictly nearer point on the way -/
theorem near {x q y : Int × Int} (h1 : ltP x q) (h2 : ltP q y) (h : tw x y q = 0) : sqd x q < sqd x y := by
  have f1 := h1.fw
  have f2 := h2.fw
  unfold tw twz at h
  unfold sqd dsz
  obtain ⟨u, hu⟩ : ∃ u, q.1 - x.1 = u := ⟨_, rfl⟩
  obtain ⟨v, hv⟩ : ∃ v, q.2 - x.2 = v := ⟨_, rfl⟩
  obtain ⟨d, hd⟩ : ∃ d, y.1 - q.1 = d := ⟨_, rfl⟩
  obtain ⟨e, he⟩ : ∃ e, y.2 - q.2 = e := ⟨_, rfl⟩
  have hc : d * v = e * u := by grind
  have hdu : 0 < d * u + e * v := by
    rcases f1 with f1 | ⟨f1, f1'⟩
    · have hd0 : 0 < d := by
        rcases f2 with f2 | ⟨f2, f2'⟩
        · omega
        · have : d = 0 := by omega
          subst this
          have := Int.mul_pos (show 0 < e by omega) (show 0 < u by omega)
          omega
      have p1 := Int.mul_pos hd0 (show 0 < u by omega)
      have p2 : 0 ≤ (e * v) * u := by
        have : (e * v) * u = d * (v * v) := by grind
        rw [this]
        have : 0 ≤ v * v := by
          rcases Int.le_total 0 v with h | h
          · exact Int.mul_nonneg h h
          · have := Int.mul_nonneg (a := -v) (b := -v) (by omega) (by omega)
            grind
        exact Int.mul_nonneg (by omega) this
      have p3 : 0 ≤ e * v := by
        by_cases k : 0 ≤ e * v
        · exact k
        · have := Int.mul_pos (show 0 < -(e * v) by omega) (show 0 < u by omega)
          rw [Int.neg_mul] at this; omega
      omega
    · have hu0 : u = 0 := by omega
      subst hu0
      have : d = 0 := by
        rcases Int.mul_eq_zero.1 (show d * v = 0 by omega) with k | k <;> omega
      subst this
      have := Int.mul_pos (show 0 < e by omega) (show 0 < v by omega)
      omega
  have s1 : ∀ t : Int, 0 ≤ t * t := by
    intro t
    rcases Int.le_total 0 t with h | h
    · exact Int.mul_nonneg h h
    · have := Int.mul_nonneg (a := -t) (b := -t) (by omega) (by omega)
      grind
  have := s1 d
  have := s1 e
  have e1 : (x.1 - y.1) * (x.1 - y.1) + (x.2 - y.2) * (x.2 - y.2) = (x.1 - q.1) * (x.1 - q.1) + (x.2 - q.2) * (x.2 - q.2) + 2 * (d * u + e * v) + d * d + e * e := by grind
  omega
theorem near2 {x q y : Int × Int} (h1 : ltP x q) (h2 : ltP q y) (h : tw x y q = 0) : sqd y q < sqd x y := by
  have := near (x := ng y) (q := ng q) (y := ng x) ((ltP_ng _ _).2 h2) ((ltP_ng _ _).2 h1) (by rw [tw_ng]; unfold tw twz at h ⊢; grind)
  rw [sq2_ng, sq2_ng] at this
  rw [sq2_comm x y]; exact this
/-- b is next to a: all other points of l lie to the left of a to b, or between them -/
def Wrap (l : List (Int × Int)) (a b : Int × Int) : Prop := b ∈ l ∧ b ≠ a ∧ ∀ q ∈ l, q ≠ a → q = b ∨ 0 < tw a b q ∨ (tw a b q = 0 ∧ sqd a q < sqd a b ∧ sqd b q < sqd a b)
theorem edge_wrap {P : List (Int × Int)} {x y : Int × Int} (h : Edge P x y) (hxy : ltP x y) (hy : y ∈ P) : Wrap P x y := by
  refine ⟨hy, fun e => ltP.irrefl x (e ▸ hxy), fun q hq hne => ?_⟩
  obtain ⟨h1, h2⟩ := h q hq
  by_cases e : q = y
  · exact .inl e
  by_cases h0 : tw x y q = 0
  · obtain ⟨h3, h4⟩ := h2 h0
    have k1 : ltP x q := by rcases ltP.total x q with k | k | k; exact k; exact absurd k.symm hne; exact absurd k h3
    have k2 : ltP q y := by rcases ltP.total q y with k | k | k; exact k; exact absurd k e; exact absurd k h4
    exact .inr (.inr ⟨h0, near k1 k2 h0, near2 k1 k2 h0⟩)
  · exact .inr (.inl (by omega))
theorem Wrap.ng {P : List (Int × Int)} {x y : Int × Int} (h : Wrap (P.map ng) (ng x) (ng y)) : Wrap P x y := by
  obtain ⟨h1, h2, h3⟩ := h
  obtain ⟨y', hy', e⟩ := List.mem_map.1 h1
  have e : y' = y := by rw [← ng_ng y', e, ng_ng]
  subst e
  refine ⟨hy', fun e => h2 (by rw [e]), fun q hq hne => ?_⟩
  have := h3 (Go.Proofs.Ytdbhbfmbpldmnaa.ng q) (List.mem_map.2 ⟨q, hq, rfl⟩) (fun e => hne (by rw [← ng_ng q, e, ng_ng]))
  rw [tw_ng, sq2_ng, sq2_ng, sq2_ng] at this
  rcases this with k | k | k
  · exact .inl (by rw [← ng_ng q, k, ng_ng])
  · exact .inr (.inl k)
  · exact .inr (.inr k)
theorem Cons2.map {α β : Type} {f : α → β} {R : β → β → Prop} : ∀ {l : List α}, Cons2 R (l.map f) → Cons2 (fun x y => R (f x) (f y)) l
  | [], _ => trivial
  | [_], _ => trivial
  | _ :: b :: r, h => ⟨h.1, Cons2.map (l := b :: r) h.2⟩
theorem Cons2.append {α : Type} {R : α → α → Prop} : ∀ {l : List α} {x : α} {r : List α}, Cons2 R (l ++ [x]) → Cons2 R (x :: r) → Cons2 R (l ++ x :: r)
  | [], _, _, _, k => k
  | [_], _, _, h, k => ⟨h.1, k⟩
  | _ :: b :: l, _, _, h, k => ⟨h.1, Cons2.append (l := b :: l) h.2 k⟩
theorem Cons2.snoc {α : Type} {R : α → α → Prop} : ∀ {l : List α} {y x : α}, Cons2 R (l ++ [y]) → R y x → Cons2 R (l ++ [y, x])
  | [], _, _, _, k => ⟨k, trivial⟩
  | [_], _, _, h, k => ⟨h.1, k, trivial⟩
  | _ :: b :: l, _, _, h, k => ⟨h.1, Cons2.snoc (l := b :: l) h.2 k⟩
theorem Cons2.reverse {α : Type} {R : α → α → Prop} : ∀ {l : List α}, Cons2 (fun y x => R x y) l → Cons2 R l.reverse
  | [], _ => trivial
  | [_], _ => trivial
  | a :: b :: r, h => by
    have ih := Cons2.reverse (l := b :: r) h.2
    rw [List.reverse_cons] at ih
    rw [List.reverse_cons, List.reverse_cons, List.append_assoc]
    exact Cons2.snoc ih h.1
theorem Cons2.mem {α : Type} {R : α → α → Prop} {P : α → Prop} : ∀ {l : List α}, Cons2 R l → (∀ x ∈ l, P x) → Cons2 (fun x y => R x y ∧ P x ∧ P y) l
  | [], _, _ => trivial
  | [_], _, _ => trivial
  | a :: b :: r, h, k => ⟨⟨h.1, k a (by simp), k b (by simp)⟩, Cons2.mem (l := b :: r) h.2 (fun x hx => k x (List.mem_cons_of_mem _ hx))⟩
/-- the half from the least point to the greatest one -/
theorem half_up {m : Int × Int} {l : List (Int × Int)} (h : (m :: l).Pairwise ltP) : Cons2 (fun x y => Wrap (m :: l) x y ∧ ltP x y) (stkF (m :: l)).reverse := by
  have hs := stk_ok m l.length l rfl h
  have := (hs.edges.and hs.desc).mem hs.sub
  exact Cons2.reverse (this.imp (fun y x k => ⟨edge_wrap k.1.1 k.1.2 k.2.1, k.1.2⟩))
theorem pairwise_ng {l : List (Int × Int)} (h : l.Pairwise ltP) : (l.reverse.map ng).Pairwise ltP := by
  rw [List.pairwise_map, List.pairwise_reverse]
  exact h.imp (fun k => (ltP_ng _ _).2 k)
theorem Wrap.congr {P Q : List (Int × Int)} {x y : Int × Int} (h : Wrap P x y) (k : ∀ q, q ∈ Q ↔ q ∈ P) : Wrap Q x y := ⟨(k _).2 h.1, h.2.1, fun q hq => h.2.2 q ((k _).1 hq)⟩
theorem half_down {m : Int × Int} {l s : List (Int × Int)} (h : s.Pairwise ltP) (e : s.reverse = m :: l) : Cons2 (fun x y => Wrap s x y ∧ ltP y x) (stkF s.reverse).reverse := by
  have hn := pairwise_ng h
  have h2 := e ▸ hn
  have := half_up (m := ng m) (l := l.map ng) (by simpa using h2)
  rw [← List.map_cons, ← e, stk_ng, ← List.map_reverse] at this
  refine (Cons2.map this).imp (fun x y k => ⟨(Wrap.ng k.1).congr (fun q => by simp), (ltP_ng _ _).1 k.2⟩)
theorem stk_bot {m : Int × Int} {l : List (Int × Int)} (h : (m :: l).Pairwise ltP) : (stkF (m :: l)).getLast? = some m := (stk_ok m l.length l rfl h).bot
theorem stk_bot_down {m : Int × Int} {l s : List (Int × Int)} (h : s.Pairwise ltP) (e : s.reverse = m :: l) : (stkF s.reverse).getLast? = some m := by
  have hn := pairwise_ng h
  rw [e] at hn
  have := stk_bot (m := ng m) (l := l.map ng) hn
  rw [← List.map_cons, ← e, stk_ng, List.getLast?_map] at this
  cases h2 : (stkF s.reverse).getLast? with
  | none => rw [h2] at this; cases this
  | some x => rw [h2] at this; simp at this; rw [← ng_ng x, this, ng_ng]
/-- H is the corners of the hull of l -/
def HullOf (l H : List (Int × Int)) : Prop := ∃ h t, H = h :: t ∧ h ∈ l ∧ (∀ q ∈ l, ¬ ltP q h) ∧ (t = [] → ∀ q ∈ l, q = h) ∧ (t ≠ [] → Cons2 (Wrap l) (h :: t ++ [h]) ∧ ∀ x ∈ t, x ≠ h)
theorem HullOf.congr {l k H : List (Int × Int)} (h : HullOf l H) (e : ∀ q, q ∈ k ↔ q ∈ l) : HullOf k H := by
  obtain ⟨a, t, h1, h2, h3, h4, h5⟩ := h
  exact ⟨a, t, h1, (e _).2 h2, fun q hq => h3 q ((e _).1 hq), fun ht q hq => h4 ht q ((e _).1 hq), fun ht => ⟨(h5 ht).1.imp (fun x y w => w.congr e), (h5 ht).2⟩⟩
def hullS (s : List (Int × Int)) : List (Int × Int) := if s.length = 1 then s else (stkF s).tail.reverse ++ (stkF s.reverse).tail.reverse
theorem Cons2.first {α : Type} {R : α → α → Prop} (ht : ∀ a b c, R a b → R b c → R a c) : ∀ {l : List α} {a : α}, Cons2 R (a :: l) → ∀ x ∈ l, R a x
  | [], _, _, _, hx => absurd hx (by simp)
  | b :: l, a, h, x, hx => by
    rcases List.mem_cons.1 hx with rfl | hx
    · exact h.1
    · exact ht _ _ _ h.1 (Cons2.first ht (l := l) h.2 x hx)
theorem Cons2.final {α : Type} {R : α → α → Prop} (ht : ∀ a b c, R a b → R b c → R a c) {m : α} : ∀ {l : List α}, Cons2 R (l ++ [m]) → ∀ x ∈ l, R x m
  | [], _, _, hx => absurd hx (by simp)
  | [a], h, x, hx => by
    obtain rfl : x = a := by simpa using hx
    exact h.1
  | a :: b :: l, h, x, hx => by
    have ih := Cons2.final ht (l := b :: l) h.2
    rcases List.mem_cons.1 hx with rfl | hx
    · exact ht _ _ _ h.1 (ih b (by simp))
    · exact ih x hx
theorem hull_ok {s : List (Int × Int)} (h : s.Pairwise ltP) (hne : s ≠ []) : HullOf s (hullS s) := by
  unfold hullS
  cases s with
  | nil => exact absurd rfl hne
  | cons m l =>
  have hmin : ∀ q ∈ m :: l, ¬ ltP q m := by
    intro q hq hlt
    rcases List.mem_cons.1 hq with rfl | hq
    · exact ltP.irrefl _ hlt
    · exact ltP.asymm hlt ((List.pairwise_cons.1 h).1 q hq)
  by_cases hl : l = []
  · subst hl
    simp only [List.length_singleton, if_true]
    exact ⟨m, [], rfl, by simp, hmin, fun _ q hq => by simpa using hq, fun k => absurd rfl k⟩
  rw [if_neg (by
    intro e
    exact hl (List.eq_nil_of_length_eq_zero (by simpa using e)))]
  obtain ⟨l', z, e⟩ : ∃ l' z, l = l' ++ [z] := ⟨_, _, (List.dropLast_concat_getLast hl).symm⟩
  have er : (m :: l).reverse = z :: (m :: l').reverse := by rw [e]; simp
  -- the lower half: from m to z
  obtain ⟨ra, ha⟩ := stk_head (m :: l') z
  have ha : stkF (m :: l) = z :: ra := by rw [e]; exact ha
  have up := half_up h
  have bu := stk_bot h
  -- the upper half: from z to m
  obtain ⟨rb, hb⟩ : ∃ r, stkF (m :: l).reverse = m :: r := by
    have := stk_head (l.reverse) m
    rwa [← List.reverse_cons] at this
  have dn := half_down h er
  have bd := stk_bot_down h er
  have hmz : ltP m z := (List.pairwise_cons.1 h).1 z (by rw [e]; simp)
  have hra : ra ≠ [] := by
    intro k
    rw [ha, k] at bu
    simp at bu
    exact ltP.irrefl m (bu ▸ hmz)
  have hrb : rb ≠ [] := by
    intro k
    rw [hb, k] at bd
    simp at bd
    exact ltP.irrefl m (bd ▸ hmz)
  rw [ha] at up bu
  rw [hb] at dn bd
  obtain ⟨ra', e1⟩ : ∃ ra', ra = ra' ++ [m] := by
    refine ⟨ra.dropLast, ?_⟩
    have k : ra.getLast hra = m := by
      rw [List.getLast?_cons, List.getLast?_eq_some_getLast hra] at bu
      simpa using bu
    rw [← k]; exact (List.dropLast_concat_getLast hra).symm
  obtain ⟨rb', e2⟩ : ∃ rb', rb = rb' ++ [z] := by
    refine ⟨rb.dropLast, ?_⟩
    have k : rb.getLast hrb = z := by
      rw [List.getLast?_cons, List.getLast?_eq_some_getLast hrb] at bd
      simpa using bd
    rw [← k]; exact (List.dropLast_concat_getLast hrb).symm
  subst e1 e2
  rw [ha, hb]
  simp only [List.tail_cons, List.reverse_append, List.reverse_cons, List.reverse_nil, List.nil_append, List.cons_append] at up dn ⊢
  have g1 := Cons2.first (R := ltP) (fun a b c k1 k2 => ltP.trans k1 k2) (up.imp (fun _ _ k => k.2))
  have g2 := Cons2.final (R := fun a b => ltP b a) (l := z :: rb'.reverse) (fun a b c k1 k2 => ltP.trans k2 k1) (dn.imp (S := fun a b => ltP b a) (fun _ _ k => k.2))
  refine ⟨m, _, rfl, by simp, hmin, fun k => absurd k (by simp), fun _ => ⟨?_, ?_⟩⟩
  · have := Cons2.append (l := m :: ra'.reverse) (x := z) (r := rb'.reverse ++ [m]) (up.imp (fun _ _ k => k.1)) (dn.imp (fun _ _ k => k.1))
    simpa using this
  · intro x hx e
    subst e
    rcases List.mem_append.1 hx with hx | hx
    · exact ltP.irrefl _ (g1 x (List.mem_append.2 (.inl hx)))
    · exact ltP.irrefl _ (g2 x hx)
end Go.Proofs.Ytdbhbfmbpldmnaa
