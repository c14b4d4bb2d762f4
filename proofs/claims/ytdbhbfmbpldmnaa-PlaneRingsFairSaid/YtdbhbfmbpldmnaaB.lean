/- Basic words: a world that only grew; a list of points in memory. -/
import Derived.Test.YtdbhbfmbpldmnaaProg
import Derived.WalkKit
import Derived.WalkSpells
import Derived.WalkLawsBesides
import Derived.Lib.Hide
import Derived.Deep.RegionHeld3
import Derived.Deep.QuietTactic
import Derived.BigQuiet
namespace Go.Proofs.Ytdbhbfmbpldmnaa
open Go.RowKit

/-- w' is w with new blocks: nothing that was there has turned. -/
def Ext (w w' : World) : Prop := Below w.heap.size w w'
theorem Ext.refl (w : World) : Ext w w := Below.refl _ _
theorem Ext.trans {a b c : World} (h : Ext a b) (k : Ext b c) : Ext a c := Below.trans h (Below.mono k h.size)
theorem Ext.alloc {a w : World} (h : Ext a w) (o : Obj) : Ext a (w.alloc o) := Below.alloc h h.size o
theorem Ext.drew {a w : World} (h : Ext a w) : Ext a w.drew := Below.drew h
theorem Ext.drewN {a w : World} (h : Ext a w) (n : Nat) : Ext a (w.drewN n) := h.trans ⟨rfl, rfl, rfl, Nat.le_refl _, fun _ _ => rfl⟩
theorem Ext.setCell {a w : World} (h : Ext a w) {p : Addr} (hp : a.heap.size ≤ p.block) (u : Value) : Ext a (w.setCell p u) := Below.setCell h hp u
theorem Ext.b1 {W w w' : World} {a : Obj} (hX : Ext W w) (h : Ext (w.alloc a) w') : Ext W w' := (hX.alloc a).trans h
theorem Ext.b2 {W w w' : World} {a b : Obj} (hX : Ext W w) (h : Ext ((w.alloc a).alloc b) w') : Ext W w' := ((hX.alloc a).alloc b).trans h
theorem Ext.b3 {W w w' : World} {a b c : Obj} (hX : Ext W w) (h : Ext (((w.alloc a).alloc b).alloc c) w') : Ext W w' := (((hX.alloc a).alloc b).alloc c).trans h
theorem Ext.b4 {W w w' : World} {a b c d : Obj} (hX : Ext W w) (h : Ext ((((w.alloc a).alloc b).alloc c).alloc d) w') : Ext W w' := ((((hX.alloc a).alloc b).alloc c).alloc d).trans h
theorem lt_of_cell {w : World} {a : Addr} {v : Value} (h : w.cell? a = some v) : a.block < w.heap.size := by
  unfold World.cell? at h
  split at h
  · rename_i hh
    exact (Array.getElem?_eq_some_iff.1 hh).1
  · cases h
theorem Ext.cell {w w' : World} (h : Ext w w') {a : Addr} {v : Value} (hc : w.cell? a = some v) : w'.cell? a = some v :=
  (Below.cell h (lt_of_cell hc)).trans hc
theorem Ext.frozen {w w' : World} (h : Ext w w') {a : Addr} (ha : a.block < w.heap.size) (hc : w.frozen? a = false) : w'.frozen? a = false :=
  (Below.frozen h ha).trans hc
theorem Ext.rule {w w' : World} (h : Ext w w') : ∀ b o, b < w.heap.size → w'.cell? ⟨b, o, none⟩ = w.cell? ⟨b, o, none⟩ := fun b _ hb => Below.cell h (p := ⟨b, _, none⟩) hb
theorem extS {W w : World} (h : Ext W w) : Ext W w ∧ ∀ b o, b < W.heap.size → w.cell? ⟨b, o, none⟩ = W.cell? ⟨b, o, none⟩ := ⟨h, h.rule⟩
theorem Ext.le {w w' : World} (h : Ext w w') : w.heap.size ≤ w'.heap.size := h.size

/-- A slice value that holds a list of points. -/
def Pts (w : World) (v : Value) (l : List (Int × Int)) : Prop :=
  ∃ a cap, v = .slice a l.length cap ∧ l.length ≤ cap ∧ cap ≤ maxLen ∧ (l = [] ∨ ∃ b off, a = some ⟨b, off, none⟩ ∧
    ∀ i, (h : i < l.length) → w.cell? ⟨b, off + i * 2, none⟩ = some (.int .i64 (l[i]).1) ∧ w.cell? ⟨b, off + i * 2 + 1, none⟩ = some (.int .i64 (l[i]).2))
theorem Pts.ext {w w' : World} {v : Value} {l : List (Int × Int)} (h : Pts w v l) (x : Ext w w') : Pts w' v l := by
  obtain ⟨a, cap, hv, hl, hm, h⟩ := h
  refine ⟨a, cap, hv, hl, hm, h.imp id ?_⟩
  rintro ⟨b, off, ha, hc⟩
  exact ⟨b, off, ha, fun i hi => ⟨x.cell (hc i hi).1, x.cell (hc i hi).2⟩⟩

def flat : List (Int × Int) → List Value
  | [] => []
  | p :: l => .int .i64 p.1 :: .int .i64 p.2 :: flat l
theorem flat_length (l : List (Int × Int)) : (flat l).length = l.length * 2 := by
  induction l with
  | nil => rfl
  | cons p l ih => simp only [flat, List.length_cons, ih]; omega
theorem flat_at (l : List (Int × Int)) : ∀ i, (h : i < l.length) → (flat l)[i * 2]? = some (.int .i64 (l[i]).1) ∧ (flat l)[i * 2 + 1]? = some (.int .i64 (l[i]).2) := by
  induction l with
  | nil => intro i h; exact absurd h (by simp)
  | cons p l ih =>
    intro i h
    cases i with
    | zero => simp [flat]
    | succ i =>
      have := ih i (by simpa using h)
      rw [show (i + 1) * 2 = i * 2 + 1 + 1 from by omega]
      simpa [flat] using this
theorem cell_new (w : World) (cs : List Value) (T o : Nat) : (w.alloc (.cells cs.toArray T)).cell? ⟨w.heap.size, o, none⟩ = cs[o]? := by
  have h : (w.alloc (.cells cs.toArray T)).heap[w.heap.size]? = some (.cells cs.toArray T) := Array.getElem?_push_size
  unfold World.cell?
  simp only [h]
  simp
theorem Pts_new (w : World) (T : Nat) (l : List (Int × Int)) (h : l.length ≤ maxLen) : Pts (w.alloc (.cells (flat l).toArray T)) (.slice (some ⟨w.heap.size, 0, none⟩) l.length l.length) l := by
  refine ⟨_, _, rfl, Nat.le_refl _, h, .inr ⟨_, _, rfl, fun i hi => ?_⟩⟩
  rw [cell_new, cell_new]
  simpa using flat_at l i hi
theorem Pts_mk {w : World} {T n k : Nat} {cs : Array Value} {l : List (Int × Int)} (hn : n = w.heap.size) (hcs : cs = (flat l).toArray) (hk : k = l.length) (h : l.length ≤ maxLen) : Pts (w.alloc (.cells cs T)) (.slice (some ⟨n, 0, none⟩) k k) l := by
  subst hn hcs hk
  exact Pts_new w T l h
/-- A slice of points that the call itself made (from block base on), or nil. -/
def Own (base : Nat) (w : World) (v : Value) (l : List (Int × Int)) : Prop := w.ownsRow base 23 2 v l.length (flat l)
theorem Own.nil (base : Nat) (w : World) : Own base w (.slice none 0 0) [] := World.ownsRow_nil w base 23 2
theorem Own.ext {base : Nat} {w w' : World} {v : Value} {l : List (Int × Int)} (h : Own base w v l) (x : Ext w w') : Own base w' v l := by
  obtain ⟨h1, h2⟩ := h
  refine ⟨h1, ?_⟩
  rcases h2 with h2 | ⟨g, cap, cur, hv, hb, hg, r⟩
  · exact Or.inl h2
  · exact Or.inr ⟨g, cap, cur, hv, hb, (x.block g (Array.getElem?_eq_some_iff.1 hg).1).trans hg, r⟩
theorem Own.pts {base : Nat} {w : World} {v : Value} {l : List (Int × Int)} (h : Own base w v l) : Pts w v l := by
  obtain ⟨h1, h2⟩ := h
  rcases h2 with ⟨hv, hn⟩ | ⟨g, cap, cur, hv, hb, hg, hle, hm, hsz, htk⟩
  · exact ⟨none, 0, by rw [hv, hn], by omega, by simp [maxLen], .inl (List.length_eq_zero_iff.1 hn)⟩
  · refine ⟨_, cap, hv, hle, hm, .inr ⟨g, 0, rfl, fun i hi => ?_⟩⟩
    have key : ∀ j u, (flat l)[j]? = some u → w.cell? ⟨g, 0 + j, none⟩ = some u := by
      intro j u hj
      rw [← htk, List.getElem?_take] at hj
      split at hj
      · unfold World.cell?
        simp only [hg]
        simpa using hj
      · cases hj
    have hf := flat_at l i hi
    exact ⟨key _ _ hf.1, by rw [Nat.add_assoc]; exact key _ _ hf.2⟩
theorem flat_snoc (l : List (Int × Int)) (p : Int × Int) : flat (l ++ [p]) = flat l ++ [.int .i64 p.1, .int .i64 p.2] := by
  induction l with
  | nil => rfl
  | cons q l ih => simp [flat, ih]
theorem info23 : (Try.prog.info? 23).map (fun i => (i.zero, i.size, i.bytes)) = some (some (.agg #[.int .i64 0, .int .i64 0]), 2, 16) := by kernel_rfl
/-- append of one point to a slice of the call's own -/
theorem app_pt {ops : Array Oper} {rest : List Oper} {o : Oper} {a : Act} {w : World} {Q : Exit → Act → World → Prop} (hgd : o.guard = none) (s x : Operand)
    (ho : o.op = .call { callee := .builtin .append, args := #[s, x], argTypes := #[39, 39] }) (base : Nat) (v : Value) (l : List (Int × Int)) (hs : a.eval s = v) (hown : Own base w v l)
    (n : Nat) (px py : Int) (hx : a.eval x = .slice (some ⟨n, 0, none⟩) 1 1) (h1 : w.cell? ⟨n, 0, none⟩ = some (.int .i64 px)) (h2 : w.cell? ⟨n, 1, none⟩ = some (.int .i64 py))
    (hlen : l.length ≤ 8000000000000) {W0 : World} (hE0 : Ext W0 w) (hbase0 : base ≤ W0.heap.size)
    (h : ∀ v' w', Own base w' v' (l ++ [(px, py)]) → w.grownBy w' v.ownBlock → (∀ W : World, W.heap.size ≤ base → Ext W w → Ext W w') → wpList Try.prog ops Q rest (a.put o.dst v') w') : wpList Try.prog ops Q (o :: rest) a w := by
  have hbase : base ≤ w.heap.size := Nat.le_trans hbase0 hE0.size
  obtain ⟨i0, hi, hz0, hz1, hz2⟩ := info_parts info23
  refine wpList_append_own _ hgd s x 39 ho base 23 i0 _ 2 16 Try.underlying39 hi hz0 hz1 hz2 rfl (by decide) v l.length (flat l) hs hown ⟨n, 0, none⟩ 1 1 [.int .i64 px, .int .i64 py] hx rfl ?_ ?_ ?_ ?_ hbase ?_
  · intro j u hj
    match j, hj with
    | 0, hj => simpa [Addr.add, ← hj] using h1
    | 1, hj => simpa [Addr.add, ← hj] using h2
    | j + 2, hj => simp at hj
  · intro u hu
    simp at hu
    rcases hu with rfl | rfl <;> rfl
  · simp only [maxLen]; omega
  · omega
  · intro v' w' ho' hg _
    refine h v' w' ?_ hg ?_
    · unfold Own
      rw [flat_snoc]
      simpa using ho'
    · intro W hW hE
      refine Below.grown hE hg hE.size ?_
      intro k hk
      have := (World.ownsRow.lt hown k hk).1
      omega
theorem ite_min : ∀ x y : Int, (if y < x then y else x) = min x y := fun x y => by split <;> omega
theorem ite_max : ∀ x y : Int, (if x < y then y else x) = max x y := fun x y => by split <;> omega
/- equality of points -/
theorem run_eql_pt : ∀ (a b c d : Int) (w : World), (binOp .eql 23 (.agg #[.int .i64 a, .int .i64 b]) (.agg #[.int .i64 c, .int .i64 d])).run Try.prog w = .ok (.bool (decide (a = c ∧ b = d))) w := by
  intro a b c d w
  cases h1 : (a == c) <;> cases h2 : (b == d)
  all_goals
    have g1 := h1
    have g2 := h2
    simp at g1 g2
    rw [show decide (a = c ∧ b = d) = ((a == c) && (b == d)) from by simp [g1, g2], h1, h2]
    go_simp
theorem run_neq_pt : ∀ (a b c d : Int) (w : World), (binOp .neq 23 (.agg #[.int .i64 a, .int .i64 b]) (.agg #[.int .i64 c, .int .i64 d])).run Try.prog w = .ok (.bool (!decide (a = c ∧ b = d))) w := by
  intro a b c d w
  cases h1 : (a == c) <;> cases h2 : (b == d)
  all_goals
    have g1 := h1
    have g2 := h2
    simp at g1 g2
    rw [show decide (a = c ∧ b = d) = ((a == c) && (b == d)) from by simp [g1, g2], h1, h2]
    go_simp
def okc (x : Int) : Bool := decide (-1048576 ≤ x) && decide (x ≤ 1048576)
def okp (p : Int × Int) : Bool := okc p.1 && okc p.2
theorem okc_iff (x : Int) : okc x = true ↔ -1048576 ≤ x ∧ x ≤ 1048576 := by simp [okc]
theorem okp_iff (p : Int × Int) : okp p = true ↔ (-1048576 ≤ p.1 ∧ p.1 ≤ 1048576) ∧ (-1048576 ≤ p.2 ∧ p.2 ≤ 1048576) := by simp [okp, okc_iff]
def twz (ax ay bx b_y cx cy : Int) : Int := (bx - ax) * (cy - ay) - (b_y - ay) * (cx - ax)
def sgz (n : Int) : Int := if n < 0 then -1 else if 0 < n then 1 else 0
def dsz (ax ay bx b_y : Int) : Int := (ax - bx) * (ax - bx) + (ay - b_y) * (ay - b_y)
theorem mul_bd {a b A B : Int} (h1 : -A ≤ a) (h2 : a ≤ A) (h3 : -B ≤ b) (h4 : b ≤ B) : -(A * B) ≤ a * b ∧ a * b ≤ A * B := by
  have hA : 0 ≤ A := by omega
  have hB : 0 ≤ B := by omega
  constructor
  · have h5 : 0 ≤ (A - a) * (B + b) := Int.mul_nonneg (by omega) (by omega)
    have h6 : 0 ≤ (A + a) * (B - b) := Int.mul_nonneg (by omega) (by omega)
    have h7 : 0 ≤ (A - a) * (B - b) := Int.mul_nonneg (by omega) (by omega)
    have h8 : 0 ≤ (A + a) * (B + b) := Int.mul_nonneg (by omega) (by omega)
    simp only [Int.add_mul, Int.sub_mul, Int.mul_add, Int.mul_sub] at *
    omega
  · have h5 : 0 ≤ (A - a) * (B + b) := Int.mul_nonneg (by omega) (by omega)
    have h6 : 0 ≤ (A + a) * (B - b) := Int.mul_nonneg (by omega) (by omega)
    have h7 : 0 ≤ (A - a) * (B - b) := Int.mul_nonneg (by omega) (by omega)
    have h8 : 0 ≤ (A + a) * (B + b) := Int.mul_nonneg (by omega) (by omega)
    simp only [Int.add_mul, Int.sub_mul, Int.mul_add, Int.mul_sub] at *
    omega
end Go.Proofs.Ytdbhbfmbpldmnaa
