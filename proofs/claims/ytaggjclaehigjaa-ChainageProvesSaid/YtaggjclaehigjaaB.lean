/- Basic words: a world that only grew; lists in memory, of whatever elements. -/
import Derived.Test.YtaggjclaehigjaaProg
import Derived.Test.YtaggjclaehigjaaA
import Derived.WalkKit
import Derived.WalkSpells
import Derived.WalkLawsBesides
import Derived.Lib.Hide
import Derived.Deep.RegionHeld3
import Derived.Deep.QuietTactic
import Derived.BigQuiet
import Derived.IntWalk
import Derived.StillTailTactics
import Derived.Maps.AppendAt
import Derived.Laws.OwnMore
namespace Go.Proofs.Ytaggjclaehigjaa
open Go.RowKit

/-- w' is w with new blocks: nothing that was there has turned. -/
def Ext (w w' : World) : Prop := Below w.heap.size w w'
theorem Ext.refl (w : World) : Ext w w := Below.refl _ _
theorem Ext.trans {a b c : World} (h : Ext a b) (k : Ext b c) : Ext a c := Below.trans h (Below.mono k h.size)
theorem Ext.alloc {a w : World} (h : Ext a w) (o : Obj) : Ext a (w.alloc o) := Below.alloc h h.size o
theorem Ext.drew {a w : World} (h : Ext a w) : Ext a w.drew := Below.drew h
theorem Ext.drewN {a w : World} (h : Ext a w) (n : Nat) : Ext a (w.drewN n) := h.trans ⟨rfl, rfl, rfl, Nat.le_refl _, fun _ _ => rfl⟩
theorem Ext.setCell {a w : World} (h : Ext a w) {p : Addr} (hp : a.heap.size ≤ p.block) (u : Value) : Ext a (w.setCell p u) := Below.setCell h hp u
theorem Ext.b1 {W w w' : World} {a : Obj} (hX : Ext W w) (h : Ext (w.alloc a) w') : Ext W w' := (hX.alloc a).trans h
theorem Ext.b2 {W w w' : World} {a b : Obj} (hX : Ext W w) (h : Ext ((w.alloc a).alloc b) w') : Ext W w' := ((hX.alloc a).alloc b).trans h
theorem lt_of_cell {w : World} {a : Addr} {v : Value} (h : w.cell? a = some v) : a.block < w.heap.size := by
  unfold World.cell? at h
  split at h
  · rename_i hh
    exact (Array.getElem?_eq_some_iff.1 hh).1
  · cases h
theorem Ext.cell {w w' : World} (h : Ext w w') {a : Addr} {v : Value} (hc : w.cell? a = some v) : w'.cell? a = some v :=
  (Below.cell h (lt_of_cell hc)).trans hc
theorem Ext.frozen {w w' : World} (h : Ext w w') {a : Addr} (ha : a.block < w.heap.size) (hc : w.frozen? a = false) : w'.frozen? a = false :=
  (Below.frozen h ha).trans hc
theorem Ext.rule {w w' : World} (h : Ext w w') : ∀ b o, b < w.heap.size → w'.cell? ⟨b, o, none⟩ = w.cell? ⟨b, o, none⟩ := fun b _ hb => Below.cell h (p := ⟨b, _, none⟩) hb
theorem extS {W w : World} (h : Ext W w) : Ext W w ∧ ∀ b o, b < W.heap.size → w.cell? ⟨b, o, none⟩ = W.cell? ⟨b, o, none⟩ := ⟨h, h.rule⟩
theorem Ext.le {w w' : World} (h : Ext w w') : w.heap.size ≤ w'.heap.size := h.size
theorem Ext.block {w w' : World} (h : Ext w w') {b : Nat} {o : Obj} (hb : w.heap[b]? = some o) : w'.heap[b]? = some o :=
  (Below.block h b (Array.getElem?_eq_some_iff.1 hb).1).trans hb
theorem cell_new (w : World) (cs : List Value) (T o : Nat) : (w.alloc (.cells cs.toArray T)).cell? ⟨w.heap.size, o, none⟩ = cs[o]? := by
  have h : (w.alloc (.cells cs.toArray T)).heap[w.heap.size]? = some (.cells cs.toArray T) := Array.getElem?_push_size
  unfold World.cell?
  simp only [h]
  simp
theorem cell_at {w : World} {b T : Nat} {cs : Array Value} {ro : Nat × Nat} (h : w.heap[b]? = some (.cells cs T ro)) (o : Nat) : w.cell? ⟨b, o, none⟩ = cs[o]? := by
  unfold World.cell?
  simp only [h]
  simp

/-! lists in memory -/
section
variable {α : Type}
/-- A slice value that holds a list of elements, each of k cells. -/
def Sl (k : Nat) (enc : α → List Value) (w : World) (v : Value) (l : List α) : Prop :=
  ∃ a cap, v = .slice a l.length cap ∧ l.length ≤ cap ∧ cap ≤ maxLen ∧ (l = [] ∨ ∃ b off, a = some ⟨b, off, none⟩ ∧
    ∀ i, (h : i < l.length) → ∀ j u, (enc l[i])[j]? = some u → w.cell? ⟨b, off + i * k + j, none⟩ = some u)
theorem Sl.ext {k : Nat} {enc : α → List Value} {w w' : World} {v : Value} {l : List α} (h : Sl k enc w v l) (x : Ext w w') : Sl k enc w' v l := by
  obtain ⟨a, cap, hv, hl, hm, h⟩ := h
  refine ⟨a, cap, hv, hl, hm, h.imp id ?_⟩
  rintro ⟨b, off, ha, hc⟩
  exact ⟨b, off, ha, fun i hi j u hu => x.cell (hc i hi j u hu)⟩
theorem Sl.nil (k : Nat) (enc : α → List Value) (w : World) : Sl k enc w (.slice none 0 0) [] := ⟨none, 0, rfl, Nat.le_refl _, by simp [maxLen], .inl rfl⟩
theorem Sl.len {k : Nat} {enc : α → List Value} {w : World} {v : Value} {l : List α} (h : Sl k enc w v l) : l.length ≤ maxLen := by
  obtain ⟨a, cap, hv, hl, hm, h⟩ := h
  omega
theorem flat_len {enc : α → List Value} {k : Nat} (hk : ∀ x, (enc x).length = k) (l : List α) : (l.flatMap enc).length = l.length * k := by
  induction l with
  | nil => simp
  | cons x l ih => rw [List.flatMap_cons, List.length_append, ih, hk, List.length_cons, Nat.succ_mul]; omega
theorem flat_at {enc : α → List Value} {k : Nat} (hk : ∀ x, (enc x).length = k) (l : List α) : ∀ i, (h : i < l.length) → ∀ j u, (enc l[i])[j]? = some u → (l.flatMap enc)[i * k + j]? = some u := by
  induction l with
  | nil => intro i h; exact absurd h (by simp)
  | cons x l ih =>
    intro i h j u hu
    rw [List.flatMap_cons]
    cases i with
    | zero =>
      rw [List.getElem?_append_left (by have := (List.getElem?_eq_some_iff.1 hu).1; simp at this; omega)]
      simpa using hu
    | succ i =>
      rw [List.getElem?_append_right (by rw [hk, Nat.succ_mul]; omega), hk, show (i + 1) * k + j - k = i * k + j from by rw [Nat.succ_mul]; omega]
      exact ih i (by simpa using h) j u (by simpa using hu)
theorem Sl.of_block {k : Nat} {enc : α → List Value} (hk : ∀ x, (enc x).length = k) {w : World} {b T : Nat} {ro : Nat × Nat} {cs : Array Value} {l : List α} {cap : Nat} (h : w.heap[b]? = some (.cells cs T ro))
    (hcs : ∀ (j : Nat) (u : Value), (l.flatMap enc)[j]? = some u → cs[j]? = some u) (hc : l.length ≤ cap) (hm : cap ≤ maxLen) : Sl k enc w (.slice (some ⟨b, 0, none⟩) l.length cap) l := by
  refine ⟨_, cap, rfl, hc, hm, .inr ⟨b, 0, rfl, fun i hi j u hu => ?_⟩⟩
  rw [cell_at h, Nat.zero_add]
  exact hcs _ _ (flat_at hk l i hi j u hu)
/-- a slice that the call itself made (from block base on), or nil -/
def Own (T k : Nat) (enc : α → List Value) (base : Nat) (w : World) (v : Value) (l : List α) : Prop := w.ownsRow base T k v l.length (l.flatMap enc)
theorem Own.nil (T k : Nat) (enc : α → List Value) (base : Nat) (w : World) : Own T k enc base w (.slice none 0 0) [] := World.ownsRow_nil w base T k
theorem Own.ext {T k : Nat} {enc : α → List Value} {base : Nat} {w w' : World} {v : Value} {l : List α} (h : Own T k enc base w v l) (x : Ext w w') : Own T k enc base w' v l := by
  obtain ⟨h1, h2⟩ := h
  refine ⟨h1, ?_⟩
  rcases h2 with h2 | ⟨g, cap, cur, hv, hb, hg, r⟩
  · exact Or.inl h2
  · exact Or.inr ⟨g, cap, cur, hv, hb, (x.block hg), r⟩
theorem Own.sl {T k : Nat} {enc : α → List Value} (hk : ∀ x, (enc x).length = k) {base : Nat} {w : World} {v : Value} {l : List α} (h : Own T k enc base w v l) : Sl k enc w v l := by
  obtain ⟨h1, h2⟩ := h
  rcases h2 with ⟨hv, hn⟩ | ⟨g, cap, cur, hv, hb, hg, hle, hm, hsz, htk⟩
  · obtain rfl := List.length_eq_zero_iff.1 hn
    rw [hv]; exact Sl.nil _ _ _
  · rw [hv]
    refine Sl.of_block hk hg (fun j u hj => ?_) hle hm
    rw [← htk, List.getElem?_take] at hj
    split at hj
    · simpa using hj
    · cases hj
theorem Own.mono {T k : Nat} {enc : α → List Value} {base base' : Nat} {w : World} {v : Value} {l : List α} (h : Own T k enc base w v l) (hb : base' ≤ base) : Own T k enc base' w v l := by
  obtain ⟨h1, h2⟩ := h
  refine ⟨h1, h2.imp id ?_⟩
  rintro ⟨g, cap, cur, hv, hb', r⟩
  exact ⟨g, cap, cur, hv, Nat.le_trans hb hb', r⟩
/-- append of some elements to a slice of the call's own: its run -/
theorem run_app {w : World} (st T k by_ ty : Nat) (z : Value) (enc : α → List Value) (hk : ∀ x, (enc x).length = k) (ho1 : ∀ x, ∀ u ∈ enc x, u.oneCell' = true)
    (hst : Try.prog.underlying st = some (.slice T)) (hinf : (Try.prog.info? T).map (fun i => (i.zero, i.size, i.bytes)) = some (some z, k, by_)) (hz : z.cells.size = k) (hk0 : 0 < k) (hby : by_ ≤ 80)
    (base : Nat) (v : Value) (l : List α) (hown : Own T k enc base w v l) (xv : Value) (y : List α) (hy : Sl k enc w xv y) (hlen : l.length + y.length ≤ 1000000000000) (hbase : base ≤ w.heap.size) :
    ∃ v' w', (Builtin.append_ #[st, st] ty #[v, xv]).run Try.prog w = .ok v' w' ∧ Own T k enc base w' v' (l ++ y) ∧ w.grownBy w' v.ownBlock ∧ (v'.ownBlock = v.ownBlock ∨ v'.ownBlock = some w.heap.size) := by
  obtain ⟨i0, hi, hz0, hz1, hz2⟩ := info_parts hinf
  obtain ⟨a, cap, rfl, hl, hm, h⟩ := hy
  have hb : (l.length + y.length) * by_ ≤ 140737488355328 := by
    have : (l.length + y.length) * by_ ≤ 1000000000000 * 80 := Nat.mul_le_mul hlen hby
    omega
  have h1 : ∀ u ∈ y.flatMap enc, u.oneCell' = true := by
    intro u hu
    obtain ⟨x, _, hx⟩ := List.mem_flatMap.1 hu
    exact ho1 x u hx
  have key : ∀ ad : Addr, a = some ad → (∀ j u, (y.flatMap enc)[j]? = some u → w.cell? (ad.add j) = some u) → _ := fun ad _ hc =>
    run_append_own_at (P := Try.prog) w base st ty T i0 z k by_ hst hi hz0 hz1 hz2 hz hk0 v l.length (l.flatMap enc) hown ad y.length cap (y.flatMap enc) (flat_len hk y) hc h1 (by simp only [maxLen]; omega) hb hbase
  have fin : ∀ ad : Addr, a = some ad → (∀ j u, (y.flatMap enc)[j]? = some u → w.cell? (ad.add j) = some u) →
      ∃ v' w', (Builtin.append_ #[st, st] ty #[v, .slice a y.length cap]).run Try.prog w = .ok v' w' ∧ Own T k enc base w' v' (l ++ y) ∧ w.grownBy w' v.ownBlock ∧ (v'.ownBlock = v.ownBlock ∨ v'.ownBlock = some w.heap.size) := by
    intro ad ha hc
    obtain ⟨v', w', hr, h2, h3, _, h5⟩ := key ad ha hc
    subst ha
    refine ⟨v', w', hr, ?_, h3, h5⟩
    unfold Own
    rw [List.flatMap_append, List.length_append]
    exact h2
  rcases h with rfl | ⟨b, off, rfl, hc⟩
  · cases a with
    | none =>
      refine ⟨v, w, ?_, by simpa using hown, World.grownBy.refl w _, .inl rfl⟩
      rcases hown.2 with ⟨rfl, _⟩ | ⟨g, cp, cur, rfl, _, _, hnc, _⟩
      · simp [Builtin.append_, run_underlying hst, sizeOf, typeInfo, hi, Builtin.lenOf, Builtin.firstCells]
      · simp [Builtin.append_, run_underlying hst, sizeOf, typeInfo, hi, Builtin.lenOf, Builtin.firstCells, hnc, storeCells]
    | some ad => exact fin ad rfl (by simp)
  · refine fin _ rfl (fun j u hj => ?_)
    have hjl := (List.getElem?_eq_some_iff.1 hj).1
    rw [flat_len hk] at hjl
    have hd : j / k < y.length := by rw [Nat.div_lt_iff_lt_mul hk0]; exact hjl
    have hlt : j % k < (enc y[j / k]).length := by rw [hk]; exact Nat.mod_lt _ hk0
    have e := flat_at hk y (j / k) hd (j % k) _ (List.getElem?_eq_getElem hlt)
    rw [Nat.mul_comm, Nat.div_add_mod] at e
    have := hc (j / k) hd (j % k) _ (List.getElem?_eq_getElem hlt)
    rw [e] at hj
    rw [← hj]
    rw [Nat.add_assoc, Nat.mul_comm, Nat.div_add_mod] at this
    rw [show (⟨b, off, none⟩ : Addr).add j = ⟨b, off + j, none⟩ from by unfold Addr.add; split <;> simp_all]
    exact this
theorem grown_ext {T k : Nat} {enc : α → List Value} {base : Nat} {w w' : World} {v : Value} {l : List α} (hown : Own T k enc base w v l) (hg : w.grownBy w' v.ownBlock) : ∀ W : World, W.heap.size ≤ base → Ext W w → Ext W w' := by
  intro W hW hE
  refine Below.grown hE hg hE.size ?_
  intro k hk
  have := (World.ownsRow.lt hown k hk).1
  omega
theorem app_many {ops : Array Oper} {rest : List Oper} {o : Oper} {a : Act} {w : World} {Q : Exit → Act → World → Prop} (st T k by_ : Nat) (z : Value) (enc : α → List Value) (hk : ∀ x, (enc x).length = k) (ho1 : ∀ x, ∀ u ∈ enc x, u.oneCell' = true)
    (hst : Try.prog.underlying st = some (.slice T)) (hinf : (Try.prog.info? T).map (fun i => (i.zero, i.size, i.bytes)) = some (some z, k, by_)) (hz : z.cells.size = k) (hk0 : 0 < k) (hby : by_ ≤ 80)
    (hgd : o.guard = none) (s x : Operand)
    (ho : o.op = .call { callee := .builtin .append, args := #[s, x], argTypes := #[st, st] }) (base : Nat) (v : Value) (l : List α) (hs : a.eval s = v) (hown : Own T k enc base w v l)
    (xv : Value) (y : List α) (hx : a.eval x = xv) (hy : Sl k enc w xv y)
    (hlen : l.length + y.length ≤ 1000000000000) (hbase : base ≤ w.heap.size)
    (h : ∀ v' w', Own T k enc base w' v' (l ++ y) → w.grownBy w' v.ownBlock → (∀ W : World, W.heap.size ≤ base → Ext W w → Ext W w') → (v'.ownBlock = v.ownBlock ∨ v'.ownBlock = some w.heap.size) → wpList Try.prog ops Q rest (a.put o.dst v') w') : wpList Try.prog ops Q (o :: rest) a w := by
  obtain ⟨v', w', hr, h2, h3, h4⟩ := run_app st T k by_ o.type z enc hk ho1 hst hinf hz hk0 hby base v l hown xv y hy hlen hbase
  refine wpList_plain hgd fun K hK => ?_
  unfold Oper.wp execOp
  simp only [ho, resolve, invoke, builtin, Sem.run_bind, Sem.run_pure, Result.andThen_ok, List.map_toArray, List.map_cons, List.map_nil, hs, hx, hr]
  exact hK _ _ (h v' w' h2 h3 (grown_ext hown h3) h4)
theorem step_app {ops : Array Oper} {o : Oper} {a : Act} {w : World} {K : Act → World → Prop} {E : Prop} (st T k by_ : Nat) (z : Value) (enc : α → List Value) (hk : ∀ x, (enc x).length = k) (ho1 : ∀ x, ∀ u ∈ enc x, u.oneCell' = true)
    (hst : Try.prog.underlying st = some (.slice T)) (hinf : (Try.prog.info? T).map (fun i => (i.zero, i.size, i.bytes)) = some (some z, k, by_)) (hz : z.cells.size = k) (hk0 : 0 < k) (hby : by_ ≤ 80)
    (hgd : o.guard = none) (s x : Operand)
    (ho : o.op = .call { callee := .builtin .append, args := #[s, x], argTypes := #[st, st] }) (base : Nat) (v : Value) (l : List α) (hs : a.eval s = v) (hown : Own T k enc base w v l)
    (xv : Value) (y : List α) (hx : a.eval x = xv) (hy : Sl k enc w xv y)
    (hlen : l.length + y.length ≤ 1000000000000) (hbase : base ≤ w.heap.size) {Q : Exit → Act → World → Prop}
    (h : ∀ v' w', Own T k enc base w' v' (l ++ y) → w.grownBy w' v.ownBlock → (∀ W : World, W.heap.size ≤ base → Ext W w → Ext W w') → (v'.ownBlock = v.ownBlock ∨ v'.ownBlock = some w.heap.size) → K (a.put o.dst v') w') :
    if Region.wanted o (yielded ops a.tmps) = true then Oper.wp Try.prog o a w K Q else E := by
  have hw : Region.wanted o (yielded ops a.tmps) = true := by simp [Region.wanted, hgd]
  rw [if_pos hw]
  obtain ⟨v', w', hr, h2, h3, h4⟩ := run_app st T k by_ o.type z enc hk ho1 hst hinf hz hk0 hby base v l hown xv y hy hlen hbase
  unfold Oper.wp execOp
  simp only [ho, resolve, invoke, builtin, Sem.run_bind, Sem.run_pure, Result.andThen_ok, List.map_toArray, List.map_cons, List.map_nil, hs, hx, hr]
  exact h v' w' h2 h3 (grown_ext hown h3) h4
/-- one element that lies in a block of its own -/
theorem Sl.one {k : Nat} {enc : α → List Value} {w : World} {n : Nat} {x : α} (h : ∀ j u, (enc x)[j]? = some u → w.cell? ⟨n, j, none⟩ = some u) : Sl k enc w (.slice (some ⟨n, 0, none⟩) 1 1) [x] :=
  ⟨_, 1, rfl, Nat.le_refl _, by simp [maxLen], .inr ⟨n, 0, rfl, fun i hi j u hu => by
    obtain rfl : i = 0 := by simpa using hi
    simpa using h j u hu⟩⟩
end
end Go.Proofs.Ytaggjclaehigjaa
