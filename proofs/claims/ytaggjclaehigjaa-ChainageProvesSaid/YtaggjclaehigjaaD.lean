/- A map that holds a set of numbers. -/
import Derived.Test.YtaggjclaehigjaaC
import Derived.Maps.OwnOps
namespace Go.Proofs.Ytaggjclaehigjaa
open Go.RowKit
/-- block r is a map that has just the numbers of l, each with true -/
def IntSet (w : World) (r : Nat) (l : List Int) : Prop :=
  ∃ es clock, w.heap[r]? = some (.map es clock) ∧ es.toList.map (fun e => (e.key, e.val)) = l.map (fun n => (Value.int .i64 n, Value.bool true))
theorem IntSet.ext {w w' : World} {r : Nat} {l : List Int} (h : IntSet w r l) (x : Ext w w') : IntSet w' r l := by
  obtain ⟨es, clock, hb, he⟩ := h
  exact ⟨es, clock, x.block hb, he⟩
theorem IntSet.lt {w : World} {r : Nat} {l : List Int} (h : IntSet w r l) : r < w.heap.size := by
  obtain ⟨es, clock, hb, _⟩ := h
  exact (Array.getElem?_eq_some_iff.1 hb).1
theorem IntSet.new (w : World) : IntSet (w.alloc (.map #[] 0)) w.heap.size [] := ⟨#[], 0, Array.getElem?_push_size, rfl⟩
theorem find_now (k : Int) : ∀ (es : List MapEntry) (l : List Int) (i : Nat), es.map (fun e => (e.key, e.val)) = l.map (fun n => (Value.int .i64 n, Value.bool true)) →
    (k ∈ l ∧ ∃ j, Instr.findNow (.int .i64) (.int .i64 k) es i = some (some (j, .bool true))) ∨ (k ∉ l ∧ Instr.findNow (.int .i64) (.int .i64 k) es i = some none) := by
  intro es
  induction es with
  | nil =>
    intro l i h
    cases l with
    | nil => exact .inr ⟨by simp, rfl⟩
    | cons x l => simp at h
  | cons e es ih =>
    intro l i h
    cases l with
    | nil => simp at h
    | cons x l =>
      simp only [List.map_cons, List.cons.injEq, Prod.mk.injEq] at h
      obtain ⟨⟨h1, h2⟩, h3⟩ := h
      by_cases hx : k = x
      · subst hx
        exact .inl ⟨by simp, i, by simp [Instr.findNow, h1, Instr.sameNow, h2]⟩
      · have hs : (k == x) = false := by simpa using hx
        rcases ih l (i + 1) h3 with ⟨a, j, b⟩ | ⟨a, b⟩
        · exact .inl ⟨by simp [a], j, by simp [Instr.findNow, h1, Instr.sameNow, hs, b]⟩
        · exact .inr ⟨by simp [a, hx], by simp [Instr.findNow, h1, Instr.sameNow, hs, b]⟩
theorem mapT : Try.prog.underlying 94 = some (.map 3 4) := Try.underlying94
theorem IntSet.look {w : World} {r : Nat} {l : List Int} (h : IntSet w r l) (k : Int) :
    (Instr.lookup 94 (.map (some r)) (.int .i64 k) false).run Try.prog w = .ok (.bool (decide (k ∈ l))) w := by
  obtain ⟨es, clock, hb, he⟩ := h
  have hk : MapKept.IsKey (.int .i64) (.int .i64 k) := by simp [MapKept.IsKey]
  rcases find_now k es.toList l 0 he with ⟨a, j, b⟩ | ⟨a, b⟩
  · simp [Instr.lookup, run_underlying mapT, MapKept.run_getObj_map hb, MapKept.run_checkKey Try.underlying3 hk, MapKept.run_findKey Try.underlying3 b, Result.andThen, a]
  · simp [Instr.lookup, run_underlying mapT, MapKept.run_getObj_map hb, MapKept.run_checkKey Try.underlying3 hk, MapKept.run_findKey Try.underlying3 b, Result.andThen, a, Try.zeroValue4]
theorem grown_set {w : World} {r : Nat} {o o' : Obj} (hb : w.heap[r]? = some o) : w.grownBy { w with heap := w.heap.setIfInBounds r o' } (some r) := by
  refine ⟨rfl, rfl, rfl, by simp, fun b hb' hne => ?_⟩
  exact (MapKept.heap_set (o' := o') hb).2 b (fun e => hne (by rw [e]))
theorem IntSet.put {w : World} {r : Nat} {l : List Int} (h : IntSet w r l) (k : Int) (hk : k ∉ l) :
    ∃ w', (Instr.mapUpdate 94 (.map (some r)) (.int .i64 k) (.bool true)).run Try.prog w = .ok () w' ∧ IntSet w' r (l ++ [k]) ∧ w.grownBy w' (some r) := by
  obtain ⟨es, clock, hb, he⟩ := h
  have hkey : MapKept.IsKey (.int .i64) (.int .i64 k) := by simp [MapKept.IsKey]
  rcases find_now k es.toList l 0 he with ⟨a, _⟩ | ⟨_, b⟩
  · exact absurd a hk
  · refine ⟨{ w with heap := w.heap.setIfInBounds r (.map (es.push { key := .int .i64 k, val := .bool true, born := clock }) (clock + 1)) }, ?_, ⟨_, _, (MapKept.heap_set hb).1, ?_⟩, grown_set hb⟩
    · simp [Instr.mapUpdate, run_underlying mapT, MapKept.run_getObj_map hb, MapKept.run_checkKey Try.underlying3 hkey, MapKept.run_findKey Try.underlying3 b, MapKept.run_setObj_map _ hb, Result.andThen]
    · simp [he]
theorem IntSet.wipe {w : World} {r : Nat} {l : List Int} (h : IntSet w r l) (ty : Nat) :
    ∃ w', (Builtin.clear_ #[94] ty #[.map (some r)]).run Try.prog w = .ok (.tuple #[]) w' ∧ IntSet w' r [] ∧ w.grownBy w' (some r) := by
  obtain ⟨es, clock, hb, he⟩ := h
  refine ⟨{ w with heap := w.heap.setIfInBounds r (.map #[] clock) }, ?_, ⟨_, _, (MapKept.heap_set hb).1, rfl⟩, grown_set hb⟩
  simp [Builtin.clear_, run_underlying mapT, MapKept.run_getObj_map hb, MapKept.run_setObj_map _ hb, Result.andThen]
/-- only block r has turned -/
theorem Ext.grown {W w w' : World} {r : Nat} (h : Ext W w) (hg : w.grownBy w' (some r)) (hr : W.heap.size ≤ r) : Ext W w' :=
  Below.grown h hg h.size (fun k e => by cases e; exact hr)
theorem put_set {w : World} {ops : Array Oper} {rest : List Oper} {o : Oper} {a : Act} {Q : Exit → Act → World → Prop}
    (hg : o.guard = none) (m x v : Operand) (hop : o.op = Op.mapUpdate 94 m x v) (r : Nat) (l : List Int) (hown : IntSet w r l)
    (hm : a.eval m = .map (some r)) (k : Int) (hx : a.eval x = .int .i64 k) (hv : a.eval v = .bool true) (hk : k ∉ l)
    (hK : ∀ w', IntSet w' r (l ++ [k]) → w.grownBy w' (some r) → wpList Try.prog ops Q rest (a.put o.dst undef) w') : wpList Try.prog ops Q (o :: rest) a w := by
  refine wpList_plain hg fun K' hK' => ?_
  obtain ⟨w', hrun, r1, r2⟩ := hown.put k hk
  unfold Oper.wp
  simp [execOp, hop, hm, hx, hv, hrun, Result.andThen]
  exact hK' _ _ (hK w' r1 r2)
theorem wipe_set {w : World} {ops : Array Oper} {rest : List Oper} {o : Oper} {a : Act} {Q : Exit → Act → World → Prop}
    (hg : o.guard = none) (m : Operand) (hop : o.op = .call { callee := .builtin .clear, args := #[m], argTypes := #[94] }) (r : Nat) (l : List Int) (hown : IntSet w r l)
    (hm : a.eval m = .map (some r)) (hK : ∀ w', IntSet w' r [] → w.grownBy w' (some r) → wpList Try.prog ops Q rest (a.put o.dst (.tuple #[])) w') : wpList Try.prog ops Q (o :: rest) a w := by
  refine wpList_plain hg fun K' hK' => ?_
  obtain ⟨w', hrun, r1, r2⟩ := hown.wipe o.type
  unfold Oper.wp execOp
  simp only [hop, resolve, invoke, builtin, Sem.run_bind, Sem.run_pure, Result.andThen_ok, List.map_toArray, List.map_cons, List.map_nil, hm, hrun]
  exact hK' _ _ (hK w' r1 r2)
/-! ContainsFunc at repairs; Check's closure -/
theorem idx_any (p : Five → Bool) (l : List Five) : decide (0 ≤ idx p l) = l.any p := by
  rcases idx_find p l with ⟨h, h2⟩ | ⟨k, hk, h, h2⟩
  · rw [h]
    have : l.any p = false := by
      rw [List.any_eq_false]
      intro x hx
      exact List.find?_eq_none.1 h2 x hx
    rw [this]; rfl
  · rw [h]
    have : l.any p = true := List.any_eq_true.2 ⟨l[k], List.getElem_mem hk, List.find?_some h2⟩
    rw [this]; simp
set_option maxRecDepth 100000 in
set_option maxHeartbeats 1000000 in
theorem containsRepair_any (W : World) (l : List Five) (v : Value) (g : Nat) (c : Value) (p : Five → Bool) (w : World) (hX : Ext W w) (hv : Fives w v l) (hg : Enters g)
    (hp : ∀ i, (h : i < l.length) → ∀ w', Ext w w' → Calls Try.prog g #[v5 l[i], c] w' fun e w'' => e = .returned (.bool (p l[i])) ∧ Ext w' w'') :
    Calls Try.prog 56 #[v, .func (.func g) #[] #[c]] w fun e w' => e = .returned (.bool (l.any p)) ∧ Ext W w' := by
  have HP := Lib.hid hp
  clear hp
  rw [← idx_any]
  go_enter Try.func56, Try.ntmps56
  go_wp2_with (go_at_call 92; with_reducible refine (indexRepair_any _ l _ _ _ p _ (Ext.refl _) hv hg HP.out).mono ?_; rintro e w' ⟨rfl, hX1⟩)
  go_ret
  exact ⟨rfl, hX.trans hX1⟩
theorem again_any (x y : Five) (b : Nat) (w : World) (hc : At5 w b 0 y) :
    Calls Try.prog 57 #[v5 x, .pointer (some ⟨b, 0, none⟩)] w fun e w' => e = .returned (.bool (x.b == y.b && x.c == y.c)) ∧ Ext w w' := by
  obtain ⟨c0, c1, c2, c3, c4⟩ := hc
  have hb := lt_of_cell c0
  by_cases h : x.b = y.b
  all_goals
    go_enter Try.func57, Try.ntmps57
    go_wp2
    go_ret
    exact ⟨by first | (simp; done) | simp [h], (Ext.refl _).alloc _⟩
theorem enters_again : Enters 57 := fun _ _ => by kernel_rfl
theorem Fives.take {w : World} {b off cap : Nat} {l : List Five} (h : Fives w (.slice (some ⟨b, off, none⟩) l.length cap) l) {k : Nat} (hk : k ≤ l.length) : Fives w (.slice (some ⟨b, off, none⟩) k cap) (l.take k) := by
  obtain ⟨a, cap', hv, hl, hm, h⟩ := h
  injection hv with ha _ hc
  subst ha hc
  have e : (l.take k).length = k := by simp; omega
  refine ⟨_, cap, by rw [e], by omega, hm, ?_⟩
  rcases h with rfl | ⟨b', off', hb, h⟩
  · exact .inl (by simp)
  · injection hb with hb
    cases hb
    refine .inr ⟨_, _, rfl, fun i hi j u hu => ?_⟩
    rw [e] at hi
    exact h i (by omega) j u (by simpa using hu)
end Go.Proofs.Ytaggjclaehigjaa
