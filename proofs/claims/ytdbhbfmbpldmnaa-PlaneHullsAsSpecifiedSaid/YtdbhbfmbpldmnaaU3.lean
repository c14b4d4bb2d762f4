/- append of a slice of numbers to one of the call's own, at a step of a region that draws its order. -/
import Derived.Test.YtdbhbfmbpldmnaaP7
import Derived.Deep.AppendLies
namespace Go.Proofs.Ytdbhbfmbpldmnaa
open Go.RowKit Go.Sort
theorem own_emptyI (w : World) (base : Nat) (hb : base ≤ w.heap.size) : OwnI base (w.alloc (.cells #[] 3)) (.slice (some ⟨w.heap.size, 0, none⟩) 0 0) [] :=
  ⟨rfl, Or.inr ⟨w.heap.size, 0, #[], rfl, hb, World.alloc_heap_new w _, Nat.le_refl _, by simp [maxLen], rfl, rfl⟩⟩
theorem int_of_cell {w : World} {n i : Nat} (h : w.cell? ⟨n, 0, none⟩ = some (.int .i64 (i : Int))) : Ints w (.slice (some ⟨n, 0, none⟩) 1 1) [i] :=
  ⟨_, 1, rfl, Nat.le_refl _, by simp [maxLen], .inr ⟨n, 0, rfl, fun j hj => by
    have : j = 0 := by simpa using hj
    subst this
    exact h⟩⟩
theorem int_new (w : World) (i : Nat) : Ints (w.alloc (.cells #[.int .i64 (i : Int)] 3)) (.slice (some ⟨w.heap.size, 0, none⟩) 1 1) [i] := int_of_cell ((BoxN.new w 3 #[.int .i64 (i : Int)]).cell 0)
theorem run_app_none (base : Nat) (w : World) (ty : TypeId) (v : Value) (l : List Nat) (c : Nat) (hown : OwnI base w v l) :
    (Builtin.append_ #[62, 62] ty #[v, .slice none 0 c]).run Try.prog w = .ok v w := by
  obtain ⟨i0, hi, hz0, hz1, hz2⟩ := info_parts info3
  rcases hown.2 with ⟨rfl, hn⟩ | ⟨g, cap, cur, rfl, hbg, hg, hnc, hcm, hcs, htake⟩
  · simp [Builtin.append_, run_underlying Try.underlying62, sizeOf, typeInfo, hi, Builtin.lenOf, Builtin.firstCells]
  · simp [Builtin.append_, run_underlying Try.underlying62, sizeOf, typeInfo, hi, Builtin.lenOf, Builtin.firstCells, loadCells, hnc, storeCells]
theorem step_app_ints {ops : Array Oper} {o : Oper} {a : Act} {w : World} {K : Act → World → Prop} {Q : Exit → Act → World → Prop} {E : Prop} (hgd : o.guard = none) (s x : Operand)
    (ho : o.op = .call { callee := .builtin .append, args := #[s, x], argTypes := #[62, 62] }) (base : Nat) (v y : Value) (l m : List Nat) (hs : a.eval s = v) (hown : OwnI base w v l)
    (hx : a.eval x = y) (hy : Ints w y m) (hlen : l.length + m.length ≤ 8000000000000) {W0 : World} (hE0 : Ext W0 w) (hbase0 : W0.heap.size = base)
    (h : ∀ v' w', OwnI base w' v' (l ++ m) → Ext W0 w' → (∀ n u, w.cell? ⟨n, 0, none⟩ = some u → some n ≠ v.ownBlock → w'.cell? ⟨n, 0, none⟩ = some u) → K (a.put o.dst v') w') :
    if Region.wanted o (yielded ops a.tmps) = true then Oper.wp Try.prog o a w K Q else E := by
  have hw : Region.wanted o (yielded ops a.tmps) = true := by simp [Region.wanted, hgd]
  rw [if_pos hw]
  have hbase : base ≤ w.heap.size := hbase0 ▸ hE0.size
  obtain ⟨i0, hi, hz0, hz1, hz2⟩ := info_parts info3
  obtain ⟨ya, cap, rfl, hyl, hym, hyc⟩ := hy
  have key : ∃ v' w', (Builtin.append_ #[62, 62] o.type #[v, .slice ya m.length cap]).run Try.prog w = .ok v' w' ∧ OwnI base w' v' (l ++ m) ∧ Ext W0 w' ∧ (∀ n u, w.cell? ⟨n, 0, none⟩ = some u → some n ≠ v.ownBlock → w'.cell? ⟨n, 0, none⟩ = some u) := by
    have some_case : ∀ ad : Addr, ya = some ad → (∀ i, (h : i < m.length) → w.cell? (ad.add i) = some (.int .i64 (m[i] : Int))) → ∃ v' w', (Builtin.append_ #[62, 62] o.type #[v, .slice ya m.length cap]).run Try.prog w = .ok v' w' ∧ OwnI base w' v' (l ++ m) ∧ Ext W0 w' ∧ (∀ n u, w.cell? ⟨n, 0, none⟩ = some u → some n ≠ v.ownBlock → w'.cell? ⟨n, 0, none⟩ = some u) := by
      rintro ad rfl hc
      obtain ⟨v', w', hr, h2, h3, _⟩ := run_append_own (P := Try.prog) w base 62 o.type 3 i0 _ 1 8 Try.underlying62 hi hz0 hz1 hz2 rfl (by decide) v l.length (ints l) hown ad m.length cap (ints m) (by simp [ints]) (by
        intro j u hj
        simp only [ints, List.getElem?_map] at hj
        by_cases hjm : j < m.length
        · rw [List.getElem?_eq_getElem hjm] at hj
          simp only [Option.map_some, Option.some.injEq] at hj
          rw [← hj]; exact hc j hjm
        · rw [List.getElem?_eq_none (by omega)] at hj; cases hj) (by
        intro u hu
        simp only [ints, List.mem_map] at hu
        obtain ⟨n, _, rfl⟩ := hu
        rfl) (by simp only [maxLen]; omega) (by omega) hbase
      refine ⟨v', w', hr, ?_, ?_, fun n u hc hn => (World.grownBy.cell_far h3 ⟨n, 0, none⟩ (lt_of_cell hc) hn).trans hc⟩
      · unfold OwnI
        rw [show ints (l ++ m) = ints l ++ ints m from by simp [ints], List.length_append]
        exact h2
      · refine Below.grown hE0 h3 hE0.size ?_
        intro k hk
        have := (World.ownsRow.lt hown k hk).1
        omega
    rcases hyc with rfl | ⟨b, off, rfl, hc⟩
    · cases ya with
      | none => exact ⟨v, w, run_app_none base w o.type v l cap hown, by simpa using hown, hE0, fun _ _ hc _ => hc⟩
      | some ad => exact some_case ad rfl (fun i h => by simp at h)
    · refine some_case ⟨b, off, none⟩ rfl (fun i h => ?_)
      have e : (⟨b, off, none⟩ : Addr).add i = ⟨b, off + i, none⟩ := by unfold Addr.add; split <;> simp_all
      rw [e]; exact hc i h
  obtain ⟨v', w', hr, h2, h3, h4⟩ := key
  unfold Oper.wp execOp
  simp only [ho, resolve, invoke, builtin, Sem.run_bind, Sem.run_pure, Result.andThen_ok, List.map_toArray, List.map_cons, List.map_nil, hs, hx, hr]
  exact h v' w' h2 h3 h4
end Go.Proofs.Ytdbhbfmbpldmnaa
