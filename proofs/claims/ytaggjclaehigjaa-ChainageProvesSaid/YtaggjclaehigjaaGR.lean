/- An append to a slice that is full: a new row. -/
import Derived.Test.YtaggjclaehigjaaB
import Derived.ArgAppend
namespace Go.Proofs.Ytaggjclaehigjaa
open Go.RowKit
theorem Sl.flat {α : Type} {k : Nat} {enc : α → List Value} (hk : ∀ x, (enc x).length = k) (hk0 : 0 < k) {w : World} {b off : Nat} {l : List α} (hc : ∀ i, (h : i < l.length) → ∀ j u, (enc l[i])[j]? = some u → w.cell? ⟨b, off + i * k + j, none⟩ = some u) :
    ∀ j u, (l.flatMap enc)[j]? = some u → w.cell? ((⟨b, off, none⟩ : Addr).add j) = some u := by
  intro j u hj
  have hjl := (List.getElem?_eq_some_iff.1 hj).1
  rw [flat_len hk] at hjl
  have hd : j / k < l.length := by rw [Nat.div_lt_iff_lt_mul hk0]; exact hjl
  have hlt : j % k < (enc l[j / k]).length := by rw [hk]; exact Nat.mod_lt _ hk0
  have e := flat_at hk l (j / k) hd (j % k) _ (List.getElem?_eq_getElem hlt)
  rw [Nat.mul_comm, Nat.div_add_mod] at e
  have := hc (j / k) hd (j % k) _ (List.getElem?_eq_getElem hlt)
  rw [e] at hj
  rw [← hj]
  rw [Nat.add_assoc, Nat.mul_comm, Nat.div_add_mod] at this
  rw [show (⟨b, off, none⟩ : Addr).add j = ⟨b, off + j, none⟩ from by unfold Addr.add; split <;> simp_all]
  exact this
set_option maxRecDepth 100000 in
theorem run_full {α : Type} {w : World} (st T k by_ ty : Nat) (z : Value) (enc : α → List Value) (hk : ∀ x, (enc x).length = k) (ho1 : ∀ x, ∀ u ∈ enc x, u.oneCell' = true)
    (hst : Try.prog.underlying st = some (.slice T)) (hinf : (Try.prog.info? T).map (fun i => (i.zero, i.size, i.bytes)) = some (some z, k, by_)) (hz : z.cells.size = k) (hk0 : 0 < k) (hby : by_ ≤ 80)
    (ao : Option Addr) (cap : Nat) (l : List α) (hv : Sl k enc w (.slice ao l.length cap) l) (hnone : ao = none → cap = 0) (xv : Value) (y : List α) (hy : Sl k enc w xv y) (hy0 : y ≠ []) (hfull : cap < l.length + y.length) (hlen : l.length + y.length ≤ 1000000000000) :
    ∃ v' w', (Builtin.append_ #[st, st] ty #[.slice ao l.length cap, xv]).run Try.prog w = .ok v' w' ∧ Own T k enc w.heap.size w' v' (l ++ y) ∧ w.grownBy w' none := by
  cases ao with
  | none =>
    have hcap := hnone rfl
    have hl : l = [] := by
      obtain ⟨a, cap', he, _, _, h⟩ := hv
      rcases h with h | ⟨b, off, e, _⟩
      · exact h
      · injection he with e1 _ _
        rw [← e1] at e
        cases e
    subst hcap hl
    obtain ⟨v', w', h1, h2, h3, _⟩ := run_app st T k by_ ty z enc hk ho1 hst hinf hz hk0 hby w.heap.size (.slice none 0 0) [] (Own.nil _ _ _ _ _) xv y hy hlen (Nat.le_refl _)
    exact ⟨v', w', h1, h2, h3⟩
  | some ad =>
    obtain ⟨i0, hi, hz0, hz1, hz2⟩ := info_parts hinf
    obtain ⟨a, cy, rfl, hly, hmy, h⟩ := hy
    obtain ⟨b, off, rfl, hc⟩ := h.resolve_left hy0
    have hb : (l.length + y.length) * by_ ≤ 140737488355328 := by
      have : (l.length + y.length) * by_ ≤ 1000000000000 * 80 := Nat.mul_le_mul hlen hby
      omega
    have holds : ∀ j u, (l.flatMap enc)[j]? = some u → w.cell? (ad.add j) = some u := by
      obtain ⟨a', cap', he, _, _, h'⟩ := hv
      injection he with e1 _ _
      rcases h' with h' | ⟨b', off', e, hc'⟩
      · subst h'
        intro j u hj
        simp at hj
      · rw [← e1] at e
        cases e
        exact Sl.flat hk hk0 hc'
    obtain ⟨v', w', h1, h2, h3⟩ := run_append_arg_grows (P := Try.prog) w st ty T i0 z k by_ hst hi hz0 hz1 hz2 hz hk0 ad l.length cap (l.flatMap enc) (flat_len hk l) holds ⟨b, off, none⟩ y.length cy (y.flatMap enc) (flat_len hk y) (Sl.flat hk hk0 hc) hfull (by simp only [maxLen]; omega) hb
    refine ⟨v', w', h1, ?_, h3⟩
    unfold Own
    rw [List.flatMap_append, List.length_append]
    exact h2
theorem grown_none {w w' : World} (h : w.grownBy w' none) : Ext w w' := Below.grown (Below.refl _ _) h (Nat.le_refl _) (fun _ e => by cases e)
theorem step_full {α : Type} {ops : Array Oper} {o : Oper} {a : Act} {w : World} {K : Act → World → Prop} {E : Prop} {Q : Exit → Act → World → Prop} (st T k by_ : Nat) (z : Value) (enc : α → List Value) (hk : ∀ x, (enc x).length = k) (ho1 : ∀ x, ∀ u ∈ enc x, u.oneCell' = true)
    (hst : Try.prog.underlying st = some (.slice T)) (hinf : (Try.prog.info? T).map (fun i => (i.zero, i.size, i.bytes)) = some (some z, k, by_)) (hz : z.cells.size = k) (hk0 : 0 < k) (hby : by_ ≤ 80)
    (hgd : o.guard = none) (s x : Operand)
    (ho : o.op = .call { callee := .builtin .append, args := #[s, x], argTypes := #[st, st] }) (ao : Option Addr) (n cap : Nat) (l : List α) (hs : a.eval s = .slice ao n cap) (hn : l.length = n) (hv : Sl k enc w (.slice ao n cap) l) (hnone : ao = none → cap = 0)
    (xv : Value) (y : List α) (hx : a.eval x = xv) (hy : Sl k enc w xv y) (hy0 : y ≠ []) (hfull : cap < n + y.length) (hlen : n + y.length ≤ 1000000000000)
    (h : ∀ v' w', Own T k enc w.heap.size w' v' (l ++ y) → Ext w w' → K (a.put o.dst v') w') :
    if Region.wanted o (yielded ops a.tmps) = true then Oper.wp Try.prog o a w K Q else E := by
  subst hn
  have hw : Region.wanted o (yielded ops a.tmps) = true := by simp [Region.wanted, hgd]
  rw [if_pos hw]
  obtain ⟨v', w', hr, h2, h3⟩ := run_full st T k by_ o.type z enc hk ho1 hst hinf hz hk0 hby ao cap l hv hnone xv y hy hy0 hfull hlen
  unfold Oper.wp execOp
  simp only [ho, resolve, invoke, builtin, Sem.run_bind, Sem.run_pure, Result.andThen_ok, List.map_toArray, List.map_cons, List.map_nil, hs, hx, hr]
  exact h v' w' h2 (grown_none h3)
end Go.Proofs.Ytaggjclaehigjaa
