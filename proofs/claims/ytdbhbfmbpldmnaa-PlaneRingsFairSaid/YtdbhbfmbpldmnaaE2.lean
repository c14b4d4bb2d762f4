/- The frame of a claim: an argument that is a list of points. -/
import Derived.Test.YtdbhbfmbpldmnaaE
namespace Go.Proofs.Ytdbhbfmbpldmnaa
open Go.ChangeShapes Go.WideShapes Go.ChangeAt Go.RowKit Go.Deep
set_option maxRecDepth 100000
def zOf : Option Value → Int
  | some (.int _ n) => n
  | _ => 0
theorem cell_spot {w : World} {a : Addr} {v : Value} (h : w.cell? a = some v) : a.spot = none := by
  unfold World.cell? at h
  split at h
  · split at h
    · cases h
    · cases hs : a.spot with
      | none => rfl
      | some x => rename_i hn; rw [hs] at hn; simp at hn
  · cases h
theorem add_none {a : Addr} (k : Nat) (h : k = 0 ∨ False) : a.add k = a := by
  obtain rfl : k = 0 := h.resolve_right id
  simp [Addr.add]
theorem add_at (b o k : Nat) : (⟨b, o, none⟩ : Addr).add k = ⟨b, o + k, none⟩ := by
  unfold Addr.add
  split
  · rename_i h; subst h; rfl
  · rfl
section
variable {H : Type} {enc : TypeId × Value → H}
theorem trod_pt {P : Program} {W : World} {base : Nat} {sp : Nat → Bool} {held : Bool} {n : Nat} {fs : Array Field} {t : TypeId} {cs : List Value} {x : DataW H × List MemPlace} {f0 f1 : Field} (hf : fs = #[f0, f1]) (ht : P.underlying t = some (.struct fs)) (h0 : f0.offset = 0) (h1 : f1.offset = 1)
    (hi0 : P.underlying f0.type = some (.int .i64)) (hi1 : P.underlying f1.type = some (.int .i64)) (c0 : P.cellsOf f0.type = 1) (c1 : P.cellsOf f1.type = 1) (hlen : cs.length = 2)
    (h : DataW.trod enc P W base sp held n t cs = some x) : ∃ a b : Int, cs = [.int .i64 a, .int .i64 b] := by
  subst hf
  obtain ⟨xs, m, _, _, _, _, hg⟩ := DataW.trod_struct ht h
  have g0 := hg 0 f0 rfl
  have g1 := hg 1 f1 rfl
  rw [h0, c0] at g0
  rw [h1, c1] at g1
  match cs, hlen with
  | [u, v], _ =>
    simp only [List.drop_zero, List.take_succ_cons, List.take_zero, List.drop_succ_cons] at g0 g1
    cases hx0 : xs[0]? with
    | none => rename_i hl _; simp at hx0; subst hx0; simp at *
    | some y0 =>
      cases hx1 : xs[1]? with
      | none => simp at *; omega
      | some y1 =>
        rw [hx0] at g0
        rw [hx1] at g1
        obtain ⟨a, e0, _, _⟩ := DataW.trod_int hi0 g0
        obtain ⟨b, e1, _, _⟩ := DataW.trod_int hi1 g1
        simp at e0 e1
        exact ⟨a, b, by rw [e0, e1]⟩
theorem open_pts {W : World} {base : Nat} {v : Value} {d : DataW H} {p : List MemPlace} (hv : Value.okWide Try.prog W .any base 39 v) (h : DataW.Trod enc Try.prog W 0 (fun _ => true) true 39 v d p) : ∃ l, Pts W v l := by
  obtain ⟨a0, len, cap, rfl⟩ := okWide_slice Try.underlying39 hv
  obtain ⟨fuel, hf⟩ := h
  rcases open_slice Try.underlying39 hf with ⟨hcs, _⟩ | ⟨a, len', cap', m, n, D, Pl, hcs, _, hl, hm, hmm, _, hi⟩
  · simp [Value.cells] at hcs
    obtain ⟨rfl, rfl, rfl⟩ := hcs
    exact ⟨[], none, 0, rfl, Nat.le_refl _, by simp [maxLen], .inl rfl⟩
  · simp [Value.cells] at hcs
    obtain ⟨rfl, rfl, rfl⟩ := hcs
    simp only [if_true] at hmm
    subst hmm
    rw [cells23] at hi
    have key : ∀ i, i < len → ∃ x y : Int, W.cell? (a.add (i * 2)) = some (.int .i64 x) ∧ W.cell? (a.add (i * 2 + 1)) = some (.int .i64 y) := by
      intro i hlt
      obtain ⟨cs', hc, ht⟩ := hi i (by omega)
      obtain ⟨_, hcl, hat⟩ := World.cells?_some hc
      obtain ⟨x, y, rfl⟩ := trod_pt rfl Try.underlying23 rfl rfl Try.underlying3 Try.underlying3 (by kernel_rfl) (by kernel_rfl) hcl ht
      have e0 := hat 0 (by omega)
      have e1 := hat 1 (by omega)
      rw [add_add] at e0 e1
      exact ⟨x, y, e0, e1⟩
    refine ⟨(List.range len).map fun i => (zOf (W.cell? (a.add (i * 2))), zOf (W.cell? (a.add (i * 2 + 1)))), some a, m, by simp, by simpa using hl, hm, ?_⟩
    by_cases h0 : len = 0
    · subst h0
      exact .inl rfl
    · have hs : a.spot = none := by
        obtain ⟨x, _, hx, _⟩ := key 0 (by omega)
        rw [Nat.zero_mul, add_none 0] at hx
        · exact cell_spot hx
        · exact .inl rfl
      obtain ⟨b, o, s⟩ := a
      simp only at hs
      subst hs
      refine .inr ⟨b, o, rfl, fun i hlt => ?_⟩
      obtain ⟨x, y, hx, hy⟩ := key i (by simpa using hlt)
      simp only [add_at] at hx hy
      simp only [List.getElem_map, List.getElem_range, add_at, hx, hy, zOf, true_and]
      exact hy
end
end Go.Proofs.Ytdbhbfmbpldmnaa
