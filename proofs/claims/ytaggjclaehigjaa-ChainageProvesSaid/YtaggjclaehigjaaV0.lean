/- A chain's things: a slice of values of the interface; a block that the call made, as a row. -/
import Derived.Test.YtaggjclaehigjaaU
import Derived.Test.YtaggjclaehigjaaS
namespace Go.Proofs.Ytaggjclaehigjaa
open Go.RowKit
abbrev Elt : Type := Nat × Value × Th
def encE (x : Elt) : List Value := [.iface x.1 x.2.1]
theorem encE_len (x : Elt) : (encE x).length = 1 := rfl
theorem encE_one (x : Elt) : ∀ u ∈ encE x, u.oneCell' = true := by
  intro u hu
  simp only [encE, List.mem_cons, List.not_mem_nil, or_false] at hu
  rw [hu]; rfl
def EltAt (w : World) (x : Elt) : Prop := ThAt w (.iface x.1 x.2.1) x.2.2
theorem EltAt.ext {w w' : World} {x : Elt} (h : EltAt w x) (k : Ext w w') : EltAt w' x := ThAt.ext h k
theorem ThAt.elt {w : World} {v : Value} {t : Th} (h : ThAt w v t) : ∃ x : Elt, v = .iface x.1 x.2.1 ∧ x.2.2 = t ∧ EltAt w x := by
  have h0 := h
  rcases h with ⟨b, y, rfl, h2, h3⟩ | ⟨x, rfl, h2⟩ | ⟨b, y, rfl, h2, h3⟩
  · exact ⟨(_, _, t), rfl, rfl, h0⟩
  · exact ⟨(_, _, t), rfl, rfl, h0⟩
  · exact ⟨(_, _, t), rfl, rfl, h0⟩
theorem Own.new {α : Type} {T k : Nat} {enc : α → List Value} (hk : ∀ x, (enc x).length = k) {base n m : Nat} {w : World} {cs : Array Value} {l : List α} (hcs : cs = (l.flatMap enc).toArray) (hn : n = w.heap.size) (hm : m = l.length) (hb : base ≤ w.heap.size) (hl : l.length ≤ 1000000000000) :
    Own T k enc base (w.alloc (.cells cs T)) (.slice (some ⟨n, 0, none⟩) m m) l := by
  subst hcs hn hm
  refine ⟨flat_len hk l, .inr ⟨w.heap.size, l.length, (l.flatMap enc).toArray, rfl, hb, Array.getElem?_push_size, Nat.le_refl _, by simp [maxLen]; omega, by simp [flat_len hk], ?_⟩⟩
  exact List.take_of_length_le (by simp only; rw [flat_len hk]; exact Nat.le_refl _)
theorem Sl.new1 {α : Type} {k : Nat} {enc : α → List Value} {w : World} {T n : Nat} {cs : Array Value} {x : α} (hn : n = w.heap.size) (hcs : cs = (enc x).toArray) : Sl k enc (w.alloc (.cells cs T)) (.slice (some ⟨n, 0, none⟩) 1 1) [x] := by
  subst hn hcs
  exact Sl.one (fun j u hj => (cell_new w (enc x) T j).trans hj)
/-- a block stays but for other blocks' turns -/
theorem Own.kx {α : Type} {T k : Nat} {enc : α → List Value} {base R T' : Nat} {w w' : World} {cs : Array Value} {ro : Nat × Nat} {v : Value} {l : List α} (h : Own T k enc base w v l) (x : KX R w w') (hR : w.heap[R]? = some (.cells cs T' ro)) (hT : T ≠ T') : Own T k enc base w' v l := by
  obtain ⟨h1, h2⟩ := h
  refine ⟨h1, ?_⟩
  rcases h2 with h2 | ⟨g, cap, cur, hv, hb, hg, r⟩
  · exact Or.inl h2
  · have hne : g ≠ R := by
      rintro rfl
      rw [hg] at hR
      injection hR with hR
      injection hR with _ hT' _
      exact hT hT'
    exact Or.inr ⟨g, cap, cur, hv, hb, (x.2 g (Array.getElem?_eq_some_iff.1 hg).1 hne).trans hg, r⟩
theorem cell_kx {R : Nat} {w w' : World} (x : KX R w w') {b o : Nat} {v : Value} (h : w.cell? ⟨b, o, none⟩ = some v) (hb : b ≠ R) : w'.cell? ⟨b, o, none⟩ = some v :=
  (World.cell?_of_block (x.2 b (lt_of_cell h) hb)).trans h
theorem At5.kx {R : Nat} {w w' : World} (x : KX R w w') {b o : Nat} {y : Five} (h : At5 w b o y) (hb : b ≠ R) : At5 w' b o y :=
  ⟨cell_kx x h.1 hb, cell_kx x h.2.1 hb, cell_kx x h.2.2.1 hb, cell_kx x h.2.2.2.1 hb, cell_kx x h.2.2.2.2 hb⟩
/-- what is no number in its cell 0 or 3 is no box of a thing -/
theorem EltAt.kx {R : Nat} {w w' : World} (x : KX R w w') {y : Elt} (h : EltAt w y) (hne : (∃ T u, w.cell? ⟨R, 0, none⟩ = some (.iface T u)) ∨ (∃ a n c, w.cell? ⟨R, 3, none⟩ = some (.slice a n c))) : EltAt w' y := by
  have key : ∀ b z, At5 w b 0 z → b ≠ R := by
    rintro b z hz rfl
    rcases hne with ⟨T, u, e⟩ | ⟨a, n, c, e⟩
    · rw [hz.1] at e; cases e
    · rw [hz.2.2.2.1] at e; cases e
  rcases h with ⟨b, z, h1, h2, h3⟩ | h | ⟨b, z, h1, h2, h3⟩
  · exact .inl ⟨b, z, h1, h2.kx x (key b z h2), h3⟩
  · exact .inr (.inl h)
  · exact .inr (.inr ⟨b, z, h1, h2.kx x (key b z h2), h3⟩)
theorem kx_of_grown {w w' : World} {R : Nat} (h : w.grownBy w' (some R)) : KX R w w' := ⟨h.size, fun b hb hne => h.block b hb (fun e => hne (by cases e; rfl))⟩
theorem Own.form {α : Type} {T k : Nat} {enc : α → List Value} {base : Nat} {w : World} {v : Value} {l : List α} (h : Own T k enc base w v l) (hl : l ≠ []) (hk2 : ∀ x, (enc x).length = k) :
    ∃ g cap, v = .slice (some ⟨g, 0, none⟩) l.length cap ∧ base ≤ g ∧ l.length ≤ cap ∧ cap ≤ maxLen ∧ (∃ cs, w.heap[g]? = some (.cells cs T (0, 0))) ∧ ∀ i, (h : i < l.length) → ∀ j u, (enc l[i])[j]? = some u → w.cell? ⟨g, i * k + j, none⟩ = some u := by
  obtain ⟨h1, h2⟩ := h
  rcases h2 with ⟨hv, hn⟩ | ⟨g, cap, cur, hv, hb, hg, hle, hm, hsz, htk⟩
  · exact absurd (List.length_eq_zero_iff.1 hn) hl
  · refine ⟨g, cap, hv, hb, hle, hm, ⟨cur, hg⟩, fun i hi j u hu => ?_⟩
    have hf := flat_at hk2 l i hi j u hu
    rw [← htk, List.getElem?_take] at hf
    split at hf
    · rw [cell_at hg]; simpa using hf
    · cases hf
theorem elts_grown {base : Nat} {w w' : World} {v : Value} {L M : List Elt} (h : Own 114 1 encE base w v L) (hL : L ≠ []) (hg : w.grownBy w' v.ownBlock) (hM : ∀ x ∈ M, EltAt w x) : ∀ x ∈ M, EltAt w' x := by
  obtain ⟨g, cap, rfl, hb, hle, hm, ⟨cs, hcs⟩, hc⟩ := Own.form h hL encE_len
  intro x hx
  have h0 : 0 < L.length := by cases L with | nil => exact absurd rfl hL | cons a l => simp
  have := hc 0 h0 0 _ rfl
  exact (hM x hx).kx (kx_of_grown hg) (.inl ⟨_, _, by simpa using this⟩)
/-- the things of a chain -/
def thP (P : List Five) (c : Five) (k : Nat) : List Th := ((P.take k).filter (fun p => p.b == c.a)).map prT
def thR (R : List Five) (c : Five) (k : Nat) : List Th := ((R.take k).filter (fun p => p.b == c.a)).map reT
theorem thP_yes {P : List Five} {c : Five} {k : Nat} (hk : k < P.length) {x : Five} (hx : x = P[k]) (h : x.b = c.a) : thP P c (k + 1) = thP P c k ++ [prT x] := by
  unfold thP
  rw [List.take_succ_eq_append_getElem hk, List.filter_append, List.map_append, ← hx]
  simp [h]
theorem thP_no {P : List Five} {c : Five} {k : Nat} (hk : k < P.length) {x : Five} (hx : x = P[k]) (h : ¬ x.b = c.a) : thP P c (k + 1) = thP P c k := by
  unfold thP
  rw [List.take_succ_eq_append_getElem hk, List.filter_append, List.map_append, ← hx]
  simp [h]
theorem thR_yes {P : List Five} {c : Five} {k : Nat} (hk : k < P.length) {x : Five} (hx : x = P[k]) (h : x.b = c.a) : thR P c (k + 1) = thR P c k ++ [reT x] := by
  unfold thR
  rw [List.take_succ_eq_append_getElem hk, List.filter_append, List.map_append, ← hx]
  simp [h]
theorem thR_no {P : List Five} {c : Five} {k : Nat} (hk : k < P.length) {x : Five} (hx : x = P[k]) (h : ¬ x.b = c.a) : thR P c (k + 1) = thR P c k := by
  unfold thR
  rw [List.take_succ_eq_append_getElem hk, List.filter_append, List.map_append, ← hx]
  simp [h]
/-- all things, in the order in which they are gathered -/
def thAll (P R : List Five) (c : Five) : List Th := (mkT c :: thP P c P.length) ++ thR R c R.length
theorem infoT : (Try.prog.info? 114).map (fun i => (i.zero, i.size, i.bytes)) = some (some .nilIface, 1, 16) := by kernel_rfl
end Go.Proofs.Ytaggjclaehigjaa
