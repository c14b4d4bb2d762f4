/- Spells as they are gathered: the plain fold, and what lies in memory. -/
import Derived.Test.YtaggjclaehigjaaV1
namespace Go.Proofs.Ytaggjclaehigjaa
open Go.RowKit
/-- a spell: its years, its wear, its things -/
structure Sp where
  lo : Int
  hi : Int
  w : Int
  ts : List Th
def stepS (wear : Int) (S : List Sp) (t : Th) : List Sp :=
  match S.reverse with
  | [] => [⟨t.y, 4000, wear, [t]⟩]
  | s :: r => if begB t then (⟨s.lo, t.y - 1, s.w, s.ts⟩ :: r).reverse ++ [⟨t.y, 4000, wear, [t]⟩] else (⟨s.lo, s.hi, s.w, s.ts ++ [t]⟩ :: r).reverse
def splitS (wear : Int) (ts : List Th) : List Sp := ts.foldl (stepS wear) []
theorem stepS_beg {wear : Int} {I : List Sp} {s : Sp} {t : Th} (h : begB t = true) : stepS wear (I ++ [s]) t = I ++ [⟨s.lo, t.y - 1, s.w, s.ts⟩] ++ [⟨t.y, 4000, wear, [t]⟩] := by
  simp [stepS, h]
theorem stepS_not {wear : Int} {I : List Sp} {s : Sp} {t : Th} (h : begB t = false) : stepS wear (I ++ [s]) t = I ++ [⟨s.lo, s.hi, s.w, s.ts ++ [t]⟩] := by
  simp [stepS, h]
theorem stepS_nil {wear : Int} {t : Th} : stepS wear [] t = [⟨t.y, 4000, wear, [t]⟩] := rfl
theorem splitS_succ {wear : Int} {ts : List Th} {k : Nat} (hk : k < ts.length) {t : Th} (ht : t = ts[k]) : splitS wear (ts.take (k + 1)) = stepS wear (splitS wear (ts.take k)) t := by
  unfold splitS
  rw [List.take_succ_eq_append_getElem hk, List.foldl_append, ← ht]
  rfl
/-- a spell as it lies in memory -/
structure SpE where
  lo : Int
  hi : Int
  w : Int
  a : Option Addr
  n : Nat
  c : Nat
  L : List Elt
instance : Inhabited SpE := ⟨⟨0, 0, 0, none, 0, 0, []⟩⟩
def SpE.v (s : SpE) : Value := .slice s.a s.n s.c
def encS (s : SpE) : List Value := [.int .i64 s.lo, .int .i64 s.hi, .int .i64 s.w, .slice s.a s.n s.c]
theorem encS_len (x : SpE) : (encS x).length = 4 := rfl
theorem encS_one (x : SpE) : ∀ u ∈ encS x, u.oneCell' = true := by
  intro u hu
  simp only [encS, List.mem_cons, List.not_mem_nil, or_false] at hu
  rcases hu with rfl | rfl | rfl | rfl <;> rfl
def SpE.sp (s : SpE) : Sp := ⟨s.lo, s.hi, s.w, s.L.map (·.2.2)⟩
theorem infoS : (Try.prog.info? 88).map (fun i => (i.zero, i.size, i.bytes)) = some (some (.agg #[.int .i64 0, .int .i64 0, .int .i64 0, .slice none 0 0]), 4, 48) := by kernel_rfl
/-- the spells gathered so far: the last one is still open -/
structure OutAt (b3 : Nat) (w : World) (v : Value) (I : List SpE) (cur : SpE) : Prop where
  out : Own 88 4 encS b3 w v (I ++ [cur])
  old : ∀ s ∈ I, Own 114 1 encE b3 w s.v s.L ∧ ∀ g, s.v.ownBlock = some g → cur.v.ownBlock ≠ some g
  now : Own 114 1 encE b3 w cur.v cur.L
theorem OutAt.ext {b3 : Nat} {w w' : World} {v : Value} {I : List SpE} {cur : SpE} (h : OutAt b3 w v I cur) (x : Ext w w') : OutAt b3 w' v I cur :=
  ⟨h.out.ext x, fun s hs => ⟨(h.old s hs).1.ext x, (h.old s hs).2⟩, h.now.ext x⟩
/-- where the spells lie -/
theorem OutAt.form {b3 : Nat} {w : World} {v : Value} {I : List SpE} {cur : SpE} (h : OutAt b3 w v I cur) : ∃ R cap, v = .slice (some ⟨R, 0, none⟩) (I.length + 1) cap ∧ b3 ≤ R ∧ I.length + 1 ≤ cap ∧ cap ≤ maxLen ∧
    (∃ cs, w.heap[R]? = some (.cells cs 88 (0, 0))) ∧ w.cell? ⟨R, I.length * 4, none⟩ = some (.int .i64 cur.lo) ∧ w.cell? ⟨R, I.length * 4 + 1, none⟩ = some (.int .i64 cur.hi) ∧
    w.cell? ⟨R, I.length * 4 + 2, none⟩ = some (.int .i64 cur.w) ∧ w.cell? ⟨R, I.length * 4 + 3, none⟩ = some cur.v := by
  obtain ⟨R, cap, hv, hb, hle, hm, hcs, hc⟩ := Own.form h.out (by simp) encS_len
  simp only [List.length_append, List.length_singleton] at hv hle
  have := hc I.length (by simp)
  simp only [List.getElem_append_right (Nat.le_refl _), Nat.sub_self, List.getElem_cons_zero] at this
  exact ⟨R, cap, hv, hb, hle, hm, hcs, this 0 _ rfl, this 1 _ rfl, this 2 _ rfl, this 3 _ rfl⟩
theorem kx_set {w : World} {R o : Nat} {u : Value} : KX R w (w.setCell ⟨R, o, none⟩ u) := (KX.refl R w).set o u
theorem take_flat {α : Type} {enc : α → List Value} (I : List α) (x : α) : ((I ++ [x]).flatMap enc) = I.flatMap enc ++ enc x := by simp
/-- the last element of a row is turned at one cell -/
theorem Own.setLast {α : Type} {T k : Nat} {enc : α → List Value} (hk : ∀ x, (enc x).length = k) {base : Nat} {w : World} {R n cap : Nat} {I : List α} {x y : α} {j : Nat} {u : Value} (h : Own T k enc base w (.slice (some ⟨R, 0, none⟩) n cap) (I ++ [x])) (hy : enc y = (enc x).set j u) : Own T k enc base (w.setCell ⟨R, I.length * k + j, none⟩ u) (.slice (some ⟨R, 0, none⟩) n cap) (I ++ [y]) := by
  obtain ⟨h1, h2⟩ := h
  refine ⟨by rw [flat_len hk], ?_⟩
  rcases h2 with ⟨hv, _⟩ | ⟨g, cap', cur, hv, hb, hg, hle, hm, hsz, htk⟩
  · cases hv
  · injection hv with ha hn hcap
    injection ha with ha
    injection ha with hR
    subst hR hcap
    have hlen : (I ++ [y]).length = (I ++ [x]).length := by simp
    right
    refine ⟨R, cap, cur.setIfInBounds (I.length * k + j) u, by rw [hlen, hn], hb, ?_, by rw [hlen]; exact hle, hm, by rw [Array.size_setIfInBounds]; exact hsz, ?_⟩
    · simp [World.setCell, Array.getElem?_modify, hg]
    · rw [hlen, Array.toList_setIfInBounds, List.take_set, htk, take_flat, take_flat, hy, List.set_append_right _ _ (by rw [flat_len hk]; omega), flat_len hk, Nat.add_sub_cancel_left]
theorem frozen_cells {w : World} {g T : Nat} (h : ∃ cs, w.heap[g]? = some (.cells cs T (0, 0))) (i : Nat) : w.frozen? ⟨g, i, none⟩ = false := by
  obtain ⟨cs, h⟩ := h
  simp [World.frozen?, h]
/-- the end of the last spell is set -/
theorem OutAt.setHi {b3 : Nat} {w : World} {R n cap : Nat} {I : List SpE} {cur : SpE} (h : OutAt b3 w (.slice (some ⟨R, 0, none⟩) n cap) I cur) (hcs : ∃ cs, w.heap[R]? = some (.cells cs 88 (0, 0))) (hi : Int) :
    OutAt b3 (w.setCell ⟨R, I.length * 4 + 1, none⟩ (.int .i64 hi)) (.slice (some ⟨R, 0, none⟩) n cap) I { cur with hi := hi } := by
  obtain ⟨cs, hcs⟩ := hcs
  refine ⟨h.out.setLast encS_len rfl, fun s hs => ⟨(h.old s hs).1.kx kx_set hcs (by decide), (h.old s hs).2⟩, ?_⟩
  exact h.now.kx kx_set hcs (by decide)
/-- a new spell is put behind -/
theorem OutAt.push {b3 : Nat} {w w' : World} {v v' : Value} {I : List SpE} {cur new : SpE} (h : OutAt b3 w v I cur) (hn : new.a = none ∧ new.n = 0 ∧ new.c = 0 ∧ new.L = []) (ho : Own 88 4 encS b3 w' v' ((I ++ [cur]) ++ [new])) (hg : w.grownBy w' v.ownBlock) :
    OutAt b3 w' v' (I ++ [cur]) new := by
  obtain ⟨R, cap, rfl, _, _, _, ⟨cs, hcs⟩, _⟩ := h.form
  have hk : KX R w w' := kx_of_grown hg
  refine ⟨ho, fun s hs => ⟨?_, fun g _ => by simp [SpE.v, hn.1, Value.ownBlock]⟩, by simp only [SpE.v, hn]; exact Own.nil _ _ _ _ _⟩
  rcases List.mem_append.1 hs with hs | hs
  · exact (h.old s hs).1.kx hk hcs (by decide)
  · obtain rfl := List.mem_singleton.1 hs
    exact h.now.kx hk hcs (by decide)
theorem OutAt.first {b3 : Nat} {w' : World} {v' : Value} {new : SpE} (hn : new.a = none ∧ new.n = 0 ∧ new.c = 0 ∧ new.L = []) (ho : Own 88 4 encS b3 w' v' [new]) : OutAt b3 w' v' [] new :=
  ⟨ho, fun s hs => by simp at hs, by simp only [SpE.v, hn]; exact Own.nil _ _ _ _ _⟩
theorem Own.grown_other {α : Type} {T k : Nat} {enc : α → List Value} {base : Nat} {w w' : World} {v : Value} {l : List α} {row : Option Nat} (h : Own T k enc base w v l) (hg : w.grownBy w' row) (hne : ∀ g, v.ownBlock = some g → row ≠ some g) : Own T k enc base w' v l := by
  obtain ⟨h1, h2⟩ := h
  refine ⟨h1, ?_⟩
  rcases h2 with h2 | ⟨g, cap, cur, hv, hb, hgg, r⟩
  · exact Or.inl h2
  · exact Or.inr ⟨g, cap, cur, hv, hb, (hg.block g (Array.getElem?_eq_some_iff.1 hgg).1 (fun e => hne g (by rw [hv]; rfl) e.symm)).trans hgg, r⟩
theorem Own.row_ne {α β : Type} {T k T' k' : Nat} {enc : α → List Value} {enc' : β → List Value} {base : Nat} {w : World} {v v' : Value} {l : List α} {l' : List β} (h : Own T k enc base w v l) (h' : Own T' k' enc' base w v' l') (hT : T ≠ T') : ∀ g, v.ownBlock = some g → v'.ownBlock ≠ some g := by
  intro g hg hg'
  obtain ⟨_, h2⟩ := h
  obtain ⟨_, h2'⟩ := h'
  rcases h2 with ⟨rfl, _⟩ | ⟨g1, c1, cur1, rfl, _, hh1, _⟩
  · cases hg
  · rcases h2' with ⟨rfl, _⟩ | ⟨g2, c2, cur2, rfl, _, hh2, _⟩
    · cases hg'
    · injection hg with hg
      injection hg' with hg'
      simp only at hg hg'
      subst hg
      subst hg'
      rw [hh1] at hh2
      injection hh2 with hh2
      injection hh2 with _ hh2 _
      exact hT hh2
/-- a thing is put behind those of the last spell: the row of its things has grown -/
theorem OutAt.grown {b3 : Nat} {w w' : World} {v : Value} {I : List SpE} {cur : SpE} {a : Option Addr} {n c : Nat} (h : OutAt b3 w v I cur) (hg : w.grownBy w' cur.v.ownBlock)
    (hb : (Value.slice a n c).ownBlock = cur.v.ownBlock ∨ (Value.slice a n c).ownBlock = some w.heap.size) :
    Own 88 4 encS b3 w' v (I ++ [cur]) ∧ ∀ s ∈ I, Own 114 1 encE b3 w' s.v s.L ∧ ∀ g, s.v.ownBlock = some g → (Value.slice a n c).ownBlock ≠ some g := by
  refine ⟨h.out.grown_other hg (fun g hg' => h.out.row_ne h.now (by decide) g hg'), fun s hs => ⟨(h.old s hs).1.grown_other hg (h.old s hs).2, fun g hg' => ?_⟩⟩
  rcases hb with e | e
  · rw [e]; exact (h.old s hs).2 g hg'
  · rw [e]
    intro e2
    injection e2 with e2
    have := (World.ownsRow.lt (h.old s hs).1 g hg').2
    omega
theorem OutAt.setThings {b3 : Nat} {w : World} {R n cap : Nat} {I : List SpE} {cur : SpE} {x : Elt} {a : Option Addr} {m c : Nat} (h1 : Own 88 4 encS b3 w (.slice (some ⟨R, 0, none⟩) n cap) (I ++ [cur]))
    (h2 : ∀ s ∈ I, Own 114 1 encE b3 w s.v s.L ∧ ∀ g, s.v.ownBlock = some g → (Value.slice a m c).ownBlock ≠ some g) (h3 : Own 114 1 encE b3 w (.slice a m c) (cur.L ++ [x])) :
    OutAt b3 (w.setCell ⟨R, I.length * 4 + 3, none⟩ (.slice a m c)) (.slice (some ⟨R, 0, none⟩) n cap) I { cur with a := a, n := m, c := c, L := cur.L ++ [x] } := by
  obtain ⟨R', cap', hv, _, _, _, ⟨cs, hcs⟩, _⟩ := Own.form h1 (by simp) encS_len
  injection hv with ha _ _
  injection ha with ha
  injection ha with hR
  subst hR
  exact ⟨h1.setLast encS_len rfl, fun s hs => ⟨(h2 s hs).1.kx kx_set hcs (by decide), (h2 s hs).2⟩, h3.kx kx_set hcs (by decide)⟩
theorem last_cell {b3 : Nat} {w : World} {R n cap : Nat} {I : List SpE} {cur : SpE} (h : Own 88 4 encS b3 w (.slice (some ⟨R, 0, none⟩) n cap) (I ++ [cur])) :
    w.cell? ⟨R, I.length * 4 + 3, none⟩ = some (.slice cur.a cur.n cur.c) ∧ w.frozen? ⟨R, I.length * 4 + 3, none⟩ = false := by
  obtain ⟨R', cap', hv, _, _, _, hcs, hc⟩ := Own.form h (by simp) encS_len
  injection hv with ha _ _
  injection ha with ha
  injection ha with hR
  subst hR
  have := hc I.length (by simp)
  simp only [List.getElem_append_right (Nat.le_refl _), Nat.sub_self, List.getElem_cons_zero] at this
  exact ⟨this 3 _ rfl, frozen_cells hcs _⟩
/-- spells in memory -/
def SpellsAt (w : World) (v : Value) (S : List SpE) : Prop := Sl 4 encS w v S ∧ ∀ s ∈ S, Sl 1 encE w s.v s.L ∧ ∀ x ∈ s.L, EltAt w x
theorem SpellsAt.ext {w w' : World} {v : Value} {S : List SpE} (h : SpellsAt w v S) (x : Ext w w') : SpellsAt w' v S :=
  ⟨h.1.ext x, fun s hs => ⟨(h.2 s hs).1.ext x, fun y hy => ((h.2 s hs).2 y hy).ext x⟩⟩
theorem OutAt.spells {b3 : Nat} {w : World} {v : Value} {I : List SpE} {cur : SpE} (h : OutAt b3 w v I cur) (hA : ∀ s ∈ I ++ [cur], ∀ x ∈ s.L, EltAt w x) : SpellsAt w v (I ++ [cur]) := by
  refine ⟨h.out.sl encS_len, fun s hs => ⟨?_, hA s hs⟩⟩
  rcases List.mem_append.1 hs with hs | hs
  · exact (h.old s hs).1.sl encE_len
  · obtain rfl := List.mem_singleton.1 hs
    exact h.now.sl encE_len
/-- what spells returns -/
def SpellsPost (W : World) (P R : List Five) (c : Five) (e : Ending) (w : World) : Prop :=
  ∃ v S ts, e = .returned v ∧ SpellsAt w v S ∧ ts.Perm (thAll P R c) ∧ SortedT ts ∧ S.map SpE.sp = splitS c.e ts ∧ Ext W w
def LoopS (b3 : Nat) (wear : Int) (L2 : List Elt) (k : Nat) (v : Value) (w : World) : Prop :=
  (k = 0 ∧ v = .slice none 0 0) ∨ (0 < k ∧ ∃ I cur, OutAt b3 w v I cur ∧ (∀ s ∈ I ++ [cur], ∀ x ∈ s.L, x ∈ L2) ∧ I.length + 1 ≤ k ∧ cur.L.length ≤ k ∧ (I ++ [cur]).map SpE.sp = splitS wear ((L2.map (·.2.2)).take k))
/-- the spell in which a thing lies is the last one -/
def CutS (b3 : Nat) (wear : Int) (L2 : List Elt) (k : Nat) (t : Th) (v : Value) (w : World) : Prop :=
  ∃ I cur, OutAt b3 w v I cur ∧ (∀ s ∈ I ++ [cur], ∀ x ∈ s.L, x ∈ L2) ∧ I.length ≤ k ∧ cur.L.length ≤ k ∧ I.map SpE.sp ++ [⟨cur.lo, cur.hi, cur.w, cur.L.map (·.2.2) ++ [t]⟩] = splitS wear ((L2.map (·.2.2)).take (k + 1))
theorem loopS_not {b3 : Nat} {wear : Int} {L2 : List Elt} {k : Nat} {v : Value} {w : World} {x : Elt} (h : LoopS b3 wear L2 k v w) (hk : k < L2.length) (hx : x = L2[k]) (h0 : 0 < k) (hb : begB x.2.2 = false) : CutS b3 wear L2 k x.2.2 v w := by
  rcases h with ⟨e, _⟩ | ⟨_, I, cur, h1, h2, h3, h4, h5⟩
  · omega
  · refine ⟨I, cur, h1, h2, by omega, h4, ?_⟩
    rw [splitS_succ (t := x.2.2) (by simpa using hk) (by simp [hx]), ← h5, List.map_append, List.map_singleton, stepS_not hb]
    rfl
theorem cutS_first {b3 : Nat} {wear : Int} {L2 : List Elt} {v : Value} {w : World} {x : Elt} (hk : 0 < L2.length) (hx : x = L2[0]) (h : OutAt b3 w v [] ⟨x.2.2.y, 4000, wear, none, 0, 0, []⟩) : CutS b3 wear L2 0 x.2.2 v w := by
  refine ⟨[], _, h, by simp, by simp, by simp, ?_⟩
  rw [splitS_succ (t := x.2.2) (by simpa using hk) (by simp [hx])]
  rfl
theorem cutS_push {b3 : Nat} {wear : Int} {L2 : List Elt} {k : Nat} {v : Value} {w : World} {x : Elt} {I : List SpE} {cur : SpE} (hk : k < L2.length) (hx : x = L2[k]) (hb : begB x.2.2 = true)
    (h : OutAt b3 w v (I ++ [{ cur with hi := x.2.2.y - 1 }]) ⟨x.2.2.y, 4000, wear, none, 0, 0, []⟩) (h2 : ∀ s ∈ I ++ [cur], ∀ x ∈ s.L, x ∈ L2) (h3 : I.length + 1 ≤ k) (h5 : (I ++ [cur]).map SpE.sp = splitS wear ((L2.map (·.2.2)).take k)) : CutS b3 wear L2 k x.2.2 v w := by
  refine ⟨_, _, h, ?_, by simp; omega, by simp, ?_⟩
  · intro s hs y hy
    simp only [List.mem_append, List.mem_singleton] at hs
    rcases hs with (hs | rfl) | rfl
    · exact h2 s (List.mem_append_left _ hs) y hy
    · exact h2 cur (List.mem_append_right _ (by simp)) y hy
    · simp at hy
  · rw [splitS_succ (t := x.2.2) (by simpa using hk) (by simp [hx]), ← h5, List.map_append (l₁ := I) (l₂ := [cur]), List.map_singleton, stepS_beg hb]
    simp [SpE.sp]
theorem loopS_next {b3 : Nat} {wear : Int} {L2 : List Elt} {k : Nat} {v : Value} {w : World} {x : Elt} {I : List SpE} {cur : SpE} {a : Option Addr} {n c : Nat} (hk : k < L2.length) (hx : x = L2[k])
    (h : OutAt b3 w v I { cur with a := a, n := n, c := c, L := cur.L ++ [x] }) (h2 : ∀ s ∈ I ++ [cur], ∀ x ∈ s.L, x ∈ L2) (h3 : I.length ≤ k) (h4 : cur.L.length ≤ k) (h5 : I.map SpE.sp ++ [⟨cur.lo, cur.hi, cur.w, cur.L.map (·.2.2) ++ [x.2.2]⟩] = splitS wear ((L2.map (·.2.2)).take (k + 1))) :
    LoopS b3 wear L2 (k + 1) v w := by
  refine .inr ⟨by omega, I, _, h, ?_, by omega, by simp; omega, ?_⟩
  · intro s hs y hy
    simp only [List.mem_append, List.mem_singleton] at hs
    rcases hs with hs | rfl
    · exact h2 s (List.mem_append_left _ hs) y hy
    · simp only [List.mem_append, List.mem_singleton] at hy
      rcases hy with hy | rfl
      · exact h2 cur (List.mem_append_right _ (by simp)) y hy
      · rw [hx]; exact List.getElem_mem hk
  · rw [← h5]
    simp [SpE.sp]
end Go.Proofs.Ytaggjclaehigjaa
