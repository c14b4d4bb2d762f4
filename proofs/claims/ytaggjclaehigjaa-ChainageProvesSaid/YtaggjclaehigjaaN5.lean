/- The spells of a chain and their pairs, plainly. -/
import Derived.Test.YtaggjclaehigjaaK2
import Derived.Test.YtaggjclaehigjaaN4
namespace Go.Proofs.Ytaggjclaehigjaa
open Go.RowKit
/-- what the spells of a list of things have -/
structure InvS (wear : Int) (pre : List Th) (S : List Sp) : Prop where
  we : ∀ s ∈ S, s.w = wear
  mem : ∀ s ∈ S, ∀ t ∈ s.ts, t ∈ pre
  len : ∀ s ∈ S, s.ts.length ≤ pre.length
  num : S.length ≤ pre.length
theorem InvS.step {wear : Int} {pre : List Th} {S : List Sp} (h : InvS wear pre S) (t : Th) : InvS wear (pre ++ [t]) (stepS wear S t) := by
  have hn := h.num
  rcases List.eq_nil_or_concat S with rfl | ⟨I, s, rfl⟩
  · rw [stepS_nil]
    refine ⟨?_, ?_, ?_, by simp⟩
    · intro s hs; obtain rfl := List.mem_singleton.1 hs; rfl
    · intro s hs u hu; obtain rfl := List.mem_singleton.1 hs; simp at hu; simp [hu]
    · intro s hs; obtain rfl := List.mem_singleton.1 hs; simp
  · rw [List.concat_eq_append] at h hn ⊢
    have hs := List.mem_append_right I (List.mem_singleton_self s)
    have hw := h.we s hs
    have hm := h.mem s hs
    have hl := h.len s hs
    have hI : ∀ x ∈ I, x.w = wear ∧ (∀ u ∈ x.ts, u ∈ pre ++ [t]) ∧ x.ts.length ≤ (pre ++ [t]).length := fun x hx =>
      ⟨h.we x (List.mem_append_left _ hx), fun u hu => List.mem_append_left _ (h.mem x (List.mem_append_left _ hx) u hu), by have := h.len x (List.mem_append_left _ hx); simp; omega⟩
    simp at hn
    cases hb : begB t
    · rw [stepS_not hb]
      have hx : ∀ x ∈ I ++ [⟨s.lo, s.hi, s.w, s.ts ++ [t]⟩], x.w = wear ∧ (∀ u ∈ x.ts, u ∈ pre ++ [t]) ∧ x.ts.length ≤ (pre ++ [t]).length := by
        intro x hx
        rcases List.mem_append.1 hx with hx | hx
        · exact hI x hx
        · obtain rfl := List.mem_singleton.1 hx
          refine ⟨hw, fun u hu => ?_, by simp; omega⟩
          rcases List.mem_append.1 hu with hu | hu
          · exact List.mem_append_left _ (hm u hu)
          · exact List.mem_append_right _ hu
      exact ⟨fun x h => (hx x h).1, fun x h => (hx x h).2.1, fun x h => (hx x h).2.2, by simp; omega⟩
    · rw [stepS_beg hb]
      have hx : ∀ x ∈ I ++ [⟨s.lo, t.y - 1, s.w, s.ts⟩] ++ [⟨t.y, 4000, wear, [t]⟩], x.w = wear ∧ (∀ u ∈ x.ts, u ∈ pre ++ [t]) ∧ x.ts.length ≤ (pre ++ [t]).length := by
        intro x hx
        rcases List.mem_append.1 hx with hx | hx
        · rcases List.mem_append.1 hx with hx | hx
          · exact hI x hx
          · obtain rfl := List.mem_singleton.1 hx
            exact ⟨hw, fun u hu => List.mem_append_left _ (hm u hu), by simp; omega⟩
        · obtain rfl := List.mem_singleton.1 hx
          exact ⟨rfl, fun u hu => List.mem_append_right _ hu, by simp⟩
      exact ⟨fun x h => (hx x h).1, fun x h => (hx x h).2.1, fun x h => (hx x h).2.2, by simp; omega⟩
theorem splitS_inv (wear : Int) (ts : List Th) : InvS wear ts (splitS wear ts) := by
  have key : ∀ (ts pre : List Th) (S : List Sp), InvS wear pre S → InvS wear (pre ++ ts) (ts.foldl (stepS wear) S) := by
    intro ts
    induction ts with
    | nil => intro pre S h; rw [List.append_nil]; exact h
    | cons t ts ih =>
      intro pre S h
      have := ih (pre ++ [t]) _ (h.step t)
      rw [List.append_assoc] at this
      exact this
  exact key ts [] [] ⟨by simp, by simp, by simp, by simp⟩
theorem thAll_len (P R : List Five) (c : Five) : (thAll P R c).length ≤ 1 + P.length + R.length := by
  unfold thAll thP thR
  have a := List.length_filter_le (fun p : Five => p.b == c.a) (P.take P.length)
  have b := List.length_filter_le (fun p : Five => p.b == c.a) (R.take R.length)
  simp only [List.take_length] at a b
  simp only [List.take_length, List.length_append, List.length_cons, List.length_map]
  omega
/-- all spells of a chain of right works are right -/
theorem spOk_all {C P R : List Five} {id : Int} {c : Five} (g : Good C P R) (hf : findC C id = some c) {w : World} {v : Value} {S : List SpE} {ts : List Th} (hS : SpellsAt w v S) (hp : ts.Perm (thAll P R c))
    (hm : S.map SpE.sp = splitS c.e ts) : (∀ s ∈ S, SpOk w s) ∧ S.length ≤ 61 ∧ ∀ s ∈ S, s.fs.length ≤ 61 := by
  have hI := splitS_inv c.e ts
  have hlen : ts.length ≤ 61 := by
    have := thAll_len P R c
    have := g.few
    rw [hp.length_eq]
    omega
  have hc := okC_parts (good_okT g hf).2.1
  have hs : ∀ s ∈ S, s.w = c.e ∧ (∀ x ∈ s.L, x.2.2 ∈ ts) ∧ s.L.length ≤ ts.length := by
    intro s hs
    have hx : s.sp ∈ splitS c.e ts := by rw [← hm]; exact List.mem_map_of_mem hs
    refine ⟨hI.we _ hx, fun x hx2 => hI.mem _ hx _ (List.mem_map_of_mem hx2), ?_⟩
    have := hI.len _ hx
    simpa [SpE.sp] using this
  refine ⟨fun s h => ⟨(hS.2 s h).1, (hS.2 s h).2, fun x hx => (thAll_ok g hf _ (hp.mem_iff.1 ((hs s h).2.1 x hx))).1, by rw [(hs s h).1]; exact hc.2.2.2, by have := (hs s h).2.2; omega⟩, ?_, fun s h => by have := (hs s h).2.2; simp [SpE.fs]; omega⟩
  have := hI.num
  rw [← hm, List.length_map] at this
  omega
theorem rowPairs_len (w : Int) (l : List Four) (t : Four) : (rowPairs w l t).length ≤ l.length := by
  unfold rowPairs
  rw [List.length_map]
  exact List.length_filter_le _ _
theorem pairs_len (w : Int) (l : List Four) : (pairsOf w l).length ≤ l.length * l.length := by
  have key : ∀ k, k ≤ l.length → (pairsUp w l k).length ≤ k * l.length := by
    intro k
    induction k with
    | zero => intro _; simp [pairsUp]
    | succ k ih =>
      intro hk
      rw [pairsUp_succ (t := l[k]) hk rfl, List.length_append]
      have h1 := ih (by omega)
      have h2 := rowPairs_len w (l.take k) l[k]
      rw [List.length_take] at h2
      rw [Nat.succ_mul]
      omega
  exact key _ (Nat.le_refl _)
/-- the pairs of some spells, of a chain -/
def prS (S : List Sp) : List (Int × Int) := S.flatMap fun s => pairsOf s.w (s.ts.map Th.f)
def ClC (P R : List Five) (c : Five) (l : List (Int × Int)) : Prop := ∃ ts, ts.Perm (thAll P R c) ∧ SortedT ts ∧ l = sortP (prS (splitS c.e ts))
theorem prS_map (S : List SpE) : prS (S.map SpE.sp) = S.flatMap fun s => pairsOf s.w s.fs := by
  unfold prS
  rw [List.flatMap_map]
  congr 1
  funext s
  simp only [SpE.sp, SpE.fs, List.map_map]
  rfl
end Go.Proofs.Ytaggjclaehigjaa
