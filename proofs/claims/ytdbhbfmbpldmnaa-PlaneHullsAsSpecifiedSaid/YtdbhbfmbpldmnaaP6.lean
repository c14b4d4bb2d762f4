/- Plain law of the wrapping of a hull, point by point. -/
import Derived.Test.YtdbhbfmbpldmnaaUV
namespace Go.Proofs.Ytdbhbfmbpldmnaa
theorem getD_at {α : Type} {l : List α} {i : Nat} {d : α} (h : i < l.length) : l.getD i d = l[i] := by simp [h]
theorem getD_out {α : Type} {l : List α} {i : Nat} {d : α} (h : l.length ≤ i) : l.getD i d = d := by simp [List.getD, h]
def nxF (a n q : Int × Int) : Int × Int := if q = a then n else if n = a ∨ tw a n q < 0 ∨ (tw a n q = 0 ∧ sqd a n < sqd a q) then q else n
theorem nx_or (a n q : Int × Int) : nxF a n q = n ∨ nxF a n q = q := by
  unfold nxF
  split
  · exact .inl rfl
  · split
    · exact .inr rfl
    · exact .inl rfl
theorem nx_stay {l : List (Int × Int)} {a b q : Int × Int} (h : Wrap l a b) (hq : q ∈ l) : nxF a b q = b := by
  unfold nxF
  split
  · rfl
  · rename_i hne
    split
    · rename_i k
      rcases h.2.2 q hq hne with e | e | ⟨e, e2, _⟩
      · exact e
      · rcases k with k | k | ⟨k, _⟩
        · exact absurd k h.2.1
        · omega
        · omega
      · rcases k with k | k | ⟨_, k⟩
        · exact absurd k h.2.1
        · omega
        · omega
    · rfl
theorem nx_take {l : List (Int × Int)} {a b n : Int × Int} (h : Wrap l a b) (hn : n ∈ l ∨ n = a) : nxF a n b = b := by
  unfold nxF
  rw [if_neg h.2.1]
  by_cases e : n = a
  · rw [if_pos (.inl e)]
  · rcases h.2.2 n (hn.resolve_right e) e with k | k | ⟨k, k2, _⟩
    · rw [k]; split <;> rfl
    · rw [if_pos (.inr (.inl (by rw [tw_swap]; omega)))]
    · rw [if_pos (.inr (.inr ⟨by rw [tw_swap]; omega, k2⟩))]
theorem nx_fold {l : List (Int × Int)} {a b : Int × Int} (h : Wrap l a b) : ∀ (s : List (Int × Int)) (n : Int × Int), (∀ q ∈ s, q ∈ l) → (n ∈ l ∨ n = a) → (n = b ∨ b ∈ s) → s.foldl (nxF a) n = b
  | [], n, _, _, k => by simpa using k
  | q :: s, n, hs, hn, k => by
    rw [List.foldl_cons]
    refine nx_fold h s _ (fun x hx => hs x (by simp [hx])) ?_ ?_
    · rcases nx_or a n q with e | e <;> rw [e]
      · exact hn
      · exact .inl (hs q (by simp))
    · by_cases e : n = b
      · exact .inl (by rw [e]; exact nx_stay h (hs q (by simp)))
      · rcases List.mem_cons.1 (k.resolve_left e) with e2 | e2
        · exact .inl (by rw [← e2]; exact nx_take h hn)
        · exact .inr e2
theorem nx_wrap {l : List (Int × Int)} {a b : Int × Int} (h : Wrap l a b) : l.foldl (nxF a) a = b :=
  nx_fold h l a (fun _ h => h) (.inr rfl) (.inr h.1)
theorem nx_same {a : Int × Int} : ∀ (l : List (Int × Int)), (∀ q ∈ l, q = a) → l.foldl (nxF a) a = a
  | [], _ => rfl
  | q :: l, h => by
    rw [List.foldl_cons, show nxF a a q = a by unfold nxF; rw [if_pos (h q (by simp))]]
    exact nx_same l (fun x hx => h x (by simp [hx]))
def fsF (f q : Int × Int) : Int × Int := if q.1 < f.1 ∨ (q.1 = f.1 ∧ q.2 < f.2) then q else f
theorem fs_fold : ∀ (s pre : List (Int × Int)) (f : Int × Int), f ∈ pre → (∀ q ∈ pre, ¬ ltP q f) → s.foldl fsF f ∈ pre ++ s ∧ ∀ q ∈ pre ++ s, ¬ ltP q (s.foldl fsF f)
  | [], pre, f, h, k => by rw [List.append_nil]; exact ⟨h, k⟩
  | p :: s, pre, f, h, k => by
    rw [List.foldl_cons]
    have := fs_fold s (pre ++ [p]) (fsF f p) ?_ ?_
    · simpa using this
    · unfold fsF
      split
      · simp
      · exact List.mem_append_left _ h
    · intro q hq
      unfold fsF
      split
      · rename_i e
        have e : ltP p f := e
        rcases List.mem_append.1 hq with hq | hq
        · exact fun c => k q hq (c.trans e)
        · obtain rfl := List.mem_singleton.1 hq; exact ltP.irrefl _
      · rename_i e
        rcases List.mem_append.1 hq with hq | hq
        · exact k q hq
        · obtain rfl := List.mem_singleton.1 hq; exact e
theorem fs_hull {l H : List (Int × Int)} {p : Int × Int} {s : List (Int × Int)} (hl : l = p :: s) (h : HullOf l H) : ∃ t, H = s.foldl fsF p :: t := by
  obtain ⟨a, t, rfl, h1, h2, _⟩ := h
  obtain ⟨k1, k2⟩ := fs_fold s [p] p (by simp) (by intro q hq; obtain rfl := List.mem_singleton.1 hq; exact ltP.irrefl _)
  rw [List.singleton_append, ← hl] at k1 k2
  rcases ltP.total a (s.foldl fsF p) with e | e | e
  · exact absurd e (k2 a h1)
  · exact ⟨t, by rw [e]⟩
  · exact absurd e (h2 _ k1)
theorem cons2_get {α : Type} {R : α → α → Prop} : ∀ {L : List α}, Cons2 R L → ∀ i, (h : i + 1 < L.length) → R (L[i]'(by omega)) L[i + 1]
  | [], _, i, h => by simp at h
  | [_], _, i, h => by simp at h
  | a :: b :: r, c, 0, _ => c.1
  | a :: b :: r, c, i + 1, h => by
    have := cons2_get (L := b :: r) c.2 i (by simpa using h)
    simpa using this
/-- the corner behind the one of number k -/
def succH (H : List (Int × Int)) (k : Nat) : Int × Int := H.getD (k + 1) (H.getD 0 (0, 0))
theorem nx_hull {l H : List (Int × Int)} (h : HullOf l H) (k : Nat) (hk : k < H.length) : l.foldl (nxF H[k]) H[k] = succH H k := by
  obtain ⟨a, t, rfl, h1, h2, h3, h4⟩ := h
  unfold succH
  by_cases ht : t = []
  · subst ht
    have : k = 0 := by simpa using hk
    subst this
    simpa using nx_same l (h3 rfl)
  · have c := cons2_get (h4 ht).1 k (by simp at hk ⊢; omega)
    have c2 := nx_wrap c
    by_cases e : k + 1 < (a :: t).length
    · rw [getD_at e]
      have q1 : ((a :: t) ++ [a])[k]'(by simp at hk ⊢; omega) = (a :: t)[k] := List.getElem_append_left hk
      have q2 : ((a :: t) ++ [a])[k + 1]'(by simp at e ⊢; omega) = (a :: t)[k + 1] := List.getElem_append_left e
      rw [q1, q2] at c2
      exact c2
    · rw [getD_out (by omega)]
      have q1 : ((a :: t) ++ [a])[k]'(by simp at hk ⊢; omega) = (a :: t)[k] := List.getElem_append_left hk
      have q2 : ((a :: t) ++ [a])[k + 1]'(by simp at hk ⊢; omega) = a := by
        rw [List.getElem_append_right (by omega)]
        simp
      rw [q1, q2] at c2
      simpa using c2
theorem nodup_le : ∀ (H l : List (Int × Int)), H.Nodup → (∀ x ∈ H, x ∈ l) → H.length ≤ l.length
  | [], _, _, _ => by simp
  | h :: t, l, n, s => by
    have n2 := List.nodup_cons.1 n
    have := nodup_le t (l.erase h) n2.2 (fun x hx => (List.mem_erase_of_ne (fun e => n2.1 (by rw [← e]; exact hx))).2 (s x (by simp [hx])))
    have e := List.length_erase_of_mem (s h (by simp))
    have := List.length_pos_of_mem (s h (by simp))
    simp only [List.length_cons]
    omega
theorem hull_mem {l H : List (Int × Int)} (h : HullOf l H) : ∀ x ∈ H, x ∈ l := by
  obtain ⟨a, t, rfl, h1, h2, h3, h4⟩ := h
  intro x hx
  by_cases ht : t = []
  · subst ht; obtain rfl := List.mem_singleton.1 hx; exact h1
  · rcases List.mem_cons.1 hx with rfl | hx
    · exact h1
    · obtain ⟨i, hi, rfl⟩ := List.getElem_of_mem hx
      have c := (cons2_get (h4 ht).1 i (by simp; omega)).1
      have q2 : ((a :: t) ++ [a])[i + 1]'(by simp; omega) = t[i] := by
        rw [List.getElem_append_left (by simpa using hi)]
        simp
      rw [q2] at c
      exact c
theorem hull_nodup {l H : List (Int × Int)} (h : HullOf l H) : H.Nodup := by
  obtain ⟨a, t, rfl, h1, h2, h3, h4⟩ := h
  by_cases ht : t = []
  · subst ht; simp
  obtain ⟨c, hne⟩ := h4 ht
  have get := cons2_get c
  have key : ∀ d i j (hij : i < j) (hj : j < (a :: t).length), (a :: t).length - j = d → (a :: t)[i]'(by omega) = (a :: t)[j] → False := by
    intro d
    induction d with
    | zero => intro i j _ hj e _; omega
    | succ d ih =>
      intro i j hij hj e q
      have g1 := get i (by simp at hj ⊢; omega)
      have g2 := get j (by simp at hj ⊢; omega)
      have q1 : ((a :: t) ++ [a])[i]'(by simp at hj ⊢; omega) = (a :: t)[i]'(by omega) := List.getElem_append_left (by omega)
      have q2 : ((a :: t) ++ [a])[j]'(by simp at hj ⊢; omega) = (a :: t)[j] := List.getElem_append_left hj
      have q3 : ((a :: t) ++ [a])[i + 1]'(by simp at hj ⊢; omega) = (a :: t)[i + 1]'(by omega) := List.getElem_append_left (by omega)
      rw [q1, q3] at g1
      rw [q2] at g2
      rw [← q] at g2
      have u := Wrap.uniq g1 g2
      by_cases e2 : j + 1 < (a :: t).length
      · have q4 : ((a :: t) ++ [a])[j + 1]'(by simp at hj ⊢; omega) = (a :: t)[j + 1] := List.getElem_append_left e2
        rw [q4] at u
        exact ih (i + 1) (j + 1) (by omega) e2 (by omega) u
      · have q4 : ((a :: t) ++ [a])[j + 1]'(by simp at hj ⊢; omega) = a := by
          rw [List.getElem_append_right (by omega)]
          simp
        rw [q4] at u
        have hm : t[i]'(by simp at hj; omega) = a := by simpa using u
        exact hne _ (List.getElem_mem (by simp at hj; omega)) hm
  rw [List.Nodup, List.pairwise_iff_getElem]
  intro i j hi hj hij q
  exact key _ i j hij hj rfl q
theorem hull_len {l H : List (Int × Int)} (h : HullOf l H) : H.length ≤ l.length := nodup_le H l (hull_nodup h) (hull_mem h)
/-- the wrapping comes back to the first corner just behind the last one -/
theorem succH_end {l H : List (Int × Int)} (h : HullOf l H) (k : Nat) (hk : k < H.length) : (succH H k = H.getD 0 (0, 0) ∨ succH H k = H[k]) ↔ k + 1 = H.length := by
  have nd := hull_nodup h
  rw [List.Nodup, List.pairwise_iff_getElem] at nd
  unfold succH
  constructor
  · intro e
    by_cases e2 : k + 1 < H.length
    · rw [getD_at e2, getD_at (by omega)] at e
      rcases e with e | e
      · exact absurd e.symm (nd 0 (k + 1) (by omega) e2 (by omega))
      · exact absurd e.symm (nd k (k + 1) hk e2 (by omega))
    · omega
  · intro e
    rw [getD_out (by omega)]
    exact .inl rfl
end Go.Proofs.Ytdbhbfmbpldmnaa
