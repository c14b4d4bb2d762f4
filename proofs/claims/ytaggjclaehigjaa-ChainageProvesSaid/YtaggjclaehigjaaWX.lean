/- The pairs of a chain are determined: plain law. The pairs of a permuted list are permuted. The spells of a chain are determined, up to the order of their things. Clashes and Clash, the pairs told by a function. The example of the laws: made, few. The example of the laws: few, long. The example of the laws, plainly. The example of the laws: sanity. -/
import Derived.Test.YtaggjclaehigjaaN5
import Derived.Test.YtaggjclaehigjaaP3
import Derived.Test.YtaggjclaehigjaaH
import Derived.Test.YtaggjclaehigjaaN7
import Derived.Test.YtaggjclaehigjaaK6
import Derived.Test.YtaggjclaehigjaaK5
import Derived.Test.YtaggjclaehigjaaR5
namespace Go.Proofs.Ytaggjclaehigjaa
open Go.RowKit Go.Sort
theorem sortP_perm {a b : List (Int × Int)} (h : a.Perm b) : sortP a = sortP b := by
  have tr : ∀ x y z : Int × Int, (!(ltOf cmpP) y x) = true → (!(ltOf cmpP) z y) = true → (!(ltOf cmpP) z x) = true := by
    intro x y z h1 h2
    simp only [ltOf, Bool.not_eq_true', decide_eq_false_iff_not] at *
    rw [cmpP_lt] at *
    omega
  have tl : ∀ x y : Int × Int, ((!(ltOf cmpP) y x) || (!(ltOf cmpP) x y)) = true := by
    intro x y
    simp only [ltOf, Bool.or_eq_true, Bool.not_eq_true', decide_eq_false_iff_not]
    rw [cmpP_lt, cmpP_lt]
    omega
  have s1 := List.pairwise_mergeSort tr tl a
  have s2 := List.pairwise_mergeSort tr tl b
  have hp : (sortP a).Perm (sortP b) := (List.mergeSort_perm a _).trans (h.trans (List.mergeSort_perm b _).symm)
  refine hp.eq_of_pairwise (le := fun x y => (!(ltOf cmpP) y x) = true) ?_ s1 s2
  intro x y _ _ h1 h2
  simp only [ltOf, Bool.not_eq_true', decide_eq_false_iff_not] at *
  rw [cmpP_lt] at *
  exact Prod.ext (by omega) (by omega)
/-- the first years of the spells, and their last years -/
structure InvL (pre : List Th) (S : List Sp) : Prop where
  ne : S ≠ []
  lo : S.map Sp.lo = (pre.filter begB).map Th.y
  hi : S.map Sp.hi = ((pre.filter begB).map Th.y).tail.map (· - 1) ++ [4000]
theorem InvL.step {wear : Int} {pre : List Th} {S : List Sp} (h : InvL pre S) (t : Th) : InvL (pre ++ [t]) (stepS wear S t) := by
  have hlo := h.lo
  have hhi := h.hi
  rcases List.eq_nil_or_concat S with rfl | ⟨I, s, rfl⟩
  · exact absurd rfl h.ne
  · rw [List.concat_eq_append] at *
    cases hb : begB t
    · rw [stepS_not hb]
      refine ⟨by simp, ?_, ?_⟩
      · rw [List.filter_append]
        simp [hb] at hlo ⊢
        exact hlo
      · rw [List.filter_append]
        simp [hb] at hhi ⊢
        exact hhi
    · rw [stepS_beg hb]
      have e : ((pre ++ [t]).filter begB).map Th.y = (pre.filter begB).map Th.y ++ [t.y] := by
        rw [List.filter_append, List.map_append]
        simp [hb]
      have hne : (pre.filter begB).map Th.y ≠ [] := by
        intro e
        rw [e] at hlo
        simp at hlo
      refine ⟨by simp, ?_, ?_⟩
      · rw [e, ← hlo]
        simp
      · rw [e, List.tail_append_of_ne_nil hne]
        simp at hhi ⊢
        exact hhi.1
theorem splitS_l (wear : Int) (t : Th) (r : List Th) (hb : begB t = true) : InvL (t :: r) (splitS wear (t :: r)) := by
  have key : ∀ (ts pre : List Th) (S : List Sp), InvL pre S → InvL (pre ++ ts) (ts.foldl (stepS wear) S) := by
    intro ts
    induction ts with
    | nil => intro pre S h; rw [List.append_nil]; exact h
    | cons t ts ih =>
      intro pre S h
      have := ih (pre ++ [t]) _ (h.step (wear := wear) t)
      rw [List.append_assoc] at this
      exact this
  refine key r [t] _ ⟨?_, ?_, ?_⟩
  · rw [stepS_nil]; simp
  · rw [stepS_nil]; simp [hb]
  · rw [stepS_nil]; simp [hb]
/-- the years in which spells begin hang on the things alone -/
theorem begs_eq {ts ts' : List Th} (hp : ts.Perm ts') (hs : SortedT ts) (hs' : SortedT ts') : (ts.filter begB).map Th.y = (ts'.filter begB).map Th.y := by
  have h1 : ∀ l : List Th, SortedT l → ((l.filter begB).map Th.y).Pairwise (fun a b : Int => a ≤ b) := by
    intro l hl
    rw [List.pairwise_map]
    refine (List.Pairwise.filter _ hl).imp ?_
    intro a b h
    rw [cmpT_neg] at h
    omega
  exact ((hp.filter _).map _).eq_of_pairwise (fun a b _ _ h1 h2 => Int.le_antisymm h1 h2) (h1 _ hs) (h1 _ hs')
end Go.Proofs.Ytaggjclaehigjaa
namespace Go.Proofs.Ytaggjclaehigjaa
open Go.RowKit
def pC (w : Int) : List Four → List (Int × Int)
  | [] => []
  | t :: l => rowPairs w l t ++ pC w l
theorem pairF_comm (t u : Four) : pairF t u = pairF u t := by unfold pairF; rw [Int.min_comm, Int.max_comm]
theorem rowPairs_perm {w : Int} {l l' : List Four} (h : l.Perm l') (t : Four) : (rowPairs w l t).Perm (rowPairs w l' t) := (h.filter _).map _
theorem rowPairs_cons (w : Int) (l : List Four) (t u : Four) : rowPairs w (u :: l) t = (if clashB w t u = true then [pairF t u] else []) ++ rowPairs w l t := by
  unfold rowPairs
  rw [List.filter_cons]
  split <;> simp
theorem pC_perm {w : Int} {l l' : List Four} (h : l.Perm l') : (pC w l).Perm (pC w l') := by
  induction h with
  | nil => exact .refl _
  | cons t h ih => exact (rowPairs_perm h t).append ih
  | swap t u l =>
    show (rowPairs w (t :: l) u ++ (rowPairs w l t ++ pC w l)).Perm (rowPairs w (u :: l) t ++ (rowPairs w l u ++ pC w l))
    rw [rowPairs_cons, rowPairs_cons, clashB_comm w u t, pairF_comm u t, List.append_assoc, List.append_assoc]
    refine List.Perm.append_left _ ?_
    rw [← List.append_assoc, ← List.append_assoc]
    exact List.perm_append_comm.append_right _
  | trans _ _ h1 h2 => exact h1.trans h2
theorem pairsUp_append {w : Int} {l : List Four} {t : Four} : ∀ k, k ≤ l.length → pairsUp w (l ++ [t]) k = pairsUp w l k := by
  intro k
  induction k with
  | zero => intro _; rfl
  | succ k ih =>
    intro hk
    have h1 : k < (l ++ [t]).length := by simp; omega
    rw [pairsUp_succ (t := l[k]) h1 (by rw [List.getElem_append_left (by omega)]), pairsUp_succ (t := l[k]) (by omega) rfl, ih (by omega), List.take_append_of_le_length (by omega)]
theorem pairsOf_concat (w : Int) (l : List Four) (t : Four) : pairsOf w (l ++ [t]) = pairsOf w l ++ rowPairs w l t := by
  unfold pairsOf
  rw [List.length_append, List.length_singleton, pairsUp_succ (t := t) (by simp) (by simp), pairsUp_append _ (Nat.le_refl _)]
  simp
theorem pairsOf_pC (w : Int) (l : List Four) : (pairsOf w l).Perm (pC w l) := by
  have key : ∀ r : List Four, (pairsOf w r.reverse).Perm (pC w r) := by
    intro r
    induction r with
    | nil => exact .refl _
    | cons t r ih =>
      rw [List.reverse_cons, pairsOf_concat]
      exact List.perm_append_comm.trans ((rowPairs_perm r.reverse_perm t).append ih)
  have := key l.reverse
  rw [List.reverse_reverse] at this
  exact this.trans (pC_perm l.reverse_perm)
theorem pairsOf_perm {w : Int} {l l' : List Four} (h : l.Perm l') : (pairsOf w l).Perm (pairsOf w l') := (pairsOf_pC w l).trans ((pC_perm h).trans (pairsOf_pC w l').symm)
end Go.Proofs.Ytaggjclaehigjaa
namespace Go.Proofs.Ytaggjclaehigjaa
open Go.RowKit
theorem hi_at {pre : List Th} {S : List Sp} (h : InvL pre S) {k : Nat} (hk : k < S.length) : S[k].hi = if h2 : k + 1 < S.length then S[k + 1].lo - 1 else 4000 := by
  have e := h.hi
  rw [← h.lo] at e
  have e1 : (S.map Sp.hi)[k]? = some S[k].hi := by simp [hk]
  rw [e] at e1
  by_cases h2 : k + 1 < S.length
  · rw [dif_pos h2]
    rw [List.getElem?_append_left (by simp; omega)] at e1
    simp [h2] at e1
    exact e1.symm
  · rw [dif_neg h2]
    rw [List.getElem?_append_right (by simp; omega)] at e1
    have : k - ((S.map Sp.lo).tail.map (· - 1)).length = 0 := by simp; omega
    rw [this] at e1
    simpa using e1.symm
theorem spell_at {C P R : List Five} {id : Int} {c : Five} (g : Good C P R) (hf : findC C id = some c) {ts : List Th} (hp : ts.Perm (thAll P R c)) (hs : SortedT ts) {k : Nat} (hk : k < (splitS c.e ts).length) :
    ((splitS c.e ts)[k].ts.map Th.f).Perm (innZ P R c ((splitS c.e ts)[k].lo, (splitS c.e ts)[k].hi)) := by
  obtain ⟨t, r, rfl, hb, hty⟩ := head_beg g hf hp hs
  have hL := splitS_l c.e t r hb
  have hap := beg_apart g hf hp
  have hps := List.pairwise_cons.1 hs
  have hrise : ((splitS c.e (t :: r)).map Sp.lo).Pairwise (fun a b : Int => a < b) := by
    rw [hL.lo, List.pairwise_map, List.pairwise_filter]
    refine (hs.and hap).imp ?_
    intro a b h ha hb
    have h2 := h.2 ha hb
    have h1 := h.1
    rw [cmpT_neg] at h1
    omega
  have hyr : c.b ≤ (splitS c.e (t :: r))[k].lo ∧ (splitS c.e (t :: r))[k].lo ≤ 4000 := by
    have hm : (splitS c.e (t :: r))[k].lo ∈ ((t :: r).filter begB).map Th.y := by
      rw [← hL.lo]
      exact List.mem_map_of_mem (List.getElem_mem hk)
    obtain ⟨u, hu, he⟩ := List.mem_map.1 hm
    have hu := (List.mem_filter.1 hu).1
    rw [← he]
    refine ⟨?_, (thAll_ok g hf u (hp.mem_iff.1 hu)).1.1.2⟩
    rcases List.mem_cons.1 hu with rfl | hu
    · omega
    · have := hps.1 u hu
      rw [cmpT_neg] at this
      omega
  obtain ⟨k1, s1, e1, e2, e3, e4, e5, e6⟩ := spells_pick g hf hp hs hyr.1 hyr.2
  generalize splitS c.e (t :: r) = S at *
  obtain ⟨hk1, rfl⟩ := List.getElem?_eq_some_iff.1 e1
  have lt : ∀ i j, (hi : i < S.length) → (hj : j < S.length) → i < j → S[i].lo < S[j].lo := by
    intro i j hi hj hij
    have := List.pairwise_iff_getElem.1 hrise i j (by simpa using hi) (by simpa using hj) hij
    simpa using this
  have hkk : k1 = k := by
    rcases Nat.lt_trichotomy k1 k with h | h | h
    · exfalso
      have h1 := hi_at hL hk1
      rw [dif_pos (by omega)] at h1
      have h2 : S[k1 + 1].lo ≤ S[k].lo := by
        rcases Nat.lt_or_ge (k1 + 1) k with h3 | h3
        · exact Int.le_of_lt (lt _ _ _ _ h3)
        · have : k1 + 1 = k := by omega
          subst this
          exact Int.le_refl _
      omega
    · exact h
    · exfalso
      have h1 := hi_at hL hk
      rw [dif_pos (by omega)] at h1
      have h2 := lt k (k + 1) hk (by omega) (by omega)
      exact e3 k S[k] h (List.getElem?_eq_getElem hk) ⟨Int.le_refl _, by omega⟩
  subst hkk
  exact e6
theorem flat_perm {α β : Type} (f : α → List β) : ∀ S S' : List α, S.length = S'.length → (∀ k, (h : k < S.length) → (h' : k < S'.length) → (f S[k]).Perm (f S'[k])) → (S.flatMap f).Perm (S'.flatMap f) := by
  intro S
  induction S with
  | nil => intro S' h _; obtain rfl := List.length_eq_zero_iff.1 h.symm; exact .refl _
  | cons a S ih =>
    intro S' h hk
    cases S' with
    | nil => simp at h
    | cons b S' =>
      rw [List.flatMap_cons, List.flatMap_cons]
      refine List.Perm.append ?_ (ih S' (by simpa using h) fun k h h' => ?_)
      · exact hk 0 (by simp) (by simp)
      · exact hk (k + 1) (by simpa using h) (by simpa using h')
/-- the sorted pairs of a chain are determined -/
theorem cl_unique {C P R : List Five} {id : Int} {c : Five} (g : Good C P R) (hf : findC C id = some c) {l l' : List (Int × Int)} (h : ClC P R c l) (h' : ClC P R c l') : l = l' := by
  obtain ⟨ts, hp, hs, rfl⟩ := h
  obtain ⟨ts', hp', hs', rfl⟩ := h'
  refine sortP_perm ?_
  have hL : InvL ts (splitS c.e ts) := by
    obtain ⟨t, r, rfl, hb, _⟩ := head_beg g hf hp hs
    exact splitS_l c.e t r hb
  have hL' : InvL ts' (splitS c.e ts') := by
    obtain ⟨t, r, rfl, hb, _⟩ := head_beg g hf hp' hs'
    exact splitS_l c.e t r hb
  have hlo : (splitS c.e ts).map Sp.lo = (splitS c.e ts').map Sp.lo := by
    rw [hL.lo, hL'.lo]
    exact begs_eq (hp.trans hp'.symm) hs hs'
  have hhi : (splitS c.e ts).map Sp.hi = (splitS c.e ts').map Sp.hi := by
    rw [hL.hi, hL'.hi, begs_eq (hp.trans hp'.symm) hs hs']
  have hln : (splitS c.e ts).length = (splitS c.e ts').length := by simpa using congrArg List.length hlo
  refine flat_perm _ _ _ hln fun k h h' => ?_
  have h1 := spell_at g hf hp hs h
  have h2 := spell_at g hf hp' hs' h'
  have e1 : (splitS c.e ts)[k].lo = (splitS c.e ts')[k].lo := by
    have : ((splitS c.e ts).map Sp.lo)[k]? = ((splitS c.e ts').map Sp.lo)[k]? := by rw [hlo]
    simpa [h, h'] using this
  have e2 : (splitS c.e ts)[k].hi = (splitS c.e ts')[k].hi := by
    have : ((splitS c.e ts).map Sp.hi)[k]? = ((splitS c.e ts').map Sp.hi)[k]? := by rw [hhi]
    simpa [h, h'] using this
  have e3 := (splitS_inv c.e ts).we _ (List.getElem_mem h)
  have e4 := (splitS_inv c.e ts').we _ (List.getElem_mem h')
  rw [e3, e4]
  rw [e1, e2] at h1
  exact pairsOf_perm (h1.trans h2.symm)
end Go.Proofs.Ytaggjclaehigjaa
namespace Go.Proofs.Ytaggjclaehigjaa
open Go.RowKit
open Classical in
/-- the sorted pairs of a chain -/
noncomputable def clF (P R : List Five) (c : Five) : List (Int × Int) := if h : ∃ l, ClC P R c l then h.choose else []
theorem clF_eq {C P R : List Five} {id : Int} {c : Five} (g : Good C P R) (hf : findC C id = some c) {l : List (Int × Int)} (h : ClC P R c l) : l = clF P R c := by
  have hx : ∃ l, ClC P R c l := ⟨l, h⟩
  unfold clF
  rw [dif_pos hx]
  exact cl_unique g hf h hx.choose_spec
theorem clash_any (W : World) (C P R : List Five) (v : Value) (w : World) (hX : Ext W w) (hv : Wk w v C P R) :
    Calls Try.prog 29 #[v] w fun e w' => e = .returned (clashV (clsL C P R (clF P R)) (chk C P R)) ∧ Ext W w' :=
  Clash_any W C P R v (clF P R) w hX hv fun hE _ hc _ h => clF_eq (chk_zero.1 hE) (find_self (chk_zero.1 hE) hc) h
theorem clashesL_any (W : World) (C P R : List Five) (v : Value) (w : World) (hX : Ext W w) (hv : Wk w v C P R) :
    Calls Try.prog 75 #[v] w fun e w' => (∃ v', e = .returned (.tuple #[v', .int .i64 (chk C P R)]) ∧ Sl 2 encI w' v' (clsL C P R (clF P R))) ∧ Ext W w' :=
  Clashes_any W C P R v (clF P R) w hX hv fun hE _ hc _ h => clF_eq (chk_zero.1 hE) (find_self (chk_zero.1 hE) hc) h
end Go.Proofs.Ytaggjclaehigjaa
namespace Go.Proofs.Ytaggjclaehigjaa
open Go.RowKit
set_option maxRecDepth 100000 in
set_option maxHeartbeats 2000000 in
theorem made_any (w : World) : Calls Try.prog 47 #[] w fun e w' => ∃ n, e = .returned (.agg #[.slice (some ⟨n, 0, none⟩) 1 1, .slice (some ⟨n + 1, 0, none⟩) 1 1, .slice none 0 0]) ∧ w.heap.size ≤ n ∧ Ext w w' ∧
    w'.heap[n]? = some (.cells #[.int .i64 1, .int .i64 1800, .int .i64 10000, .int .i64 10010, .int .i64 5] 53) ∧ w'.heap[n + 1]? = some (.cells #[.int .i64 3, .int .i64 1, .int .i64 1810, .int .i64 10020, .int .i64 10030] 72) := by
  go_enter Try.func47, Try.ntmps47
  go_wp2_with fail
  have hr0 := heap_alloc_new w (.cells #[.slice (some ⟨w.heap.size + 1, 0, none⟩) 1 1, .slice (some ⟨w.heap.size + 1 + 1, 0, none⟩) 1 1, .slice none 0 0] 26)
  have hr1 := heap_alloc_new (w.alloc (.cells #[.slice (some ⟨w.heap.size + 1, 0, none⟩) 1 1, .slice (some ⟨w.heap.size + 1 + 1, 0, none⟩) 1 1, .slice none 0 0] 26)) (.cells #[.int .i64 1, .int .i64 1800, .int .i64 10000, .int .i64 10010, .int .i64 5] 53)
  have hr2 := heap_alloc_new ((w.alloc (.cells #[.slice (some ⟨w.heap.size + 1, 0, none⟩) 1 1, .slice (some ⟨w.heap.size + 1 + 1, 0, none⟩) 1 1, .slice none 0 0] 26)).alloc (.cells #[.int .i64 1, .int .i64 1800, .int .i64 10000, .int .i64 10010, .int .i64 5] 53)) (.cells #[.int .i64 3, .int .i64 1, .int .i64 1810, .int .i64 10020, .int .i64 10030] 72)
  rw [World.size_alloc] at hr1 hr2
  rw [World.size_alloc] at hr2
  have hb := (((Ext.refl (w.alloc (.cells #[.slice (some ⟨w.heap.size + 1, 0, none⟩) 1 1, .slice (some ⟨w.heap.size + 1 + 1, 0, none⟩) 1 1, .slice none 0 0] 26))).alloc (.cells #[.int .i64 1, .int .i64 1800, .int .i64 10000, .int .i64 10010, .int .i64 5] 53)).alloc (.cells #[.int .i64 3, .int .i64 1, .int .i64 1810, .int .i64 10020, .int .i64 10030] 72)).block hr0
  have r0 := cell_at hb 0
  have r1 := cell_at hb 1
  have r2 := cell_at hb 2
  refine bodyPost_ret (v := .agg #[.slice (some ⟨w.heap.size + 1, 0, none⟩) 1 1, .slice (some ⟨w.heap.size + 1 + 1, 0, none⟩) 1 1, .slice none 0 0]) (by simp [results, Try.results47, r0, r1, r2, go_sem]) rfl ⟨w.heap.size + 1, rfl, by omega, (((Ext.refl w).alloc _).alloc _).alloc _, ((Ext.refl _).alloc _).block hr1, hr2⟩
end Go.Proofs.Ytaggjclaehigjaa
namespace Go.Proofs.Ytaggjclaehigjaa
open Go.RowKit
def fewB (C P R : List Five) : Bool := decide (C.length ≤ 40) && decide (P.length + R.length ≤ 80)
set_option maxRecDepth 100000 in
set_option maxHeartbeats 2000000 in
theorem few_any (W : World) (C P R : List Five) (v : Value) (w : World) (hX : Ext W w) (hv : Wk w v C P R) : Calls Try.prog 14 #[v] w fun e w' => e = .returned (.bool (fewB C P R)) ∧ Ext W w' := by
  obtain ⟨vC, vP, vR, rfl, hC, hP, hR, hn⟩ := hv
  obtain ⟨aC, capC, rfl, hlC, hmC, -⟩ := hC.parts
  obtain ⟨aP, capP, rfl, hlP, hmP, -⟩ := hP.parts
  obtain ⟨aR, capR, rfl, hlR, hmR, -⟩ := hR.parts
  unfold fewB
  clear hC hP hR
  generalize C.length = c at *
  generalize P.length = p at *
  generalize R.length = r at *
  have e : ((p : Int) + (r : Int)) = ((p + r : Nat) : Int) := by omega
  have e2 : wrap64 ((p : Int) + (r : Int)) = (p : Int) + (r : Int) := IntWalk.wrap64_in _ (by omega)
  have hr : (decide (c ≤ 40) && decide (p + r ≤ 80)) = (decide ((c : Int) ≤ 40) && decide ((p : Int) + (r : Int) ≤ 80)) := by
    congr 1
    · exact decide_eq_decide.2 (by omega)
    · exact decide_eq_decide.2 (by omega)
  have HR := Lib.hid hr
  clear hr e
  cases k1 : decide ((c : Int) ≤ 40)
  · go_enter Try.func14, Try.ntmps14
    go_wp2_with fail
    go_ret
    exact ⟨by rw [HR.out, k1]; rfl, hX.trans ((Ext.refl w).alloc _)⟩
  · cases k2 : decide ((p : Int) + (r : Int) ≤ 80)
    all_goals
      go_enter Try.func14, Try.ntmps14
      go_wp2_with fail
      go_ret
      exact ⟨by rw [HR.out, k1, k2]; rfl, hX.trans ((Ext.refl w).alloc _)⟩
/-- the answer of law.long -/
def isLong (r : (Int × Int) × Int) (lo hi : Int) : Bool := r.2 == 0 && (r.1.1 == lo && r.1.2 == hi)
set_option maxRecDepth 100000 in
set_option maxHeartbeats 2000000 in
theorem lawlong_any (W : World) (C P R : List Five) (v : Value) (y lo hi : Int) (w : World) (hX : Ext W w) (hv : Wk w v C P R) : Calls Try.prog 48 #[v, .int .i64 y, .int .i64 lo, .int .i64 hi] w fun e w' => e = .returned (.bool (isLong (longR C P R 1 y) lo hi)) ∧ Ext W w' := by
  have HLG := Lib.hid (fun w' (x : Ext w w') => Long_any w' C P R v 1 y w' (Ext.refl _) (hv.ext x))
  obtain ⟨vC, vP, vR, rfl, _⟩ := hv
  have hX0 : Ext w (w.alloc (.cells #[vC, vP, vR] 26)) := (Ext.refl w).alloc _
  obtain ⟨⟨⟨a, b⟩, e⟩, hr⟩ : ∃ r, longR C P R 1 y = r := ⟨_, rfl⟩
  rw [hr] at HLG ⊢
  clear hr
  have hs : Hid (isLong ((a, b), e) lo hi = (e == 0 && (a == lo && b == hi))) := rfl
  generalize isLong ((a, b), e) lo hi = z at hs ⊢
  cases k1 : (e == 0)
  · go_enter Try.func48, Try.ntmps48
    go_wp2_with (go_at_call 20; with_reducible refine (HLG.out _ hX0).mono ?_; rintro e w1 ⟨rfl, hX1⟩)
    go_ret
    exact ⟨by rw [hs.out, k1]; rfl, (hX.trans (hX0.trans hX1)).alloc _⟩
  · cases k2 : (a == lo) <;> cases k3 : (b == hi)
    all_goals
      go_enter Try.func48, Try.ntmps48
      go_wp2_with (go_at_call 20; with_reducible refine (HLG.out _ hX0).mono ?_; rintro e w1 ⟨rfl, hX1⟩)
      go_ret
      exact ⟨by rw [hs.out, k1, k2, k3]; rfl, (hX.trans (hX0.trans hX1)).alloc _⟩
end Go.Proofs.Ytaggjclaehigjaa
namespace Go.Proofs.Ytaggjclaehigjaa
open Go.RowKit
def xc : Five := ⟨1, 1800, 10000, 10010, 5⟩
def xC : List Five := [xc]
def xP1 : List Five := [⟨3, 1, 1810, 10020, 10030⟩]
def xP2 : List Five := [⟨3, 1, 1810, 10020, 10030⟩, ⟨4, 1, 1804, 10022, 10025⟩]
def xP3 : List Five := [⟨3, 1, 1810, 10020, 10030⟩, ⟨5, 1, 1802, 10025, 10026⟩]
def xR : List Five := [⟨8, 1, 1815, 10000, 10000⟩]
theorem x_dist : distR xC xP1 [] 1 1810 3 50 1 = ((349, 353), 0) := by kernel_rfl
theorem x_long1 : isLong (longR xC xP1 [] 1 1800) 10000 10010 = true := by kernel_rfl
theorem x_long2 : isLong (longR xC xP1 [] 1 1805) 10000 10030 = true := by kernel_rfl
theorem x_long3 : isLong (longR xC xP1 [] 1 1810) 10020 10030 = true := by kernel_rfl
theorem x_long4 : isLong (longR xC xP1 [] 1 1820) 10020 10080 = true := by kernel_rfl
theorem x_long5 : isLong (longR xC xP2 [] 1 1800) 10002 10010 = true := by kernel_rfl
theorem x_long6 : isLong (longR xC xP2 [] 1 1804) 10022 10025 = true := by kernel_rfl
theorem x_spell1 : spellR xC xP3 xR 1 1810 = ((1800, 1814), 0) := by kernel_rfl
theorem x_spell2 : spellR xC xP3 xR 1 1815 = ((1815, 4000), 0) := by kernel_rfl
theorem x_chk : chk xC xP3 [] = 0 := by kernel_rfl
theorem x_agE : agE xC xP1 [] 1 1805 = 0 := by kernel_rfl
theorem perm_two {α : Type} {a b : α} {l : List α} (h : l.Perm [a, b]) : l = [a, b] ∨ l = [b, a] := by
  have hl := h.length_eq
  match l, hl with
  | [x, y], _ =>
    have hx : x = a ∨ x = b := by simpa using h.mem_iff.1 (show x ∈ [x, y] by simp)
    rcases hx with rfl | rfl
    · have := (List.perm_cons x).1 h
      rw [List.perm_singleton] at this
      exact .inl (by rw [this])
    · have h2 : [x, y].Perm [x, a] := h.trans (List.Perm.swap _ _ _)
      have := (List.perm_cons x).1 h2
      rw [List.perm_singleton] at this
      exact .inr (by rw [this])
theorem x_rest {l : List Four} (h : l.Perm (innZ xP1 [] xc (spellZ [] xc 1805))) : foldLo 5 1805 (limLo 5 1805 l) l = 0 ∧ foldHi 5 1805 (limHi 5 1805 l) l = 3 := by
  have e : innZ xP1 [] xc (spellZ [] xc 1805) = [⟨0, 1800, 10000, 10010⟩, ⟨3, 1810, 10020, 10030⟩] := by kernel_rfl
  rw [e] at h
  rcases perm_two h with rfl | rfl
  · exact ⟨by kernel_rfl, by kernel_rfl⟩
  · exact ⟨by kernel_rfl, by kernel_rfl⟩
theorem x_clash : clsL xC xP3 [] (clF xP3 []) = [(0, 5)] := by
  have g := chk_zero.1 x_chk
  have hf : findC xC 1 = some xc := rfl
  have hc : clF xP3 [] xc = [(0, 5)] := by
    refine (clF_eq g hf ⟨[mkT xc, (thAll xP3 [] xc).getD 2 (mkT xc), (thAll xP3 [] xc).getD 1 (mkT xc)], ?_, ?_, ?_⟩).symm
    · have : thAll xP3 [] xc = [mkT xc, (thAll xP3 [] xc).getD 1 (mkT xc), (thAll xP3 [] xc).getD 2 (mkT xc)] := rfl
      rw [this]
      exact (List.Perm.swap _ _ _).cons _
    · unfold SortedT
      simp only [cmpT_neg]
      decide
    · have : prS (splitS xc.e [mkT xc, (thAll xP3 [] xc).getD 2 (mkT xc), (thAll xP3 [] xc).getD 1 (mkT xc)]) = [(0, 5)] := by kernel_rfl
      rw [this]
      simp [sortP]
  unfold clsL
  rw [if_pos x_chk]
  show [xc].flatMap _ = _
  simp [hc]
end Go.Proofs.Ytaggjclaehigjaa
namespace Go.Proofs.Ytaggjclaehigjaa
open Go.RowKit
theorem fives_one {w : World} {n T : Nat} {x : Five} (h : w.heap[n]? = some (.cells #[.int .i64 x.a, .int .i64 x.b, .int .i64 x.c, .int .i64 x.d, .int .i64 x.e] T)) : Fives w (.slice (some ⟨n, 0, none⟩) 1 1) [x] :=
  Sl.one (fun j u hj => by rw [cell_at h]; simpa [enc5] using hj)
theorem own_one {w : World} {n T base : Nat} {x : Five} (hb : base ≤ n) (h : w.heap[n]? = some (.cells #[.int .i64 x.a, .int .i64 x.b, .int .i64 x.c, .int .i64 x.d, .int .i64 x.e] T)) : Own T 5 enc5 base w (.slice (some ⟨n, 0, none⟩) 1 1) [x] :=
  ⟨rfl, .inr ⟨n, 1, _, rfl, hb, h, Nat.le_refl _, by simp [maxLen], by simp, rfl⟩⟩
theorem xrests (v : Value) (w : World) (hv : Wk w v xC xP1 []) : Calls Try.prog 22 #[v, .int .i64 1, .int .i64 1805] w fun e w' => e = .returned (.tuple #[.int .i64 0, .int .i64 3, .int .i64 0]) ∧ Ext w w' := by
  refine (Rests_any w xC xP1 [] v 1 1805 w (Ext.refl _) hv).mono ?_
  rintro e w2 ⟨hX, ⟨h, -⟩ | ⟨-, c, l, g, hf, hy, hp, rfl⟩⟩
  · exact absurd x_agE h
  · obtain rfl : xc = c := Option.some.inj hf
    obtain ⟨e1, e2⟩ := x_rest hp
    refine ⟨?_, hX⟩
    have e3 : xc.e = 5 := rfl
    rw [e3, e1, e2]
theorem xdist (v : Value) (w : World) (hv : Wk w v xC xP1 []) : Calls Try.prog 25 #[v, .agg #[.int .i64 1, .int .i64 1810, .int .i64 3, .int .i64 50, .int .i64 1]] w fun e w' => e = .returned (.tuple #[.agg #[.int .i64 349, .int .i64 353], .int .i64 0]) ∧ Ext w w' := by
  refine (Distance_any w xC xP1 [] v 1 1810 3 50 1 w (Ext.refl _) hv).mono ?_
  rintro e w2 ⟨rfl, hX⟩
  exact ⟨by rw [x_dist], hX⟩
theorem xlong {P : List Five} {y lo hi : Int} (h : isLong (longR xC P [] 1 y) lo hi = true) (v : Value) (w : World) (hv : Wk w v xC P []) : Calls Try.prog 48 #[v, .int .i64 y, .int .i64 lo, .int .i64 hi] w fun e w' => e = .returned (.bool true) ∧ Ext w w' := by
  refine (lawlong_any w xC P [] v y lo hi w (Ext.refl _) hv).mono ?_
  rintro e w2 ⟨rfl, hX⟩
  exact ⟨by rw [h], hX⟩
theorem xclash (v : Value) (w : World) (hv : Wk w v xC xP3 []) : Calls Try.prog 29 #[v] w fun e w' => e = .returned (.tuple #[.int .i64 0, .int .i64 5, .bool true, .int .i64 0]) ∧ Ext w w' := by
  refine (clash_any w xC xP3 [] v w (Ext.refl _) hv).mono ?_
  rintro e w2 ⟨rfl, hX⟩
  exact ⟨by rw [x_clash, x_chk]; rfl, hX⟩
theorem xspell {y : Int} {r : (Int × Int) × Int} (h : spellR xC xP3 xR 1 y = r) (v : Value) (w : World) (hv : Wk w v xC xP3 xR) : Calls Try.prog 16 #[v, .int .i64 1, .int .i64 y] w fun e w' => e = .returned (spanT r) ∧ Ext w w' := by
  refine (Spell_any w xC xP3 xR v 1 y w (Ext.refl _) hv).mono ?_
  rintro e w2 ⟨rfl, hX⟩
  exact ⟨by rw [h], hX⟩
theorem grown_keep {w w' : World} {r o l c b : Nat} {ob : Obj} (hg : w.grownBy w' (Value.slice (some ⟨r, o, none⟩) l c).ownBlock) (h : w.heap[b]? = some ob) (hne : b ≠ r) : w'.heap[b]? = some ob :=
  (hg.block b (Array.getElem?_eq_some_iff.1 h).1 (fun e => hne (by injection e))).trans h
theorem two_form {base : Nat} {w : World} {v : Value} {x : Five} (h : Own 72 5 enc5 base w v (xP1 ++ [x])) : ∃ g cap, v = .slice (some ⟨g, 0, none⟩) 2 cap ∧ base ≤ g ∧ 2 ≤ cap ∧ cap ≤ maxLen ∧ ∃ cs, w.heap[g]? = some (.cells cs 72 (0, 0)) := by
  obtain ⟨g, cap, h1, h2, h3, h4, h5, -⟩ := Own.form h (by simp) enc5_len
  exact ⟨g, cap, h1, h2, h3, h4, h5⟩
theorem box3 {w : World} {B T : Nat} {a b c : Value} {ro : Nat × Nat} (h : w.heap[B]? = some (.cells #[a, b, c] T ro)) : w.cell? ⟨B, 0, none⟩ = some a ∧ w.cell? ⟨B, 1, none⟩ = some b ∧ w.cell? ⟨B, 2, none⟩ = some c :=
  ⟨cell_at h 0, cell_at h 1, cell_at h 2⟩
theorem set_same {w : World} {b T o : Nat} {cs : Array Value} {ro : Nat × Nat} {u : Value} (h : w.heap[b]? = some (.cells cs T ro)) : (w.setCell ⟨b, o, none⟩ u).heap[b]? = some (.cells (cs.setIfInBounds o u) T ro) := by
  simp [World.setCell, Array.getElem?_modify, h]
theorem set_other {w : World} {b c o : Nat} {ob : Obj} {u : Value} (h : w.heap[c]? = some ob) (hne : c ≠ b) : (w.setCell ⟨b, o, none⟩ u).heap[c]? = some ob :=
  (Below.heap_setCell w ⟨b, o, none⟩ u c hne).trans h
theorem infoPf : (Try.prog.info? 72).map (fun i => (i.zero, i.size, i.bytes)) = some (some (.agg #[.int .i64 0, .int .i64 0, .int .i64 0, .int .i64 0, .int .i64 0]), 5, 40) := by kernel_rfl
set_option maxRecDepth 100000 in
set_option maxHeartbeats 8000000 in
theorem sanity_any (W : World) (w : World) (hX : Ext W w) : Calls Try.prog 15 #[] w fun e w' => e = .returned (.bool true) ∧ Ext W w' := by
  go_enter Try.func15, Try.ntmps15
  go_wp2_with fail
  with_reducible refine (made_any _).mono ?_
  rintro e w1 ⟨n, rfl, hn, hX1, hc, hp⟩
  have hW1 := hX.trans hX1
  have zn : n + 1 < w1.heap.size := (Array.getElem?_eq_some_iff.1 hp).1
  have kV : Wk w1 (.agg #[.slice (some ⟨n, 0, none⟩) 1 1, .slice (some ⟨n + 1, 0, none⟩) 1 1, .slice none 0 0]) xC xP1 [] := ⟨_, _, _, rfl, fives_one hc, fives_one hp, Sl.nil _ _ _, by simp [xC, xP1]⟩
  go_wp2_with fail
  have hB := heap_alloc_new w1 (.cells #[.slice (some ⟨n, 0, none⟩) 1 1, .slice (some ⟨n + 1, 0, none⟩) 1 1, .slice none 0 0] 26)
  obtain ⟨wb, hwb⟩ : ∃ wb, w1.alloc (.cells #[.slice (some ⟨n, 0, none⟩) 1 1, .slice (some ⟨n + 1, 0, none⟩) 1 1, .slice none 0 0] 26) = wb := ⟨_, rfl⟩
  have hXb : Ext w1 wb := hwb ▸ (Ext.refl _).alloc _
  rw [hwb] at hB ⊢
  have hWb := hW1.trans hXb
  have hp := hXb.block hp
  have hc := hXb.block hc
  have kb := kV.ext hXb
  have HR := Lib.hid (fun w' (q : Ext wb w') => xrests _ w' (kb.ext q))
  have HD := Lib.hid (fun w' (q : Ext wb w') => xdist _ w' (kb.ext q))
  have H1 := Lib.hid (fun w' (q : Ext wb w') => xlong x_long1 _ w' (kb.ext q))
  have H2 := Lib.hid (fun w' (q : Ext wb w') => xlong x_long2 _ w' (kb.ext q))
  have H3 := Lib.hid (fun w' (q : Ext wb w') => xlong x_long3 _ w' (kb.ext q))
  have H4 := Lib.hid (fun w' (q : Ext wb w') => xlong x_long4 _ w' (kb.ext q))
  obtain ⟨B, hBe⟩ : ∃ B, w1.heap.size = B := ⟨_, rfl⟩
  rw [hBe] at hB zn ⊢
  clear kV hwb
  have cb0 := cell_at hB 0
  have cb1 := cell_at hB 1
  have cb2 := cell_at hB 2
  simp only [List.getElem?_toArray, List.getElem?_cons_zero, List.getElem?_cons_succ] at cb0 cb1 cb2
  with_reducible refine (HR.out _ (Ext.refl _)).mono ?_
  rintro e w2 ⟨rfl, hX2⟩
  have c0 := hX2.cell cb0
  have c1 := hX2.cell cb1
  have c2 := hX2.cell cb2
  go_wp2_with fail
  with_reducible refine (HD.out _ hX2).mono ?_
  rintro e w3 ⟨rfl, hX3⟩
  have hE3 := hX2.trans hX3
  have c0 := hE3.cell cb0
  have c1 := hE3.cell cb1
  have c2 := hE3.cell cb2
  have z3 := lt_of_cell c0
  go_wp2_with fail
  have hE3a : Ext wb (w3.alloc (.cells #[.int .i64 349, .int .i64 353] 30)) := hE3.alloc _
  have s0 : (w3.alloc (.cells #[.int .i64 349, .int .i64 353] 30)).cell? ⟨w3.heap.size, 0, none⟩ = some (.int .i64 349) := cell_new w3 [_, _] _ _
  have s1 : (w3.alloc (.cells #[.int .i64 349, .int .i64 353] 30)).cell? ⟨w3.heap.size, 1, none⟩ = some (.int .i64 353) := cell_new w3 [_, _] _ _
  with_reducible refine (H1.out _ hE3a).mono ?_
  rintro e w4 ⟨rfl, hX4⟩
  have hE4 := hE3a.trans hX4
  have c0 := hE4.cell cb0
  have c1 := hE4.cell cb1
  have c2 := hE4.cell cb2
  have s0 := hX4.cell s0
  have s1 := hX4.cell s1
  generalize w3.heap.size = S at *
  go_wp2_with fail
  with_reducible refine (H2.out _ hE4).mono ?_
  rintro e w5 ⟨rfl, hX5⟩
  have hE5 := hE4.trans hX5
  have c0 := hE5.cell cb0
  have c1 := hE5.cell cb1
  have c2 := hE5.cell cb2
  have s0 := hX5.cell s0
  have s1 := hX5.cell s1
  go_wp2_with fail
  with_reducible refine (H3.out _ hE5).mono ?_
  rintro e w6 ⟨rfl, hX6⟩
  have hE6 := hE5.trans hX6
  have c0 := hE6.cell cb0
  have c1 := hE6.cell cb1
  have c2 := hE6.cell cb2
  have s0 := hX6.cell s0
  have s1 := hX6.cell s1
  go_wp2_with fail
  with_reducible refine (H4.out _ hE6).mono ?_
  rintro e w7 ⟨rfl, hX7⟩
  have hE7 := hE6.trans hX7
  have c0 := hE7.cell cb0
  have c1 := hE7.cell cb1
  have c2 := hE7.cell cb2
  have s0 := hX7.cell s0
  have s1 := hX7.cell s1
  have hneq : ∀ w, (binOp .neq 30 (.agg #[.int .i64 349, .int .i64 353]) (.agg #[.int .i64 349, .int .i64 353])).run Try.prog w = .ok (.bool false) w := fun w => by kernel_rfl
  have hp7 := hE7.block hp
  have hc7 := hE7.block hc
  have hB7 := hE7.block hB
  have z7B : B < w7.heap.size := lt_of_cell c0
  have z7n : n + 1 < w7.heap.size := (Array.getElem?_eq_some_iff.1 hp7).1
  have hO7 : Own 72 5 enc5 w.heap.size w7 (.slice (some ⟨n + 1, 0, none⟩) 1 1) xP1 := own_one (x := ⟨3, 1, 1810, 10020, 10030⟩) (by omega) hp7
  have hW7 := hWb.trans hE7
  have hnB : n + 1 < B := by omega
  have hww : w.heap.size ≤ w7.heap.size := by omega
  have hXw7 : Ext w w7 := (hX1.trans hXb).trans hE7
  clear hE7 hE6 hE5 hE4 hE3a hE3 hX7 hX6 hX5 hX4 hX3 hX2 hW1 H1 H2 H3 H4 HR HD
  go_wp2_with (at_builtin; with_reducible refine app_many 23 72 5 40 (.agg #[.int .i64 0, .int .i64 0, .int .i64 0, .int .i64 0, .int .i64 0]) enc5 enc5_len enc5_one Try.underlying23 infoPf rfl (by decide) (by decide) rfl (.tmp 68) (.tmp 71) rfl w.heap.size (.slice (some ⟨n + 1, 0, none⟩) 1 1) xP1 rfl (hO7.ext ((Ext.refl _).alloc _)) _ [⟨4, 1, 1804, 10022, 10025⟩] rfl (Sl.mk1 rfl rfl) (by decide) (by rw [World.size_alloc]; omega) ?_; intro v8 w8 hO8 hg8 hE8 hb8; obtain ⟨g, cap, rfl, hgw, hcap, hcm, hgc⟩ := two_form hO8; clear hb8; have hB8 := grown_keep hg8 (((Ext.refl _).alloc _).block hB7) (by omega); have hf8 := frozen_cells ⟨_, hB8⟩ 1; obtain ⟨c08, c18, c28⟩ := box3 hB8; have hc8 := grown_keep hg8 (((Ext.refl _).alloc _).block hc7) (by omega); have hW8 := hE8 w (Nat.le_refl _) (hXw7.alloc _))
  have hB9 := set_same (o := 1) (u := .slice (some ⟨g, 0, none⟩) 2 cap) hB8
  have hO9 := hO8.kx (kx_set (o := 1) (u := .slice (some ⟨g, 0, none⟩) 2 cap)) hB8 (by decide)
  have hc9 := set_other (o := 1) (u := .slice (some ⟨g, 0, none⟩) 2 cap) hc8 (show n ≠ B by omega)
  have hW9 : Ext w (w8.setCell ⟨B, 1, none⟩ (.slice (some ⟨g, 0, none⟩) 2 cap)) := hW8.setCell (by show w.heap.size ≤ B; omega) _
  obtain ⟨w9, hw9⟩ : ∃ w9, w8.setCell ⟨B, 1, none⟩ (.slice (some ⟨g, 0, none⟩) 2 cap) = w9 := ⟨_, rfl⟩
  rw [hw9] at hB9 hO9 hc9 hW9 ⊢
  have k9 : Wk w9 (.agg #[.slice (some ⟨n, 0, none⟩) 1 1, .slice (some ⟨g, 0, none⟩) 2 cap, .slice none 0 0]) xC xP2 [] := ⟨_, _, _, rfl, fives_one hc9, hO9.sl enc5_len, Sl.nil _ _ _, by simp [xC, xP2]⟩
  have cb := box3 hB9
  have H5 := Lib.hid (fun w' (q : Ext w9 w') => xlong x_long5 _ w' (k9.ext q))
  have H6 := Lib.hid (fun w' (q : Ext w9 w') => xlong x_long6 _ w' (k9.ext q))
  have hgB : g ≠ B := by
    rintro rfl
    obtain ⟨cs, hgc⟩ := hgc
    rw [hB8] at hgc
    cases hgc
  clear hO8 hE8 hg8 hW8 hB8 hf8 hc8 c08 c18 c28 hgc hw9 hO7 hp7 hc7 hB7
  with_reducible refine (H5.out _ (Ext.refl _)).mono ?_
  rintro e w10 ⟨rfl, hX10⟩
  have c0 := hX10.cell cb.1
  have c1 := hX10.cell cb.2.1
  have c2 := hX10.cell cb.2.2
  go_wp2_with fail
  with_reducible refine (H6.out _ hX10).mono ?_
  rintro e w11 ⟨rfl, hX11⟩
  have hE11 := hX10.trans hX11
  have c0 := hE11.cell cb.1
  have c1 := hE11.cell cb.2.1
  have c2 := hE11.cell cb.2.2
  have hO11 := hO9.ext hE11
  have hB11 := hE11.block hB9
  have hc11 := hE11.block hc9
  have hW11 := hW9.trans hE11
  obtain ⟨g', cap', hv', -, -, -, ⟨cs, hgc⟩, hcell⟩ := Own.form hO11 (by simp) enc5_len
  cases hv'
  have gf5 := frozen_cells ⟨_, hgc⟩ 5
  have gf6 := frozen_cells ⟨_, hgc⟩ 6
  have gf7 := frozen_cells ⟨_, hgc⟩ 7
  have gf8 := frozen_cells ⟨_, hgc⟩ 8
  have gf9 := frozen_cells ⟨_, hgc⟩ 9
  have h1 := hcell 1 (by simp [xP1])
  have g5 : w11.cell? ⟨g, 5, none⟩ = some (.int .i64 4) := h1 0 _ rfl
  have g6 : w11.cell? ⟨g, 6, none⟩ = some (.int .i64 1) := h1 1 _ rfl
  have g7 : w11.cell? ⟨g, 7, none⟩ = some (.int .i64 1804) := h1 2 _ rfl
  have g8 : w11.cell? ⟨g, 8, none⟩ = some (.int .i64 10022) := h1 3 _ rfl
  have g9 : w11.cell? ⟨g, 9, none⟩ = some (.int .i64 10025) := h1 4 _ rfl
  clear h1
  go_wp2_with fail
  have hgn : g ≠ n := by
    rintro rfl
    rw [hgc] at hc11
    cases hc11
  have hE12 : Ext w (((((w11.setCell ⟨g, 5, none⟩ (.int .i64 5)).setCell ⟨g, 6, none⟩ (.int .i64 1)).setCell ⟨g, 7, none⟩ (.int .i64 1802)).setCell ⟨g, 8, none⟩ (.int .i64 10025)).setCell ⟨g, 9, none⟩ (.int .i64 10026)) :=
    ((((hW11.setCell hgw _).setCell hgw _).setCell hgw _).setCell hgw _).setCell hgw _
  have hB12 := set_other (o := 9) (u := .int .i64 10026) (set_other (o := 8) (u := .int .i64 10025) (set_other (o := 7) (u := .int .i64 1802) (set_other (o := 6) (u := .int .i64 1) (set_other (o := 5) (u := .int .i64 5) hB11 hgB.symm) hgB.symm) hgB.symm) hgB.symm) hgB.symm
  have hc12 := set_other (o := 9) (u := .int .i64 10026) (set_other (o := 8) (u := .int .i64 10025) (set_other (o := 7) (u := .int .i64 1802) (set_other (o := 6) (u := .int .i64 1) (set_other (o := 5) (u := .int .i64 5) hc11 hgn.symm) hgn.symm) hgn.symm) hgn.symm) hgn.symm
  have hO12 := Own.setLast (y := ⟨5, 1, 1802, 10025, 10026⟩) (j := 4) (u := .int .i64 10026) enc5_len (Own.setLast (y := ⟨5, 1, 1802, 10025, 10025⟩) (j := 3) (u := .int .i64 10025) enc5_len (Own.setLast (y := ⟨5, 1, 1802, 10022, 10025⟩) (j := 2) (u := .int .i64 1802) enc5_len (Own.setLast (y := ⟨5, 1, 1804, 10022, 10025⟩) (j := 1) (u := .int .i64 1) enc5_len (Own.setLast (y := ⟨5, 1, 1804, 10022, 10025⟩) (j := 0) (u := .int .i64 5) enc5_len hO11 rfl) rfl) rfl) rfl) rfl
  have hO12' : Own 72 5 enc5 w.heap.size (((((w11.setCell ⟨g, 5, none⟩ (.int .i64 5)).setCell ⟨g, 6, none⟩ (.int .i64 1)).setCell ⟨g, 7, none⟩ (.int .i64 1802)).setCell ⟨g, 8, none⟩ (.int .i64 10025)).setCell ⟨g, 9, none⟩ (.int .i64 10026)) (.slice (some ⟨g, 0, none⟩) 2 cap) xP3 := hO12
  clear hO12
  obtain ⟨w12, hw12⟩ : ∃ w12, (((((w11.setCell ⟨g, 5, none⟩ (.int .i64 5)).setCell ⟨g, 6, none⟩ (.int .i64 1)).setCell ⟨g, 7, none⟩ (.int .i64 1802)).setCell ⟨g, 8, none⟩ (.int .i64 10025)).setCell ⟨g, 9, none⟩ (.int .i64 10026)) = w12 := ⟨_, rfl⟩
  rw [hw12] at hE12 hB12 hc12 hO12' ⊢
  clear hw12 hB11 hc11 hO11 hE11 hX11 hX10 c0 c1 c2 g5 g6 g7 g8 g9 gf5 gf6 gf7 gf8 gf9 hcell hgc H5 H6 k9 cb
  have k12 : Wk w12 (.agg #[.slice (some ⟨n, 0, none⟩) 1 1, .slice (some ⟨g, 0, none⟩) 2 cap, .slice none 0 0]) xC xP3 [] := ⟨_, _, _, rfl, fives_one hc12, hO12'.sl enc5_len, Sl.nil _ _ _, by simp [xC, xP3]⟩
  with_reducible refine (xclash _ w12 k12).mono ?_
  rintro e w13 ⟨rfl, hX13⟩
  have hB13 := hX13.block hB12
  have hc13 := hX13.block hc12
  have hO13 := hO12'.ext hX13
  have hW13 := hE12.trans hX13
  have hf13 := frozen_cells ⟨_, hB13⟩ 2
  obtain ⟨c0, c1, c2⟩ := box3 hB13
  have zB := lt_of_cell c0
  go_wp2_with fail
  have hE14 : Ext w ((w13.setCell ⟨B, 2, none⟩ (.slice (some ⟨w13.heap.size, 0, none⟩) 1 1)).alloc (.cells #[.int .i64 8, .int .i64 1, .int .i64 1815, .int .i64 10000, .int .i64 10000] 85)) := (hW13.setCell (by show w.heap.size ≤ B; omega) _).alloc _
  have hA14 : Ext (w13.setCell ⟨B, 2, none⟩ (.slice (some ⟨w13.heap.size, 0, none⟩) 1 1)) ((w13.setCell ⟨B, 2, none⟩ (.slice (some ⟨w13.heap.size, 0, none⟩) 1 1)).alloc (.cells #[.int .i64 8, .int .i64 1, .int .i64 1815, .int .i64 10000, .int .i64 10000] 85)) := (Ext.refl _).alloc _
  have hB14 := hA14.block (set_same (o := 2) (u := .slice (some ⟨w13.heap.size, 0, none⟩) 1 1) hB13)
  have hc14 := hA14.block (set_other (o := 2) (u := .slice (some ⟨w13.heap.size, 0, none⟩) 1 1) hc13 (show n ≠ B by omega))
  have hO14 := (hO13.kx (kx_set (o := 2) (u := .slice (some ⟨w13.heap.size, 0, none⟩) 1 1)) hB13 (by decide)).ext hA14
  have hr14 := heap_alloc_new (w13.setCell ⟨B, 2, none⟩ (.slice (some ⟨w13.heap.size, 0, none⟩) 1 1)) (.cells #[.int .i64 8, .int .i64 1, .int .i64 1815, .int .i64 10000, .int .i64 10000] 85)
  rw [World.size_setCell] at hr14
  obtain ⟨w14, hw14⟩ : ∃ w14, (w13.setCell ⟨B, 2, none⟩ (.slice (some ⟨w13.heap.size, 0, none⟩) 1 1)).alloc (.cells #[.int .i64 8, .int .i64 1, .int .i64 1815, .int .i64 10000, .int .i64 10000] 85) = w14 := ⟨_, rfl⟩
  rw [hw14] at hE14 hB14 hc14 hO14 hr14 ⊢
  clear hw14 hA14 hB13 hc13 hO13 hf13 c0 c1 c2 zB k12 hX13 hB12 hc12 hO12' hE12
  have k14 : Wk w14 (.agg #[.slice (some ⟨n, 0, none⟩) 1 1, .slice (some ⟨g, 0, none⟩) 2 cap, .slice (some ⟨w13.heap.size, 0, none⟩) 1 1]) xC xP3 xR := ⟨_, _, _, rfl, fives_one hc14, hO14.sl enc5_len, fives_one (x := ⟨8, 1, 1815, 10000, 10000⟩) hr14, by simp [xC, xP3, xR]⟩
  with_reducible refine (xspell x_spell1 _ w14 k14).mono ?_
  rintro e w15 ⟨rfl, hX15⟩
  obtain ⟨c0, c1, c2⟩ := box3 (hX15.block hB14)
  have zB := lt_of_cell c0
  go_wp2_with fail
  have hX15a : Ext w14 (w15.alloc (.cells #[.int .i64 1800, .int .i64 1814] 30)) := hX15.alloc _
  with_reducible refine (xspell x_spell2 _ _ (k14.ext hX15a)).mono ?_
  rintro e w16 ⟨rfl, hX16⟩
  have t0 : w16.cell? ⟨w15.heap.size, 0, none⟩ = some (.int .i64 1800) := hX16.cell (cell_new w15 [_, _] _ 0)
  have t1 : w16.cell? ⟨w15.heap.size, 1, none⟩ = some (.int .i64 1814) := hX16.cell (cell_new w15 [_, _] _ 1)
  have zT := lt_of_cell t0
  have heq1 : ∀ w, (binOp .eql 30 (.agg #[.int .i64 1800, .int .i64 1814]) (.agg #[.int .i64 1800, .int .i64 1814])).run Try.prog w = .ok (.bool true) w := fun w => by kernel_rfl
  have heq2 : ∀ w, (binOp .eql 30 (.agg #[.int .i64 1815, .int .i64 4000]) (.agg #[.int .i64 1815, .int .i64 4000])).run Try.prog w = .ok (.bool true) w := fun w => by kernel_rfl
  have hW16 := hX.trans (hE14.trans (hX15a.trans hX16))
  clear hneq
  go_wp2_with fail
  go_ret
  exact ⟨rfl, hW16.alloc _⟩
end Go.Proofs.Ytaggjclaehigjaa
