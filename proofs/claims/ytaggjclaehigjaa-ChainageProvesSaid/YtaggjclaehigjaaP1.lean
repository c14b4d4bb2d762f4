/- Plain laws: the spells of a chain, gathered out of its sorted things, are those of the specification. -/
import Derived.Test.YtaggjclaehigjaaV2
import Derived.Test.YtaggjclaehigjaaA2
namespace Go.Proofs.Ytaggjclaehigjaa
def nextS (S : List Sp) : Int := match S with | [] => 4000 | s :: _ => s.lo - 1
/-- the things ahead of the first beginning, and the spells behind it -/
def grp (wear : Int) : List Th → List Th × List Sp
  | [] => ([], [])
  | t :: r => if begB t then ([], ⟨t.y, nextS (grp wear r).2, wear, t :: (grp wear r).1⟩ :: (grp wear r).2) else (t :: (grp wear r).1, (grp wear r).2)
theorem fold_grp (wear : Int) (ts : List Th) : ∀ (I : List Sp) (c : Sp), c.hi = 4000 → ts.foldl (stepS wear) (I ++ [c]) = I ++ [⟨c.lo, nextS (grp wear ts).2, c.w, c.ts ++ (grp wear ts).1⟩] ++ (grp wear ts).2 := by
  induction ts with
  | nil => intro I c hc; simp [grp, nextS, ← hc]
  | cons t r ih =>
    intro I c hc
    rw [List.foldl_cons]
    cases hb : begB t with
    | true =>
      rw [stepS_beg hb, ih _ _ rfl]
      simp [grp, hb, nextS]
    | false =>
      rw [stepS_not hb, ih _ ⟨c.lo, c.hi, c.w, c.ts ++ [t]⟩ hc]
      simp [grp, hb]
theorem split_grp {wear : Int} {t : Th} {r : List Th} (hb : begB t = true) : splitS wear (t :: r) = (grp wear (t :: r)).2 := by
  unfold splitS
  rw [List.foldl_cons, stepS_nil]
  have := fold_grp wear r [] ⟨t.y, 4000, wear, [t]⟩ rfl
  simp only [List.nil_append] at this
  rw [this]
  simp [grp, hb]
/-- spells that follow one another -/
def ChainS (wear : Int) : List Sp → Prop
  | [] => True
  | s :: r => (∃ t q, s.ts = t :: q ∧ begB t = true ∧ t.y = s.lo ∧ ∀ u ∈ q, begB u = false) ∧ (∀ u ∈ s.ts, s.lo ≤ u.y ∧ u.y ≤ s.hi) ∧ s.lo ≤ s.hi ∧ s.w = wear ∧ s.hi = nextS r ∧ ChainS wear r
theorem one_beg {t : Th} (h : begB t = true) : one_ t = 0 := by simp [one_, h]
theorem one_not {t : Th} (h : begB t = false) : one_ t = 1 := by simp [one_, h]
theorem grp_law (wear : Int) : ∀ ts : List Th, SortedT ts → (∀ t ∈ ts, t.y ≤ 4000) → (ts.Pairwise fun s t => begB s = true → begB t = true → s.y ≠ t.y) →
    ChainS wear (grp wear ts).2 ∧ (∀ t ∈ (grp wear ts).1, begB t = false ∧ t.y ≤ nextS (grp wear ts).2) ∧ ts = (grp wear ts).1 ++ (grp wear ts).2.flatMap (·.ts) ∧ nextS (grp wear ts).2 ≤ 4000 ∧
    (∀ s r, (grp wear ts).2 = s :: r → s.lo ∈ ts.map (·.y)) := by
  intro ts
  induction ts with
  | nil => intro _ _ _; simp [grp, ChainS, nextS]
  | cons t r ih =>
    intro hs hy hd
    obtain ⟨i1, i2, i3, i4, i5⟩ := ih (List.pairwise_cons.1 hs).2 (fun u hu => hy u (by simp [hu])) (List.pairwise_cons.1 hd).2
    have hs1 := (List.pairwise_cons.1 hs).1
    have hd1 := (List.pairwise_cons.1 hd).1
    have key : ∀ u ∈ r, t.y ≤ u.y ∧ (t.y = u.y → one_ t ≤ one_ u) := by
      intro u hu
      have := hs1 u hu
      rw [cmpT_neg] at this
      omega
    -- the head of the spells behind is a beginning of r
    have hhead : ∀ s q, (grp wear r).2 = s :: q → ∃ b ∈ r, begB b = true ∧ b.y = s.lo := by
      intro s q e
      rw [e] at i1
      obtain ⟨b, qq, hb1, hb2, hb3, _⟩ := i1.1
      refine ⟨b, ?_, hb2, hb3⟩
      rw [i3, e]
      simp [hb1]
    have hty : t.y ≤ 4000 := hy t (by simp)
    cases hb : begB t with
    | true =>
      simp only [grp, hb, if_true]
      have hlt : t.y ≤ nextS (grp wear r).2 := by
        unfold nextS
        split
        · exact hty
        · rename_i s q e
          obtain ⟨b, hbm, hb2, hb3⟩ := hhead s q e
          have h1 := (key b hbm).1
          have h2 := hd1 b hbm hb hb2
          omega
      refine ⟨⟨⟨t, _, rfl, hb, rfl, fun u hu => (i2 u hu).1⟩, ?_, hlt, rfl, rfl, i1⟩, by simp, ?_, by simp only [nextS]; omega, ?_⟩
      · intro u hu
        rcases List.mem_cons.1 hu with rfl | hu
        · exact ⟨Int.le_refl _, hlt⟩
        · have hur : u ∈ r := by rw [i3]; exact List.mem_append_left _ hu
          exact ⟨(key u hur).1, (i2 u hu).2⟩
      · simp only [List.flatMap_cons, List.nil_append, List.cons_append]
        exact congrArg (t :: ·) i3
      · intro s q e
        injection e with e _
        subst e
        simp
    | false =>
      simp only [grp, hb, Bool.false_eq_true, if_false]
      refine ⟨i1, ?_, by rw [List.cons_append, ← i3], i4, fun s q e => by simp only [List.map_cons]; exact List.mem_cons_of_mem _ (i5 s q e)⟩
      intro u hu
      rcases List.mem_cons.1 hu with rfl | hu
      · refine ⟨hb, ?_⟩
        unfold nextS
        split
        · exact hty
        · rename_i s q e
          obtain ⟨b, hbm, hb2, hb3⟩ := hhead s q e
          have h1 := key b hbm
          rw [one_not hb, one_beg hb2] at h1
          omega
      · exact i2 u hu
theorem chain_lo {wear : Int} {s : Sp} {r : List Sp} (h : ChainS wear (s :: r)) : ∀ q ∈ r, ∀ u ∈ q.ts, s.hi < u.y ∧ s.hi < q.lo := by
  induction r generalizing s with
  | nil => intro q hq; simp at hq
  | cons q0 r ih =>
    intro q hq u hu
    have hc := h.2.2.2.2.2
    have hhi : s.hi = q0.lo - 1 := h.2.2.2.2.1
    rcases List.mem_cons.1 hq with rfl | hq
    · have := (hc.2.1 u hu).1
      omega
    · have := ih hc q hq u hu
      have := hc.2.2.1
      omega
def inS (s : Sp) (t : Th) : Bool := inB t.y s.lo s.hi
/-- the spell that has a year -/
structure PickS (S : List Sp) (wear y : Int) (k : Nat) (s : Sp) : Prop where
  at_ : S[k]? = some s
  le : s.lo ≤ y ∧ y ≤ s.hi
  fst : ∀ j q, j < k → S[j]? = some q → ¬ (q.lo ≤ y ∧ y ≤ q.hi)
  we : s.w = wear
  ts : (S.flatMap (·.ts)).filter (inS s) = s.ts
  lo : ∀ t ∈ S.flatMap (·.ts), begB t = true → t.y ≤ y → t.y ≤ s.lo
  hi : ∀ t ∈ S.flatMap (·.ts), begB t = true → y < t.y → s.hi < t.y
  lo1 : ∃ t ∈ S.flatMap (·.ts), begB t = true ∧ t.y = s.lo
  hi1 : s.hi = 4000 ∨ ∃ t ∈ S.flatMap (·.ts), begB t = true ∧ t.y = s.hi + 1
theorem chain_pick {wear y : Int} : ∀ (S : List Sp) (s0 : Sp) (r0 : List Sp), S = s0 :: r0 → ChainS wear S → s0.lo ≤ y → y ≤ 4000 → ∃ k s, PickS S wear y k s := by
  intro S
  induction S with
  | nil => intro s0 r0 e; cases e
  | cons s r ih =>
    intro s0 r0 e hc h1 h2
    injection e with e1 e2
    subst e1
    have hlo := chain_lo hc
    obtain ⟨⟨t, q, ht1, ht2, ht3, ht4⟩, hrng, hle, hw, hhi, hc2⟩ := hc
    have hone : ∀ u ∈ s.ts, begB u = true → u = t := by
      intro u hu hb
      rw [ht1] at hu
      rcases List.mem_cons.1 hu with rfl | hu
      · rfl
      · rw [ht4 u hu] at hb; cases hb
    by_cases hy : y ≤ s.hi
    · refine ⟨0, s, rfl, ⟨h1, hy⟩, by omega, hw, ?_, ?_, ?_, ⟨t, by simp [ht1], ht2, ht3⟩, ?_⟩
      · rw [List.flatMap_cons, List.filter_append, List.filter_eq_self.2, List.filter_eq_nil_iff.2, List.append_nil]
        · intro u hu
          obtain ⟨q', hq', hu'⟩ := List.mem_flatMap.1 hu
          have := (hlo q' hq' u hu').1
          simp only [inS, inB_iff]
          omega
        · intro u hu
          simp only [inS, inB_iff]
          exact hrng u hu
      · intro u hu hb hy'
        rw [List.flatMap_cons, List.mem_append] at hu
        rcases hu with hu | hu
        · rw [hone u hu hb]; omega
        · obtain ⟨q', hq', hu'⟩ := List.mem_flatMap.1 hu
          have := (hlo q' hq' u hu').1
          omega
      · intro u hu hb hy'
        rw [List.flatMap_cons, List.mem_append] at hu
        rcases hu with hu | hu
        · rw [hone u hu hb] at hy'; omega
        · obtain ⟨q', hq', hu'⟩ := List.mem_flatMap.1 hu
          exact (hlo q' hq' u hu').1
      · cases r with
        | nil => exact .inl hhi
        | cons q' r' =>
          right
          obtain ⟨⟨b, bq, hb1, hb2, hb3, _⟩, _⟩ := hc2
          exact ⟨b, by simp [hb1], hb2, by simp only [nextS] at hhi; omega⟩
    · cases r with
      | nil => simp only [nextS] at hhi; omega
      | cons q' r' =>
        have hq : q'.lo ≤ y := by simp only [nextS] at hhi; omega
        obtain ⟨k, sp, hp⟩ := ih q' r' rfl hc2 hq h2
        have hspm : sp ∈ q' :: r' := List.mem_of_getElem? hp.at_
        have hsp : s.hi < sp.lo := by
          obtain ⟨tt, qq, e1, _⟩ : ∃ tt qq, sp.ts = tt :: qq ∧ True := by
            have hall : ∀ (L : List Sp), ChainS wear L → ∀ x ∈ L, ∃ tt qq, x.ts = tt :: qq ∧ True := by
              intro L
              induction L with
              | nil => intro _ x hx; simp at hx
              | cons a l ihl =>
                intro hL x hx
                rcases List.mem_cons.1 hx with rfl | hx
                · obtain ⟨⟨tt, qq, e, _⟩, _⟩ := hL
                  exact ⟨tt, qq, e, trivial⟩
                · exact ihl hL.2.2.2.2.2 x hx
            exact hall _ hc2 sp hspm
          exact (hlo sp hspm tt (by rw [e1]; simp)).2
        refine ⟨k + 1, sp, by simpa using hp.at_, hp.le, ?_, hp.we, ?_, ?_, ?_, ?_, ?_⟩
        · intro j x hj hx
          cases j with
          | zero => simp at hx; subst hx; omega
          | succ j => exact hp.fst j x (by omega) (by simpa using hx)
        · rw [List.flatMap_cons, List.filter_append, List.filter_eq_nil_iff.2, List.nil_append]
          · exact hp.ts
          · intro u hu
            have := (hrng u hu).2
            simp only [inS, inB_iff]
            omega
        · intro u hu hb hy'
          rw [List.flatMap_cons, List.mem_append] at hu
          rcases hu with hu | hu
          · have := (hrng u hu).2
            omega
          · exact hp.lo u hu hb hy'
        · intro u hu hb hy'
          rw [List.flatMap_cons, List.mem_append] at hu
          rcases hu with hu | hu
          · have := (hrng u hu).2
            omega
          · exact hp.hi u hu hb hy'
        · obtain ⟨u, hu, h⟩ := hp.lo1
          exact ⟨u, by rw [List.flatMap_cons]; exact List.mem_append_right _ hu, h⟩
        · rcases hp.hi1 with h | ⟨u, hu, h⟩
          · exact .inl h
          · exact .inr ⟨u, by rw [List.flatMap_cons]; exact List.mem_append_right _ hu, h⟩
/-- the years of the spell that has a year -/
def spStep (c : Five) (y : Int) (s : Int × Int) (r : Five) : Int × Int := if r.b = c.a then (if r.c ≤ y then (max s.1 r.c, s.2) else (s.1, min s.2 (r.c - 1))) else s
def spellZ (R : List Five) (c : Five) (y : Int) : Int × Int := R.foldl (spStep c y) (c.b, 4000)
/-- what lies in a spell -/
def innZ (P R : List Five) (c : Five) (s : Int × Int) : List Four :=
  (if s.1 = c.b then [⟨0, c.b, c.c, c.d⟩] else []) ++ ((P ++ R).filter (fun t => t.b == c.a && inB t.c s.1 s.2)).map (fun t => ⟨t.a, t.c, t.d, t.e⟩)
theorem spell_law (c : Five) (y : Int) : ∀ (R : List Five) (s : Int × Int),
    (s.1 ≤ (R.foldl (spStep c y) s).1 ∧ (∀ r ∈ R, r.b = c.a → r.c ≤ y → r.c ≤ (R.foldl (spStep c y) s).1) ∧ ((R.foldl (spStep c y) s).1 = s.1 ∨ ∃ r ∈ R, r.b = c.a ∧ r.c ≤ y ∧ (R.foldl (spStep c y) s).1 = r.c)) ∧
    ((R.foldl (spStep c y) s).2 ≤ s.2 ∧ (∀ r ∈ R, r.b = c.a → y < r.c → (R.foldl (spStep c y) s).2 < r.c) ∧ ((R.foldl (spStep c y) s).2 = s.2 ∨ ∃ r ∈ R, r.b = c.a ∧ y < r.c ∧ (R.foldl (spStep c y) s).2 = r.c - 1)) := by
  intro R
  induction R with
  | nil => intro s; simp
  | cons r R ih =>
    intro s
    rw [List.foldl_cons]
    obtain ⟨⟨a1, a2, a3⟩, b1, b2, b3⟩ := ih (spStep c y s r)
    have hst : (r.b = c.a ∧ r.c ≤ y ∧ spStep c y s r = (max s.1 r.c, s.2)) ∨ (r.b = c.a ∧ y < r.c ∧ spStep c y s r = (s.1, min s.2 (r.c - 1))) ∨ (r.b ≠ c.a ∧ spStep c y s r = s) := by
      unfold spStep
      by_cases h1 : r.b = c.a
      · by_cases h2 : r.c ≤ y
        · exact .inl ⟨h1, h2, by simp [h1, h2]⟩
        · exact .inr (.inl ⟨h1, by omega, by simp [h1, h2]⟩)
      · exact .inr (.inr ⟨h1, by simp [h1]⟩)
    generalize R.foldl (spStep c y) (spStep c y s r) = z at *
    rcases hst with ⟨h1, h2, e⟩ | ⟨h1, h2, e⟩ | ⟨h1, e⟩
    all_goals
      rw [e] at a1 a3 b1 b3
      try simp only at a1 a3 b1 b3
      refine ⟨⟨by clear a3 b3; omega, ?_, ?_⟩, by clear a3 b3; omega, ?_, ?_⟩
    · intro q hq hb hy
      rcases List.mem_cons.1 hq with rfl | hq
      · clear a3 b3; omega
      · exact a2 q hq hb hy
    · rcases a3 with a3 | ⟨q, hq, hb, hy, e2⟩
      · by_cases h : s.1 ≤ r.c
        · exact .inr ⟨r, by simp, h1, h2, by clear b3; omega⟩
        · exact .inl (by clear b3; omega)
      · exact .inr ⟨q, by simp [hq], hb, hy, e2⟩
    · intro q hq hb hy
      rcases List.mem_cons.1 hq with rfl | hq
      · clear a3 b3; omega
      · exact b2 q hq hb hy
    · rcases b3 with b3 | ⟨q, hq, hb, hy, e2⟩
      · exact .inl b3
      · exact .inr ⟨q, by simp [hq], hb, hy, e2⟩
    · intro q hq hb hy
      rcases List.mem_cons.1 hq with rfl | hq
      · clear a3 b3; omega
      · exact a2 q hq hb hy
    · rcases a3 with a3 | ⟨q, hq, hb, hy, e2⟩
      · exact .inl a3
      · exact .inr ⟨q, by simp [hq], hb, hy, e2⟩
    · intro q hq hb hy
      rcases List.mem_cons.1 hq with rfl | hq
      · clear a3 b3; omega
      · exact b2 q hq hb hy
    · rcases b3 with b3 | ⟨q, hq, hb, hy, e2⟩
      · by_cases h : r.c - 1 ≤ s.2
        · exact .inr ⟨r, by simp, h1, h2, by clear a3; omega⟩
        · exact .inl (by clear a3; omega)
      · exact .inr ⟨q, by simp [hq], hb, hy, e2⟩
    · intro q hq hb hy
      rcases List.mem_cons.1 hq with rfl | hq
      · exact absurd hb h1
      · exact a2 q hq hb hy
    · rcases a3 with a3 | ⟨q, hq, hb, hy, e2⟩
      · exact .inl a3
      · exact .inr ⟨q, by simp [hq], hb, hy, e2⟩
    · intro q hq hb hy
      rcases List.mem_cons.1 hq with rfl | hq
      · exact absurd hb h1
      · exact b2 q hq hb hy
    · rcases b3 with b3 | ⟨q, hq, hb, hy, e2⟩
      · exact .inl b3
      · exact .inr ⟨q, by simp [hq], hb, hy, e2⟩
theorem mem_thAll {P R : List Five} {c : Five} {t : Th} : t ∈ thAll P R c ↔ t = mkT c ∨ (∃ p ∈ P, p.b = c.a ∧ t = prT p) ∨ ∃ r ∈ R, r.b = c.a ∧ t = reT r := by
  unfold thAll thP thR
  simp only [List.take_length, List.cons_append, List.mem_cons, List.mem_append, List.mem_map, List.mem_filter, beq_iff_eq]
  constructor
  · rintro (h | ⟨p, ⟨h1, h2⟩, rfl⟩ | ⟨p, ⟨h1, h2⟩, rfl⟩)
    · exact .inl h
    · exact .inr (.inl ⟨p, h1, h2, rfl⟩)
    · exact .inr (.inr ⟨p, h1, h2, rfl⟩)
  · rintro (h | ⟨p, h1, h2, rfl⟩ | ⟨p, h1, h2, rfl⟩)
    · exact .inl h
    · exact .inr (.inl ⟨p, ⟨h1, h2⟩, rfl⟩)
    · exact .inr (.inr ⟨p, ⟨h1, h2⟩, rfl⟩)
/-- in right works each proof and each repair of a chain is right -/
theorem good_okT {C P R : List Five} (g : Good C P R) {id : Int} {c : Five} (hf : findC C id = some c) : c.a = id ∧ okC c = true ∧ (∀ p ∈ P, p.b = c.a → okT C p 0 = true ∧ findC C p.b = some c) ∧ ∀ r ∈ R, r.b = c.a → okT C r 1 = true ∧ findC C r.b = some c := by
  have hid : c.a = id := by have := List.find?_some hf; simpa using this
  have hc := g.okc c (List.mem_of_find?_eq_some hf)
  subst hid
  exact ⟨rfl, hc, fun p hp e => ⟨g.okp p hp, by rw [e]; exact hf⟩, fun p hp e => ⟨g.okr p hp, by rw [e]; exact hf⟩⟩
theorem okT_parts {C : List Five} {t c : Five} {n : Int} (h : okT C t n = true) (hf : findC C t.b = some c) : (1 ≤ t.a ∧ t.a ≤ 1099511627776) ∧ (c.b + n ≤ t.c ∧ t.c ≤ 4000) ∧ 9000 ≤ t.d ∧ t.d ≤ t.e ∧ t.e ≤ 12000 := by
  unfold okT at h
  rw [hf] at h
  simp only [Bool.and_eq_true, inB_iff, spB_iff] at h
  omega
theorem okC_parts {c : Five} (h : okC c = true) : (1 ≤ c.a ∧ c.a ≤ 1099511627776) ∧ (0 ≤ c.b ∧ c.b ≤ 4000) ∧ (9000 ≤ c.c ∧ c.c ≤ c.d ∧ c.d ≤ 12000) ∧ 0 ≤ c.e ∧ c.e ≤ 1000 := by
  unfold okC at h
  simp only [Bool.and_eq_true, inB_iff, spB_iff] at h
  omega
end Go.Proofs.Ytaggjclaehigjaa
