/- Plain law of ChainageIsTrue. -/
import Derived.Test.YtaggjclaehigjaaKT
namespace Go.Proofs.Ytaggjclaehigjaa
theorem sorted_ts (l : List Th) : ∃ ts : List Th, ts.Perm l ∧ SortedT ts := by
  refine ⟨l.mergeSort (fun s t => !decide (cmpT t s < 0)), List.mergeSort_perm _ _, ?_⟩
  have tr : ∀ x y z : Th, (!decide (cmpT y x < 0)) = true → (!decide (cmpT z y < 0)) = true → (!decide (cmpT z x < 0)) = true := by
    intro x y z h1 h2
    simp only [Bool.not_eq_true', decide_eq_false_iff_not, cmpT_neg] at *
    omega
  have tot : ∀ x y : Th, ((!decide (cmpT y x < 0)) || (!decide (cmpT x y < 0))) = true := by
    intro x y
    simp only [Bool.or_eq_true, Bool.not_eq_true', decide_eq_false_iff_not, cmpT_neg]
    omega
  have := List.pairwise_mergeSort tr tot l
  unfold SortedT
  refine this.imp ?_
  intro a b h
  simpa using h
theorem pairwise_key {l m : List Five} (h : l.map (·.a) = m.map (·.a)) (hm : m.Pairwise (fun x y => x.a ≠ y.a)) : l.Pairwise (fun x y => x.a ≠ y.a) := by
  have h1 : (m.map (·.a)).Pairwise (· ≠ ·) := List.pairwise_map.2 hm
  rw [← h] at h1
  exact List.pairwise_map.1 h1
theorem TruP.mem {l : List Int} {c : Five} {n : Nat} {P P' : List Five} (h : TruP l c n P P') {p : Five} (hp : p ∈ P') : ∃ q ∈ P, keepF c n q = true ∧ q.a = p.a ∧ q.b = p.b ∧ q.c = p.c := by
  have h1 : key3 p ∈ P'.map key3 := List.mem_map_of_mem hp
  rw [h.key] at h1
  obtain ⟨q, hq, e⟩ := List.mem_map.1 h1
  obtain ⟨hq1, hq2⟩ := List.mem_filter.1 hq
  unfold key3 at e
  simp only [Prod.mk.injEq] at e
  exact ⟨q, hq1, hq2, e.1, e.2.1, e.2.2⟩
section
variable {C P R P' R' : List Five} {start : Int} {steps : List Int} {c : Five} {l : List Int}
theorem TruthIs.good (h : TruthIs C P R start steps c P' R' l) : Good C P' R' := by
  have g := chk_zero.1 h.chk
  have hk : P'.map (·.a) = (P.filter (keepF c steps.length)).map (·.a) := by
    have := congrArg (List.map (fun q : Int × Int × Int => q.1)) h.pro.key
    rw [List.map_map, List.map_map] at this
    exact this
  have hlen : P'.length ≤ P.length := by
    have := congrArg List.length hk
    simp only [List.length_map] at this
    have := List.length_filter_le (keepF c steps.length) P
    omega
  have hrl : R'.length ≤ R.length := by rw [h.rep]; exact List.length_filter_le _ _
  refine ⟨⟨g.few.1, by have := g.few.2; omega⟩, g.okc, g.twc, ?_, ?_, ?_, ?_⟩
  · intro p hp
    obtain ⟨q, hq, _, e1, e2, e3⟩ := h.pro.mem hp
    have h1 := g.okp q hq
    have h2 := h.pro.tru p hp
    unfold okT at h1 ⊢
    rw [← e2]
    cases hf : findC C q.b with
    | none => rw [hf] at h1; simp at h1
    | some d =>
      rw [hf] at h1
      simp only [Bool.and_eq_true, inB_iff, spB_iff] at h1 ⊢
      rw [← e1, ← e3]
      omega
  · intro r hr
    rw [h.rep] at hr
    exact g.okr r (List.mem_filter.1 hr).1
  · have e : (P' ++ R').map (·.a) = ((P ++ R).filter (keepF c steps.length)).map (·.a) := by
      rw [List.map_append, hk, h.rep, List.filter_append, List.map_append]
    exact pairwise_key e (g.twt.sublist List.filter_sublist)
  · rw [h.rep]
    exact g.twr.sublist List.filter_sublist
theorem TruthIs.find (h : TruthIs C P R start steps c P' R' l) : findC C c.a = some c := find_self h.good (List.mem_of_mem_head? h.hd)
theorem TruthIs.tlen (h : TruthIs C P R start steps c P' R' l) : l.length = steps.length := by rw [h.lst]; exact his_len _ _ _ _ _
theorem TruthIs.tat (h : TruthIs C P R start steps c P' R' l) {i : Nat} (hi : i < steps.length) : trueAt l c (c.b + i) = (hisZ R' c start steps (i + 1)).2 := by
  unfold trueAt
  rw [show (c.b + (i : Int) - c.b).toNat = i by omega, h.lst]
  exact his_at _ _ _ _ _ i hi
theorem TruthIs.rep_ok (h : TruthIs C P R start steps c P' R' l) : ∀ r ∈ R', r.b = c.a ∧ c.b < r.c ∧ r.c < c.b + steps.length ∧ 9000 ≤ r.d ∧ r.d ≤ r.e ∧ r.e ≤ 12000 := by
  intro r hr
  have hr2 := hr
  rw [h.rep] at hr
  have hk := (List.mem_filter.1 hr).2
  unfold keepF at hk
  simp only [Bool.and_eq_true, beq_iff_eq, decide_eq_true_eq] at hk
  have ho := (good_okT h.good h.find).2.2.2 r hr2 hk.1
  have := okT_parts ho.1 ho.2
  exact ⟨hk.1, by omega, hk.2, by omega, by omega, by omega⟩
theorem TruthIs.chain_ok (h : TruthIs C P R start steps c P' R' l) : (0 ≤ c.b ∧ c.b ≤ 4000) ∧ (9000 ≤ c.c ∧ c.c ≤ c.d ∧ c.d ≤ 12000) ∧ 0 ≤ c.e ∧ c.e ≤ 1000 := by
  have := okC_parts (good_okT h.good h.find).2.1
  exact ⟨this.2.1, this.2.2.1, this.2.2.2⟩
theorem TruthIs.rng (h : TruthIs C P R start steps c P' R' l) {y : Int} (h1 : c.b ≤ y) (h2 : y < c.b + steps.length) : 9000 ≤ trueAt l c y ∧ trueAt l c y ≤ 12000 := by
  obtain ⟨i, rfl⟩ : ∃ i : Nat, y = c.b + i := ⟨(y - c.b).toNat, by omega⟩
  have hi : i < steps.length := by omega
  rw [h.tat hi]
  exact ⟨his_ge start steps (fun r hr _ => ⟨(h.rep_ok r hr).2.1, (h.rep_ok r hr).2.2.2.1⟩) h.chain_ok.2.1.1 i, h.his i hi⟩
/-- in the year in which a spell begins: what its beginning shows -/
theorem TruthIs.beg (h : TruthIs C P R start steps c P' R' l) {y : Int} (h1 : c.b ≤ y) (h2 : y < c.b + steps.length) (hs : (spellZ R' c y).1 = y) : (begZ R' c y).1 ≤ trueAt l c y ∧ trueAt l c y ≤ (begZ R' c y).2 := by
  obtain ⟨i, rfl⟩ : ∃ i : Nat, y = c.b + i := ⟨(y - c.b).toNat, by omega⟩
  have hi : i < steps.length := by omega
  rw [h.tat hi]
  show _ ≤ nxtZ R' c start steps i (hisZ R' c start steps i).2 ∧ nxtZ R' c start steps i (hisZ R' c start steps i).2 ≤ _
  have hb : 9000 ≤ (begZ R' c (c.b + i)).1 ∧ (begZ R' c (c.b + i)).1 ≤ (begZ R' c (c.b + i)).2 := by
    unfold begZ
    rw [if_pos hs]
    cases hf : R'.find? (fun r => r.b == c.a && r.c == c.b + i) with
    | none => exact ⟨h.chain_ok.2.1.1, h.chain_ok.2.1.2.1⟩
    | some r =>
      have := h.rep_ok r (List.mem_of_find?_eq_some hf)
      exact ⟨this.2.2.2.1, this.2.2.2.2.1⟩
  unfold nxtZ
  rw [if_pos (by omega)]
  exact ⟨intoZ_ge _ _ _, intoZ_le hb.2⟩
theorem TruthIs.step (h : TruthIs C P R start steps c P' R' l) {y : Int} (h1 : c.b < y) (h2 : y < c.b + steps.length) (hs : (spellZ R' c y).1 ≠ y) : trueAt l c (y - 1) ≤ trueAt l c y ∧ trueAt l c y ≤ trueAt l c (y - 1) + c.e := by
  obtain ⟨i, rfl⟩ : ∃ i : Nat, y = c.b + ((i + 1 : Nat) : Int) := ⟨(y - c.b - 1).toNat, by omega⟩
  have hi : i + 1 < steps.length := by omega
  rw [h.tat hi, show c.b + ((i + 1 : Nat) : Int) - 1 = c.b + (i : Int) by omega, h.tat (by omega)]
  show _ ≤ nxtZ R' c start steps (i + 1) (hisZ R' c start steps (i + 1)).2 ∧ nxtZ R' c start steps (i + 1) (hisZ R' c start steps (i + 1)).2 ≤ _
  have hb : begZ R' c (c.b + ((i + 1 : Nat) : Int)) = (0, 0) := by unfold begZ; rw [if_neg hs]
  unfold nxtZ
  rw [hb, if_neg (by decide)]
  have g1 := intoZ_ge (steps.getD (i + 1) 0) 0 c.e
  have g2 := intoZ_le (n := steps.getD (i + 1) 0) h.chain_ok.2.2.1
  omega
theorem TruthIs.mono (h : TruthIs C P R start steps c P' R' l) {y : Int} (h1 : c.b ≤ y) (m : Nat) : y + m < c.b + steps.length → (spellZ R' c y).1 ≤ y + m → y + m ≤ (spellZ R' c y).2 → trueAt l c y ≤ trueAt l c (y + m) ∧ trueAt l c (y + m) ≤ trueAt l c y + c.e * m := by
  induction m with
  | zero => intro _ _ _; simp
  | succ m ih =>
    intro a1 a2 a3
    have hy4 : y ≤ 4000 := by have := h.len.2.2; omega
    have hsl := spell_le (R := R') h1 hy4
    obtain ⟨i1, i2⟩ := ih (by omega) (by omega) (by omega)
    have hsame := spellZ_same (R := R') h1 hy4 a2 a3
    have hst := h.step (y := y + ((m + 1 : Nat) : Int)) (by omega) a1 (by rw [hsame]; omega)
    rw [show y + ((m + 1 : Nat) : Int) - 1 = y + (m : Int) by omega] at hst
    have e : c.e * ((m + 1 : Nat) : Int) = c.e * (m : Int) + c.e := by rw [Int.natCast_add, Int.mul_add]; simp
    omega
/-- what lies in a spell shows the true length of its year -/
theorem TruthIs.thing (h : TruthIs C P R start steps c P' R' l) {y : Int} (h1 : c.b ≤ y) (h2 : y < c.b + steps.length) {t : Four} (ht : t ∈ innZ P' R' c (spellZ R' c y)) :
    (c.b ≤ t.y ∧ t.y < c.b + steps.length) ∧ ((spellZ R' c y).1 ≤ t.y ∧ t.y ≤ (spellZ R' c y).2) ∧ t.lo ≤ trueAt l c t.y ∧ trueAt l c t.y ≤ t.hi := by
  have hlen := h.len
  have hy4 : y ≤ 4000 := by omega
  have hsl := spell_le (R := R') h1 hy4
  have hbf := beg_first (R := R') (c := c) (fun r hr _ => ⟨(h.rep_ok r hr).2.1, (h.rep_ok r hr).2.2.2.1⟩)
  unfold innZ at ht
  rcases List.mem_append.1 ht with ht | ht
  · split at ht
    · rename_i hs
      obtain rfl := List.mem_singleton.1 ht
      have hs0 : (spellZ R' c c.b).1 = c.b := by
        have hc := spell_le (R := R') (c := c) (y := c.b) (Int.le_refl _) h.chain_ok.1.2
        omega
      have := h.beg (y := c.b) (Int.le_refl _) (by omega) hs0
      rw [hbf] at this
      exact ⟨⟨Int.le_refl _, by show c.b < _; omega⟩, ⟨by show _ ≤ c.b; omega, by show c.b ≤ _; omega⟩, this⟩
    · simp at ht
  · obtain ⟨q, hq, rfl⟩ := List.mem_map.1 ht
    obtain ⟨hq, hk⟩ := List.mem_filter.1 hq
    simp only [Bool.and_eq_true, beq_iff_eq, inB_iff] at hk
    rcases List.mem_append.1 hq with hq | hq
    · obtain ⟨p, hp, hkp, e1, e2, e3⟩ := h.pro.mem hq
      unfold keepF at hkp
      simp only [Bool.and_eq_true, beq_iff_eq, decide_eq_true_eq] at hkp
      have ho := (good_okT h.good h.find).2.2.1 q hq hk.1
      have := okT_parts ho.1 ho.2
      have ht2 := h.pro.tru q hq
      exact ⟨⟨by show c.b ≤ q.c; omega, by show q.c < _; omega⟩, hk.2, ht2.2.1, ht2.2.2.1⟩
    · obtain ⟨r1, r2, r3, r4, r5, r6⟩ := h.rep_ok q hq
      have hs0 : (spellZ R' c q.c).1 = q.c := by
        obtain ⟨⟨_, p2, _⟩, _⟩ := spell_law c q.c R' (c.b, 4000)
        have hc := spell_le (R := R') (c := c) (y := q.c) (by omega) (by omega)
        have h3 : q.c ≤ (spellZ R' c q.c).1 := p2 q hq r1 (Int.le_refl _)
        omega
      have hbe : begZ R' c q.c = (q.d, q.e) := by
        unfold begZ
        rw [if_pos hs0]
        cases hf : R'.find? (fun r => r.b == c.a && r.c == q.c) with
        | none =>
          have := List.find?_eq_none.1 hf q hq
          simp [r1] at this
        | some r =>
          have h3 := List.find?_some hf
          simp only [Bool.and_eq_true, beq_iff_eq] at h3
          have hm := List.mem_of_find?_eq_some hf
          have hrq : r = q := by
            obtain ⟨i, hi, rfl⟩ := List.getElem_of_mem hm
            obtain ⟨j, hj, rfl⟩ := List.getElem_of_mem hq
            rcases Nat.lt_trichotomy i j with hij | hij | hij
            · exact absurd h3.2 (List.pairwise_iff_getElem.1 h.good.twr i j hi hj hij (by rw [h3.1, r1]))
            · subst hij; rfl
            · exact absurd h3.2.symm (List.pairwise_iff_getElem.1 h.good.twr j i hj hi hij (by rw [h3.1, r1]))
          rw [hrq]
      have := h.beg (y := q.c) (by omega) r3 hs0
      rw [hbe] at this
      exact ⟨⟨by show c.b ≤ q.c; omega, r3⟩, hk.2, this⟩
theorem TruthIs.bd (h : TruthIs C P R start steps c P' R' l) {y : Int} (h1 : c.b ≤ y) (h2 : y < c.b + steps.length) {t : Four} (ht : t ∈ innZ P' R' c (spellZ R' c y)) {z : Int} (z1 : c.b ≤ z) (z2 : z < c.b + steps.length) (z3 : (spellZ R' c y).1 ≤ z) (z4 : z ≤ (spellZ R' c y).2) :
    loZ c.e z t ≤ trueAt l c z ∧ trueAt l c z ≤ hiZ c.e z t := by
  have hlen := h.len
  obtain ⟨⟨t1, t2⟩, ⟨t3, t4⟩, t5, t6⟩ := h.thing h1 h2 ht
  have hy4 : y ≤ 4000 := by omega
  rcases Int.le_total t.y z with hz | hz
  · obtain ⟨m, hm⟩ : ∃ m : Nat, z = t.y + m := ⟨(z - t.y).toNat, by omega⟩
    have hs := spellZ_same (R := R') h1 hy4 t3 t4
    have := h.mono t1 m (by omega) (by rw [hs]; omega) (by rw [hs]; omega)
    rw [← hm] at this
    unfold loZ hiZ
    rw [show max 0 (t.y - z) = 0 by omega, show max 0 (z - t.y) = (m : Int) by omega]
    simp only [Int.mul_zero, Int.sub_zero]
    omega
  · obtain ⟨m, hm⟩ : ∃ m : Nat, t.y = z + m := ⟨(t.y - z).toNat, by omega⟩
    have hs := spellZ_same (R := R') h1 hy4 z3 z4
    have := h.mono z1 m (by omega) (by rw [hs]; omega) (by rw [hs]; omega)
    rw [← hm] at this
    unfold loZ hiZ
    rw [show max 0 (t.y - z) = (m : Int) by omega, show max 0 (z - t.y) = 0 by omega]
    simp only [Int.mul_zero, Int.add_zero]
    omega
theorem TruthIs.lim (h : TruthIs C P R start steps c P' R' l) {y : Int} (h1 : c.b ≤ y) (h2 : y < c.b + steps.length) : loY P' R' c y ≤ trueAt l c y ∧ trueAt l c y ≤ hiY P' R' c y := by
  have hy4 : y ≤ 4000 := by have := h.len.2.2; omega
  have hsl := spell_le (R := R') h1 hy4
  have hr := h.rng h1 h2
  exact ⟨limLo_iff.2 ⟨hr.1, fun t ht => (h.bd h1 h2 ht h1 h2 hsl.2.1 hsl.2.2.1).1⟩, limHi_iff.2 ⟨hr.2, fun t ht => (h.bd h1 h2 ht h1 h2 hsl.2.1 hsl.2.2.1).2⟩⟩
theorem TruthIs.free (h : TruthIs C P R start steps c P' R' l) : fitCl P' R' c = false := by
  unfold fitCl
  rw [List.any_eq_false]
  intro y hy
  have hr : c.b ≤ y ∧ y < c.b + steps.length := by
    have := h.len
    rcases List.mem_cons.1 hy with rfl | hy
    · omega
    · obtain ⟨r, hr, rfl⟩ := List.mem_map.1 hy
      have := h.rep_ok r (List.mem_filter.1 hr).1
      omega
  rw [Bool.not_eq_true, clashesB_iff]
  rw [List.pairwise_iff_getElem]
  intro i j hi hj _
  have mi := List.getElem_mem hi
  have mj := List.getElem_mem hj
  have ti := h.thing hr.1 hr.2 mi
  have tj := h.thing hr.1 hr.2 mj
  have b1 := h.bd hr.1 hr.2 mi tj.1.1 tj.1.2 tj.2.1.1 tj.2.1.2
  have b2 := h.bd hr.1 hr.2 mj ti.1.1 ti.1.2 ti.2.1.1 ti.2.1.2
  unfold clashB
  simp only [Bool.or_eq_false_iff, decide_eq_false_iff_not]
  omega
end
end Go.Proofs.Ytaggjclaehigjaa
