/- Plain laws: in right works the spell that has a year is that of the specification. -/
import Derived.Test.YtaggjclaehigjaaP1
import Derived.Test.YtaggjclaehigjaaL1
namespace Go.Proofs.Ytaggjclaehigjaa
section
variable {C P R : List Five} {id : Int} {c : Five}
theorem thAll_ok (g : Good C P R) (hf : findC C id = some c) : ∀ t ∈ thAll P R c, OkF t.f ∧ (begB t = true → t = mkT c ∨ ∃ r ∈ R, r.b = c.a ∧ t = reT r) ∧ c.b ≤ t.y ∧ (0 ≤ t.i ∧ t.i ≤ 1099511627776) := by
  intro t ht
  obtain ⟨_, hc, hp, hr⟩ := good_okT g hf
  obtain ⟨_, h2, h3, _⟩ := okC_parts hc
  rcases mem_thAll.1 ht with rfl | ⟨p, h, e, rfl⟩ | ⟨r, h, e, rfl⟩
  · exact ⟨⟨h2, h3⟩, fun _ => .inl rfl, Int.le_refl _, by simp [mkT]⟩
  · obtain ⟨k1, k2, k3⟩ := okT_parts (hp p h e).1 (hp p h e).2
    exact ⟨⟨⟨by simp only [Th.f, prT]; omega, k2.2⟩, k3⟩, fun hb => by simp [begB, prT] at hb, by simp only [prT]; omega, by simp only [prT]; omega⟩
  · obtain ⟨k1, k2, k3⟩ := okT_parts (hr r h e).1 (hr r h e).2
    exact ⟨⟨⟨by simp only [Th.f, reT]; omega, k2.2⟩, k3⟩, fun _ => .inr ⟨r, h, e, rfl⟩, by simp only [reT]; omega, by simp only [reT]; omega⟩
theorem head_beg (g : Good C P R) (hf : findC C id = some c) {ts : List Th} (hp : ts.Perm (thAll P R c)) (hs : SortedT ts) : ∃ t r, ts = t :: r ∧ begB t = true ∧ t.y = c.b := by
  have hm : mkT c ∈ ts := hp.mem_iff.2 (mem_thAll.2 (.inl rfl))
  cases ts with
  | nil => simp at hm
  | cons t r =>
    have ht := thAll_ok g hf t (hp.mem_iff.1 (by simp))
    refine ⟨t, r, rfl, ?_⟩
    rcases List.mem_cons.1 hm with e | hm
    · rw [← e]; exact ⟨rfl, rfl⟩
    · have h1 := (List.pairwise_cons.1 hs).1 _ hm
      rw [cmpT_neg] at h1
      have h2 : (mkT c).y = c.b := rfl
      have h3 : one_ (mkT c) = 0 := rfl
      have h4 := ht.2.2.1
      cases hb : begB t with
      | true => exact ⟨rfl, by omega⟩
      | false => have := one_not hb; omega
theorem beg_apart (g : Good C P R) (hf : findC C id = some c) {ts : List Th} (hp : ts.Perm (thAll P R c)) : ts.Pairwise fun s t => begB s = true → begB t = true → s.y ≠ t.y := by
  refine (hp.pairwise_iff (fun {x y} h a b => (h b a).symm)).2 ?_
  have hr : ∀ t ∈ thR R c R.length, c.b < t.y := by
    intro t ht
    unfold thR at ht
    simp only [List.take_length, List.mem_map, List.mem_filter, beq_iff_eq] at ht
    obtain ⟨r, ⟨h, e⟩, rfl⟩ := ht
    obtain ⟨_, _, _, hr⟩ := good_okT g hf
    obtain ⟨_, k2, _⟩ := okT_parts (hr r h e).1 (hr r h e).2
    simp only [reT]; omega
  have hpn : ∀ t ∈ thP P c P.length, begB t = false := by
    intro t ht
    unfold thP at ht
    obtain ⟨p, _, rfl⟩ := List.mem_map.1 ht
    rfl
  unfold thAll
  rw [List.pairwise_append, List.pairwise_cons]
  refine ⟨⟨(fun t ht _ hb => by rw [hpn t ht] at hb; cases hb), ?_⟩, ?_, ?_⟩
  · rw [List.pairwise_iff_forall_sublist]
    intro a b hab ha
    have : a ∈ thP P c P.length := hab.subset (by simp)
    rw [hpn a this] at ha; cases ha
  · unfold thR
    rw [List.pairwise_map, List.take_length]
    have := g.twr.filter (fun p => p.b == c.a)
    rw [List.pairwise_iff_forall_sublist] at this ⊢
    intro a b hab _ _
    have ha : a ∈ R.filter (fun p => p.b == c.a) := hab.subset (by simp)
    have hb : b ∈ R.filter (fun p => p.b == c.a) := hab.subset (by simp)
    simp only [List.mem_filter, beq_iff_eq] at ha hb
    exact this hab (by rw [ha.2, hb.2])
  · intro s hs t ht hbs _
    have h1 := hr t ht
    rcases List.mem_cons.1 hs with rfl | hs
    · simp only [mkT]; omega
    · rw [hpn s hs] at hbs; cases hbs
theorem filter_thAll (lo hi : Int) (h1 : c.b ≤ lo) (h2 : lo ≤ hi) : ((thAll P R c).filter (fun t => inB t.y lo hi)).map Th.f = innZ P R c (lo, hi) := by
  unfold thAll innZ thP thR
  simp only [List.take_length, List.cons_append, List.filter_cons, List.filter_append, List.filter_map, List.filter_filter, List.map_append]
  have e1 : inB (mkT c).y lo hi = decide (lo = c.b) := by
    rw [Bool.eq_iff_iff, inB_iff]
    simp only [mkT, decide_eq_true_eq]
    omega
  rw [e1]
  have e2 : ∀ p : Five, ((fun t : Th => inB t.y lo hi) ∘ prT) p = inB p.c lo hi := fun p => rfl
  have e3 : ∀ p : Five, ((fun t : Th => inB t.y lo hi) ∘ reT) p = inB p.c lo hi := fun p => rfl
  have e4 : ∀ l : List Five, l.filter (fun a => ((fun t : Th => inB t.y lo hi) ∘ prT) a && a.b == c.a) = l.filter (fun t => t.b == c.a && inB t.c lo hi) := fun l => by
    congr 1; funext p; rw [e2, Bool.and_comm]
  have e5 : ∀ l : List Five, l.filter (fun a => ((fun t : Th => inB t.y lo hi) ∘ reT) a && a.b == c.a) = l.filter (fun t => t.b == c.a && inB t.c lo hi) := fun l => by
    congr 1; funext p; rw [e3, Bool.and_comm]
  rw [e4, e5]
  by_cases h : lo = c.b
  · simp [h, Th.f, mkT, List.map_map, Function.comp_def, prT, reT]
  · simp [h, Th.f, List.map_map, Function.comp_def, prT, reT]
/-- the spell that has a year -/
theorem spells_pick (g : Good C P R) (hf : findC C id = some c) {ts : List Th} (hp : ts.Perm (thAll P R c)) (hs : SortedT ts) {y : Int} (h1 : c.b ≤ y) (h2 : y ≤ 4000) :
    ∃ (k : Nat) (s : Sp), (splitS c.e ts)[k]? = some s ∧ (s.lo ≤ y ∧ y ≤ s.hi) ∧ (∀ j q, j < k → (splitS c.e ts)[j]? = some q → ¬ (q.lo ≤ y ∧ y ≤ q.hi)) ∧ (s.lo, s.hi) = spellZ R c y ∧ s.w = c.e ∧ (s.ts.map Th.f).Perm (innZ P R c (s.lo, s.hi)) := by
  obtain ⟨t, r, rfl, hb, hty⟩ := head_beg g hf hp hs
  have hok := thAll_ok g hf
  obtain ⟨l1, l2, l3, l4, l5⟩ := grp_law c.e (t :: r) hs (fun u hu => (hok u (hp.mem_iff.1 hu)).1.1.2) (beg_apart g hf hp)
  rw [split_grp hb]
  have e1 : (grp c.e (t :: r)).1 = [] := by simp [grp, hb]
  have e2 : (grp c.e (t :: r)).2 = ⟨t.y, nextS (grp c.e r).2, c.e, t :: (grp c.e r).1⟩ :: (grp c.e r).2 := by simp [grp, hb]
  rw [e1, List.nil_append] at l3
  obtain ⟨k, s, hpk⟩ := chain_pick (wear := c.e) (y := y) _ _ _ e2 l1 (by simp only; omega) h2
  have ho := hpk.lo
  have hh := hpk.hi
  have ho1 := hpk.lo1
  have hh1 := hpk.hi1
  have htf := hpk.ts
  rw [← l3] at ho hh ho1 hh1 htf
  obtain ⟨⟨z1, z2, z3⟩, z4, z5, z6⟩ := spell_law c y R (c.b, 4000)
  simp only at z1 z3 z4 z6
  have hmk : mkT c ∈ t :: r := hp.mem_iff.2 (mem_thAll.2 (.inl rfl))
  have hre : ∀ q ∈ R, q.b = c.a → reT q ∈ t :: r := fun q hq e => hp.mem_iff.2 (mem_thAll.2 (.inr (.inr ⟨q, hq, e, rfl⟩)))
  have hcb : c.b ≤ s.lo := ho _ hmk rfl h1
  have hsp : (s.lo, s.hi) = spellZ R c y := by
    have a1 : s.lo ≤ (R.foldl (spStep c y) (c.b, 4000)).1 := by
      obtain ⟨u, hu, hub, huy⟩ := ho1
      rcases (hok u (hp.mem_iff.1 hu)).2.1 hub with rfl | ⟨q, hq, e, rfl⟩
      · rw [← huy]; exact z1
      · have hle := hpk.le.1
        rw [← huy] at hle ⊢
        exact z2 q hq e hle
    have a2 : (R.foldl (spStep c y) (c.b, 4000)).1 ≤ s.lo := by
      rcases z3 with z3 | ⟨q, hq, e, hy, z3⟩
      · rw [z3]; exact hcb
      · rw [z3]; exact ho _ (hre q hq e) rfl hy
    have a3 : (R.foldl (spStep c y) (c.b, 4000)).2 ≤ s.hi := by
      rcases hh1 with hh1 | ⟨u, hu, hub, huy⟩
      · rw [hh1]; exact z4
      · rcases (hok u (hp.mem_iff.1 hu)).2.1 hub with rfl | ⟨q, hq, e, rfl⟩
        · have := hpk.le.2
          simp only [mkT] at huy
          omega
        · have hle := hpk.le.2
          have hqy : (reT q).y = q.c := rfl
          have := z5 q hq e (by omega)
          omega
    have a4 : s.hi ≤ (R.foldl (spStep c y) (c.b, 4000)).2 := by
      rcases z6 with z6 | ⟨q, hq, e, hy, z6⟩
      · rw [z6]
        rcases hh1 with hh1 | ⟨u, hu, hub, huy⟩
        · omega
        · have := (hok u (hp.mem_iff.1 hu)).1.1.2
          simp only [Th.f] at this
          omega
      · have := hh _ (hre q hq e) rfl hy
        have hqy : (reT q).y = q.c := rfl
        omega
    unfold spellZ
    exact Prod.ext (Int.le_antisymm a1 a2) (Int.le_antisymm a4 a3)
  refine ⟨k, s, hpk.at_, hpk.le, hpk.fst, hsp, hpk.we, ?_⟩
  rw [← filter_thAll s.lo s.hi hcb (by have := hpk.le; omega), ← htf]
  exact (hp.filter _).map _
end
end Go.Proofs.Ytaggjclaehigjaa
