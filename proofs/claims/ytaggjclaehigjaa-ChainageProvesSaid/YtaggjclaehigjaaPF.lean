/- Plain words of Fits: what both Fits return. Plain law of ChainageFits: the spells of a chain are those of the years in which they begin. Plain laws of the shortest and the longest lengths. -/
import Derived.Test.YtaggjclaehigjaaK2
import Derived.Test.YtaggjclaehigjaaWX
import Derived.Test.YtaggjclaehigjaaP3
namespace Go.Proofs.Ytaggjclaehigjaa
/-- length i of a wear is possible in its year, behind the one before it -/
def fitB (P R : List Five) (c : Five) (Y : Int) (L : List Int) (i : Nat) : Bool :=
  inB (L.getD i 0) (limLo c.e (Y + i) (innZ P R c (spellZ R c (Y + i)))) (limHi c.e (Y + i) (innZ P R c (spellZ R c (Y + i)))) &&
    (decide (i = 0) || decide ((spellZ R c (Y + i)).1 = Y + i) || inB (L.getD i 0) (L.getD (i - 1) 0) (L.getD (i - 1) 0 + c.e))
/-- the first length that is not possible -/
def fitZ (P R : List Five) (c : Five) (Y : Int) (L : List Int) : Int × Bool :=
  match (List.range L.length).find? (fun i => !fitB P R c Y L i) with
  | some i => (Y + i, false)
  | none => (-1, true)
/-- the years in which the spells of a chain begin -/
def startsZ (R : List Five) (c : Five) : List Int := c.b :: (R.filter (fun r => r.b == c.a)).map (·.c)
def fitCl (P R : List Five) (c : Five) : Bool := (startsZ R c).any (fun y => clashesB c.e (innZ P R c (spellZ R c y)))
/-- what Fits returns -/
def fitsR (C P R : List Five) (id Y : Int) (L : List Int) : Int × Bool :=
  match findC C id with
  | none => (-1, false)
  | some c => if chk C P R = 0 ∧ L ≠ [] ∧ c.b ≤ Y ∧ Y ≤ 4000 ∧ (L.length : Int) ≤ 4000 - Y + 1 then
      if fitCl P R c then (Y, false) else fitZ P R c Y L else (-1, false)
/-- a spell is that of the year in which it begins -/
theorem spellZ_start {R : List Five} {c : Five} {y : Int} (h1 : c.b ≤ y) (h2 : y ≤ 4000) : spellZ R c (spellZ R c y).1 = spellZ R c y := by
  obtain ⟨a1, a2, a3, a4⟩ := spell_le (R := R) h1 h2
  obtain ⟨⟨p1, p2, p3⟩, p4, p5, p6⟩ := spell_law c y R (c.b, 4000)
  obtain ⟨⟨q1, q2, q3⟩, q4, q5, q6⟩ := spell_law c (spellZ R c y).1 R (c.b, 4000)
  obtain ⟨b1, b2, b3, b4⟩ := spell_le (R := R) (c := c) (y := (spellZ R c y).1) a1 (by omega)
  have e1 : (spellZ R c (spellZ R c y).1).1 = (spellZ R c y).1 := by
    apply Int.le_antisymm b2
    rcases p3 with p3 | ⟨r, hr, hb, hy, e⟩
    · have : (spellZ R c y).1 = c.b := p3
      omega
    · have e' : (spellZ R c y).1 = r.c := e
      have := q2 r hr hb (by omega)
      have : r.c ≤ (spellZ R c (spellZ R c y).1).1 := this
      omega
  have e2 : (spellZ R c (spellZ R c y).1).2 = (spellZ R c y).2 := by
    apply Int.le_antisymm
    · rcases p6 with p6 | ⟨r, hr, hb, hy, e⟩
      · have : (spellZ R c y).2 = 4000 := p6
        omega
      · have e' : (spellZ R c y).2 = r.c - 1 := e
        have h := q5 r hr hb (by omega)
        have h : (spellZ R c (spellZ R c y).1).2 < r.c := h
        omega
    · rcases q6 with q6 | ⟨r, hr, hb, hy, e⟩
      · have : (spellZ R c (spellZ R c y).1).2 = 4000 := q6
        omega
      · have e' : (spellZ R c (spellZ R c y).1).2 = r.c - 1 := e
        have : y < r.c := by
          by_cases hyr : y < r.c
          · exact hyr
          · have h := p2 r hr hb (by omega)
            have h : r.c ≤ (spellZ R c y).1 := h
            omega
        have h := p5 r hr hb this
        have h : (spellZ R c y).2 < r.c := h
        omega
  exact Prod.ext e1 e2
theorem start_mem {R : List Five} {c : Five} {y : Int} : (spellZ R c y).1 ∈ startsZ R c := by
  obtain ⟨⟨p1, p2, p3⟩, _⟩ := spell_law c y R (c.b, 4000)
  unfold startsZ
  rcases p3 with p3 | ⟨r, hr, hb, hy, e⟩
  · have : (spellZ R c y).1 = c.b := p3
    rw [this]
    exact List.mem_cons_self
  · have : (spellZ R c y).1 = r.c := e
    rw [this]
    exact List.mem_cons_of_mem _ (List.mem_map.2 ⟨r, List.mem_filter.2 ⟨hr, by simp [hb]⟩, rfl⟩)
end Go.Proofs.Ytaggjclaehigjaa
namespace Go.Proofs.Ytaggjclaehigjaa
theorem spell_at2 {C P R : List Five} {id : Int} {c : Five} (g : Good C P R) (hf : findC C id = some c) {ts : List Th} (hp : ts.Perm (thAll P R c)) (hs : SortedT ts) {k : Nat} (hk : k < (splitS c.e ts).length) :
    ∃ y, c.b ≤ y ∧ y ≤ 4000 ∧ ((splitS c.e ts)[k].lo, (splitS c.e ts)[k].hi) = spellZ R c y ∧ (splitS c.e ts)[k].w = c.e ∧ ((splitS c.e ts)[k].ts.map Th.f).Perm (innZ P R c (spellZ R c y)) := by
  obtain ⟨t, r, rfl, hb, hty⟩ := head_beg g hf hp hs
  have hL := splitS_l c.e t r hb
  have hap := beg_apart g hf hp
  have hps := List.pairwise_cons.1 hs
  have hrise : ((splitS c.e (t :: r)).map Sp.lo).Pairwise (fun a b : Int => a < b) := by
    rw [hL.lo, List.pairwise_map, List.pairwise_filter]
    refine (hs.and hap).imp ?_
    intro a b h ha hb
    have h2 := h.2 ha hb
    have h1 := h.1
    rw [cmpT_neg] at h1
    omega
  have hyr : c.b ≤ (splitS c.e (t :: r))[k].lo ∧ (splitS c.e (t :: r))[k].lo ≤ 4000 := by
    have hm : (splitS c.e (t :: r))[k].lo ∈ ((t :: r).filter begB).map Th.y := by
      rw [← hL.lo]
      exact List.mem_map_of_mem (List.getElem_mem hk)
    obtain ⟨u, hu, he⟩ := List.mem_map.1 hm
    have hu := (List.mem_filter.1 hu).1
    rw [← he]
    refine ⟨?_, (thAll_ok g hf u (hp.mem_iff.1 hu)).1.1.2⟩
    rcases List.mem_cons.1 hu with rfl | hu
    · omega
    · have := hps.1 u hu
      rw [cmpT_neg] at this
      omega
  obtain ⟨k1, s1, e1, e2, e3, e4, e5, e6⟩ := spells_pick g hf hp hs hyr.1 hyr.2
  generalize splitS c.e (t :: r) = S at *
  obtain ⟨hk1, rfl⟩ := List.getElem?_eq_some_iff.1 e1
  have lt : ∀ i j, (hi : i < S.length) → (hj : j < S.length) → i < j → S[i].lo < S[j].lo := by
    intro i j hi hj hij
    have := List.pairwise_iff_getElem.1 hrise i j (by simpa using hi) (by simpa using hj) hij
    simpa using this
  have hkk : k1 = k := by
    rcases Nat.lt_trichotomy k1 k with h | h | h
    · exfalso
      have h1 := hi_at hL hk1
      rw [dif_pos (by omega)] at h1
      have h2 : S[k1 + 1].lo ≤ S[k].lo := by
        rcases Nat.lt_or_ge (k1 + 1) k with h3 | h3
        · exact Int.le_of_lt (lt _ _ _ _ h3)
        · have : k1 + 1 = k := by omega
          subst this
          exact Int.le_refl _
      omega
    · exact h
    · exfalso
      have h1 := hi_at hL hk
      rw [dif_pos (by omega)] at h1
      have h2 := lt k (k + 1) hk (by omega) (by omega)
      exact e3 k S[k] h (List.getElem?_eq_getElem hk) ⟨Int.le_refl _, by omega⟩
  subst hkk
  exact ⟨_, hyr.1, hyr.2, e4, e5, e4 ▸ e6⟩
theorem starts_rng {C P R : List Five} {id : Int} {c : Five} (g : Good C P R) (hf : findC C id = some c) : ∀ y ∈ startsZ R c, c.b ≤ y ∧ y ≤ 4000 := by
  obtain ⟨_, hc, _, hr⟩ := good_okT g hf
  have hc := okC_parts hc
  intro y hy
  rcases List.mem_cons.1 hy with rfl | hy
  · exact ⟨Int.le_refl _, by omega⟩
  · obtain ⟨r, hm, rfl⟩ := List.mem_map.1 hy
    obtain ⟨hm, e⟩ := List.mem_filter.1 hm
    obtain ⟨h1, h2⟩ := hr r hm (by simpa using e)
    have h := okT_parts h1 h2
    omega
/-- some spell contradicts itself: as the specification asks it -/
theorem anyCl {C P R : List Five} {id : Int} {c : Five} (g : Good C P R) (hf : findC C id = some c) {w : World} {v : Value} {S : List SpE} {ts : List Th} (hS : SpellsAt w v S) (hp : ts.Perm (thAll P R c)) (hs : SortedT ts) (hm : S.map SpE.sp = splitS c.e ts) :
    S.any clS = fitCl P R c := by
  have hcl : ∀ s : SpE, clS s = clashesB s.w s.fs := fun s => by unfold clS; exact clS_eq s
  rw [Bool.eq_iff_iff, List.any_eq_true]
  unfold fitCl
  rw [List.any_eq_true]
  constructor
  · rintro ⟨s, hsm, h⟩
    obtain ⟨k, hk, rfl⟩ := List.getElem_of_mem hsm
    have hk' : k < (splitS c.e ts).length := by rw [← hm]; simpa using hk
    have hsp : (splitS c.e ts)[k] = S[k].sp := by simp only [← hm, List.getElem_map]
    obtain ⟨y, h1, h2, h3, h4, h5⟩ := spell_at2 g hf hp hs hk'
    rw [hsp] at h3 h4 h5
    have hw : S[k].w = c.e := h4
    have hfs : S[k].fs.Perm (innZ P R c (spellZ R c y)) := by
      have e : S[k].fs = S[k].sp.ts.map Th.f := by simp [SpE.fs, SpE.sp, List.map_map]
      rw [e]; exact h5
    refine ⟨(spellZ R c y).1, start_mem, ?_⟩
    rw [spellZ_start h1 h2, ← clashesB_perm hfs, ← hw, ← hcl]
    exact h
  · rintro ⟨y, hy, h⟩
    obtain ⟨h1, h2⟩ := starts_rng g hf y hy
    obtain ⟨k, hk, _, _, hi⟩ := pick_at g hf hS hp hs hm h1 h2
    refine ⟨S[k], List.getElem_mem hk, ?_⟩
    rw [hcl, hi.we, clashesB_perm hi.fs]
    exact h
end Go.Proofs.Ytaggjclaehigjaa
namespace Go.Proofs.Ytaggjclaehigjaa
/-- all years of a spell have it -/
theorem spellZ_same {R : List Five} {c : Five} {y z : Int} (h1 : c.b ≤ y) (h2 : y ≤ 4000) (a : (spellZ R c y).1 ≤ z) (b : z ≤ (spellZ R c y).2) : spellZ R c z = spellZ R c y := by
  obtain ⟨a1, a2, a3, a4⟩ := spell_le (R := R) h1 h2
  obtain ⟨⟨p1, p2, p3⟩, p4, p5, p6⟩ := spell_law c y R (c.b, 4000)
  obtain ⟨⟨q1, q2, q3⟩, q4, q5, q6⟩ := spell_law c z R (c.b, 4000)
  obtain ⟨b1, b2, b3, b4⟩ := spell_le (R := R) (c := c) (y := z) (by omega) (by omega)
  have side : ∀ r ∈ R, r.b = c.a → (r.c ≤ y → r.c ≤ z) ∧ (y < r.c → z < r.c) := by
    intro r hr hb
    constructor
    · intro hy
      have h : r.c ≤ (spellZ R c y).1 := p2 r hr hb hy
      omega
    · intro hy
      have h : (spellZ R c y).2 < r.c := p5 r hr hb hy
      omega
  have e1 : (spellZ R c z).1 = (spellZ R c y).1 := by
    apply Int.le_antisymm
    · rcases q3 with q3 | ⟨r, hr, hb, hy, e⟩
      · have : (spellZ R c z).1 = c.b := q3
        omega
      · have e' : (spellZ R c z).1 = r.c := e
        by_cases hy2 : r.c ≤ y
        · have h : r.c ≤ (spellZ R c y).1 := p2 r hr hb hy2
          omega
        · have := (side r hr hb).2 (by omega)
          omega
    · rcases p3 with p3 | ⟨r, hr, hb, hy, e⟩
      · have : (spellZ R c y).1 = c.b := p3
        omega
      · have e' : (spellZ R c y).1 = r.c := e
        have h : r.c ≤ (spellZ R c z).1 := q2 r hr hb ((side r hr hb).1 hy)
        omega
  have e2 : (spellZ R c z).2 = (spellZ R c y).2 := by
    apply Int.le_antisymm
    · rcases p6 with p6 | ⟨r, hr, hb, hy, e⟩
      · have : (spellZ R c y).2 = 4000 := p6
        omega
      · have e' : (spellZ R c y).2 = r.c - 1 := e
        have h : (spellZ R c z).2 < r.c := q5 r hr hb ((side r hr hb).2 hy)
        omega
    · rcases q6 with q6 | ⟨r, hr, hb, hy, e⟩
      · have : (spellZ R c z).2 = 4000 := q6
        omega
      · have e' : (spellZ R c z).2 = r.c - 1 := e
        by_cases hy2 : r.c ≤ y
        · have := (side r hr hb).1 hy2
          omega
        · have h : (spellZ R c y).2 < r.c := p5 r hr hb (by omega)
          omega
  exact Prod.ext e1 e2
/-- the ends of Long in a year -/
def loY (P R : List Five) (c : Five) (y : Int) : Int := limLo c.e y (innZ P R c (spellZ R c y))
def hiY (P R : List Five) (c : Five) (y : Int) : Int := limHi c.e y (innZ P R c (spellZ R c y))
theorem limLo_iff {w y m : Int} {l : List Four} : limLo w y l ≤ m ↔ 9000 ≤ m ∧ ∀ t ∈ l, loZ w y t ≤ m := by
  unfold limLo
  have key : ∀ n : Int, l.foldl (fun m t => max m (loZ w y t)) n ≤ m ↔ n ≤ m ∧ ∀ t ∈ l, loZ w y t ≤ m := by
    induction l with
    | nil => intro n; simp
    | cons t l ih =>
      intro n
      rw [List.foldl_cons, ih]
      simp only [List.mem_cons, forall_eq_or_imp]
      constructor
      · rintro ⟨h1, h2⟩; exact ⟨by omega, by omega, h2⟩
      · rintro ⟨h1, h2, h3⟩; exact ⟨by omega, h3⟩
  exact key _
theorem limHi_iff {w y m : Int} {l : List Four} : m ≤ limHi w y l ↔ m ≤ 12000 ∧ ∀ t ∈ l, m ≤ hiZ w y t := by
  unfold limHi
  have key : ∀ n : Int, m ≤ l.foldl (fun m t => min m (hiZ w y t)) n ↔ m ≤ n ∧ ∀ t ∈ l, m ≤ hiZ w y t := by
    induction l with
    | nil => intro n; simp
    | cons t l ih =>
      intro n
      rw [List.foldl_cons, ih]
      simp only [List.mem_cons, forall_eq_or_imp]
      constructor
      · rintro ⟨h1, h2⟩; exact ⟨by omega, by omega, h2⟩
      · rintro ⟨h1, h2, h3⟩; exact ⟨by omega, h3⟩
  exact key _
theorem loZ_step {w y z : Int} (t : Four) (hw : 0 ≤ w) (h : y ≤ z) : loZ w y t ≤ loZ w z t ∧ loZ w z t ≤ loZ w y t + w * (z - y) := by
  unfold loZ
  have h1 := Int.mul_le_mul_of_nonneg_left (show max 0 (t.y - z) ≤ max 0 (t.y - y) by omega) hw
  have h2 := Int.mul_le_mul_of_nonneg_left (show max 0 (t.y - y) ≤ max 0 (t.y - z) + (z - y) by omega) hw
  rw [Int.mul_add] at h2
  omega
theorem hiZ_step {w y z : Int} (t : Four) (hw : 0 ≤ w) (h : y ≤ z) : hiZ w y t ≤ hiZ w z t ∧ hiZ w z t ≤ hiZ w y t + w * (z - y) := by
  unfold hiZ
  have h1 := Int.mul_le_mul_of_nonneg_left (show max 0 (y - t.y) ≤ max 0 (z - t.y) by omega) hw
  have h2 := Int.mul_le_mul_of_nonneg_left (show max 0 (z - t.y) ≤ max 0 (y - t.y) + (z - y) by omega) hw
  rw [Int.mul_add] at h2
  omega
theorem limLo_step {w y z : Int} {l : List Four} (hw : 0 ≤ w) (h : y ≤ z) : limLo w y l ≤ limLo w z l ∧ limLo w z l ≤ limLo w y l + w * (z - y) := by
  have h0 : 0 ≤ w * (z - y) := Int.mul_nonneg hw (by omega)
  have a := (limLo_iff (w := w) (y := z) (l := l)).1 (Int.le_refl _)
  have b := (limLo_iff (w := w) (y := y) (l := l)).1 (Int.le_refl _)
  constructor
  · exact limLo_iff.2 ⟨a.1, fun t ht => Int.le_trans (loZ_step t hw h).1 (a.2 t ht)⟩
  · refine limLo_iff.2 ⟨by omega, fun t ht => ?_⟩
    have h1 := (loZ_step t hw h).2
    have h2 := b.2 t ht
    omega
theorem limHi_step {w y z : Int} {l : List Four} (hw : 0 ≤ w) (h : y ≤ z) : limHi w y l ≤ limHi w z l ∧ limHi w z l ≤ limHi w y l + w * (z - y) := by
  have h0 : 0 ≤ w * (z - y) := Int.mul_nonneg hw (by omega)
  have a := (limHi_iff (w := w) (y := z) (l := l)).1 (Int.le_refl _)
  have b := (limHi_iff (w := w) (y := y) (l := l)).1 (Int.le_refl _)
  constructor
  · exact limHi_iff.2 ⟨b.1, fun t ht => Int.le_trans (b.2 t ht) (hiZ_step t hw h).1⟩
  · have : limHi w z l - w * (z - y) ≤ limHi w y l := by
      refine limHi_iff.2 ⟨by omega, fun t ht => ?_⟩
      have h1 := (hiZ_step t hw h).2
      have h2 := a.2 t ht
      omega
    omega
/-- where nothing contradicts itself there is a length -/
theorem lim_le {w y : Int} {l : List Four} (hw : 0 ≤ w) (hl : ∀ t ∈ l, OkF t) (h : clashesB w l = false) : limLo w y l ≤ limHi w y l := by
  have hp := clashesB_iff.1 h
  have hall : ∀ s ∈ l, ∀ t ∈ l, loZ w t.y s ≤ t.hi := by
    intro s hs t ht
    obtain ⟨i, hi, rfl⟩ := List.getElem_of_mem hs
    obtain ⟨j, hj, rfl⟩ := List.getElem_of_mem ht
    rcases Nat.lt_trichotomy i j with hij | hij | hij
    · have := List.pairwise_iff_getElem.1 hp i j hi hj hij
      unfold clashB at this
      simp only [Bool.or_eq_false_iff, decide_eq_false_iff_not] at this
      omega
    · subst hij
      have := hl _ hs
      unfold OkF at this
      unfold loZ
      rw [Int.sub_self]
      have e : w * max 0 0 = 0 := by simp
      rw [e]
      omega
    · have := List.pairwise_iff_getElem.1 hp j i hj hi hij
      unfold clashB at this
      simp only [Bool.or_eq_false_iff, decide_eq_false_iff_not] at this
      omega
  have hlo : ∀ s ∈ l, loZ w y s ≤ 12000 := by
    intro s hs
    have := hl s hs
    unfold OkF at this
    unfold loZ
    have := Int.mul_nonneg hw (show 0 ≤ max 0 (s.y - y) by omega)
    omega
  have hhi : ∀ s ∈ l, 9000 ≤ hiZ w y s := by
    intro s hs
    have := hl s hs
    unfold OkF at this
    unfold hiZ
    have := Int.mul_nonneg hw (show 0 ≤ max 0 (y - s.y) by omega)
    omega
  refine limHi_iff.2 ⟨limLo_iff.2 ⟨by omega, hlo⟩, fun t ht => limLo_iff.2 ⟨hhi t ht, fun s hs => ?_⟩⟩
  have h1 := hall s hs t ht
  rcases Int.le_total t.y y with hy | hy
  · have h2 := (loZ_step s hw hy).2
    unfold hiZ
    rw [show max 0 (y - t.y) = y - t.y by omega]
    omega
  · have h2 := (loZ_step s hw hy).1
    unfold hiZ
    have := Int.mul_nonneg hw (show 0 ≤ max 0 (y - t.y) by omega)
    omega
/-- the lengths of some years -/
def lens (f : Int → Int) (Y : Int) (n : Nat) : List Int := (List.range n).map (fun i : Nat => f (Y + i))
theorem lens_len (f : Int → Int) (Y : Int) (n : Nat) : (lens f Y n).length = n := by simp [lens]
theorem lens_at {f : Int → Int} {Y : Int} {n i : Nat} (h : i < n) : (lens f Y n).getD i 0 = f (Y + i) := by
  rw [List.getD_eq_getElem?_getD, List.getElem?_eq_getElem (by simpa [lens] using h)]
  simp [lens]
theorem no_clash {P R : List Five} {c : Five} (h : fitCl P R c = false) {y : Int} (h1 : c.b ≤ y) (h2 : y ≤ 4000) : clashesB c.e (innZ P R c (spellZ R c y)) = false := by
  unfold fitCl at h
  have := List.any_eq_false.1 h _ (start_mem (R := R) (c := c) (y := y))
  rw [spellZ_start h1 h2] at this
  simpa using this
/-- the shortest and the longest lengths are possible -/
theorem sharp_fit {C P R : List Five} {id : Int} {c : Five} (g : Good C P R) (hf : findC C id = some c) (h : fitCl P R c = false) {Y : Int} {n : Nat} (h1 : c.b ≤ Y) (h2 : Y + n ≤ 4001) {f : Int → Int} (hfl : f = loY P R c ∨ f = hiY P R c) :
    fitZ P R c Y (lens f Y n) = (-1, true) := by
  obtain ⟨_, hc, _, _⟩ := good_okT g hf
  have hw := (okC_parts hc).2.2.2
  unfold fitZ
  rw [lens_len]
  rw [show (List.range n).find? (fun i => !fitB P R c Y (lens f Y n) i) = none from ?_]
  rw [List.find?_eq_none]
  intro i hi
  have hi := List.mem_range.1 hi
  have y1 : c.b ≤ Y + i := by omega
  have y2 : Y + i ≤ 4000 := by omega
  have hsl := spell_le (R := R) y1 y2
  have hok := (innZ_ok g hf (P := P) (R := R) hsl.1 (by omega : (spellZ R c (Y + i)).1 ≤ (spellZ R c (Y + i)).2)).1
  have hle := lim_le (y := Y + i) hw.1 hok (no_clash h y1 y2)
  have step : i ≠ 0 → (spellZ R c (Y + i)).1 ≠ Y + i → inB (f (Y + i)) (f (Y + ((i - 1 : Nat) : Int))) (f (Y + ((i - 1 : Nat) : Int)) + c.e) = true := by
    intro hi0 hs0
    have e : spellZ R c (Y + ((i - 1 : Nat) : Int)) = spellZ R c (Y + i) := spellZ_same y1 y2 (by omega) (by omega)
    rw [inB_iff]
    have e2 : c.e * (Y + i - (Y + ((i - 1 : Nat) : Int))) = c.e := by
      rw [show Y + (i : Int) - (Y + ((i - 1 : Nat) : Int)) = 1 by omega, Int.mul_one]
    rcases hfl with rfl | rfl
    · unfold loY
      rw [e]
      have := limLo_step (l := innZ P R c (spellZ R c (Y + i))) hw.1 (show Y + ((i - 1 : Nat) : Int) ≤ Y + i by omega)
      rw [e2] at this
      exact this
    · unfold hiY
      rw [e]
      have := limHi_step (l := innZ P R c (spellZ R c (Y + i))) hw.1 (show Y + ((i - 1 : Nat) : Int) ≤ Y + i by omega)
      rw [e2] at this
      exact this
  have hb : fitB P R c Y (lens f Y n) i = true := by
    unfold fitB
    rw [lens_at hi, Bool.and_eq_true]
    refine ⟨?_, ?_⟩
    · rw [inB_iff]
      rcases hfl with rfl | rfl
      · exact ⟨Int.le_refl _, hle⟩
      · exact ⟨hle, Int.le_refl _⟩
    · simp only [Bool.or_eq_true, decide_eq_true_eq]
      by_cases i0 : i = 0
      · exact .inl (.inl i0)
      · by_cases s0 : (spellZ R c (Y + i)).1 = Y + i
        · exact .inl (.inr s0)
        · right
          rw [lens_at (show i - 1 < n by omega)]
          exact step i0 s0
  simp [hb]
end Go.Proofs.Ytaggjclaehigjaa
