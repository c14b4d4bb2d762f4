/- Contracts of IndexFunc at spells, at, Spell, agreed, Long. -/
import Derived.Test.YtaggjclaehigjaaK1
import Derived.Test.YtaggjclaehigjaaV
import Derived.Test.YtaggjclaehigjaaE
import Derived.Test.YtaggjclaehigjaaP2
namespace Go.Proofs.Ytaggjclaehigjaa
open Go.RowKit
theorem SpellsAt.parts {w : World} {v : Value} {S : List SpE} (h : SpellsAt w v S) : ∃ a cap, v = .slice a S.length cap ∧ S.length ≤ cap ∧ cap ≤ maxLen ∧ (S = [] ∨ ∃ b off, a = some ⟨b, off, none⟩ ∧ ∀ i, (h : i < S.length) →
    w.cell? ⟨b, off + i * 4, none⟩ = some (.int .i64 S[i].lo) ∧ w.cell? ⟨b, off + i * 4 + 1, none⟩ = some (.int .i64 S[i].hi) ∧ w.cell? ⟨b, off + i * 4 + 2, none⟩ = some (.int .i64 S[i].w) ∧ w.cell? ⟨b, off + i * 4 + 3, none⟩ = some (.slice S[i].a S[i].n S[i].c)) := by
  obtain ⟨⟨a, cap, hv, hl, hm, hc⟩, _⟩ := h
  refine ⟨a, cap, hv, hl, hm, hc.imp id ?_⟩
  rintro ⟨b, off, ha, hc⟩
  refine ⟨b, off, ha, fun i hi => ?_⟩
  have := hc i hi
  exact ⟨this 0 _ rfl, this 1 _ rfl, this 2 _ rfl, this 3 _ rfl⟩
/-- the index of the first spell with a property, or -1 -/
def idxS (p : SpE → Bool) (l : List SpE) : Int := match l.findIdx? p with | some i => (i : Int) | none => -1
theorem idxS_none {p : SpE → Bool} {l : List SpE} (h : ∀ i, (hi : i < l.length) → p l[i] = false) : idxS p l = -1 := by
  unfold idxS
  rw [List.findIdx?_eq_none_iff.2 (fun x hx => by obtain ⟨i, hi, rfl⟩ := List.mem_iff_getElem.1 hx; exact h i hi)]
theorem idxS_some {p : SpE → Bool} {l : List SpE} {k : Nat} (hk : k < l.length) (h : p l[k] = true) (hn : ∀ i, (hi : i < k) → p (l[i]'(by omega)) = false) : idxS p l = k := by
  unfold idxS
  rw [List.findIdx?_eq_some_iff_getElem.2 ⟨hk, h, fun j hj => by rw [hn j hj]; simp⟩]
set_option maxRecDepth 100000 in
set_option maxHeartbeats 1000000 in
theorem indexS_any (W : World) (l : List SpE) (v : Value) (g : Nat) (caps : Array Value) (p : SpE → Bool) (w : World) (hX : Ext W w) (hv : SpellsAt w v l) (hg : Enters g)
    (hp : ∀ i, (h : i < l.length) → ∀ w', Ext w w' → Calls Try.prog g (#[l[i].val] ++ caps) w' fun e w'' => e = .returned (.bool (p l[i])) ∧ Ext w' w'') :
    Calls Try.prog 67 #[v, .func (.func g) #[] caps] w fun e w' => e = .returned (.int .i64 (idxS p l)) ∧ Ext W w' := by
  obtain ⟨a, cap, rfl, hl, hm, hc⟩ := hv.parts
  have hg' := hg
  unfold Enters at hg'
  have HP := Lib.hid hp
  have HC := Lib.hid hc
  unfold maxLen at hm
  have hml : l.length ≤ 9223372036854775807 := by omega
  clear hp hc hm hv
  go_enter Try.func67, Try.ntmps67
  go_wp2
  go_loopw [5, 8] (fun _ i wr => ∃ k : Nat, k ≤ l.length ∧ i = .int .i64 k ∧ (∀ j, (hj : j < k) → (h : j < l.length) → p l[j] = false) ∧ Ext w wr) (fun _ i _ => l.length - (intOf i).toNat)
  case atStart => exact ⟨0, Nat.zero_le _, rfl, fun j hj => absurd hj (by omega), Ext.refl _⟩
  case round =>
    obtain ⟨k, hk, rfl, hn, hE⟩ := hrel
    have HN := Lib.hid hn
    clear hn
    by_cases hlt : k < l.length
    · obtain ⟨b, off, rfl, hcl⟩ := HC.out.resolve_left (fun e => by simp [e] at hlt)
      obtain ⟨c0, c1, c2, c3⟩ := hcl k hlt
      have c0 := hE.cell c0
      have c1 := hE.cell c1
      have c2 := hE.cell c2
      have c3 := hE.cell c3
      have hpk := HP.out k hlt wr hE
      obtain ⟨x, hx⟩ : ∃ x, x = l[k] := ⟨_, rfl⟩
      rw [← hx] at c0 c1 c2 c3 hpk
      have HX := Lib.hid hx
      unfold SpE.val at hpk
      have HK := Lib.hid hpk
      clear hx hpk hcl
      cases hpb : p x
      all_goals
        go_wp2_with fail
        refine HK.out.mono ?_
        rintro e w1 ⟨rfl, hX1⟩
        rw [hpb]
        go_wp2_with fail
      · go_roundw
        case rel =>
          refine ⟨k + 1, by omega, by go_num, fun j hj h => ?_, hE.trans hX1⟩
          by_cases e : j = k
          · subst e; rw [← HX.out]; exact hpb
          · exact HN.out j (by omega) h
        case measure => simp [intOf]; omega
      · go_ret
        exact ⟨by rw [idxS_some hlt (by rw [← HX.out]; exact hpb) (fun i hi => HN.out i hi (by omega))]; rfl, hX.trans (hE.trans hX1)⟩
    · obtain rfl : k = l.length := by omega
      go_wp2_with fail
      go_ret
      exact ⟨by rw [idxS_none (fun i hi => HN.out i hi hi)]; rfl, hX.trans hE⟩
theorem atC_any (s : SpE) (y : Int) (b : Nat) (w : World) (hc : w.cell? ⟨b, 0, none⟩ = some (.int .i64 y)) :
    Calls Try.prog 89 #[s.val, .pointer (some ⟨b, 0, none⟩)] w fun e w' => e = .returned (.bool (inB y s.lo s.hi)) ∧ Ext w w' := by
  have hb := lt_of_cell hc
  unfold SpE.val
  go_enter Try.func89, Try.ntmps89
  go_wp2_with (go_at_call 53; with_reducible refine (within_any _ _ _ _).mono ?_; rintro e w' ⟨rfl, rfl⟩)
  go_ret
  exact ⟨rfl, (Ext.refl _).alloc _⟩
theorem enters_at : Enters 89 := fun _ _ => by kernel_rfl
/-- a spell stays what it is while a small block that holds no thing is written -/
theorem SpOk.kx {R T : Nat} {w w' : World} {s : SpE} {cs : Array Value} {ro : Nat × Nat} (h : SpOk w s) (x : KX R w w') (hb : w.heap[R]? = some (.cells cs T ro)) (hcs : ∀ (j T : Nat) (u : Value), cs[j]? ≠ some (.iface T u)) (hsz : cs.size ≤ 4) : SpOk w' s := by
  refine ⟨?_, fun y hy => ?_, h.ok, h.we, h.ln⟩
  · obtain ⟨a, cap, hv, hl, hm, hc⟩ := h.sl
    refine ⟨a, cap, hv, hl, hm, hc.imp id ?_⟩
    rintro ⟨b, off, ha, hc⟩
    refine ⟨b, off, ha, fun i hi j u hu => ?_⟩
    have hcell := hc i hi j u hu
    refine cell_kx x hcell ?_
    rintro rfl
    rw [cell_at hb] at hcell
    match j, hu with
    | 0, hu =>
      simp only [encE, List.getElem?_cons_zero, Option.some.injEq] at hu
      rw [← hu] at hcell
      exact hcs _ _ _ hcell
    | j + 1, hu => simp [encE] at hu
  · have key : ∀ b z, At5 w b 0 z → b ≠ R := by
      rintro b z hz rfl
      have := hz.2.2.2.2
      rw [cell_at hb, Array.getElem?_eq_none (by omega)] at this
      cases this
    rcases h.el y hy with ⟨b, z, h1, h2, h3⟩ | h | ⟨b, z, h1, h2, h3⟩
    · exact .inl ⟨b, z, h1, h2.kx x (key b z h2), h3⟩
    · exact .inr (.inl h)
    · exact .inr (.inr ⟨b, z, h1, h2.kx x (key b z h2), h3⟩)
theorem zeroS_no (j T : Nat) (u : Value) : (#[Value.int .i64 0, .int .i64 0, .int .i64 0, .slice none 0 0] : Array Value)[j]? ≠ some (.iface T u) := by
  intro h
  match j, h with
  | 0, h => cases h
  | 1, h => cases h
  | 2, h => cases h
  | 3, h => cases h
  | j + 4, h => simp at h
/-- the error of Spell -/
def atE (C P R : List Five) (id y : Int) : Int := if chk C P R = 0 then (match findC C id with | none => 5 | some c => if inB y c.b 4000 then 0 else 1) else chk C P R
/-- the spell of a chain that has a year -/
structure SpIs (P R : List Five) (c : Five) (y : Int) (s : SpE) : Prop where
  sp : (s.lo, s.hi) = spellZ R c y
  we : s.w = c.e
  le : s.lo ≤ y ∧ y ≤ s.hi
  fs : s.fs.Perm (innZ P R c (spellZ R c y))
abbrev zeroS : Value := .agg #[.int .i64 0, .int .i64 0, .int .i64 0, .slice none 0 0]
/-- what at returns -/
def AtPost (W : World) (C P R : List Five) (id y : Int) (e : Ending) (w : World) : Prop :=
  Ext W w ∧ ((atE C P R id y ≠ 0 ∧ e = .returned (.tuple #[zeroS, .int .i64 (atE C P R id y)])) ∨
    (atE C P R id y = 0 ∧ ∃ c s, Good C P R ∧ findC C id = some c ∧ (c.b ≤ y ∧ y ≤ 4000) ∧ e = .returned (.tuple #[s.val, .int .i64 0]) ∧ SpOk w s ∧ SpIs P R c y s))
theorem innZ_ok {C P R : List Five} {id : Int} {c : Five} (g : Good C P R) (hf : findC C id = some c) {lo hi : Int} (h1 : c.b ≤ lo) (h2 : lo ≤ hi) : (∀ t ∈ innZ P R c (lo, hi), OkF t) ∧ (innZ P R c (lo, hi)).length ≤ 61 := by
  rw [← filter_thAll lo hi h1 h2]
  constructor
  · intro t ht
    obtain ⟨u, hu, rfl⟩ := List.mem_map.1 ht
    exact (thAll_ok g hf u (List.mem_filter.1 hu).1).1
  · rw [List.length_map]
    have h3 := List.length_filter_le (fun t : Th => inB t.y lo hi) (thAll P R c)
    have h4 : (thAll P R c).length ≤ 1 + P.length + R.length := by
      unfold thAll thP thR
      have a := List.length_filter_le (fun p : Five => p.b == c.a) (P.take P.length)
      have b := List.length_filter_le (fun p : Five => p.b == c.a) (R.take R.length)
      simp only [List.take_length] at a b
      simp only [List.take_length, List.length_append, List.length_cons, List.length_map]
      omega
    have := g.few
    omega
theorem spell_le {R : List Five} {c : Five} {y : Int} (h1 : c.b ≤ y) (h2 : y ≤ 4000) : c.b ≤ (spellZ R c y).1 ∧ (spellZ R c y).1 ≤ y ∧ y ≤ (spellZ R c y).2 ∧ (spellZ R c y).2 ≤ 4000 := by
  obtain ⟨⟨z1, z2, z3⟩, z4, z5, z6⟩ := spell_law c y R (c.b, 4000)
  simp only at z1 z3 z4 z6
  unfold spellZ
  refine ⟨z1, ?_, ?_, z4⟩
  · rcases z3 with z3 | ⟨q, _, _, hy, z3⟩ <;> omega
  · rcases z6 with z6 | ⟨q, _, _, hy, z6⟩ <;> omega
/-- out of the spells: the one that has a year -/
theorem pick_at {C P R : List Five} {id : Int} {c : Five} (g : Good C P R) (hf : findC C id = some c) {w : World} {v : Value} {S : List SpE} {ts : List Th} (hS : SpellsAt w v S) (hp : ts.Perm (thAll P R c)) (hs : SortedT ts)
    (hm : S.map SpE.sp = splitS c.e ts) {y : Int} (h1 : c.b ≤ y) (h2 : y ≤ 4000) : ∃ k, ∃ h : k < S.length, idxS (fun s => inB y s.lo s.hi) S = k ∧ SpOk w S[k] ∧ SpIs P R c y S[k] := by
  obtain ⟨k, sp, e1, e2, e3, e4, e5, e6⟩ := spells_pick g hf hp hs h1 h2
  rw [← hm] at e1 e3
  have hk : k < S.length := by
    have := (List.getElem?_eq_some_iff.1 e1).1
    simpa using this
  have hsp : S[k].sp = sp := by
    rw [List.getElem?_map] at e1
    simpa [hk] using e1
  have hlo : S[k].lo = sp.lo := by rw [← hsp]; rfl
  have hhi : S[k].hi = sp.hi := by rw [← hsp]; rfl
  have hw : S[k].w = sp.w := by rw [← hsp]; rfl
  have hts : S[k].fs = sp.ts.map Th.f := by rw [← hsp]; simp [SpE.fs, SpE.sp]
  have hsl := spell_le (R := R) h1 h2
  rw [← e4] at hsl
  simp only at hsl
  have hok := innZ_ok g hf hsl.1 (by omega : sp.lo ≤ sp.hi)
  have hc := okC_parts (good_okT g hf).2.1
  refine ⟨k, hk, ?_, ⟨(hS.2 _ (List.getElem_mem hk)).1, (hS.2 _ (List.getElem_mem hk)).2, ?_, ?_, ?_⟩, ⟨by rw [hlo, hhi]; exact e4, by rw [hw]; exact e5, by rw [hlo, hhi]; exact e2, by rw [hts, ← e4]; exact e6⟩⟩
  · refine idxS_some hk (by rw [inB_iff, hlo, hhi]; exact e2) (fun i hi => ?_)
    have hil : i < S.length := by omega
    have := e3 i S[i].sp hi (by rw [List.getElem?_map, List.getElem?_eq_getElem hil]; rfl)
    cases hb : inB y S[i].lo S[i].hi
    · rfl
    · exact absurd (inB_iff.1 hb) this
  · intro x hx
    have hxm : x.2.2.f ∈ S[k].fs := List.mem_map_of_mem hx
    rw [hts] at hxm
    exact hok.1 _ (e6.mem_iff.1 hxm)
  · rw [hw, e5]; exact hc.2.2.2
  · have := e6.length_eq
    have h3 : S[k].L.length = S[k].fs.length := by simp [SpE.fs]
    rw [h3, hts, this]
    exact Nat.le_trans hok.2 (by omega)
set_option maxRecDepth 100000 in
set_option maxHeartbeats 4000000 in
theorem at_any (W : World) (C P R : List Five) (v : Value) (id y : Int) (w : World) (hX : Ext W w) (hv : Wk w v C P R) :
    Calls Try.prog 49 #[v, .int .i64 id, .int .i64 y] w (AtPost W C P R id y) := by
  have HCK := Lib.hid (fun w' (x : Ext w w') => Check_any w' C P R v w' (Ext.refl _) (hv.ext x))
  have HV := Lib.hid hv
  obtain ⟨vC, vP, vR, rfl, hC, hP, hR, hn⟩ := hv
  have HC := Lib.hid hC
  clear hC hP hR hn
  have hX0 : Ext w (((w.alloc (.cells #[vC, vP, vR] 26)).alloc (.cells #[.int .i64 y] 3)).alloc (.cells #[.int .i64 0, .int .i64 0, .int .i64 0, .slice none 0 0] 88)) := (((Ext.refl w).alloc _).alloc _).alloc _
  by_cases hE : chk C P R = 0
  · have g := chk_zero.1 hE
    cases hf : findC C id with
    | none =>
      have HE := Lib.hid hE
      have HAE : Hid (atE C P R id y = 5) := by show _ = _; unfold atE; rw [if_pos hE, hf]
      have HFV := Lib.hid (findV_none hf)
      clear hE hf
      go_enter Try.func49, Try.ntmps49
      go_wp2_with (first
        | (go_at_call 18; with_reducible refine (HCK.out _ hX0).mono ?_; rintro e w1 ⟨rfl, hX1⟩; rw [HE.out]; obtain ⟨hr, hfz⟩ := brule hX1; have hz : w.heap.size + 2 < w1.heap.size := (by have := hX1.le; simp at this; omega); have hz1 : w.heap.size + 1 < w1.heap.size := (by omega); have hz0 : w.heap.size < w1.heap.size := (by omega))
        | (go_at_call 55; with_reducible refine (find_any _ C _ _ _ _ _ (Ext.refl _) ((HC.out.ext hX0).ext hX1)).mono ?_; rintro e w2 ⟨rfl, hX2⟩; rw [HFV.out]; obtain ⟨hr2, hfz2⟩ := brule hX2; have hy : w.heap.size + 2 < w2.heap.size := (by have := hX2.le; omega); have hy1 : w.heap.size + 1 < w2.heap.size := (by omega); have hy0 : w.heap.size < w2.heap.size := (by omega)))
      refine bodyPost_ret (v := .tuple #[zeroS, .int .i64 5]) (by simp [results, Try.results49, hr, hr2, hz, hy, go_sem]) rfl ⟨?_, .inl ⟨by rw [HAE.out]; decide, by rw [HAE.out]⟩⟩
      have hle := hX.le
      repeat (first | exact hX.trans (hX0.trans (hX1.trans hX2)) | refine Ext.alloc ?_ _ | refine Ext.setCell ?_ (by simp; omega) _)
    | some c =>
      cases hb : inB y c.b 4000 with
      | false =>
        have HE := Lib.hid hE
        have HAE : Hid (atE C P R id y = 1) := by show _ = _; unfold atE; rw [if_pos hE, hf]; simp [hb]
        have HFV := Lib.hid (findV_some hf)
        clear hE hf
        go_enter Try.func49, Try.ntmps49
        go_wp2_with (first
          | (go_at_call 18; with_reducible refine (HCK.out _ hX0).mono ?_; rintro e w1 ⟨rfl, hX1⟩; rw [HE.out]; obtain ⟨hr, hfz⟩ := brule hX1; have hz : w.heap.size + 2 < w1.heap.size := (by have := hX1.le; simp at this; omega); have hz1 : w.heap.size + 1 < w1.heap.size := (by omega); have hz0 : w.heap.size < w1.heap.size := (by omega))
          | (go_at_call 55; with_reducible refine (find_any _ C _ _ _ _ _ (Ext.refl _) ((HC.out.ext hX0).ext hX1)).mono ?_; rintro e w2 ⟨rfl, hX2⟩; rw [HFV.out]; obtain ⟨hr2, hfz2⟩ := brule hX2; have hy : w.heap.size + 2 < w2.heap.size := (by have := hX2.le; omega); have hy1 : w.heap.size + 1 < w2.heap.size := (by omega); have hy0 : w.heap.size < w2.heap.size := (by omega))
          | (go_at_call 53; with_reducible refine (within_any _ _ _ _).mono ?_; rintro e w' ⟨rfl, rfl⟩))
        refine bodyPost_ret (v := .tuple #[zeroS, .int .i64 1]) (by simp [results, Try.results49, hr, hr2, hz, hy, go_sem]) rfl ⟨?_, .inl ⟨by rw [HAE.out]; decide, by rw [HAE.out]⟩⟩
        have hle := hX.le
        repeat (first | exact hX.trans (hX0.trans (hX1.trans hX2)) | refine Ext.alloc ?_ _ | refine Ext.setCell ?_ (by simp; omega) _)
      | true =>
        have HE := Lib.hid hE
        have HAE : Hid (atE C P R id y = 0) := by show _ = _; unfold atE; rw [if_pos hE, hf]; simp [hb]
        have HFV := Lib.hid (findV_some hf)
        have hyy := inB_iff.1 hb
        have HF := Lib.hid hf
        have HSPL : Hid (∀ w', Ext w w' → Calls Try.prog 64 #[.agg #[vC, vP, vR], v5 c] w' (SpellsPost w' P R c)) := fun w' x =>
          spells_any w' C P R c _ w' (Ext.refl _) (HV.out.ext x) (by have := g.few; omega) (fun ts hp hs => by obtain ⟨t, r, e, hb, _⟩ := head_beg g hf hp hs; exact ⟨t, r, e, hb⟩) (fun t ht => (thAll_ok g hf t ht).1.1)
        have hcy : (((w.alloc (.cells #[vC, vP, vR] 26)).alloc (.cells #[.int .i64 y] 3)).alloc (.cells #[.int .i64 0, .int .i64 0, .int .i64 0, .slice none 0 0] 88)).cell? ⟨w.heap.size + 1, 0, none⟩ = some (.int .i64 y) := by
          have := cell_new (w.alloc (.cells #[vC, vP, vR] 26)) [.int .i64 y] 3 0
          rw [World.size_alloc] at this
          exact ((Ext.refl _).alloc _).cell this
        have hrs : (((w.alloc (.cells #[vC, vP, vR] 26)).alloc (.cells #[.int .i64 y] 3)).alloc (.cells #[.int .i64 0, .int .i64 0, .int .i64 0, .slice none 0 0] 88)).heap[w.heap.size + 2]? = some (.cells #[.int .i64 0, .int .i64 0, .int .i64 0, .slice none 0 0] 88) := by
          have := heap_alloc_new ((w.alloc (.cells #[vC, vP, vR] 26)).alloc (.cells #[.int .i64 y] 3)) (.cells #[.int .i64 0, .int .i64 0, .int .i64 0, .slice none 0 0] 88)
          simpa using this
        have HRS := Lib.hid hrs
        have HCY := Lib.hid hcy
        clear hE hf hrs hcy
        go_enter Try.func49, Try.ntmps49
        go_wp2_with (first
          | (go_at_call 18; with_reducible refine (HCK.out _ hX0).mono ?_; rintro e w1 ⟨rfl, hX1⟩; rw [HE.out]; obtain ⟨hr, hfz⟩ := brule hX1; have hz : w.heap.size + 2 < w1.heap.size := (by have := hX1.le; simp at this; omega); have hz1 : w.heap.size + 1 < w1.heap.size := (by omega); have hz0 : w.heap.size < w1.heap.size := (by omega))
          | (go_at_call 55; with_reducible refine (find_any _ C _ _ _ _ _ (Ext.refl _) ((HC.out.ext hX0).ext hX1)).mono ?_; rintro e w2 ⟨rfl, hX2⟩; rw [HFV.out]; obtain ⟨hr2, hfz2⟩ := brule hX2; have hy : w.heap.size + 2 < w2.heap.size := (by have := hX2.le; omega); have hy1 : w.heap.size + 1 < w2.heap.size := (by omega); have hy0 : w.heap.size < w2.heap.size := (by omega))
          | (go_at_call 53; with_reducible refine (within_any _ _ _ _).mono ?_; rintro e w' ⟨rfl, rfl⟩))
        have hX12 := hX0.trans (hX1.trans (hX2.alloc (.cells #[.int .i64 c.a, .int .i64 c.b, .int .i64 c.c, .int .i64 c.d, .int .i64 c.e] 53)))
        with_reducible refine (HSPL.out _ hX12).mono ?_
        rintro e w3 ⟨v3, S, ts, rfl, hS, hp, hs, hm, hX3⟩
        have hX13 := (hX1.trans (hX2.alloc (.cells #[.int .i64 c.a, .int .i64 c.b, .int .i64 c.c, .int .i64 c.d, .int .i64 c.e] 53))).trans hX3
        clear hr hfz hr2 hfz2 hX1 hX2 hX3 hX12
        go_wp2_with fail
        with_reducible refine (indexS_any _ S _ _ _ (fun s => inB y s.lo s.hi) _ (Ext.refl _) hS enters_at (fun i hi w' hw => atC_any _ y _ w' ((hX13.trans hw).cell HCY.out))).mono ?_
        rintro e w4 ⟨rfl, hX4⟩
        have hX14 := hX13.trans hX4
        obtain ⟨k, hk, hidx, hOK, hIS⟩ := pick_at g HF.out (hS.ext hX4) hp hs hm hyy.1 hyy.2
        rw [hidx]
        obtain ⟨a3, cap3, rfl, hl3, hm3, hc3⟩ := (hS.ext hX4).parts
        obtain ⟨b3, off3, rfl, hc4⟩ := hc3.resolve_left (fun e => by rw [e] at hk; simp at hk)
        obtain ⟨d0, d1, d2, d3⟩ := hc4 k hk
        have hkz : (k : Int) < (S.length : Int) := by omega
        have hOK' := Lib.hid hOK
        have hIS' := Lib.hid hIS
        generalize hsk : S[k] = sk at d0 d1 d2 d3 hOK' hIS'
        have br := hX14.block HRS.out
        have r0 := cell_at br 0
        have r1 := cell_at br 1
        have r2 := cell_at br 2
        have r3 := cell_at br 3
        have fz := frozen_cells (w := w4) ⟨_, br⟩
        have BR := Lib.hid br
        have zR : w.heap.size + 2 < w4.heap.size := (Array.getElem?_eq_some_iff.1 br).1
        simp only [List.getElem?_toArray, List.getElem?_cons_succ, List.getElem?_cons_zero] at r0 r1 r2 r3
        clear hS hp hs hm hidx hOK hIS hsk hc3 hc4 br hl3 hm3
        go_wp2_with fail
        refine bodyPost_ret (v := .tuple #[sk.val, .int .i64 0]) (by simp [results, Try.results49, SpE.val, r0, r1, r2, r3, go_sem]) rfl ⟨?_, .inr ⟨HAE.out, c, sk, g, HF.out, hyy, rfl, hOK'.out.kx ?_ BR.out zeroS_no (Nat.le_refl _), hIS'.out⟩⟩
        · have hle := hX.le
          repeat (first | exact hX.trans (hX0.trans hX14) | refine Ext.alloc ?_ _ | refine Ext.setCell ?_ (by simp; omega) _)
        · exact ((((KX.refl _ _).set _ _).set _ _).set _ _).set _ _
  · have HAE : Hid (atE C P R id y = chk C P R) := by show _ = _; unfold atE; rw [if_neg hE]
    obtain ⟨n, hn⟩ : ∃ n, chk C P R = n := ⟨_, rfl⟩
    rw [hn] at hE
    have hE2 : (n == 0) = false := by simpa using hE
    have HN := Lib.hid hn
    clear hn
    go_enter Try.func49, Try.ntmps49
    go_wp2_with (go_at_call 18; with_reducible refine (HCK.out _ hX0).mono ?_; rintro e w1 ⟨rfl, hX1⟩; rw [HN.out]; obtain ⟨hr, hfz⟩ := brule hX1; have hz : w.heap.size + 2 < w1.heap.size := (by have := hX1.le; simp at this; omega))
    refine bodyPost_ret (v := .tuple #[zeroS, .int .i64 n]) (by simp [results, Try.results49, hr, go_sem]) rfl ⟨?_, .inl ⟨by rw [HAE.out, HN.out]; exact hE, by rw [HAE.out, HN.out]⟩⟩
    have hle := hX.le
    repeat (first | exact hX.trans (hX0.trans hX1) | refine Ext.setCell ?_ (by simp; omega) _)
end Go.Proofs.Ytaggjclaehigjaa
