/- Contracts of slices.Clone and slices.DeleteFunc at proofs and repairs, of less and Without. Contracts of slices.DeleteFunc at proofs and repairs, of less and Without. Contracts of less and Without. Contract of Without. -/
import Derived.Test.YtaggjclaehigjaaC
import Derived.Test.YtaggjclaehigjaaU
import Derived.Test.YtaggjclaehigjaaE
import Derived.Test.YtaggjclaehigjaaR6
import Derived.Deep.RegionHeld3
import Derived.Test.YtaggjclaehigjaaR10
namespace Go.Proofs.Ytaggjclaehigjaa
open Go.RowKit
/-! ints: the first with a property -/
def idxI (p : Int → Bool) (l : List Int) : Int := match l.findIdx? p with | some i => (i : Int) | none => -1
theorem idxI_none {p : Int → Bool} {l : List Int} (h : ∀ i, (hi : i < l.length) → p l[i] = false) : idxI p l = -1 := by
  unfold idxI
  rw [List.findIdx?_eq_none_iff.2 (fun x hx => by obtain ⟨i, hi, rfl⟩ := List.mem_iff_getElem.1 hx; exact h i hi)]
theorem idxI_some {p : Int → Bool} {l : List Int} {k : Nat} (hk : k < l.length) (h : p l[k] = true) (hn : ∀ i, (hi : i < k) → p (l[i]'(by omega)) = false) : idxI p l = k := by
  unfold idxI
  rw [List.findIdx?_eq_some_iff_getElem.2 ⟨hk, h, fun j hj => by rw [hn j hj]; simp⟩]
theorem idxI_cases (p : Int → Bool) (l : List Int) : (idxI p l = -1 ∧ l.any p = false) ∨ ∃ k : Nat, k < l.length ∧ idxI p l = k ∧ l.any p = true := by
  unfold idxI
  cases h : l.findIdx? p with
  | none =>
    left
    refine ⟨rfl, ?_⟩
    rw [List.findIdx?_eq_none_iff] at h
    exact List.any_eq_false.2 (fun x hx => by simp [h x hx])
  | some k =>
    right
    obtain ⟨hk, hp, _⟩ := List.findIdx?_eq_some_iff_getElem.1 h
    exact ⟨k, hk, rfl, List.any_eq_true.2 ⟨l[k], List.getElem_mem hk, hp⟩⟩
theorem idxI_bool (p : Int → Bool) (l : List Int) : l.any p = decide (0 ≤ idxI p l) := by
  rcases idxI_cases p l with ⟨e, h⟩ | ⟨k, _, e, h⟩
  · rw [e, h]; rfl
  · rw [e, h]; simp
set_option maxRecDepth 100000 in
set_option maxHeartbeats 1000000 in
theorem indexI_any (v : Value) (l : List Int) (x : Int) (w : World) (hv : Ints w v l) : Calls Try.prog 128 #[v, .int .i64 x] w fun e w' => e = .returned (.int .i64 (idxI (fun y => x == y) l)) ∧ Ext w w' := by
  obtain ⟨a, cap, rfl, hl, hm, hc⟩ := hv.parts
  have HC := Lib.hid hc
  unfold maxLen at hm
  have hml : l.length ≤ 9223372036854775807 := by omega
  clear hc hm hv
  go_enter Try.func128, Try.ntmps128
  go_wp2
  go_loopw [5, 8] (fun _ i wr => ∃ k : Nat, k ≤ l.length ∧ i = .int .i64 k ∧ (∀ j, (hj : j < k) → (h : j < l.length) → (x == l[j]) = false) ∧ Ext w wr) (fun _ i _ => l.length - (intOf i).toNat)
  case atStart => exact ⟨0, Nat.zero_le _, rfl, fun j hj => absurd hj (by omega), Ext.refl _⟩
  case round =>
    obtain ⟨k, hk, rfl, hn, hE⟩ := hrel
    have HN := Lib.hid hn
    clear hn
    by_cases hlt : k < l.length
    · obtain ⟨b, off, y, hy, rfl, c0⟩ := int_at HC.out hE hlt
      have HY := Lib.hid hy
      clear hy
      cases hxy : (x == y)
      · go_wp2_with fail
        go_roundw
        case rel =>
          refine ⟨k + 1, by omega, by go_num, fun j hj h => ?_, hE⟩
          by_cases e : j = k
          · subst e; rw [← HY.out]; exact hxy
          · exact HN.out j (by omega) h
        case measure => simp [intOf]; omega
      · go_wp2_with fail
        go_ret
        exact ⟨by rw [idxI_some hlt (by rw [← HY.out]; exact hxy) (fun i hi => HN.out i hi (by omega))]; rfl, hE⟩
    · obtain rfl : k = l.length := by omega
      go_wp2_with fail
      go_ret
      exact ⟨by rw [idxI_none (fun i hi => HN.out i hi hi)]; rfl, hE⟩
set_option maxRecDepth 100000 in
set_option maxHeartbeats 1000000 in
theorem containsI_any (v : Value) (l : List Int) (x : Int) (w : World) (hv : Ints w v l) : Calls Try.prog 115 #[v, .int .i64 x] w fun e w' => e = .returned (.bool (l.any (fun y => x == y))) ∧ Ext w w' := by
  have HI := Lib.hid (indexI_any v l x w hv)
  have hb := idxI_bool (fun y => x == y) l
  have HB := Lib.hid hb
  generalize idxI (fun y => x == y) l = n at HI HB hb
  obtain ⟨a, cap, rfl, -⟩ := hv.parts
  clear hb hv
  go_enter Try.func115, Try.ntmps115
  go_wp2_with (go_at_call 128; with_reducible refine HI.out.mono ?_; rintro e w' ⟨rfl, hX1⟩)
  go_ret
  exact ⟨by rw [HB.out]; rfl, hX1⟩
set_option maxRecDepth 100000 in
set_option maxHeartbeats 1000000 in
theorem indexIF_any (v : Value) (l : List Int) (g : Nat) (p : Int → Bool) (w : World) (hv : Ints w v l) (hg : Enters g) (hp : ∀ (x : Int) (w' : World), Ext w w' → Calls Try.prog g #[.int .i64 x] w' fun e w'' => e = .returned (.bool (p x)) ∧ Ext w' w'') :
    Calls Try.prog 110 #[v, .func (.func g) #[] #[]] w fun e w' => e = .returned (.int .i64 (idxI p l)) ∧ Ext w w' := by
  obtain ⟨a, cap, rfl, hl, hm, hc⟩ := hv.parts
  have hg' := hg
  unfold Enters at hg'
  have HP := Lib.hid hp
  have HC := Lib.hid hc
  unfold maxLen at hm
  have hml : l.length ≤ 9223372036854775807 := by omega
  clear hp hc hm hv
  go_enter Try.func110, Try.ntmps110
  go_wp2
  go_loopw [5, 8] (fun _ i wr => ∃ k : Nat, k ≤ l.length ∧ i = .int .i64 k ∧ (∀ j, (hj : j < k) → (h : j < l.length) → p l[j] = false) ∧ Ext w wr) (fun _ i _ => l.length - (intOf i).toNat)
  case atStart => exact ⟨0, Nat.zero_le _, rfl, fun j hj => absurd hj (by omega), Ext.refl _⟩
  case round =>
    obtain ⟨k, hk, rfl, hn, hE⟩ := hrel
    have HN := Lib.hid hn
    clear hn
    by_cases hlt : k < l.length
    · obtain ⟨b, off, y, hy, rfl, c0⟩ := int_at HC.out hE hlt
      have HY := Lib.hid hy
      have HK := Lib.hid (HP.out y wr hE)
      clear hy
      cases hpb : p y
      all_goals
        rw [hpb] at HK
        go_wp2_with fail
        with_reducible refine HK.out.mono ?_
        rintro e w1 ⟨rfl, hX1⟩
        go_wp2_with fail
      · go_roundw
        case rel =>
          refine ⟨k + 1, by omega, by go_num, fun j hj h => ?_, hE.trans hX1⟩
          by_cases e : j = k
          · subst e; rw [← HY.out]; exact hpb
          · exact HN.out j (by omega) h
        case measure => simp [intOf]; omega
      · go_ret
        exact ⟨by rw [idxI_some hlt (by rw [← HY.out]; exact hpb) (fun i hi => HN.out i hi (by omega))]; rfl, hE.trans hX1⟩
    · obtain rfl : k = l.length := by omega
      go_wp2_with fail
      go_ret
      exact ⟨by rw [idxI_none (fun i hi => HN.out i hi hi)]; rfl, hE⟩
set_option maxRecDepth 100000 in
set_option maxHeartbeats 1000000 in
theorem containsIF_any (v : Value) (l : List Int) (g : Nat) (p : Int → Bool) (w : World) (hv : Ints w v l) (hg : Enters g) (hp : ∀ (x : Int) (w' : World), Ext w w' → Calls Try.prog g #[.int .i64 x] w' fun e w'' => e = .returned (.bool (p x)) ∧ Ext w' w'') :
    Calls Try.prog 83 #[v, .func (.func g) #[] #[]] w fun e w' => e = .returned (.bool (l.any p)) ∧ Ext w w' := by
  have HI := Lib.hid (indexIF_any v l g p w hv hg hp)
  have HB := Lib.hid (idxI_bool p l)
  generalize idxI p l = n at HI HB
  obtain ⟨a, cap, rfl, -⟩ := hv.parts
  clear hv hp hg
  go_enter Try.func83, Try.ntmps83
  go_wp2_with (go_at_call 110; with_reducible refine HI.out.mono ?_; rintro e w' ⟨rfl, hX1⟩)
  go_ret
  exact ⟨by rw [HB.out]; rfl, hX1⟩
set_option maxRecDepth 100000 in
set_option maxHeartbeats 1000000 in
theorem withoutC_any (x : Int) (w : World) : Calls Try.prog 84 #[.int .i64 x] w fun e w' => e = .returned (.bool (!inB x 1 1099511627776)) ∧ Ext w w' := by
  go_enter Try.func84, Try.ntmps84
  go_wp2_with (go_at_call 53; with_reducible refine (within_any _ _ _ _).mono ?_; rintro e w' ⟨rfl, rfl⟩)
  go_ret
  exact ⟨rfl, Ext.refl _⟩
theorem enters_without : Enters 84 := fun _ _ => by kernel_rfl
theorem enters_less1 : Enters 114 := fun _ _ => by kernel_rfl
theorem enters_less2 : Enters 118 := fun _ _ => by kernel_rfl
set_option maxRecDepth 100000 in
set_option maxHeartbeats 1000000 in
theorem lessC1_any (x : Five) (G : List Int) (vg : Value) (b : Nat) (w : World) (hc : w.cell? ⟨b, 0, none⟩ = some vg) (hg : Ints w vg G) : Calls Try.prog 114 #[v5 x, .pointer (some ⟨b, 0, none⟩)] w fun e w' => e = .returned (.bool (G.any (fun y => x.a == y))) ∧ Ext w w' := by
  have hb := lt_of_cell hc
  have HG := Lib.hid hg
  obtain ⟨a, cap, rfl, -⟩ := hg.parts
  clear hg
  go_enter Try.func114, Try.ntmps114
  go_wp2_with (go_at_call 115; with_reducible refine (containsI_any _ G _ _ (HG.out.ext ((Ext.refl _).alloc _))).mono ?_; rintro e w' ⟨rfl, hX1⟩)
  go_ret
  exact ⟨rfl, ((Ext.refl _).alloc _).trans hX1⟩
set_option maxRecDepth 100000 in
set_option maxHeartbeats 1000000 in
theorem lessC2_any (x : Five) (G : List Int) (vg : Value) (b : Nat) (w : World) (hc : w.cell? ⟨b, 0, none⟩ = some vg) (hg : Ints w vg G) : Calls Try.prog 118 #[v5 x, .pointer (some ⟨b, 0, none⟩)] w fun e w' => e = .returned (.bool (G.any (fun y => x.a == y))) ∧ Ext w w' := by
  have hb := lt_of_cell hc
  have HG := Lib.hid hg
  obtain ⟨a, cap, rfl, -⟩ := hg.parts
  clear hg
  go_enter Try.func118, Try.ntmps118
  go_wp2_with (go_at_call 115; with_reducible refine (containsI_any _ G _ _ (HG.out.ext ((Ext.refl _).alloc _))).mono ?_; rintro e w' ⟨rfl, hX1⟩)
  go_ret
  exact ⟨rfl, ((Ext.refl _).alloc _).trans hX1⟩
/-! rows of fives that are written in place -/
theorem zero_five : (Value.agg #[.int .i64 0, .int .i64 0, .int .i64 0, .int .i64 0, .int .i64 0]).cells = #[.int .i64 0, .int .i64 0, .int .i64 0, .int .i64 0, .int .i64 0] := rfl
def R5 (T : Nat) (w : World) (G cap : Nat) (M : List Five) : Prop := ∃ cur, w.heap[G]? = some (.cells cur T (0, 0)) ∧ cur.size = cap * 5 ∧
  ∀ i, (hi : i < M.length) → cur[i * 5]? = some (.int .i64 M[i].a) ∧ cur[i * 5 + 1]? = some (.int .i64 M[i].b) ∧ cur[i * 5 + 2]? = some (.int .i64 M[i].c) ∧ cur[i * 5 + 3]? = some (.int .i64 M[i].d) ∧ cur[i * 5 + 4]? = some (.int .i64 M[i].e)
theorem R5.of_own {T base n cap G : Nat} {w : World} {l : List Five} (h : Own T 5 enc5 base w (.slice (some ⟨G, 0, none⟩) n cap) l) : R5 T w G cap l ∧ base ≤ G ∧ n = l.length ∧ l.length ≤ cap ∧ cap ≤ maxLen := by
  obtain ⟨h1, h2⟩ := h
  rcases h2 with ⟨h3, _⟩ | ⟨g, cap', cur, hv, hb, hg, h4, h5, h6, h7⟩
  · cases h3
  · injection hv with e1 e2 e3
    injection e1 with e1
    injection e1 with e1
    subst e1 e2 e3
    refine ⟨⟨cur, hg, h6, fun i hi => ?_⟩, hb, rfl, h4, h5⟩
    have key : ∀ j u, (enc5 l[i])[j]? = some u → cur[i * 5 + j]? = some u := by
      intro j u hu
      have hj : j < 5 := by have := (List.getElem?_eq_some_iff.1 hu).1; exact this
      have e := flat_at enc5_len l i hi j u hu
      rw [← h7, List.getElem?_take_of_lt (by omega)] at e
      simpa using e
    exact ⟨key 0 _ rfl, key 1 _ rfl, key 2 _ rfl, key 3 _ rfl, key 4 _ rfl⟩
theorem R5.own {T base cap G : Nat} {w : World} {M : List Five} (h : R5 T w G cap M) (hb : base ≤ G) (hl : M.length ≤ cap) (hm : cap ≤ maxLen) : Own T 5 enc5 base w (.slice (some ⟨G, 0, none⟩) M.length cap) M := by
  obtain ⟨cur, hg, hs, hc⟩ := h
  refine ⟨flat_len enc5_len M, .inr ⟨G, cap, cur, rfl, hb, hg, hl, hm, hs, ?_⟩⟩
  apply List.ext_getElem?
  intro q
  by_cases hq : q < M.length * 5
  · rw [List.getElem?_take_of_lt hq]
    have hi : q / 5 < M.length := by omega
    have hr : q % 5 < 5 := Nat.mod_lt _ (by decide)
    have e : q = q / 5 * 5 + q % 5 := by omega
    have c := hc (q / 5) hi
    have key : ∀ j u, (enc5 (M[q / 5]'hi))[j]? = some u → (M.flatMap enc5)[q / 5 * 5 + j]? = some u := fun j u hu => flat_at enc5_len M (q / 5) hi j u hu
    rcases (show q % 5 = 0 ∨ q % 5 = 1 ∨ q % 5 = 2 ∨ q % 5 = 3 ∨ q % 5 = 4 by omega) with r | r | r | r | r
    · rw [e, r, key 0 _ rfl]; simpa using c.1
    · rw [e, r, key 1 _ rfl]; simpa using c.2.1
    · rw [e, r, key 2 _ rfl]; simpa using c.2.2.1
    · rw [e, r, key 3 _ rfl]; simpa using c.2.2.2.1
    · rw [e, r, key 4 _ rfl]; simpa using c.2.2.2.2
  · rw [List.getElem?_eq_none (by rw [List.length_take]; omega), List.getElem?_eq_none (by rw [flat_len enc5_len]; omega)]
theorem R5.ext {T cap G : Nat} {w w' : World} {M : List Five} (h : R5 T w G cap M) (x : Ext w w') : R5 T w' G cap M := by
  obtain ⟨cur, hg, r⟩ := h
  exact ⟨cur, x.block hg, r⟩
theorem R5.at {T cap G : Nat} {w : World} {M : List Five} (h : R5 T w G cap M) {i : Nat} (hi : i < M.length) : At5 w G (i * 5) M[i] := by
  obtain ⟨cur, hg, hs, hc⟩ := h
  have c := hc i hi
  refine ⟨?_, ?_, ?_, ?_, ?_⟩
  · rw [cell_at hg]; exact c.1
  · rw [cell_at hg]; exact c.2.1
  · rw [cell_at hg]; exact c.2.2.1
  · rw [cell_at hg]; exact c.2.2.2.1
  · rw [cell_at hg]; exact c.2.2.2.2
theorem R5.there {T cap G : Nat} {w : World} {M : List Five} (h : R5 T w G cap M) (j : Nat) (hj : j < cap * 5) : (w.cell? ⟨G, j, none⟩).isSome = true ∧ w.frozen? ⟨G, j, none⟩ = false := by
  obtain ⟨cur, hg, hs, hc⟩ := h
  refine ⟨?_, frozen_cells ⟨_, hg⟩ j⟩
  rw [cell_at hg, Array.getElem?_eq_getElem (by omega)]
  rfl
theorem R5.set {T cap G : Nat} {w : World} {M : List Five} (h : R5 T w G cap M) {i : Nat} (hi : i < M.length) (x : Five) :
    R5 T (((((w.setCell ⟨G, i * 5, none⟩ (.int .i64 x.a)).setCell ⟨G, i * 5 + 1, none⟩ (.int .i64 x.b)).setCell ⟨G, i * 5 + 2, none⟩ (.int .i64 x.c)).setCell ⟨G, i * 5 + 3, none⟩ (.int .i64 x.d)).setCell ⟨G, i * 5 + 4, none⟩ (.int .i64 x.e)) G cap (M.set i x) := by
  obtain ⟨cur, hg, hs, hc⟩ := h
  refine ⟨_, set_eq (set_eq (set_eq (set_eq (set_eq hg)))), by simpa using hs, fun k hk => ?_⟩
  rw [List.length_set] at hk
  have c := hc k hk
  have ci := hc i hi
  have hz : i * 5 + 4 < cur.size := (Array.getElem?_eq_some_iff.1 ci.2.2.2.2).1
  rw [List.getElem_set]
  by_cases e : i = k
  · subst e
    simp only [if_pos]
    refine ⟨?_, ?_, ?_, ?_, ?_⟩ <;> simp [Array.getElem?_setIfInBounds] <;> omega
  · rw [if_neg e]
    refine ⟨?_, ?_, ?_, ?_, ?_⟩
    · rw [Array.getElem?_setIfInBounds_ne (by omega), Array.getElem?_setIfInBounds_ne (by omega), Array.getElem?_setIfInBounds_ne (by omega), Array.getElem?_setIfInBounds_ne (by omega), Array.getElem?_setIfInBounds_ne (by omega)]; exact c.1
    · rw [Array.getElem?_setIfInBounds_ne (by omega), Array.getElem?_setIfInBounds_ne (by omega), Array.getElem?_setIfInBounds_ne (by omega), Array.getElem?_setIfInBounds_ne (by omega), Array.getElem?_setIfInBounds_ne (by omega)]; exact c.2.1
    · rw [Array.getElem?_setIfInBounds_ne (by omega), Array.getElem?_setIfInBounds_ne (by omega), Array.getElem?_setIfInBounds_ne (by omega), Array.getElem?_setIfInBounds_ne (by omega), Array.getElem?_setIfInBounds_ne (by omega)]; exact c.2.2.1
    · rw [Array.getElem?_setIfInBounds_ne (by omega), Array.getElem?_setIfInBounds_ne (by omega), Array.getElem?_setIfInBounds_ne (by omega), Array.getElem?_setIfInBounds_ne (by omega), Array.getElem?_setIfInBounds_ne (by omega)]; exact c.2.2.2.1
    · rw [Array.getElem?_setIfInBounds_ne (by omega), Array.getElem?_setIfInBounds_ne (by omega), Array.getElem?_setIfInBounds_ne (by omega), Array.getElem?_setIfInBounds_ne (by omega), Array.getElem?_setIfInBounds_ne (by omega)]; exact c.2.2.2.2
theorem R5.take {T cap G : Nat} {w : World} {M : List Five} (h : R5 T w G cap M) (k : Nat) : R5 T w G cap (M.take k) := by
  obtain ⟨cur, hg, hs, hc⟩ := h
  refine ⟨cur, hg, hs, fun i hi => ?_⟩
  rw [List.length_take] at hi
  rw [List.getElem_take]
  exact hc i (by omega)
theorem R5.out {T cap G : Nat} {w : World} {M : List Five} (h : R5 T w G cap M) {o : Nat} (ho : M.length * 5 ≤ o) (u : Value) : R5 T (w.setCell ⟨G, o, none⟩ u) G cap M := by
  obtain ⟨cur, hg, hs, hc⟩ := h
  refine ⟨_, set_eq hg, by simpa using hs, fun i hi => ?_⟩
  have c := hc i hi
  refine ⟨?_, ?_, ?_, ?_, ?_⟩
  · rw [Array.getElem?_setIfInBounds_ne (by omega)]; exact c.1
  · rw [Array.getElem?_setIfInBounds_ne (by omega)]; exact c.2.1
  · rw [Array.getElem?_setIfInBounds_ne (by omega)]; exact c.2.2.1
  · rw [Array.getElem?_setIfInBounds_ne (by omega)]; exact c.2.2.2.1
  · rw [Array.getElem?_setIfInBounds_ne (by omega)]; exact c.2.2.2.2
theorem R5.outs {T cap G : Nat} {M : List Five} : ∀ (vs : List Value) (o : Nat) {w : World}, R5 T w G cap M → M.length * 5 ≤ o → R5 T (w.setCells G o vs) G cap M
  | [], _, _, h, _ => h
  | v :: r, o, _, h, ho => R5.outs r (o + 1) (h.out ho v) (by omega)
theorem KX.sets {R : Nat} {w0 : World} : ∀ (vs : List Value) (o : Nat) {w : World}, KX R w0 w → KX R w0 (w.setCells R o vs)
  | [], _, _, h => h
  | v :: r, o, _, h => KX.sets r (o + 1) (h.set o v)
theorem Ext.sets {G : Nat} {w0 : World} (hG : w0.heap.size ≤ G) : ∀ (vs : List Value) (o : Nat) {w : World}, Ext w0 w → Ext w0 (w.setCells G o vs)
  | [], _, _, h => h
  | v :: r, o, _, h => Ext.sets hG r (o + 1) (h.setCell (by exact hG) v)
/-- all but the block of a slice is as it was -/
def KO (v : Value) (w w' : World) : Prop := w.heap.size ≤ w'.heap.size ∧ ∀ b, b < w.heap.size → v.ownBlock ≠ some b → w'.heap[b]? = w.heap[b]?
theorem KO.of_ext {v : Value} {w w' : World} (h : Ext w w') : KO v w w' := ⟨h.le, fun b hb _ => Below.block h b hb⟩
theorem KO.of_kx {G n cap : Nat} {w w' : World} (h : KX G w w') : KO (.slice (some ⟨G, 0, none⟩) n cap) w w' := ⟨h.1, fun b hb hne => h.2 b hb (fun e => hne (by rw [e]; rfl))⟩
/-- a row of another type stays -/
theorem Own.ko {T T' k k' : Nat} {enc enc' : Five → List Value} {base base' : Nat} {w w' : World} {u v : Value} {l l' : List Five} (h : Own T k enc base w u l) (hv : Own T' k' enc' base' w v l') (hT : T ≠ T') (x : KO v w w') : Own T k enc base w' u l := by
  obtain ⟨h1, h2⟩ := h
  refine ⟨h1, ?_⟩
  rcases h2 with h2 | ⟨g, cap, cur, hu, hb, hg, r⟩
  · exact .inl h2
  · refine .inr ⟨g, cap, cur, hu, hb, (x.2 g (Array.getElem?_eq_some_iff.1 hg).1 (fun e => ?_)).trans hg, r⟩
    rcases hv.2 with ⟨rfl, _⟩ | ⟨g', cap', cur', rfl, _, hg', _⟩
    · cases e
    · have : g' = g := by simpa [Value.ownBlock] using e
      subst this
      rw [hg] at hg'
      simp only [Option.some.injEq, Obj.cells.injEq] at hg'
      exact hT hg'.2.1
theorem own_empty5 (T : Nat) (w : World) (base : Nat) (hb : base ≤ w.heap.size) : Own T 5 enc5 base (w.alloc (.cells #[] T)) (.slice (some ⟨w.heap.size, 0, none⟩) 0 0) [] :=
  ⟨rfl, Or.inr ⟨w.heap.size, 0, #[], rfl, hb, World.alloc_heap_new w _, Nat.le_refl _, by simp [maxLen], rfl, rfl⟩⟩
theorem own_slice5 {T base : Nat} {w : World} {v : Value} {l : List Five} (h : Own T 5 enc5 base w v l) : ∃ a cap, v = .slice a l.length cap := by
  obtain ⟨a, cap, hv, -⟩ := h.sl enc5_len
  exact ⟨a, cap, hv⟩
theorem infoChain : (Try.prog.info? 53).map (fun i => (i.zero, i.size, i.bytes)) = some (some (.agg #[.int .i64 0, .int .i64 0, .int .i64 0, .int .i64 0, .int .i64 0]), 5, 40) := by kernel_rfl
theorem eql_noChain (b : Addr) (n cap : Nat) (w : World) : (binOp .eql 22 (.slice (some b) n cap) (.slice none 0 0)).run Try.prog w = .ok (.bool false) w := by kernel_rfl
theorem eql_yesChain (n cap : Nat) (w : World) : (binOp .eql 22 (.slice none n cap) (.slice none 0 0)).run Try.prog w = .ok (.bool true) w := by kernel_rfl
set_option maxRecDepth 100000 in
set_option maxHeartbeats 1000000 in
theorem cloneChain_any (w : World) (v : Value) (l : List Five) (h : Fives w v l) (hlen : l.length ≤ 1000000000) :
    Calls Try.prog 111 #[v] w fun e w' => ∃ v', e = .returned v' ∧ Own 53 5 enc5 w.heap.size w' v' l ∧ Ext w w' := by
  have HS := Lib.hid h
  obtain ⟨a, cap, rfl, hl, hm, hc⟩ := h.parts
  cases a with
  | none =>
    obtain rfl : l = [] := hc.resolve_right (fun ⟨b, off, e, _⟩ => by cases e)
    have hnil := eql_yesChain
    clear h hc
    go_enter Try.func111, Try.ntmps111
    go_wp2_with fail
    go_ret
    exact ⟨_, rfl, Own.nil _ _ _ _ _, Ext.refl _⟩
  | some b =>
    have hnil := eql_noChain b l.length cap
    clear h hc
    go_enter Try.func111, Try.ntmps111
    go_wp2_with (at_builtin; refine app_many 22 53 5 40 (.agg #[.int .i64 0, .int .i64 0, .int .i64 0, .int .i64 0, .int .i64 0]) enc5 enc5_len enc5_one Try.underlying22 infoChain rfl (by decide) (by decide) rfl (.tmp 5) (.tmp 6) rfl w.heap.size _ [] rfl (own_empty5 _ w _ (Nat.le_refl _)) _ l rfl (HS.out.ext ((Ext.refl _).alloc _)) (by simp; omega) (by simp) ?_; intro v2 w2 hO2 hg2 hE2 hb2; obtain ⟨a3, cap3, hv3⟩ := own_slice5 hO2; generalize ([] ++ l).length = m3 at hv3; subst hv3)
    go_ret
    exact ⟨_, rfl, by simpa using hO2, hE2 w (Nat.le_refl _) ((Ext.refl _).alloc _)⟩
theorem infoProof : (Try.prog.info? 72).map (fun i => (i.zero, i.size, i.bytes)) = some (some (.agg #[.int .i64 0, .int .i64 0, .int .i64 0, .int .i64 0, .int .i64 0]), 5, 40) := by kernel_rfl
theorem eql_noProof (b : Addr) (n cap : Nat) (w : World) : (binOp .eql 23 (.slice (some b) n cap) (.slice none 0 0)).run Try.prog w = .ok (.bool false) w := by kernel_rfl
theorem eql_yesProof (n cap : Nat) (w : World) : (binOp .eql 23 (.slice none n cap) (.slice none 0 0)).run Try.prog w = .ok (.bool true) w := by kernel_rfl
set_option maxRecDepth 100000 in
set_option maxHeartbeats 1000000 in
theorem cloneProof_any (w : World) (v : Value) (l : List Five) (h : Fives w v l) (hlen : l.length ≤ 1000000000) :
    Calls Try.prog 113 #[v] w fun e w' => ∃ v', e = .returned v' ∧ Own 72 5 enc5 w.heap.size w' v' l ∧ Ext w w' := by
  have HS := Lib.hid h
  obtain ⟨a, cap, rfl, hl, hm, hc⟩ := h.parts
  cases a with
  | none =>
    obtain rfl : l = [] := hc.resolve_right (fun ⟨b, off, e, _⟩ => by cases e)
    have hnil := eql_yesProof
    clear h hc
    go_enter Try.func113, Try.ntmps113
    go_wp2_with fail
    go_ret
    exact ⟨_, rfl, Own.nil _ _ _ _ _, Ext.refl _⟩
  | some b =>
    have hnil := eql_noProof b l.length cap
    clear h hc
    go_enter Try.func113, Try.ntmps113
    go_wp2_with (at_builtin; refine app_many 23 72 5 40 (.agg #[.int .i64 0, .int .i64 0, .int .i64 0, .int .i64 0, .int .i64 0]) enc5 enc5_len enc5_one Try.underlying23 infoProof rfl (by decide) (by decide) rfl (.tmp 5) (.tmp 6) rfl w.heap.size _ [] rfl (own_empty5 _ w _ (Nat.le_refl _)) _ l rfl (HS.out.ext ((Ext.refl _).alloc _)) (by simp; omega) (by simp) ?_; intro v2 w2 hO2 hg2 hE2 hb2; obtain ⟨a3, cap3, hv3⟩ := own_slice5 hO2; generalize ([] ++ l).length = m3 at hv3; subst hv3)
    go_ret
    exact ⟨_, rfl, by simpa using hO2, hE2 w (Nat.le_refl _) ((Ext.refl _).alloc _)⟩
theorem infoRepair : (Try.prog.info? 85).map (fun i => (i.zero, i.size, i.bytes)) = some (some (.agg #[.int .i64 0, .int .i64 0, .int .i64 0, .int .i64 0, .int .i64 0]), 5, 40) := by kernel_rfl
theorem eql_noRepair (b : Addr) (n cap : Nat) (w : World) : (binOp .eql 24 (.slice (some b) n cap) (.slice none 0 0)).run Try.prog w = .ok (.bool false) w := by kernel_rfl
theorem eql_yesRepair (n cap : Nat) (w : World) : (binOp .eql 24 (.slice none n cap) (.slice none 0 0)).run Try.prog w = .ok (.bool true) w := by kernel_rfl
set_option maxRecDepth 100000 in
set_option maxHeartbeats 1000000 in
theorem cloneRepair_any (w : World) (v : Value) (l : List Five) (h : Fives w v l) (hlen : l.length ≤ 1000000000) :
    Calls Try.prog 117 #[v] w fun e w' => ∃ v', e = .returned v' ∧ Own 85 5 enc5 w.heap.size w' v' l ∧ Ext w w' := by
  have HS := Lib.hid h
  obtain ⟨a, cap, rfl, hl, hm, hc⟩ := h.parts
  cases a with
  | none =>
    obtain rfl : l = [] := hc.resolve_right (fun ⟨b, off, e, _⟩ => by cases e)
    have hnil := eql_yesRepair
    clear h hc
    go_enter Try.func117, Try.ntmps117
    go_wp2_with fail
    go_ret
    exact ⟨_, rfl, Own.nil _ _ _ _ _, Ext.refl _⟩
  | some b =>
    have hnil := eql_noRepair b l.length cap
    clear h hc
    go_enter Try.func117, Try.ntmps117
    go_wp2_with (at_builtin; refine app_many 24 85 5 40 (.agg #[.int .i64 0, .int .i64 0, .int .i64 0, .int .i64 0, .int .i64 0]) enc5 enc5_len enc5_one Try.underlying24 infoRepair rfl (by decide) (by decide) rfl (.tmp 5) (.tmp 6) rfl w.heap.size _ [] rfl (own_empty5 _ w _ (Nat.le_refl _)) _ l rfl (HS.out.ext ((Ext.refl _).alloc _)) (by simp; omega) (by simp) ?_; intro v2 w2 hO2 hg2 hE2 hb2; obtain ⟨a3, cap3, hv3⟩ := own_slice5 hO2; generalize ([] ++ l).length = m3 at hv3; subst hv3)
    go_ret
    exact ⟨_, rfl, by simpa using hO2, hE2 w (Nat.le_refl _) ((Ext.refl _).alloc _)⟩
end Go.Proofs.Ytaggjclaehigjaa
namespace Go.Proofs.Ytaggjclaehigjaa
open Go.RowKit
theorem kx_trans {R : Nat} {a b c : World} (h : KX R a b) (k : KX R b c) : KX R a c := ⟨Nat.le_trans h.1 k.1, fun i hi hR => (k.2 i (Nat.lt_of_lt_of_le hi h.1) hR).trans (h.2 i hi hR)⟩
theorem idx_cases (p : Five → Bool) (l : List Five) : (idx p l = -1 ∧ ∀ x ∈ l, p x = false) ∨ ∃ k, ∃ h : k < l.length, idx p l = (k : Nat) ∧ p l[k] = true ∧ ∀ i, (hi : i < k) → p (l[i]'(by omega)) = false := by
  unfold idx
  cases h : l.findIdx? p with
  | none =>
    left
    refine ⟨rfl, ?_⟩
    rw [List.findIdx?_eq_none_iff] at h
    exact fun x hx => by simpa using h x hx
  | some k =>
    right
    obtain ⟨hk, hp, hn⟩ := List.findIdx?_eq_some_iff_getElem.1 h
    exact ⟨k, hk, rfl, hp, fun i hi => by simpa using hn i hi⟩
theorem take_keep {p : Five → Bool} {l : List Five} {k : Nat} (hk : k ≤ l.length) (h : ∀ i, (hi : i < k) → p (l[i]'(by omega)) = false) : (l.take k).filter (fun x => !p x) = l.take k := by
  rw [List.filter_eq_self]
  intro x hx
  obtain ⟨i, hi, rfl⟩ := List.getElem_of_mem hx
  rw [List.length_take] at hi
  rw [List.getElem_take, h i (by omega)]
  rfl
/-- the row while it is gone through -/
structure Sift (p : Five → Bool) (l : List Five) (i j : Nat) (M : List Five) : Prop where
  len : M.length = l.length
  lt : i < j
  le : j ≤ l.length
  done : M.take i = (l.take j).filter (fun x => !p x)
  rest : M.drop j = l.drop j
theorem Sift.start {p : Five → Bool} {l : List Five} {k : Nat} (hk : k < l.length) (hp : p l[k] = true) (h : ∀ i, (hi : i < k) → p (l[i]'(by omega)) = false) : Sift p l k (k + 1) l := by
  refine ⟨rfl, by omega, by omega, ?_, rfl⟩
  rw [List.take_succ_eq_append_getElem hk, List.filter_append, take_keep (by omega) h]
  simp [hp]
theorem Sift.elem {p : Five → Bool} {l : List Five} {i j : Nat} {M : List Five} (h : Sift p l i j M) (hj : j < l.length) : M[j]'(by have := h.len; omega) = l[j] := by
  have h1 : (M.drop j)[0]? = (l.drop j)[0]? := by rw [h.rest]
  rw [List.getElem?_drop, List.getElem?_drop, Nat.add_zero, List.getElem?_eq_getElem (by have := h.len; omega), List.getElem?_eq_getElem hj] at h1
  exact Option.some.inj h1
theorem Sift.skip {p : Five → Bool} {l : List Five} {i j : Nat} {M : List Five} (h : Sift p l i j M) (hj : j < l.length) (hp : p l[j] = true) : Sift p l i (j + 1) M := by
  refine ⟨h.len, by have := h.lt; omega, hj, ?_, ?_⟩
  · rw [h.done, List.take_succ_eq_append_getElem hj, List.filter_append]
    simp [hp]
  · rw [← List.drop_drop, h.rest, List.drop_drop]
theorem Sift.keep {p : Five → Bool} {l : List Five} {i j : Nat} {M : List Five} (h : Sift p l i j M) (hj : j < l.length) (hp : p l[j] = false) : Sift p l (i + 1) (j + 1) (M.set i l[j]) := by
  have hl := h.len
  have hlt := h.lt
  refine ⟨by rw [List.length_set]; exact hl, by omega, hj, ?_, ?_⟩
  · rw [List.take_succ_eq_append_getElem (by rw [List.length_set]; omega), List.take_set_of_le (Nat.le_refl _), List.getElem_set_self, h.done, List.take_succ_eq_append_getElem hj, List.filter_append]
    simp [hp]
  · rw [List.drop_set_of_lt (by omega), ← List.drop_drop, h.rest, List.drop_drop]
theorem Sift.all {p : Five → Bool} {l : List Five} {i : Nat} {M : List Five} (h : Sift p l i l.length M) : M.take i = l.filter (fun x => !p x) := by
  rw [h.done, List.take_length]
theorem clearProof (w : World) (ty : TypeId) (b o n c : Nat) (hn : 0 < n) (hc : ∀ j, j < n * 5 → (w.cell? ⟨b, o + j, none⟩).isSome = true) (hf : ∀ j, j < n * 5 → w.frozen? ⟨b, o + j, none⟩ = false) :
    ∃ vs : List Value, (Builtin.clear_ #[23] ty #[.slice (some ⟨b, o, none⟩) n c]).run Try.prog w = .ok (.tuple #[]) (w.setCells b o vs) := by
  obtain ⟨vs, hvs⟩ : ∃ vs, (Builtin.zeroCells (Value.agg #[.int .i64 0, .int .i64 0, .int .i64 0, .int .i64 0, .int .i64 0]).cells n).toList = vs := ⟨_, rfl⟩
  have hl : vs.length = n * 5 := by rw [← hvs]; simp [Builtin.zeroCells, Value.cells]
  have h1 : ∀ v ∈ vs, v.oneCell' = true := by
    intro v hv
    rw [← hvs] at hv
    simp [Builtin.zeroCells, Value.cells] at hv
    obtain ⟨i, _, h⟩ := hv
    have : i % 5 = 0 ∨ i % 5 = 1 ∨ i % 5 = 2 ∨ i % 5 = 3 ∨ i % 5 = 4 := by omega
    rcases this with e | e | e | e | e <;> simp [e] at h <;> (subst h; rfl)
  have hst := run_storeCells_cells (P := Try.prog) b o vs 0 w (by rw [hl]; simpa using hc) (by rw [hl]; simpa using hf) h1
  simp only [Nat.add_zero] at hst
  refine ⟨vs, ?_⟩
  obtain ⟨m, rfl⟩ : ∃ m, n = m + 1 := ⟨n - 1, by omega⟩
  simp [Builtin.clear_, run_underlying Try.underlying23, hvs, hst]
set_option maxRecDepth 100000 in
set_option maxHeartbeats 4000000 in
theorem deleteProof_any (w0 : World) (base : Nat) (hw0 : w0.heap.size ≤ base) (w : World) (v : Value) (l : List Five) (hX : Ext w0 w) (h : Own 72 5 enc5 base w v l) (g : Nat) (c : Value) (p : Five → Bool) (hg : Enters g)
    (hp : ∀ (x : Five) (w' : World), Ext w0 w' → Calls Try.prog g #[v5 x, c] w' fun e w'' => e = .returned (.bool (p x)) ∧ Ext w' w'') (hl : l.length ≤ 1000000000) :
    Calls Try.prog 112 #[v, .func (.func g) #[] #[c]] w fun e w' => ∃ v', e = .returned v' ∧ Own 72 5 enc5 base w' v' (l.filter (fun x => !p x)) ∧ KO v w w' ∧ Ext w0 w' := by
  have HIX := Lib.hid (indexProof_any w l v g c p w (Ext.refl _) (h.sl enc5_len) hg (fun i hi w' q => hp _ w' (hX.trans q)))
  have HP := Lib.hid hp
  have hg' := hg
  unfold Enters at hg'
  clear hp
  rcases idx_cases p l with ⟨e, hno⟩ | ⟨k, hk, e, hpk, hno⟩
  · rw [e] at HIX
    have hfl : l.filter (fun x => !p x) = l := by rw [List.filter_eq_self]; intro x hx; rw [hno x hx]; rfl
    rw [hfl]
    have HO := Lib.hid h
    obtain ⟨a, cap, hv⟩ := own_slice5 h
    clear h hno hfl e
    generalize l.length = n at hv hl
    subst hv
    go_enter Try.func112, Try.ntmps112
    go_wp2_with (go_at_call 127; with_reducible refine HIX.out.mono ?_; rintro e w1 ⟨rfl, hX1⟩)
    go_ret
    exact ⟨_, rfl, HO.out.ext hX1, KO.of_ext hX1, hX.trans hX1⟩
  · rw [e] at HIX
    have hform : ∃ G cap, v = .slice (some ⟨G, 0, none⟩) l.length cap := by
      rcases h.2 with ⟨_, h3⟩ | ⟨G, cap, cur, hv, _⟩
      · omega
      · exact ⟨G, cap, hv⟩
    obtain ⟨G, cap, rfl⟩ := hform
    obtain ⟨hR, hbG, -, hlc, hcm⟩ := R5.of_own h
    have HS := Lib.hid (Sift.start hk hpk hno)
    have hne1 : ((k : Int) == -1) = false := beq_eq_false_iff_ne.2 (by omega)
    unfold maxLen at hcm
    have hG0 : w0.heap.size ≤ G := by omega
    clear h e hpk hno
    go_enter Try.func112, Try.ntmps112
    go_wp2_with (go_at_call 127; with_reducible refine HIX.out.mono ?_; rintro e w1 ⟨rfl, hX1⟩)
    have hE1 := hX.trans hX1
    have HR1 := Lib.hid (hR.ext hX1)
    clear hR HIX hX
    go_loopw [5, 6] (fun s5 s6 wr => ∃ i j M, s5 = .int .i64 (i : Nat) ∧ s6 = .int .i64 (j : Nat) ∧ Hid (Sift p l i j M) ∧ Hid (R5 72 wr G cap M) ∧ KX G w1 wr ∧ Ext w0 wr) (fun _ j _ => l.length - (intOf j).toNat)
    case atStart => exact ⟨k, k + 1, l, rfl, by go_num, HS.out, HR1.out, KX.refl _ _, hE1⟩
    case round =>
      clear hE1 HR1 HS
      obtain ⟨i, j, M, rfl, rfl, HS, HR, hKX, hE⟩ := hrel
      have hlM := HS.out.len
      have hij := HS.out.lt
      have hjl := HS.out.le
      by_cases hlt : j < l.length
      · have HEL := Lib.hid (HS.out.elem hlt)
        obtain ⟨x, hx⟩ : ∃ x, x = l[j] := ⟨_, rfl⟩
        obtain ⟨c0, c1, c2, c3, c4⟩ := HR.out.at (i := j) (by omega)
        rw [HEL.out, ← hx] at c0 c1 c2 c3 c4
        have HX := Lib.hid hx
        clear hx
        have hjz : (j : Int) < (l.length : Int) := by omega
        have HG := Lib.hid (HP.out x (wr.alloc (.cells #[.int .i64 x.a, .int .i64 x.b, .int .i64 x.c, .int .i64 x.d, .int .i64 x.e] 72)) (hE.alloc _))
        cases hpx : p x
        · rw [hpx] at HG
          go_wp2_with fail
          with_reducible refine HG.out.mono ?_
          rintro e w2 ⟨rfl, hX2⟩
          have hbB := hX2.block (heap_alloc_new wr (.cells #[.int .i64 x.a, .int .i64 x.b, .int .i64 x.c, .int .i64 x.d, .int .i64 x.e] 72))
          obtain ⟨B, hB⟩ : ∃ B, wr.heap.size = B := ⟨_, rfl⟩
          rw [hB] at hbB
          obtain ⟨b0, b1, b2, b3, b4⟩ := box5 hbB
          have HR2 := Lib.hid (HR.out.ext (((Ext.refl wr).alloc (.cells #[.int .i64 x.a, .int .i64 x.b, .int .i64 x.c, .int .i64 x.d, .int .i64 x.e] 72)).trans hX2))
          obtain ⟨d0, d1, d2, d3, d4⟩ := HR2.out.at (i := i) (by omega)
          have f0 := (HR2.out.there (i * 5) (by omega)).2
          have f1 := (HR2.out.there (i * 5 + 1) (by omega)).2
          have f2 := (HR2.out.there (i * 5 + 2) (by omega)).2
          have f3 := (HR2.out.there (i * 5 + 3) (by omega)).2
          have f4 := (HR2.out.there (i * 5 + 4) (by omega)).2
          have hiz : (i : Int) < (l.length : Int) := by omega
          have hE2 := (hE.alloc (.cells #[.int .i64 x.a, .int .i64 x.b, .int .i64 x.c, .int .i64 x.d, .int .i64 x.e] 72)).trans hX2
          have hK2 := hKX.ext (((Ext.refl wr).alloc (.cells #[.int .i64 x.a, .int .i64 x.b, .int .i64 x.c, .int .i64 x.d, .int .i64 x.e] 72)).trans hX2)
          clear c0 c1 c2 c3 c4
          go_wp2_with fail
          go_roundw
          case rel => exact ⟨i + 1, j + 1, M.set i x, by go_num, by go_num, by have := HS.out.keep hlt (by rw [← HX.out]; exact hpx); rw [← HX.out] at this; exact this, HR2.out.set (by omega) x, ((((hK2.set _ _).set _ _).set _ _).set _ _).set _ _, ((((hE2.setCell hG0 _).setCell hG0 _).setCell hG0 _).setCell hG0 _).setCell hG0 _⟩
          case measure => simp [intOf]; omega
        · rw [hpx] at HG
          go_wp2_with fail
          with_reducible refine HG.out.mono ?_
          rintro e w2 ⟨rfl, hX2⟩
          go_wp2_with fail
          go_roundw
          case rel => exact ⟨i, j + 1, M, rfl, by go_num, HS.out.skip hlt (by rw [← HX.out]; exact hpx), HR.out.ext (((Ext.refl wr).alloc _).trans hX2), hKX.ext (((Ext.refl wr).alloc _).trans hX2), (hE.alloc _).trans hX2⟩
          case measure => simp [intOf]; omega
      · obtain rfl : j = l.length := by omega
        have hiz : (i : Int) < (l.length : Int) := by omega
        obtain ⟨vs, hcl⟩ := clearProof wr 0 G (i * 5) (l.length - i) (cap - i) (by omega) (fun q hq => (HR.out.there _ (by omega)).1) (fun q hq => (HR.out.there _ (by omega)).2)
        have HRT := Lib.hid (R5.outs vs (i * 5) (HR.out.take i) (by rw [List.length_take]; omega))
        have hti : (M.take i).length = i := by rw [List.length_take]; omega
        rw [HS.out.all] at HRT hti
        go_wp2_with fail
        go_ret
        refine ⟨_, rfl, ?_, KO.of_kx (kx_trans (KX.ext (KX.refl _ _) hX1) (KX.sets vs _ hKX)), Ext.sets hG0 vs _ hE⟩
        have := HRT.out.own hbG (by omega) (by unfold maxLen; omega)
        rw [hti] at this
        exact this
theorem clearRepair (w : World) (ty : TypeId) (b o n c : Nat) (hn : 0 < n) (hc : ∀ j, j < n * 5 → (w.cell? ⟨b, o + j, none⟩).isSome = true) (hf : ∀ j, j < n * 5 → w.frozen? ⟨b, o + j, none⟩ = false) :
    ∃ vs : List Value, (Builtin.clear_ #[24] ty #[.slice (some ⟨b, o, none⟩) n c]).run Try.prog w = .ok (.tuple #[]) (w.setCells b o vs) := by
  obtain ⟨vs, hvs⟩ : ∃ vs, (Builtin.zeroCells (Value.agg #[.int .i64 0, .int .i64 0, .int .i64 0, .int .i64 0, .int .i64 0]).cells n).toList = vs := ⟨_, rfl⟩
  have hl : vs.length = n * 5 := by rw [← hvs]; simp [Builtin.zeroCells, Value.cells]
  have h1 : ∀ v ∈ vs, v.oneCell' = true := by
    intro v hv
    rw [← hvs] at hv
    simp [Builtin.zeroCells, Value.cells] at hv
    obtain ⟨i, _, h⟩ := hv
    have : i % 5 = 0 ∨ i % 5 = 1 ∨ i % 5 = 2 ∨ i % 5 = 3 ∨ i % 5 = 4 := by omega
    rcases this with e | e | e | e | e <;> simp [e] at h <;> (subst h; rfl)
  have hst := run_storeCells_cells (P := Try.prog) b o vs 0 w (by rw [hl]; simpa using hc) (by rw [hl]; simpa using hf) h1
  simp only [Nat.add_zero] at hst
  refine ⟨vs, ?_⟩
  obtain ⟨m, rfl⟩ : ∃ m, n = m + 1 := ⟨n - 1, by omega⟩
  simp [Builtin.clear_, run_underlying Try.underlying24, hvs, hst]
set_option maxRecDepth 100000 in
set_option maxHeartbeats 4000000 in
theorem deleteRepair_any (w0 : World) (base : Nat) (hw0 : w0.heap.size ≤ base) (w : World) (v : Value) (l : List Five) (hX : Ext w0 w) (h : Own 85 5 enc5 base w v l) (g : Nat) (c : Value) (p : Five → Bool) (hg : Enters g)
    (hp : ∀ (x : Five) (w' : World), Ext w0 w' → Calls Try.prog g #[v5 x, c] w' fun e w'' => e = .returned (.bool (p x)) ∧ Ext w' w'') (hl : l.length ≤ 1000000000) :
    Calls Try.prog 116 #[v, .func (.func g) #[] #[c]] w fun e w' => ∃ v', e = .returned v' ∧ Own 85 5 enc5 base w' v' (l.filter (fun x => !p x)) ∧ KO v w w' ∧ Ext w0 w' := by
  have HIX := Lib.hid (indexRepair_any w l v g c p w (Ext.refl _) (h.sl enc5_len) hg (fun i hi w' q => hp _ w' (hX.trans q)))
  have HP := Lib.hid hp
  have hg' := hg
  unfold Enters at hg'
  clear hp
  rcases idx_cases p l with ⟨e, hno⟩ | ⟨k, hk, e, hpk, hno⟩
  · rw [e] at HIX
    have hfl : l.filter (fun x => !p x) = l := by rw [List.filter_eq_self]; intro x hx; rw [hno x hx]; rfl
    rw [hfl]
    have HO := Lib.hid h
    obtain ⟨a, cap, hv⟩ := own_slice5 h
    clear h hno hfl e
    generalize l.length = n at hv hl
    subst hv
    go_enter Try.func116, Try.ntmps116
    go_wp2_with (go_at_call 92; with_reducible refine HIX.out.mono ?_; rintro e w1 ⟨rfl, hX1⟩)
    go_ret
    exact ⟨_, rfl, HO.out.ext hX1, KO.of_ext hX1, hX.trans hX1⟩
  · rw [e] at HIX
    have hform : ∃ G cap, v = .slice (some ⟨G, 0, none⟩) l.length cap := by
      rcases h.2 with ⟨_, h3⟩ | ⟨G, cap, cur, hv, _⟩
      · omega
      · exact ⟨G, cap, hv⟩
    obtain ⟨G, cap, rfl⟩ := hform
    obtain ⟨hR, hbG, -, hlc, hcm⟩ := R5.of_own h
    have HS := Lib.hid (Sift.start hk hpk hno)
    have hne1 : ((k : Int) == -1) = false := beq_eq_false_iff_ne.2 (by omega)
    unfold maxLen at hcm
    have hG0 : w0.heap.size ≤ G := by omega
    clear h e hpk hno
    go_enter Try.func116, Try.ntmps116
    go_wp2_with (go_at_call 92; with_reducible refine HIX.out.mono ?_; rintro e w1 ⟨rfl, hX1⟩)
    have hE1 := hX.trans hX1
    have HR1 := Lib.hid (hR.ext hX1)
    clear hR HIX hX
    go_loopw [5, 6] (fun s5 s6 wr => ∃ i j M, s5 = .int .i64 (i : Nat) ∧ s6 = .int .i64 (j : Nat) ∧ Hid (Sift p l i j M) ∧ Hid (R5 85 wr G cap M) ∧ KX G w1 wr ∧ Ext w0 wr) (fun _ j _ => l.length - (intOf j).toNat)
    case atStart => exact ⟨k, k + 1, l, rfl, by go_num, HS.out, HR1.out, KX.refl _ _, hE1⟩
    case round =>
      clear hE1 HR1 HS
      obtain ⟨i, j, M, rfl, rfl, HS, HR, hKX, hE⟩ := hrel
      have hlM := HS.out.len
      have hij := HS.out.lt
      have hjl := HS.out.le
      by_cases hlt : j < l.length
      · have HEL := Lib.hid (HS.out.elem hlt)
        obtain ⟨x, hx⟩ : ∃ x, x = l[j] := ⟨_, rfl⟩
        obtain ⟨c0, c1, c2, c3, c4⟩ := HR.out.at (i := j) (by omega)
        rw [HEL.out, ← hx] at c0 c1 c2 c3 c4
        have HX := Lib.hid hx
        clear hx
        have hjz : (j : Int) < (l.length : Int) := by omega
        have HG := Lib.hid (HP.out x (wr.alloc (.cells #[.int .i64 x.a, .int .i64 x.b, .int .i64 x.c, .int .i64 x.d, .int .i64 x.e] 85)) (hE.alloc _))
        cases hpx : p x
        · rw [hpx] at HG
          go_wp2_with fail
          with_reducible refine HG.out.mono ?_
          rintro e w2 ⟨rfl, hX2⟩
          have hbB := hX2.block (heap_alloc_new wr (.cells #[.int .i64 x.a, .int .i64 x.b, .int .i64 x.c, .int .i64 x.d, .int .i64 x.e] 85))
          obtain ⟨B, hB⟩ : ∃ B, wr.heap.size = B := ⟨_, rfl⟩
          rw [hB] at hbB
          obtain ⟨b0, b1, b2, b3, b4⟩ := box5 hbB
          have HR2 := Lib.hid (HR.out.ext (((Ext.refl wr).alloc (.cells #[.int .i64 x.a, .int .i64 x.b, .int .i64 x.c, .int .i64 x.d, .int .i64 x.e] 85)).trans hX2))
          obtain ⟨d0, d1, d2, d3, d4⟩ := HR2.out.at (i := i) (by omega)
          have f0 := (HR2.out.there (i * 5) (by omega)).2
          have f1 := (HR2.out.there (i * 5 + 1) (by omega)).2
          have f2 := (HR2.out.there (i * 5 + 2) (by omega)).2
          have f3 := (HR2.out.there (i * 5 + 3) (by omega)).2
          have f4 := (HR2.out.there (i * 5 + 4) (by omega)).2
          have hiz : (i : Int) < (l.length : Int) := by omega
          have hE2 := (hE.alloc (.cells #[.int .i64 x.a, .int .i64 x.b, .int .i64 x.c, .int .i64 x.d, .int .i64 x.e] 85)).trans hX2
          have hK2 := hKX.ext (((Ext.refl wr).alloc (.cells #[.int .i64 x.a, .int .i64 x.b, .int .i64 x.c, .int .i64 x.d, .int .i64 x.e] 85)).trans hX2)
          clear c0 c1 c2 c3 c4
          go_wp2_with fail
          go_roundw
          case rel => exact ⟨i + 1, j + 1, M.set i x, by go_num, by go_num, by have := HS.out.keep hlt (by rw [← HX.out]; exact hpx); rw [← HX.out] at this; exact this, HR2.out.set (by omega) x, ((((hK2.set _ _).set _ _).set _ _).set _ _).set _ _, ((((hE2.setCell hG0 _).setCell hG0 _).setCell hG0 _).setCell hG0 _).setCell hG0 _⟩
          case measure => simp [intOf]; omega
        · rw [hpx] at HG
          go_wp2_with fail
          with_reducible refine HG.out.mono ?_
          rintro e w2 ⟨rfl, hX2⟩
          go_wp2_with fail
          go_roundw
          case rel => exact ⟨i, j + 1, M, rfl, by go_num, HS.out.skip hlt (by rw [← HX.out]; exact hpx), HR.out.ext (((Ext.refl wr).alloc _).trans hX2), hKX.ext (((Ext.refl wr).alloc _).trans hX2), (hE.alloc _).trans hX2⟩
          case measure => simp [intOf]; omega
      · obtain rfl : j = l.length := by omega
        have hiz : (i : Int) < (l.length : Int) := by omega
        obtain ⟨vs, hcl⟩ := clearRepair wr 0 G (i * 5) (l.length - i) (cap - i) (by omega) (fun q hq => (HR.out.there _ (by omega)).1) (fun q hq => (HR.out.there _ (by omega)).2)
        have HRT := Lib.hid (R5.outs vs (i * 5) (HR.out.take i) (by rw [List.length_take]; omega))
        have hti : (M.take i).length = i := by rw [List.length_take]; omega
        rw [HS.out.all] at HRT hti
        go_wp2_with fail
        go_ret
        refine ⟨_, rfl, ?_, KO.of_kx (kx_trans (KX.ext (KX.refl _ _) hX1) (KX.sets vs _ hKX)), Ext.sets hG0 vs _ hE⟩
        have := HRT.out.own hbG (by omega) (by unfold maxLen; omega)
        rw [hti] at this
        exact this
end Go.Proofs.Ytaggjclaehigjaa
namespace Go.Proofs.Ytaggjclaehigjaa
open Go.RowKit
/-- is a thing among those that are struck? -/
def goneB (G : List Int) (x : Five) : Bool := G.any (fun y => x.a == y)
def leftL (G : List Int) (l : List Five) : List Five := l.filter (fun x => !goneB G x)
def WorksOwn (base : Nat) (w : World) (vC vP vR : Value) (C P R : List Five) : Prop := Own 53 5 enc5 base w vC C ∧ Own 72 5 enc5 base w vP P ∧ Own 85 5 enc5 base w vR R
theorem own_form {T base : Nat} {w : World} {v : Value} {l : List Five} (h : Own T 5 enc5 base w v l) : ∃ a n cap, v = .slice a n cap := by
  obtain ⟨a, cap, hv, -⟩ := h.sl enc5_len
  exact ⟨a, _, cap, hv⟩
theorem less_end {w w6 w11 : World} {base b1 b2 b3 B : Nat} {u1 u3 u5 : Value} {C P R : List Five} (hb : base ≤ b1 ∧ base ≤ b2 ∧ base ≤ b3) (hw : w.heap.size = B) (hE : Ext w w6) (hX : Ext w6 w11) (h : w6.heap[B + 1 + 1]? = some (.cells #[.slice none 0 0, .slice none 0 0, .slice none 0 0] 26))
    (h1 : Own 53 5 enc5 b1 w11 u1 C) (h3 : Own 72 5 enc5 b2 w11 u3 P) (h5 : Own 85 5 enc5 b3 w11 u5 R) :
    WorksOwn base (((w11.setCell ⟨B + 1 + 1, 0, none⟩ u1).setCell ⟨B + 1 + 1, 1, none⟩ u3).setCell ⟨B + 1 + 1, 2, none⟩ u5) u1 u3 u5 C P R ∧ Ext w (((w11.setCell ⟨B + 1 + 1, 0, none⟩ u1).setCell ⟨B + 1 + 1, 1, none⟩ u3).setCell ⟨B + 1 + 1, 2, none⟩ u5) := by
  have hK : KX (B + 1 + 1) w11 (((w11.setCell ⟨B + 1 + 1, 0, none⟩ u1).setCell ⟨B + 1 + 1, 1, none⟩ u3).setCell ⟨B + 1 + 1, 2, none⟩ u5) := (((KX.refl _ _).set _ _).set _ _).set _ _
  have h' := hX.block h
  refine ⟨⟨(h1.mono hb.1).kx hK h' (by decide), (h3.mono hb.2.1).kx hK h' (by decide), (h5.mono hb.2.2).kx hK h' (by decide)⟩, ?_⟩
  exact (((hE.trans hX).setCell (by show w.heap.size ≤ B + 1 + 1; omega) _).setCell (by show w.heap.size ≤ B + 1 + 1; omega) _).setCell (by show w.heap.size ≤ B + 1 + 1; omega) _
set_option maxRecDepth 100000 in
set_option maxHeartbeats 16000000 in
theorem less_any (W : World) (C P R : List Five) (G : List Int) (v vg : Value) (w : World) (hX : Ext W w) (hv : Wk w v C P R) (hg : Ints w vg G) (hl : C.length + P.length + R.length ≤ 1000000) :
    Calls Try.prog 85 #[v, vg] w fun e w' => (∃ vC vP vR, e = .returned (.agg #[vC, vP, vR]) ∧ WorksOwn w.heap.size w' vC vP vR C (leftL G P) (leftL G R)) ∧ Ext W w' := by
  obtain ⟨vC, vP, vR, rfl, hC, hP, hR, -⟩ := hv
  obtain ⟨ga, gc, rfl, -⟩ := hg.parts
  have hX0 : Ext w (((w.alloc (.cells #[vC, vP, vR] 26)).alloc (.cells #[.slice ga G.length gc] 44)).alloc (.cells #[.slice none 0 0, .slice none 0 0, .slice none 0 0] 26)) := (((Ext.refl w).alloc _).alloc _).alloc _
  have hb0 := (((Ext.refl _).alloc (.cells #[.slice ga G.length gc] 44)).alloc (.cells #[.slice none 0 0, .slice none 0 0, .slice none 0 0] 26)).block (heap_alloc_new w (.cells #[vC, vP, vR] 26))
  have hb1 := ((Ext.refl _).alloc (.cells #[.slice none 0 0, .slice none 0 0, .slice none 0 0] 26)).block (heap_alloc_new (w.alloc (.cells #[vC, vP, vR] 26)) (.cells #[.slice ga G.length gc] 44))
  have hb2 := heap_alloc_new ((w.alloc (.cells #[vC, vP, vR] 26)).alloc (.cells #[.slice ga G.length gc] 44)) (.cells #[.slice none 0 0, .slice none 0 0, .slice none 0 0] 26)
  have hsz : (((w.alloc (.cells #[vC, vP, vR] 26)).alloc (.cells #[.slice ga G.length gc] 44)).alloc (.cells #[.slice none 0 0, .slice none 0 0, .slice none 0 0] 26)).heap.size = w.heap.size + 1 + 1 + 1 := by simp only [World.size_alloc]
  simp only [World.size_alloc] at hb1 hb2
  obtain ⟨B, hBB⟩ : ∃ B, w.heap.size = B := ⟨_, rfl⟩
  rw [hBB] at hb0 hb1 hb2 hsz
  have HBB := Lib.hid hBB
  go_enter Try.func85, Try.ntmps85
  go_upto_region 1 with fail
  have hq6 : Ext ((w.alloc (.cells #[vC, vP, vR] 26)).alloc (.cells #[.slice ga G.length gc] 44)) (((w.alloc (.cells #[vC, vP, vR] 26)).alloc (.cells #[.slice ga G.length gc] 44)).alloc (.cells #[.slice none 0 0, .slice none 0 0, .slice none 0 0] 26)) := (Ext.refl _).alloc _
  have hqs : ((w.alloc (.cells #[vC, vP, vR] 26)).alloc (.cells #[.slice ga G.length gc] 44)).heap.size ≤ B + 1 + 1 := by simp only [World.size_alloc]; omega
  have hqb := ((Ext.refl _).alloc (.cells #[.slice ga G.length gc] 44)).block (heap_alloc_new w (.cells #[vC, vP, vR] 26))
  rw [HBB.out] at hqb
  obtain ⟨w6, hw6⟩ : ∃ w6, ((w.alloc (.cells #[vC, vP, vR] 26)).alloc (.cells #[.slice ga G.length gc] 44)).alloc (.cells #[.slice none 0 0, .slice none 0 0, .slice none 0 0] 26) = w6 := ⟨_, rfl⟩
  rw [hw6] at hX0 hb0 hb1 hb2 hsz hq6 ⊢
  clear hw6
  obtain ⟨wq, hwq⟩ : ∃ wq, (w.alloc (.cells #[vC, vP, vR] 26)).alloc (.cells #[.slice ga G.length gc] 44) = wq := ⟨_, rfl⟩
  rw [hwq] at hq6 hqs hqb
  clear hwq
  obtain ⟨x0, x1, x2⟩ := box3' hqb
  obtain ⟨k0, k1, k2⟩ := box3' hb0
  have g0 : w6.cell? ⟨B + 1, 0, none⟩ = some (.slice ga G.length gc) := cell_at hb1 0
  obtain ⟨r0, r1, r2⟩ := box3' hb2
  have HCC := Lib.hid (fun w' (q : Ext w6 w') => cloneChain_any w' vC C (hC.ext (hX0.trans q)) (by omega))
  have HCP := Lib.hid (fun w' (q : Ext w6 w') => cloneProof_any w' vP P (hP.ext (hX0.trans q)) (by omega))
  have HCR := Lib.hid (fun w' (q : Ext w6 w') => cloneRepair_any w' vR R (hR.ext (hX0.trans q)) (by omega))
  have HDP := Lib.hid (fun base w' u (hb : w6.heap.size ≤ base) (q : Ext w6 w') (h : Own 72 5 enc5 base w' u P) => deleteProof_any w6 base hb w' u P q h 114 (.pointer (some ⟨B + 1, 0, none⟩)) (goneB G) enters_less1 (fun x w2 x2 => lessC1_any x G _ (B + 1) w2 (x2.cell g0) (hg.ext (hX0.trans x2))) (by omega))
  have HDR := Lib.hid (fun base w' u (hb : w6.heap.size ≤ base) (q : Ext w6 w') (h : Own 85 5 enc5 base w' u R) => deleteRepair_any w6 base hb w' u R q h 118 (.pointer (some ⟨B + 1, 0, none⟩)) (goneB G) enters_less2 (fun x w2 x2 => lessC2_any x G _ (B + 1) w2 (x2.cell g0) (hg.ext (hX0.trans x2))) (by omega))
  have hK2 : ∀ w', Ext wq w' → (fun w' => Ext wq w' ∧ B < w'.heap.size ∧ (w'.cell? ⟨B, 0, none⟩ = some vC ∧ w'.cell? ⟨B, 1, none⟩ = some vP ∧ w'.cell? ⟨B, 2, none⟩ = some vR)) w' := fun w' x => ⟨x, lt_of_cell (x.cell x0), ⟨x.cell x0, x.cell x1, x.cell x2⟩⟩
  have HK2 := Lib.hid hK2
  have HB2 := Lib.hid hb2
  have hY6 := Ext.refl w6
  clear hK2 hC hP hR hg hb0 hb1 hb2 g0 hsz hBB hqb k0 k1 k2 r0 r1 r2
  go_region_held3 (fun w' => Ext wq w' ∧ B < w'.heap.size ∧ (w'.cell? ⟨B, 0, none⟩ = some vC ∧ w'.cell? ⟨B, 1, none⟩ = some vP ∧ w'.cell? ⟨B, 2, none⟩ = some vR)) (first | exact HK2.out _ (by assumption) | (refine HK2.out _ ?_; repeat (first | assumption | refine Ext.drew ?_ | refine Ext.alloc ?_ _ | refine Ext.setCell ?_ hqs _)))
    ((first
      | (go_at_call 111; with_reducible refine (HCC.out _ (Ext.drew hY6)).mono ?_; rintro e w7 ⟨u1, rfl, hO1, hZ⟩; obtain ⟨a1, n1, c1, rfl⟩ := own_form hO1; have hX7 : Ext w6 w7 := Ext.trans (Ext.drew (Ext.refl w6)) hZ; have hq7 : Ext wq w7 := Ext.trans hq6 hX7; clear hZ)
      | (go_at_call 113; with_reducible refine (HCP.out _ hX7).mono ?_; rintro e w8 ⟨u2, rfl, hO2, hZ⟩; obtain ⟨a2, n2, c2, rfl⟩ := own_form hO2; have hX8 : Ext w6 w8 := Ext.trans hX7 hZ; have hq8 : Ext wq w8 := Ext.trans hq6 hX8; replace hO1 := hO1.ext hZ; clear hZ)
      | (go_at_call 112; with_reducible refine (HDP.out _ _ _ hX7.le hX8 hO2).mono ?_; rintro e w9 ⟨u3, rfl, hO3, hZ, hX9⟩; obtain ⟨a3, n3, c3, rfl⟩ := own_form hO3; have hq9 : Ext wq w9 := Ext.trans hq6 hX9; replace hO1 := hO1.ko hO2 (by decide) hZ; clear hZ)
      | (go_at_call 117; with_reducible refine (HCR.out _ hX9).mono ?_; rintro e w10 ⟨u4, rfl, hO4, hZ⟩; obtain ⟨a4, n4, c4, rfl⟩ := own_form hO4; have hX10 : Ext w6 w10 := Ext.trans hX9 hZ; have hq10 : Ext wq w10 := Ext.trans hq6 hX10; replace hO1 := hO1.ext hZ; replace hO3 := hO3.ext hZ; clear hZ)
      | (go_at_call 116; with_reducible refine (HDR.out _ _ _ hX9.le hX10 hO4).mono ?_; rintro e w11 ⟨u5, rfl, hO5, hZ, hX11⟩; obtain ⟨a5, n5, c5, rfl⟩ := own_form hO5; have hq11 : Ext wq w11 := Ext.trans hq6 hX11; have hB11 := hX11.block HB2.out; obtain ⟨r0, r1, r2⟩ := box3' hB11; have zr := lt_of_cell r0; have f0 := frozen_cells ⟨_, hB11⟩ 0; have f1 := frozen_cells ⟨_, hB11⟩ 1; have f2 := frozen_cells ⟨_, hB11⟩ 2; replace hO1 := hO1.ko hO4 (by decide) hZ; replace hO3 := hO3.ko hO4 (by decide) hZ; clear hZ)))
  all_goals
    go_wp2_with fail
    have hend := less_end (base := w.heap.size) ⟨hX0.le, Nat.le_trans hX0.le hX7.le, Nat.le_trans hX0.le hX9.le⟩ HBB.out hX0 hX11 HB2.out hO1 hO3 hO5
    refine bodyPost_ret (v := .agg #[.slice a1 n1 c1, .slice a3 n3 c3, .slice a5 n5 c5]) (by simp [results, Try.results85, r0, r1, r2, go_sem]) rfl ⟨⟨_, _, _, rfl, hend.1⟩, hX.trans hend.2⟩
end Go.Proofs.Ytaggjclaehigjaa
namespace Go.Proofs.Ytaggjclaehigjaa
open Go.RowKit
/-- the error of Without -/
def withE (C P R : List Five) (G : List Int) : Int := if chk C P R = 0 then (if G.any (fun x => !inB x 1 1099511627776) then 1 else 0) else chk C P R
/-- what Without leaves -/
def keepW (C P R : List Five) (G : List Int) : List Five × List Five × List Five := if withE C P R G = 0 then (C, leftL G P, leftL G R) else ([], [], [])
theorem WorksOwn.nils (base : Nat) (w : World) : WorksOwn base w (.slice none 0 0) (.slice none 0 0) (.slice none 0 0) [] [] [] := ⟨Own.nil _ _ _ _ _, Own.nil _ _ _ _ _, Own.nil _ _ _ _ _⟩
theorem WorksOwn.kx {base R T : Nat} {w w' : World} {u1 u2 u3 : Value} {C P Q : List Five} {cs : Array Value} {ro : Nat × Nat} (h : WorksOwn base w u1 u2 u3 C P Q) (x : KX R w w') (hR : w.heap[R]? = some (.cells cs T ro)) (hT : 53 ≠ T ∧ 72 ≠ T ∧ 85 ≠ T) : WorksOwn base w' u1 u2 u3 C P Q :=
  ⟨h.1.kx x hR hT.1, h.2.1.kx x hR hT.2.1, h.2.2.kx x hR hT.2.2⟩
theorem WorksOwn.mono {base base' : Nat} {w : World} {u1 u2 u3 : Value} {C P Q : List Five} (h : WorksOwn base w u1 u2 u3 C P Q) (hb : base' ≤ base) : WorksOwn base' w u1 u2 u3 C P Q := ⟨h.1.mono hb, h.2.1.mono hb, h.2.2.mono hb⟩
theorem WorksOwn.ext {base : Nat} {w w' : World} {u1 u2 u3 : Value} {C P Q : List Five} (h : WorksOwn base w u1 u2 u3 C P Q) (x : Ext w w') : WorksOwn base w' u1 u2 u3 C P Q := ⟨h.1.ext x, h.2.1.ext x, h.2.2.ext x⟩
theorem WorksOwn.wk {base : Nat} {w : World} {u1 u2 u3 : Value} {C P Q : List Five} (h : WorksOwn base w u1 u2 u3 C P Q) (hl : C.length + P.length + Q.length ≤ 1000000000000000) : Wk w (.agg #[u1, u2, u3]) C P Q := ⟨_, _, _, rfl, h.1.sl enc5_len, h.2.1.sl enc5_len, h.2.2.sl enc5_len, hl⟩
theorem WorksOwn.form {base : Nat} {w : World} {u1 u2 u3 : Value} {C P Q : List Five} (h : WorksOwn base w u1 u2 u3 C P Q) : ∃ a1 n1 c1 a2 n2 c2 a3 n3 c3, u1 = .slice a1 n1 c1 ∧ u2 = .slice a2 n2 c2 ∧ u3 = .slice a3 n3 c3 := by
  obtain ⟨a1, n1, c1, e1⟩ := own_form h.1
  obtain ⟨a2, n2, c2, e2⟩ := own_form h.2.1
  obtain ⟨a3, n3, c3, e3⟩ := own_form h.2.2
  exact ⟨a1, n1, c1, a2, n2, c2, a3, n3, c3, e1, e2, e3⟩
theorem left_len (G : List Int) (l : List Five) : (leftL G l).length ≤ l.length := List.length_filter_le _ _
set_option maxRecDepth 100000 in
set_option maxHeartbeats 4000000 in
theorem Without_any (W : World) (C P R : List Five) (G : List Int) (v vg : Value) (w : World) (hX : Ext W w) (hv : Wk w v C P R) (hg : Ints w vg G) :
    Calls Try.prog 44 #[v, vg] w fun e w' => (∃ vC vP vR, e = .returned (.tuple #[.agg #[vC, vP, vR], .int .i64 (withE C P R G)]) ∧ WorksOwn w.heap.size w' vC vP vR (keepW C P R G).1 (keepW C P R G).2.1 (keepW C P R G).2.2) ∧ Ext W w' := by
  have HCK := Lib.hid (fun w' (q : Ext w w') => Check_any w' C P R v w' (Ext.refl _) (hv.ext q))
  have HLS := Lib.hid (fun w' (q : Ext w w') h => less_any w' C P R G v vg w' (Ext.refl _) (hv.ext q) (hg.ext q) h)
  have HCI := Lib.hid (fun w' (q : Ext w w') => containsIF_any vg G 84 (fun x => !inB x 1 1099511627776) w' (hg.ext q) enters_without (fun x w2 _ => withoutC_any x w2))
  obtain ⟨vC, vP, vR, rfl, -⟩ := hv
  obtain ⟨ga, gc, rfl, -⟩ := hg.parts
  have hX0 : Ext w ((w.alloc (.cells #[vC, vP, vR] 26)).alloc (.cells #[.slice none 0 0, .slice none 0 0, .slice none 0 0] 26)) := ((Ext.refl w).alloc _).alloc _
  have hb0 := ((Ext.refl _).alloc (.cells #[.slice none 0 0, .slice none 0 0, .slice none 0 0] 26)).block (heap_alloc_new w (.cells #[vC, vP, vR] 26))
  have hb1 := heap_alloc_new (w.alloc (.cells #[vC, vP, vR] 26)) (.cells #[.slice none 0 0, .slice none 0 0, .slice none 0 0] 26)
  simp only [World.size_alloc] at hb1
  obtain ⟨B, hBB⟩ : ∃ B, w.heap.size = B := ⟨_, rfl⟩
  rw [hBB] at hb0 hb1
  have HBB := Lib.hid hBB
  clear hg
  go_enter Try.func44, Try.ntmps44
  go_wp2_with fail
  with_reducible refine (HCK.out _ hX0).mono ?_
  rintro e w1 ⟨rfl, hX1⟩
  have hE1 := hX0.trans hX1
  replace hb0 := hX1.block hb0
  replace hb1 := hX1.block hb1
  obtain ⟨k0, k1, k2⟩ := box3' hb0
  obtain ⟨r0, r1, r2⟩ := box3' hb1
  have f0 := frozen_cells ⟨_, hb1⟩ 0
  have f1 := frozen_cells ⟨_, hb1⟩ 1
  have f2 := frozen_cells ⟨_, hb1⟩ 2
  have zr := lt_of_cell r0
  have hwB : w.heap.size ≤ B + 1 := by omega
  clear hX0 hX1 HCK
  by_cases h0 : chk C P R = 0
  · have HG : Hid (chk C P R = 0 → withE C P R G = if G.any (fun x => !inB x 1 1099511627776) then 1 else 0) := fun h => by unfold withE; rw [if_pos h]
    have HFEW : Hid (C.length + P.length + R.length ≤ 1000000) := by have := (chk_zero.1 h0).few; show _ ≤ _; omega
    replace HG := Lib.hid (HG.out h0)
    rw [h0]
    obtain ⟨b, hb⟩ : ∃ b, G.any (fun x => !inB x 1 1099511627776) = b := ⟨_, rfl⟩
    rw [hb] at HG HCI
    clear h0 hb
    cases b
    · have HE : Hid (withE C P R G = 0) := HG.out
      have HKW : Hid (keepW C P R G = (C, leftL G P, leftL G R)) := by show _ = _; unfold keepW; rw [if_pos HE.out]
      go_wp2_with (go_at_call 83; with_reducible refine (HCI.out _ hE1).mono ?_; rintro e w2 ⟨rfl, hX2⟩; replace hb0 := hX2.block hb0; replace hb1 := hX2.block hb1; obtain ⟨k0, k1, k2⟩ := box3' hb0)
      with_reducible refine (HLS.out _ (hE1.trans hX2) HFEW.out).mono ?_
      rintro e w3 ⟨⟨u1, u2, u3, rfl, hO⟩, hX3⟩
      obtain ⟨a1, n1, c1, a2, n2, c2, a3, n3, c3, rfl, rfl, rfl⟩ := hO.form
      have hb2 := hX3.block hb1
      obtain ⟨r0, r1, r2⟩ := box3' hb2
      have f0 := frozen_cells ⟨_, hb2⟩ 0
      have f1 := frozen_cells ⟨_, hb2⟩ 1
      have f2 := frozen_cells ⟨_, hb2⟩ 2
      have zr := lt_of_cell r0
      have HO := Lib.hid (((hO.mono (base' := w.heap.size) (hE1.trans hX2).le)).kx ((((KX.refl (B + 1) w3).set 0 (.slice a1 n1 c1)).set 1 (.slice a2 n2 c2)).set 2 (.slice a3 n3 c3)) hb2 ⟨by decide, by decide, by decide⟩)
      clear hO
      go_wp2_with fail
      refine bodyPost_ret (v := .tuple #[.agg #[.slice a1 n1 c1, .slice a2 n2 c2, .slice a3 n3 c3], .int .i64 0]) (by simp [results, Try.results44, r0, r1, r2, go_sem]) rfl ⟨⟨_, _, _, by rw [HE.out], by rw [HKW.out]; exact HO.out⟩, hX.trans (((((hE1.trans hX2).trans hX3).setCell (by exact hwB) _).setCell (by exact hwB) _).setCell (by exact hwB) _)⟩
    · have HE : Hid (withE C P R G = 1) := HG.out
      have HKW : Hid (keepW C P R G = ([], [], [])) := by show _ = _; unfold keepW; rw [if_neg (by rw [HE.out]; decide)]
      go_wp2_with (go_at_call 83; with_reducible refine (HCI.out _ hE1).mono ?_; rintro e w2 ⟨rfl, hX2⟩; replace hb0 := hX2.block hb0; replace hb1 := hX2.block hb1; obtain ⟨r0, r1, r2⟩ := box3' hb1; have f0 := frozen_cells ⟨_, hb1⟩ 0; have f1 := frozen_cells ⟨_, hb1⟩ 1; have f2 := frozen_cells ⟨_, hb1⟩ 2; have zr := lt_of_cell r0)
      refine bodyPost_ret (v := .tuple #[.agg #[.slice none 0 0, .slice none 0 0, .slice none 0 0], .int .i64 1]) (by simp [results, Try.results44, r0, r1, r2, go_sem]) rfl ⟨⟨_, _, _, by rw [HE.out], by rw [HKW.out]; exact WorksOwn.nils _ _⟩, hX.trans ((((hE1.trans hX2).setCell (by exact hwB) _).setCell (by exact hwB) _).setCell (by exact hwB) _)⟩
  · have HE : Hid (withE C P R G = chk C P R) := by show _ = _; unfold withE; rw [if_neg h0]
    have HKW : Hid (keepW C P R G = ([], [], [])) := by show _ = _; unfold keepW; rw [if_neg (by rw [HE.out]; exact h0)]
    obtain ⟨n, hn⟩ : ∃ n, chk C P R = n := ⟨_, rfl⟩
    rw [hn] at h0 HE ⊢
    have g1 : (n == 0) = false := by simpa using h0
    have g2 : (n != 0) = true := by simp [bne, g1]
    clear hn
    go_wp2_with fail
    refine bodyPost_ret (v := .tuple #[.agg #[.slice none 0 0, .slice none 0 0, .slice none 0 0], .int .i64 n]) (by simp [results, Try.results44, r0, r1, r2, go_sem]) rfl ⟨⟨_, _, _, by rw [HE.out], by rw [HKW.out]; exact WorksOwn.nils _ _⟩, hX.trans (((hE1.setCell (by exact hwB) _).setCell (by exact hwB) _).setCell (by exact hwB) _)⟩
end Go.Proofs.Ytaggjclaehigjaa
