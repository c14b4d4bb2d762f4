/- Contracts of what ChainageIsTrue calls: into, pick, Starting, history. Contract of history. Contract of truth. -/
import Derived.Test.YtaggjclaehigjaaRF
import Derived.Deep.CutBlock
namespace Go.Proofs.Ytaggjclaehigjaa
open Go.RowKit
def intoZ (n lo hi : Int) : Int := max lo (min hi n)
def pickZ (l : List Int) (i : Nat) : Int := if l = [] then 0 else l.getD (i % l.length) 0
set_option maxRecDepth 100000 in
set_option maxHeartbeats 1000000 in
theorem into_any (n lo hi : Int) (w : World) : Calls Try.prog 30 #[.int .i64 n, .agg #[.int .i64 lo, .int .i64 hi]] w fun e w' => e = .returned (.int .i64 (intoZ n lo hi)) ∧ Ext w w' := by
  have hmax := ite_max
  have hmin := ite_min
  unfold intoZ
  go_enter Try.func30, Try.ntmps30
  go_wp2_with fail
  go_ret
  exact ⟨rfl, (Ext.refl _).alloc _⟩
set_option maxRecDepth 100000 in
set_option maxHeartbeats 1000000 in
theorem pick_any (l : List Int) (v : Value) (i : Nat) (w : World) (hv : Ints w v l) : Calls Try.prog 74 #[v, .int .i64 i] w fun e w' => e = .returned (.int .i64 (pickZ l i)) ∧ Ext w w' := by
  obtain ⟨a, cap, rfl, h1, h2, hc⟩ := hv.parts
  unfold maxLen at h2
  have hml : (l.length : Int) ≤ 9223372036854775807 := by omega
  by_cases hl : l = []
  · have HR : Hid (pickZ l i = 0) := by show _ = _; unfold pickZ; rw [if_pos hl]
    have d0 : ((l.length : Int) == 0) = true := by simp [hl]
    clear hc hv hl
    go_enter Try.func74, Try.ntmps74
    go_wp2_with fail
    go_ret
    exact ⟨by rw [HR.out]; rfl, Ext.refl _⟩
  · have hl0 : l.length ≠ 0 := by simpa using hl
    have hk : i % l.length < l.length := Nat.mod_lt _ (by omega)
    obtain ⟨b, off, x, hx, rfl, c0⟩ := int_at hc (Ext.refl w) hk
    have HR : Hid (pickZ l i = x) := by
      show _ = _
      unfold pickZ
      rw [if_neg hl, List.getD_eq_getElem?_getD, List.getElem?_eq_getElem hk, hx]
      rfl
    obtain ⟨k, hkk⟩ : ∃ k, i % l.length = k := ⟨_, rfl⟩
    rw [hkk] at hk c0
    have d0 : ((l.length : Int) == 0) = false := by simpa using hl
    have e1 : (i : Int).tmod (l.length : Int) = (k : Int) := by rw [← hkk]; exact (Int.ofNat_tmod _ _).symm
    have n1 : ¬ l.length = 0 := hl0
    have n2 : ¬ (l.length : Int) = 0 := by omega
    have k0 : (0 : Int) ≤ (k : Int) := by omega
    have k1 : (k : Int) < (l.length : Int) := by omega
    clear hc hv hl hx hkk
    go_enter Try.func74, Try.ntmps74
    go_wp2_with fail
    go_ret
    exact ⟨by rw [HR.out]; rfl, Ext.refl _⟩
/-- what a chain was when a spell begins in a year -/
def begZ (R : List Five) (c : Five) (y : Int) : Int × Int :=
  if (spellZ R c y).1 = y then (match R.find? (fun r => r.b == c.a && r.c == y) with | some r => (r.d, r.e) | none => (c.c, c.d)) else (0, 0)
theorem find_hit {p : Five → Bool} {l : List Five} {k : Nat} (hk : k < l.length) (h : p l[k] = true) (hn : ∀ i, (hi : i < k) → (h : i < l.length) → p l[i] = false) : l.find? p = some l[k] := by
  rw [List.find?_eq_some_iff_getElem]
  refine ⟨h, k, hk, rfl, fun j hj => by simp [hn j hj (by omega)]⟩
theorem find_miss {p : Five → Bool} {l : List Five} (hn : ∀ i, (h : i < l.length) → p l[i] = false) : l.find? p = none := by
  rw [List.find?_eq_none]
  intro x hx
  obtain ⟨i, hi, rfl⟩ := List.getElem_of_mem hx
  simp [hn i hi]
set_option maxRecDepth 100000 in
set_option maxHeartbeats 4000000 in
theorem rStarting (W : World) (C P R : List Five) (c : Five) (y : Int) (v : Value) (w : World) (hX : Ext W w) (hv : Wk w v C P R) (hY : ∀ r ∈ R, 0 ≤ r.c ∧ r.c ≤ 4000) :
    Calls Try.prog 104 #[v, v5 c, .int .i64 y] w fun e w' => e = .returned (.agg #[.int .i64 (begZ R c y).1, .int .i64 (begZ R c y).2]) ∧ Ext W w' := by
  have HSP := Lib.hid (fun w' (q : Ext w w') => rspell w' C P R c y v w' (Ext.refl _) (hv.ext q) hY)
  obtain ⟨vC, vP, vR, rfl, hC, hP, hR, hn⟩ := hv
  obtain ⟨aR, capR, rfl, hlR, hmR, hcR⟩ := hR.parts
  have HcR := Lib.hid hcR
  clear hcR hC hP hR hmR hY
  have hX0 : Ext w (((w.alloc (.cells #[vC, vP, .slice aR R.length capR] 26)).alloc (.cells #[.int .i64 c.a, .int .i64 c.b, .int .i64 c.c, .int .i64 c.d, .int .i64 c.e] 53)).alloc (.cells #[.int .i64 0, .int .i64 0] 30)) := (((Ext.refl w).alloc _).alloc _).alloc _
  have hb0 := (((Ext.refl _).alloc (.cells #[.int .i64 c.a, .int .i64 c.b, .int .i64 c.c, .int .i64 c.d, .int .i64 c.e] 53)).alloc (.cells #[.int .i64 0, .int .i64 0] 30)).block (heap_alloc_new w (.cells #[vC, vP, .slice aR R.length capR] 26))
  have hb1 := ((Ext.refl _).alloc (.cells #[.int .i64 0, .int .i64 0] 30)).block (heap_alloc_new (w.alloc (.cells #[vC, vP, .slice aR R.length capR] 26)) (.cells #[.int .i64 c.a, .int .i64 c.b, .int .i64 c.c, .int .i64 c.d, .int .i64 c.e] 53))
  have hb2 := heap_alloc_new ((w.alloc (.cells #[vC, vP, .slice aR R.length capR] 26)).alloc (.cells #[.int .i64 c.a, .int .i64 c.b, .int .i64 c.c, .int .i64 c.d, .int .i64 c.e] 53)) (.cells #[.int .i64 0, .int .i64 0] 30)
  simp only [World.size_alloc] at hb1 hb2
  obtain ⟨B, hBB⟩ : ∃ B, w.heap.size = B := ⟨_, rfl⟩
  rw [hBB] at hb0 hb1 hb2
  obtain ⟨⟨s1, s2⟩, hs⟩ : ∃ s, spellZ R c y = s := ⟨_, rfl⟩
  have HBZ : Hid (begZ R c y = if s1 = y then (match R.find? (fun r => r.b == c.a && r.c == y) with | some r => (r.d, r.e) | none => (c.c, c.d)) else (0, 0)) := by show _ = _; unfold begZ; rw [hs]
  rw [hs] at HSP
  clear hs
  go_enter Try.func104, Try.ntmps104
  go_wp2_with fail
  obtain ⟨wa, hwa⟩ : ∃ wa, ((w.alloc (.cells #[vC, vP, .slice aR R.length capR] 26)).alloc (.cells #[.int .i64 c.a, .int .i64 c.b, .int .i64 c.c, .int .i64 c.d, .int .i64 c.e] 53)).alloc (.cells #[.int .i64 0, .int .i64 0] 30) = wa := ⟨_, rfl⟩
  rw [hwa] at hX0 hb0 hb1 hb2 ⊢
  clear hwa
  with_reducible refine (HSP.out _ hX0).mono ?_
  rintro e w1 ⟨rfl, hX1⟩
  have hE0 := hX0.trans hX1
  have hE1 := (hX0.trans hX1).alloc (.cells #[.int .i64 s1, .int .i64 s2] 30)
  replace hb0 := ((Ext.refl w1).alloc (.cells #[.int .i64 s1, .int .i64 s2] 30)).block (hX1.block hb0)
  replace hb1 := ((Ext.refl w1).alloc (.cells #[.int .i64 s1, .int .i64 s2] 30)).block (hX1.block hb1)
  replace hb2 := hX1.block hb2
  obtain ⟨r0, r1⟩ := box2 hb2
  have zR := lt_of_cell r0
  have f0 := frozen_cells ⟨_, hb2⟩ 0
  have f1 := frozen_cells ⟨_, hb2⟩ 1
  replace hb2 := ((Ext.refl w1).alloc (.cells #[.int .i64 s1, .int .i64 s2] 30)).block hb2
  clear HSP hX0 hX1
  by_cases hsy : s1 = y
  · rw [if_pos hsy] at HBZ
    have d1 : (s1 == y) = true := by simp [hsy]
    have d2 : (s1 != y) = false := by simp [hsy]
    clear hsy r0 r1 f0 f1
    go_wp2_with fail
    obtain ⟨w2, hw2⟩ : ∃ w2, w1.alloc (.cells #[.int .i64 s1, .int .i64 s2] 30) = w2 := ⟨_, rfl⟩
    rw [hw2] at hb0 hb1 hb2 hE1 ⊢
    clear hw2 zR
    go_loopw [8] (fun i wr => ∃ k : Nat, k ≤ R.length ∧ i = .int .i64 k ∧ Ext w2 wr ∧ Hid (∀ j, (hj : j < k) → (h : j < R.length) → (R[j].b == c.a && R[j].c == y) = false)) (fun i _ => R.length - (intOf i).toNat)
    case atStart => exact ⟨0, Nat.zero_le _, rfl, Ext.refl _, fun j hj => absurd hj (by omega)⟩
    case round =>
      obtain ⟨k, hk, rfl, hE, HN⟩ := hrel
      obtain ⟨k0, k1, k2⟩ := box3' (hE.block hb0)
      obtain ⟨c0, c1, c2, c3, c4⟩ := box5 (hE.block hb1)
      obtain ⟨r0, r1⟩ := box2 (hE.block hb2)
      have g0 := frozen_cells ⟨_, hE.block hb2⟩ 0
      have g1 := frozen_cells ⟨_, hE.block hb2⟩ 1
      have zB := lt_of_cell k0
      have zC := lt_of_cell c0
      have zR := lt_of_cell r0
      by_cases hlt : k < R.length
      · obtain ⟨b, off, x, hx, rfl, q0, q1, q2, q3, q4⟩ := five_at HcR.out (hE1.trans hE) hlt
        have HX := Lib.hid hx
        clear hx
        have hk0 : (0 : Int) ≤ (k : Int) := by omega
        have hk1 : (k : Int) < (R.length : Int) := by omega
        have zq := lt_of_cell q0
        cases e1 : (x.b == c.a)
        · go_wp2_with fail
          go_quiet (fail)
          go_wp2_with fail
          go_roundw
          case rel =>
            refine ⟨k + 1, by omega, by go_num, hE.drewN _, fun j hj h => ?_⟩
            by_cases e : j = k
            · subst e; rw [← HX.out, e1]; rfl
            · exact HN.out j (by omega) h
          case measure => simp [intOf]; omega
        · cases e2 : (x.c == y)
          · go_wp2_with fail
            go_quiet (fail)
            go_wp2_with fail
            go_roundw
            case rel =>
              refine ⟨k + 1, by omega, by go_num, hE.drewN _, fun j hj h => ?_⟩
              by_cases e : j = k
              · subst e; rw [← HX.out, e1, e2]; rfl
              · exact HN.out j (by omega) h
            case measure => simp [intOf]; omega
          · have HR : Hid (begZ R c y = (x.d, x.e)) := by
              show _ = _
              rw [HBZ.out, find_hit hlt (by rw [← HX.out, e1, e2]; rfl) HN.out, ← HX.out]
            go_wp2_with fail
            go_quiet (fail)
            go_wp2_with fail
            refine bodyPost_ret (v := .agg #[.int .i64 x.d, .int .i64 x.e]) (by simp [results, Try.results104, r0, r1, go_sem]) rfl ⟨by rw [HR.out], hX.trans ?_⟩
            repeat (first | exact (hE1.trans hE).drewN _ | refine Ext.setCell ?_ (by show w.heap.size ≤ B + 1 + 1; omega) _)
      · obtain rfl : k = R.length := by omega
        have HR : Hid (begZ R c y = (c.c, c.d)) := by
          show _ = _
          rw [HBZ.out, find_miss (fun i h => HN.out i h h)]
        go_wp2_with fail
        refine bodyPost_ret (v := .agg #[.int .i64 c.c, .int .i64 c.d]) (by simp [results, Try.results104, r0, r1, go_sem]) rfl ⟨by rw [HR.out], hX.trans ?_⟩
        repeat (first | exact hE1.trans hE | refine Ext.setCell ?_ (by show w.heap.size ≤ B + 1 + 1; omega) _)
  · have HR : Hid (begZ R c y = (0, 0)) := by show _ = _; rw [HBZ.out, if_neg hsy]
    have d1 : (s1 == y) = false := by simpa using hsy
    have d2 : (s1 != y) = true := by simp [bne, d1]
    clear hsy
    go_wp2_with fail
    refine bodyPost_ret (v := .agg #[.int .i64 0, .int .i64 0]) (by simp [results, Try.results104, r0, r1, zR, go_sem]) rfl ⟨by rw [HR.out], hX.trans ?_⟩
    repeat (first | exact hE0 | refine Ext.alloc ?_ _ | refine Ext.setCell ?_ (by show w.heap.size ≤ B + 1 + 1; omega) _)
end Go.Proofs.Ytaggjclaehigjaa
namespace Go.Proofs.Ytaggjclaehigjaa
open Go.RowKit
/-- one more year of a true history -/
def nxtZ (R : List Five) (c : Five) (start : Int) (steps : List Int) (k : Nat) (n : Int) : Int :=
  if 0 < (begZ R c (c.b + k)).1 then intoZ (IntKind.i64.wrap (start + pickZ steps k)) (begZ R c (c.b + k)).1 (begZ R c (c.b + k)).2 else n + intoZ (steps.getD k 0) 0 c.e
def hisZ (R : List Five) (c : Five) (start : Int) (steps : List Int) : Nat → List Int × Int
  | 0 => ([], 0)
  | k + 1 => ((hisZ R c start steps k).1 ++ [nxtZ R c start steps k (hisZ R c start steps k).2], nxtZ R c start steps k (hisZ R c start steps k).2)
theorem his_len (R : List Five) (c : Five) (start : Int) (steps : List Int) (k : Nat) : (hisZ R c start steps k).1.length = k := by
  induction k with
  | zero => rfl
  | succ k ih => unfold hisZ; rw [List.length_append, ih]; rfl
theorem intoZ_ge (n lo hi : Int) : lo ≤ intoZ n lo hi := by unfold intoZ; omega
theorem intoZ_le {n lo hi : Int} (h : lo ≤ hi) : intoZ n lo hi ≤ hi := by unfold intoZ; omega
theorem his_pos (R : List Five) (c : Five) (start : Int) (steps : List Int) (k : Nat) : 0 ≤ (hisZ R c start steps k).2 := by
  induction k with
  | zero => exact Int.le_refl _
  | succ k ih =>
    show 0 ≤ nxtZ R c start steps k (hisZ R c start steps k).2
    unfold nxtZ
    split
    · have := intoZ_ge (IntKind.i64.wrap (start + pickZ steps k)) (begZ R c (c.b + k)).1 (begZ R c (c.b + k)).2
      omega
    · have := intoZ_ge (steps.getD k 0) 0 c.e
      omega
/-- what history returns -/
def HistPost (W : World) (base : Nat) (R : List Five) (c : Five) (start : Int) (steps : List Int) (e : Ending) (w : World) : Prop :=
  Ext W w ∧ (e = .returned (.tuple #[.slice none 0 0, .bool false]) ∨ ∃ u, e = .returned (.tuple #[u, .bool true]) ∧ Own 3 1 enc1 base w u (hisZ R c start steps steps.length).1 ∧ ∀ j, j < steps.length → (hisZ R c start steps (j + 1)).2 ≤ 12000)
set_option maxRecDepth 100000 in
set_option maxHeartbeats 8000000 in
theorem history_any (W : World) (C P R : List Five) (c : Five) (start : Int) (steps : List Int) (v vs : Value) (w : World) (hX : Ext W w) (hv : Wk w v C P R) (hs : Ints w vs steps) (hY : ∀ r ∈ R, 0 ≤ r.c ∧ r.c ≤ 4000) (hcb : 0 ≤ c.b ∧ c.b + steps.length ≤ 4001) (hce : 0 ≤ c.e ∧ c.e ≤ 1000) :
    Calls Try.prog 73 #[v, v5 c, .int .i64 start, vs] w (HistPost W w.heap.size R c start steps) := by
  have HST := Lib.hid (fun y w' (q : Ext w w') => rStarting w' C P R c y v w' (Ext.refl _) (hv.ext q) hY)
  have HS := Lib.hid hs
  obtain ⟨asl, caps, rfl, h1, h2, hc⟩ := hs.parts
  have HC := Lib.hid hc
  obtain ⟨vC, vP, vR, rfl, -⟩ := hv
  have hX0 : Ext w ((w.alloc (.cells #[vC, vP, vR] 26)).alloc (.cells #[.int .i64 c.a, .int .i64 c.b, .int .i64 c.c, .int .i64 c.d, .int .i64 c.e] 53)) := ((Ext.refl w).alloc _).alloc _
  have hb0 := ((Ext.refl _).alloc (.cells #[.int .i64 c.a, .int .i64 c.b, .int .i64 c.c, .int .i64 c.d, .int .i64 c.e] 53)).block (heap_alloc_new w (.cells #[vC, vP, vR] 26))
  have hb1 := heap_alloc_new (w.alloc (.cells #[vC, vP, vR] 26)) (.cells #[.int .i64 c.a, .int .i64 c.b, .int .i64 c.c, .int .i64 c.d, .int .i64 c.e] 53)
  rw [World.size_alloc] at hb1
  obtain ⟨B, hBB⟩ : ∃ B, w.heap.size = B := ⟨_, rfl⟩
  rw [hBB] at hb0 hb1
  clear hs hc h1 h2 hY
  go_enter Try.func73, Try.ntmps73
  go_wp2_with fail
  obtain ⟨wa, hwa⟩ : ∃ wa, (w.alloc (.cells #[vC, vP, vR] 26)).alloc (.cells #[.int .i64 c.a, .int .i64 c.b, .int .i64 c.c, .int .i64 c.d, .int .i64 c.e] 53) = wa := ⟨_, rfl⟩
  rw [hwa] at hX0 hb0 hb1 ⊢
  clear hwa
  have hwsz : w.heap.size ≤ wa.heap.size := hX0.le
  go_loopw [10, 11, 16] (fun u n i wr => ∃ k : Nat, k ≤ steps.length ∧ i = .int .i64 k ∧ n = .int .i64 (hisZ R c start steps k).2 ∧ Own 3 1 enc1 wa.heap.size wr u (hisZ R c start steps k).1 ∧ Ext wa wr ∧ Hid (∀ j, j < k → (hisZ R c start steps (j + 1)).2 ≤ 12000)) (fun _ _ i _ => steps.length - (intOf i).toNat)
  case atStart => exact ⟨0, Nat.zero_le _, rfl, rfl, Own.nil _ _ _ _ _, Ext.refl _, fun j hj => absurd hj (by omega)⟩
  case round =>
    obtain ⟨k, hk, rfl, rfl, hO, hE, HN⟩ := hrel
    by_cases hlt : k < steps.length
    · obtain ⟨k0, k1, k2⟩ := box3' (hE.block hb0)
      obtain ⟨c0, c1, c2, c3, c4⟩ := box5 (hE.block hb1)
      have zB := lt_of_cell k0
      have zC := lt_of_cell c0
      have hpos := his_pos R c start steps k
      have hle : (hisZ R c start steps k).2 ≤ 12000 := by
        rcases Nat.eq_zero_or_pos k with rfl | h
        · show (0 : Int) ≤ 12000; decide
        · have := HN.out (k - 1) (by omega)
          rw [show k - 1 + 1 = k by omega] at this
          exact this
      have hlen := his_len R c start steps k
      have hkk : 0 ≤ (k : Int) ∧ (k : Int) ≤ 4001 := by omega
      have hcb2 : 0 ≤ c.b ∧ c.b ≤ 4001 := by omega
      have HSU : Hid (hisZ R c start steps (k + 1) = ((hisZ R c start steps k).1 ++ [nxtZ R c start steps k (hisZ R c start steps k).2], nxtZ R c start steps k (hisZ R c start steps k).2)) := rfl
      obtain ⟨y, hy⟩ : ∃ y, c.b + (k : Int) = y := ⟨_, rfl⟩
      have HSY := Lib.hid (HST.out y)
      have HNX : Hid (nxtZ R c start steps k (hisZ R c start steps k).2 = if 0 < (begZ R c y).1 then intoZ (IntKind.i64.wrap (start + pickZ steps k)) (begZ R c y).1 (begZ R c y).2 else (hisZ R c start steps k).2 + intoZ (steps.getD k 0) 0 c.e) := by
        show _ = _
        rw [← hy]
        rfl
      generalize nxtZ R c start steps k (hisZ R c start steps k).2 = nn at HSU HNX
      generalize (hisZ R c start steps k).2 = n at HNX hpos hle ⊢
      generalize (hisZ R c start steps k).1 = l at HSU hO hlen
      obtain ⟨⟨b1, b2⟩, hbz⟩ : ∃ b, begZ R c y = b := ⟨_, rfl⟩
      rw [hbz] at HSY HNX
      clear hbz
      have hkl : (k : Int) < (steps.length : Int) := by omega
      go_wp2_with fail
      with_reducible refine (HSY.out _ (hX0.trans hE)).mono ?_
      rintro e w2 ⟨rfl, hX2⟩
      have hbS := heap_alloc_new w2 (.cells #[.int .i64 b1, .int .i64 b2] 30)
      have hE3 := (hE.trans hX2).alloc (.cells #[.int .i64 b1, .int .i64 b2] 30)
      have hO3 := (hO.ext hX2).ext ((Ext.refl _).alloc (.cells #[.int .i64 b1, .int .i64 b2] 30))
      obtain ⟨S, hS⟩ : ∃ S, w2.heap.size = S := ⟨_, rfl⟩
      go_upto_block 2 with fail
      rw [hS] at hbS
      obtain ⟨w3, hw3⟩ : ∃ w3, w2.alloc (.cells #[.int .i64 b1, .int .i64 b2] 30) = w3 := ⟨_, rfl⟩
      rw [hw3] at hbS hE3 hO3 ⊢
      clear hw3 hE hO hX2 k0 k1 k2 c0 c1 c2 c3 c4 zB zC hS
      obtain ⟨s0, s1⟩ := box2 hbS
      go_cut [11] (fun v wx => v = .int .i64 nn ∧ Ext w3 wx)
      case first => as_aux_lemma =>
        obtain ⟨c0, c1, c2, c3, c4⟩ := box5 (hE3.block hb1)
        have cP := regrow (w := w3) (fun w' (q : Ext w3 w') => pick_any steps _ k w' (HS.out.ext ((hX0.trans hE3).trans q)))
        by_cases hb : 0 < b1
        · rw [if_pos hb] at HNX
          have cI := regrow (w := w3) (fun w' _ => into_any (IntKind.i64.wrap (start + pickZ steps k)) b1 b2 w')
          generalize pickZ steps k = pk at cP cI HNX
          go_wp2_with fail
          have s0 := cell_regrown s0
          have s1 := cell_regrown s1
          refine wp_region_quiet_below (by kernel_rfl) (by kernel_rfl) ?_
          repeat (with_reducible refine wpQuiet_step (fun K hK => ?_); go_simp; first | (with_reducible refine hK _ ?_; clear hK K) | (rw [if_neg (by simp [undef])]; with_reducible refine hK _ ?_; clear hK K) | (apply Exists.intro; with_reducible refine ⟨fun _ => ?_, hK _ ?_⟩; (first | with_reducible exact cP _ _ | with_reducible exact cI _ _); clear hK K))
          refine wpQuiet_nil ?_
          intro _ hw'
          obtain ⟨⟨dq, osq⟩, hw''⟩ := hw'
          subst hw''
          have hXq : Ext w3 (Go.Sort.grow (redrawn w3 dq) osq) := below_regrown w3 dq osq
          go_wp2_with fail
          go_meet
          case rel => exact ⟨by rw [HNX.out], hXq⟩
        · rw [if_neg hb] at HNX
          obtain ⟨bb, oo, x, hx, rfl, q0⟩ := int_at HC.out (hX0.trans hE3) hlt
          have hx2 : steps.getD k 0 = x := by rw [List.getD_eq_getElem?_getD, List.getElem?_eq_getElem hlt, hx]; rfl
          rw [hx2] at HNX
          have cI := regrow (w := w3) (fun w' _ => into_any x 0 c.e w')
          have g1 := intoZ_ge x 0 c.e
          have g2 := intoZ_le (n := x) hce.1
          generalize intoZ x 0 c.e = d at cI HNX g1 g2
          have e1 : IntKind.i64.wrap (n + d) = n + d := wrap_in (by omega)
          clear hx hx2
          go_wp2_with fail
          have q0 := cell_regrown q0
          have c4 := cell_regrown c4
          refine wp_region_quiet_below (by kernel_rfl) (by kernel_rfl) ?_
          repeat (with_reducible refine wpQuiet_step (fun K hK => ?_); go_simp; first | (with_reducible refine hK _ ?_; clear hK K) | (rw [if_neg (by simp [undef])]; with_reducible refine hK _ ?_; clear hK K) | (apply Exists.intro; with_reducible refine ⟨fun _ => ?_, hK _ ?_⟩; (first | with_reducible exact cI _ _); clear hK K))
          refine wpQuiet_nil ?_
          intro _ hw'
          obtain ⟨⟨dq, osq⟩, hw''⟩ := hw'
          subst hw''
          have hXq : Ext w3 (Go.Sort.grow (redrawn w3 dq) osq) := below_regrown w3 dq osq
          go_wp2_with fail
          go_meet
          case rel => exact ⟨by rw [HNX.out], hXq⟩
      case rest =>
      obtain ⟨rfl, hX4⟩ := hcut
      obtain ⟨w4, rfl⟩ : ∃ w', w' = wc := ⟨_, rfl⟩
      have hE4 := hE3.trans hX4
      have hO4 := hO3.ext hX4
      clear hbS hE3 hO3 hX4 HNX HSY hpos hle s0 s1
      by_cases hbig : 12000 < nn
      · go_wp2_with fail
        exact bodyPost_ret (v := .tuple #[.slice none 0 0, .bool false]) (by simp [results, Try.results73, go_sem]) rfl ⟨hX.trans (hX0.trans hE4), .inl rfl⟩
      · go_wp2_with (at_builtin; with_reducible refine app_many 44 3 1 8 (.int .i64 0) enc1 enc1_len enc1_one Try.underlying44 infoI rfl (by decide) (by decide) rfl (.tmp 49) (.tmp 51) rfl wa.heap.size u10 l rfl (hO4.ext ((Ext.refl _).alloc _)) _ [nn] rfl (Sl.mk1 (by simp) rfl) (by simp; omega) (by have := hE4.le; simp; omega) ?_; intro v5 w5 hO5 hg5 hE5 hb5; have hE6 := hE5 wa (Nat.le_refl _) (hE4.alloc _))
        go_roundw
        case rel => exact ⟨k + 1, by omega, by go_num, by rw [HSU.out], by rw [HSU.out]; exact hO5, hE6, fun j hj => by
            by_cases e : j = k
            · subst e; rw [HSU.out]; show nn ≤ 12000; omega
            · exact HN.out j (by omega)⟩
        case measure => simp [intOf]; omega
    · obtain rfl : k = steps.length := by omega
      go_wp2_with fail
      exact bodyPost_ret (v := .tuple #[u10, .bool true]) (by simp [results, Try.results73, go_sem]) rfl ⟨hX.trans (hX0.trans hE), .inr ⟨u10, rfl, hO.mono hwsz, HN.out⟩⟩
end Go.Proofs.Ytaggjclaehigjaa
namespace Go.Proofs.Ytaggjclaehigjaa
open Go.RowKit
def keepF (c : Five) (n : Nat) (t : Five) : Bool := t.b == c.a && decide (t.c < c.b + n)
def key3 (t : Five) : Int × Int × Int := (t.a, t.b, t.c)
/-- the true length in a year -/
def trueAt (l : List Int) (c : Five) (y : Int) : Int := l.getD (y - c.b).toNat 0
/-- proofs that show the true lengths -/
structure TruP (l : List Int) (c : Five) (n : Nat) (P P' : List Five) : Prop where
  key : P'.map key3 = (P.filter (keepF c n)).map key3
  tru : ∀ p ∈ P', 9000 ≤ p.d ∧ p.d ≤ trueAt l c p.c ∧ trueAt l c p.c ≤ p.e ∧ p.e ≤ 12000
/-- what truth returns where it is asked rightly -/
structure TruthIs (C P R : List Five) (start : Int) (steps : List Int) (c : Five) (P' R' : List Five) (l : List Int) : Prop where
  chk : chk C P R = 0
  hd : C.head? = some c
  len : 0 < steps.length ∧ steps.length ≤ 60 ∧ c.b + steps.length ≤ 4001
  rep : R' = R.filter (keepF c steps.length)
  lst : l = (hisZ R' c start steps steps.length).1
  his : ∀ j, j < steps.length → (hisZ R' c start steps (j + 1)).2 ≤ 12000
  pro : TruP l c steps.length P P'
def TruthPost (W : World) (base : Nat) (C P R : List Five) (v : Value) (start : Int) (steps : List Int) (e : Ending) (w : World) : Prop :=
  Ext W w ∧ (e = .returned (.tuple #[v, .slice none 0 0, .bool false]) ∨ ∃ c P' R' l vC vP0 vR0 vP' vR' u, v = .agg #[vC, vP0, vR0] ∧ e = .returned (.tuple #[.agg #[vC, vP', vR'], u, .bool true]) ∧ Own 72 5 enc5 base w vP' P' ∧ Own 85 5 enc5 base w vR' R' ∧ Own 3 1 enc1 base w u l ∧ TruthIs C P R start steps c P' R' l)
theorem KX.grow2 {α : Type} {T k R : Nat} {enc : α → List Value} {w0 w w' : World} {base : Nat} {v : Value} {l : List α} (h : KX R w0 w) (hO : Own T k enc base w v l) (hb : w0.heap.size ≤ base) (hg : w.grownBy w' v.ownBlock) : KX R w0 w' :=
  ⟨Nat.le_trans h.1 hg.size, fun b hb' hR => (hg.block b (Nat.lt_of_lt_of_le hb' h.1) (fun e => by have := (World.ownsRow.lt hO b e.symm).1; omega)).trans (h.2 b hb' hR)⟩
theorem box3e {w : World} {B T : Nat} {a b c : Value} {ro : Nat × Nat} (h : w.heap[B]? = some (.cells #[a, b, c] T ro)) {u : Value} : (w.setCell ⟨B, 2, none⟩ u).heap[B]? = some (.cells #[a, b, u] T ro) := set_eq h
theorem infoPr : (Try.prog.info? 72).map (fun i => (i.zero, i.size, i.bytes)) = some (some (.agg #[.int .i64 0, .int .i64 0, .int .i64 0, .int .i64 0, .int .i64 0]), 5, 40) := by kernel_rfl
theorem infoRe : (Try.prog.info? 85).map (fun i => (i.zero, i.size, i.bytes)) = some (some (.agg #[.int .i64 0, .int .i64 0, .int .i64 0, .int .i64 0, .int .i64 0]), 5, 40) := by kernel_rfl
theorem Own.form5 {T k base : Nat} {enc : Five → List Value} (hk : ∀ x, (enc x).length = k) {w : World} {v : Value} {l : List Five} (h : Own T k enc base w v l) : ∃ a n c, v = .slice a n c := by
  obtain ⟨a, c, e, _⟩ := h.sl hk
  exact ⟨a, _, c, e⟩
theorem keep_yes {l : List Five} {p : Five → Bool} {k : Nat} (hk : k < l.length) {x : Five} (hx : x = l[k]) (h : p x = true) : (l.take (k + 1)).filter p = (l.take k).filter p ++ [x] := by
  rw [List.take_succ_eq_append_getElem hk, List.filter_append, ← hx]
  simp [h]
theorem keep_no {l : List Five} {p : Five → Bool} {k : Nat} (hk : k < l.length) {x : Five} (hx : x = l[k]) (h : p x = false) : (l.take (k + 1)).filter p = (l.take k).filter p := by
  rw [List.take_succ_eq_append_getElem hk, List.filter_append, ← hx]
  simp [h]
theorem filter_len (l : List Five) (p : Five → Bool) (k : Nat) : ((l.take k).filter p).length ≤ k := by
  have h1 := List.length_filter_le p (l.take k)
  have h2 : (l.take k).length ≤ k := by simp; omega
  omega
theorem key_len {l m : List Five} (h : l.map key3 = m.map key3) : l.length = m.length := by
  have := congrArg List.length h
  simpa using this
theorem his_at (R : List Five) (c : Five) (start : Int) (steps : List Int) (m : Nat) : ∀ j, j < m → (hisZ R c start steps m).1.getD j 0 = (hisZ R c start steps (j + 1)).2 := by
  induction m with
  | zero => intro j hj; omega
  | succ m ih =>
    intro j hj
    have hl := his_len R c start steps m
    show ((hisZ R c start steps m).1 ++ [_]).getD j 0 = _
    rw [List.getD_eq_getElem?_getD]
    by_cases h : j < m
    · rw [List.getElem?_append_left (by omega), ← List.getD_eq_getElem?_getD]
      exact ih j h
    · obtain rfl : j = m := by omega
      rw [List.getElem?_append_right (by omega), hl, Nat.sub_self]
      rfl
theorem beg_ge {R : List Five} {c : Five} {y : Int} (hR : ∀ r ∈ R, r.b = c.a → c.b < r.c ∧ 9000 ≤ r.d) (hc : 9000 ≤ c.c) (h : 0 < (begZ R c y).1) : 9000 ≤ (begZ R c y).1 := by
  unfold begZ at *
  split at h
  · rename_i he
    rw [if_pos he]
    cases hf : R.find? (fun r => r.b == c.a && r.c == y) with
    | none => exact hc
    | some r =>
      have h1 := List.find?_some hf
      simp only [Bool.and_eq_true, beq_iff_eq] at h1
      exact (hR r (List.mem_of_find?_eq_some hf) h1.1).2
  · simp at h
theorem beg_first {R : List Five} {c : Five} (hR : ∀ r ∈ R, r.b = c.a → c.b < r.c ∧ 9000 ≤ r.d) : begZ R c c.b = (c.c, c.d) := by
  have hs : (spellZ R c c.b).1 = c.b := by
    obtain ⟨⟨p1, p2, p3⟩, _⟩ := spell_law c c.b R (c.b, 4000)
    rcases p3 with p3 | ⟨r, hr, hb, hy, e⟩
    · exact p3
    · have := (hR r hr hb).1
      omega
  unfold begZ
  rw [if_pos hs, show R.find? (fun r => r.b == c.a && r.c == c.b) = none from ?_]
  rw [List.find?_eq_none]
  intro r hr
  simp only [Bool.and_eq_true, beq_iff_eq, not_and]
  intro h1 h2
  have := (hR r hr h1).1
  omega
theorem his_ge {R : List Five} {c : Five} (start : Int) (steps : List Int) (hR : ∀ r ∈ R, r.b = c.a → c.b < r.c ∧ 9000 ≤ r.d) (hc : 9000 ≤ c.c) : ∀ j, 9000 ≤ (hisZ R c start steps (j + 1)).2 := by
  intro j
  induction j with
  | zero =>
    show 9000 ≤ nxtZ R c start steps 0 0
    unfold nxtZ
    rw [show c.b + ((0 : Nat) : Int) = c.b by simp, beg_first hR]
    simp only
    rw [if_pos (by omega)]
    have := intoZ_ge (IntKind.i64.wrap (start + pickZ steps 0)) c.c c.d
    omega
  | succ j ih =>
    show 9000 ≤ nxtZ R c start steps (j + 1) (hisZ R c start steps (j + 1)).2
    unfold nxtZ
    split
    · rename_i h
      have h1 := beg_ge hR hc h
      have := intoZ_ge (IntKind.i64.wrap (start + pickZ steps (j + 1))) (begZ R c (c.b + ((j + 1 : Nat) : Int))).1 (begZ R c (c.b + ((j + 1 : Nat) : Int))).2
      omega
    · have := intoZ_ge (steps.getD (j + 1) 0) 0 c.e
      omega
theorem box3s {w : World} {B T : Nat} {a b c : Value} {ro : Nat × Nat} (h : w.heap[B]? = some (.cells #[a, b, c] T ro)) {u : Value} : (w.setCell ⟨B, 1, none⟩ u).heap[B]? = some (.cells #[a, u, c] T ro) := set_eq h
set_option maxRecDepth 100000 in
set_option maxHeartbeats 16000000 in
theorem truth_any (W : World) (C P R : List Five) (v : Value) (start : Int) (steps wide : List Int) (vs vw : Value) (w : World) (hX : Ext W w) (hv : Wk w v C P R) (hs : Ints w vs steps) (hwd : Ints w vw wide) :
    Calls Try.prog 28 #[v, .int .i64 start, vs, vw] w (TruthPost W w.heap.size C P R v start steps) := by
  have HCK := Lib.hid (fun w' (q : Ext w w') => rCheck w' C P R v w' (Ext.refl _) (hv.ext q))
  have HS := Lib.hid hs
  have HWD := Lib.hid hwd
  obtain ⟨asl, caps, rfl, hs1, hs2, -⟩ := hs.parts
  obtain ⟨awd, capw, rfl, hw1, hw2, -⟩ := hwd.parts
  obtain ⟨vC, vP, vR, rfl, hC, hP, hR, hn⟩ := hv
  have HFC := Lib.hid hC
  obtain ⟨aC, capC, rfl, hlC, hmC, hcC⟩ := hC.parts
  obtain ⟨aP, capP, rfl, hlP, hmP, hcP⟩ := hP.parts
  obtain ⟨aR, capR, rfl, hlR, hmR, hcR⟩ := hR.parts
  have HcC := Lib.hid hcC
  have HcP := Lib.hid hcP
  have HcR := Lib.hid hcR
  unfold maxLen at hs2
  have hsl : (steps.length : Int) ≤ 9223372036854775807 := by omega
  clear hs hwd hC hP hR hcC hcP hcR hw1 hw2 hs1 hs2 hmC hmP hmR hlC hlP hlR
  have hX0 : Ext w ((w.alloc (.cells #[.slice aC C.length capC, .slice aP P.length capP, .slice aR R.length capR] 26)).alloc (.cells #[.slice none 0 0, .slice none 0 0, .slice none 0 0] 26)) := ((Ext.refl w).alloc _).alloc _
  have hb0 := ((Ext.refl _).alloc (.cells #[.slice none 0 0, .slice none 0 0, .slice none 0 0] 26)).block (heap_alloc_new w (.cells #[.slice aC C.length capC, .slice aP P.length capP, .slice aR R.length capR] 26))
  have hb1 := heap_alloc_new (w.alloc (.cells #[.slice aC C.length capC, .slice aP P.length capP, .slice aR R.length capR] 26)) (.cells #[.slice none 0 0, .slice none 0 0, .slice none 0 0] 26)
  rw [World.size_alloc] at hb1
  obtain ⟨B, hBB⟩ : ∃ B, w.heap.size = B := ⟨_, rfl⟩
  rw [hBB] at hb0 hb1
  go_enter Try.func28, Try.ntmps28
  go_upto_region 1 with fail
  obtain ⟨wa, hwa⟩ : ∃ wa, (w.alloc (.cells #[.slice aC C.length capC, .slice aP P.length capP, .slice aR R.length capR] 26)).alloc (.cells #[.slice none 0 0, .slice none 0 0, .slice none 0 0] 26) = wa := ⟨_, rfl⟩
  rw [hwa] at hX0 hb0 hb1 ⊢
  clear hwa
  go_cut [38] (fun v wx => (v = .bool true ∨ (v = .bool false ∧ chk C P R = 0 ∧ C ≠ [] ∧ 0 < steps.length ∧ steps.length ≤ 60)) ∧ Ext w wx ∧ wx.heap[B]? = some (.cells #[.slice aC C.length capC, .slice aP P.length capP, .slice aR R.length capR] 26) ∧ wx.heap[B + 1]? = some (.cells #[.slice none 0 0, .slice none 0 0, .slice none 0 0] 26))
  case first => as_aux_lemma =>
    obtain ⟨k0, k1, k2⟩ := box3' hb0
    go_wp2_with fail
    with_reducible refine (HCK.out _ hX0).mono ?_
    rintro e w2 ⟨rfl, hX2⟩
    have hE2 := hX0.trans hX2
    have hb2 := hX2.block hb0
    have hb3 := hX2.block hb1
    obtain ⟨k0, k1, k2⟩ := box3' hb2
    by_cases h0 : chk C P R = 0
    · rw [h0]
      by_cases hC0 : C = []
      · have d0 : ((C.length : Int) == 0) = true := by simp [hC0]
        clear hC0
        go_wp2_with fail
        go_meet
        case rel => exact ⟨.inl rfl, hE2, hb2, hb3⟩
      · have d0 : ((C.length : Int) == 0) = false := by simpa using hC0
        by_cases hS0 : steps = []
        · have d1 : ((steps.length : Int) == 0) = true := by simp [hS0]
          clear hS0
          go_wp2_with fail
          go_meet
          case rel => exact ⟨.inl rfl, hE2, hb2, hb3⟩
        · have d1 : ((steps.length : Int) == 0) = false := by simpa using hS0
          have hp : 0 < steps.length := by
            rcases Nat.eq_zero_or_pos steps.length with h | h
            · exact absurd (List.eq_nil_of_length_eq_zero h) hS0
            · exact h
          by_cases h60 : 60 < (steps.length : Int)
          · go_wp2_with fail
            go_meet
            case rel => exact ⟨.inl rfl, hE2, hb2, hb3⟩
          · go_wp2_with fail
            go_meet
            case rel => exact ⟨.inr ⟨congrArg Value.bool (decide_eq_false (by omega)), h0, hC0, hp, by omega⟩, hE2, hb2, hb3⟩
    · have hnb : (chk C P R == 0) = false := by simpa using h0
      have hnb2 : (chk C P R != 0) = true := by simp [bne, hnb]
      go_wp2_with fail
      go_meet
      case rel => exact ⟨.inl rfl, hE2, hb2, hb3⟩
  case rest =>
  clear hX0 hb0 hb1 HCK
  obtain ⟨hcase, hE1, hb0, hb1⟩ := hcut
  obtain ⟨w1, rfl⟩ : ∃ w', w' = wc := ⟨_, rfl⟩
  rcases hcase with rfl | ⟨rfl, h0, hC0, hp, h60⟩
  · obtain ⟨r0, r1, r2⟩ := box3' hb1
    obtain ⟨k0, k1, k2⟩ := box3' hb0
    have zR2 := lt_of_cell r0
    have zB2 := lt_of_cell k0
    have f0 := frozen_cells ⟨_, hb1⟩ 0
    have f1 := frozen_cells ⟨_, hb1⟩ 1
    have f2 := frozen_cells ⟨_, hb1⟩ 2
    go_wp2_with fail
    refine bodyPost_ret (v := .tuple #[.agg #[.slice aC C.length capC, .slice aP P.length capP, .slice aR R.length capR], .slice none 0 0, .bool false]) (by simp [results, Try.results28, r0, r1, r2, go_sem]) rfl ⟨hX.trans ?_, .inl rfl⟩
    repeat (first | exact hE1 | refine Ext.setCell ?_ (by show w.heap.size ≤ B + 1; omega) _)
  · obtain ⟨c, hx0⟩ : ∃ c, C.head? = some c := by
      cases C with
      | nil => exact absurd rfl hC0
      | cons c r => exact ⟨c, rfl⟩
    have hC1 : 0 < C.length := by
      rcases Nat.eq_zero_or_pos C.length with h | h
      · exact absurd (List.eq_nil_of_length_eq_zero h) hC0
      · exact h
    obtain ⟨bC, oC, c', hx, rfl, q0, q1, q2, q3, q4⟩ := five_at HcC.out hE1 hC1
    obtain rfl : c' = c := by
      rw [List.head?_eq_getElem?, List.getElem?_eq_getElem hC1] at hx0
      rw [hx]
      exact Option.some.inj hx0
    rw [Nat.zero_mul, Nat.add_zero] at q0 q1 q2 q3 q4
    have HX0 := Lib.hid hx0
    have g := chk_zero.1 h0
    have hcok := okC_parts (g.okc c' (List.mem_of_mem_head? hx0))
    have hcb := hcok.2.1
    have hce := hcok.2.2.2
    have HG := Lib.hid g
    have HH0 := Lib.hid h0
    clear hC0 hx hx0 hcok g h0
    have hC2 : (0 : Int) < (C.length : Int) := by omega
    obtain ⟨k0, k1, k2⟩ := box3' hb0
    have zB := lt_of_cell k0
    have zq := lt_of_cell q0
    have zR : B + 1 < w1.heap.size := (Array.getElem?_eq_some_iff.1 hb1).1
    have hbA := heap_alloc_new w1 (.cells #[.int .i64 c'.a, .int .i64 c'.b, .int .i64 c'.c, .int .i64 c'.d, .int .i64 c'.e] 53)
    replace hb0 := ((Ext.refl w1).alloc (.cells #[.int .i64 c'.a, .int .i64 c'.b, .int .i64 c'.c, .int .i64 c'.d, .int .i64 c'.e] 53)).block hb0
    replace hb1 := ((Ext.refl w1).alloc (.cells #[.int .i64 c'.a, .int .i64 c'.b, .int .i64 c'.c, .int .i64 c'.d, .int .i64 c'.e] 53)).block hb1
    have hE2 := hE1.alloc (.cells #[.int .i64 c'.a, .int .i64 c'.b, .int .i64 c'.c, .int .i64 c'.d, .int .i64 c'.e] 53)
    obtain ⟨A, hA⟩ : ∃ A, w1.heap.size = A := ⟨_, rfl⟩
    have zBA : B + 1 < A := hA ▸ zR
    go_upto_region 4 with fail
    rw [hA] at hbA
    obtain ⟨w2, hw2⟩ : ∃ w2, w1.alloc (.cells #[.int .i64 c'.a, .int .i64 c'.b, .int .i64 c'.c, .int .i64 c'.d, .int .i64 c'.e] 53) = w2 := ⟨_, rfl⟩
    rw [hw2] at hbA hb0 hb1 hE2 ⊢
    clear hw2 k0 k1 k2 q0 q1 q2 q3 q4 zB zq zR hE1 hA hC2
    obtain ⟨c0, c1, c2, c3, c4⟩ := box5 hbA
    by_cases hbig : 4000 - (steps.length : Int) + 1 < c'.b
    · clear HX0 HG HH0
      obtain ⟨r0, r1, r2⟩ := box3' hb1
      obtain ⟨k0, k1, k2⟩ := box3' hb0
      have zR2 := lt_of_cell r0
      have zB2 := lt_of_cell k0
      have f0 := frozen_cells ⟨_, hb1⟩ 0
      have f1 := frozen_cells ⟨_, hb1⟩ 1
      have f2 := frozen_cells ⟨_, hb1⟩ 2
      go_wp2_with fail
      refine bodyPost_ret (v := .tuple #[.agg #[.slice (some ⟨bC, oC, none⟩) C.length capC, .slice aP P.length capP, .slice aR R.length capR], .slice none 0 0, .bool false]) (by simp [results, Try.results28, r0, r1, r2, go_sem]) rfl ⟨hX.trans ?_, .inl rfl⟩
      repeat (first | exact hE2 | refine Ext.setCell ?_ (by show w.heap.size ≤ B + 1; omega) _)
    · have hlen : 0 < steps.length ∧ steps.length ≤ 60 ∧ c'.b + (steps.length : Int) ≤ 4001 := by omega
      obtain ⟨k0, k1, k2⟩ := box3' hb0
      have zB := lt_of_cell k0
      have zA := lt_of_cell c0
      have zR : B + 1 < w2.heap.size := (Array.getElem?_eq_some_iff.1 hb1).1
      have hbD := heap_alloc_new w2 (.cells #[.slice (some ⟨bC, oC, none⟩) C.length capC, .slice none 0 0, .slice none 0 0] 26)
      replace hb0 := ((Ext.refl w2).alloc (.cells #[.slice (some ⟨bC, oC, none⟩) C.length capC, .slice none 0 0, .slice none 0 0] 26)).block hb0
      replace hb1 := ((Ext.refl w2).alloc (.cells #[.slice (some ⟨bC, oC, none⟩) C.length capC, .slice none 0 0, .slice none 0 0] 26)).block hb1
      replace hbA := ((Ext.refl w2).alloc (.cells #[.slice (some ⟨bC, oC, none⟩) C.length capC, .slice none 0 0, .slice none 0 0] 26)).block hbA
      have hE3 := hE2.alloc (.cells #[.slice (some ⟨bC, oC, none⟩) C.length capC, .slice none 0 0, .slice none 0 0] 26)
      obtain ⟨D, hD⟩ : ∃ D, w2.heap.size = D := ⟨_, rfl⟩
      have zAD : A < D := hD ▸ zA
      have hsz3 : (w2.alloc (.cells #[.slice (some ⟨bC, oC, none⟩) C.length capC, .slice none 0 0, .slice none 0 0] 26)).heap.size = w2.heap.size + 1 := by simp
      have hwD : w.heap.size ≤ D := by omega
      have zBD : B < D := by omega
      go_wp2_with fail
      rw [hD] at hbD hsz3
      obtain ⟨w3, hw3⟩ : ∃ w3, w2.alloc (.cells #[.slice (some ⟨bC, oC, none⟩) C.length capC, .slice none 0 0, .slice none 0 0] 26) = w3 := ⟨_, rfl⟩
      rw [hw3] at hbA hb0 hb1 hbD hE3 hsz3 ⊢
      clear hw3 k0 k1 k2 c0 c1 c2 c3 c4 zB zA zR hE2 hD
      have hfew := HG.out.few
      go_loopw [58] (fun i wr => ∃ (k : Nat) (u : Value), k ≤ R.length ∧ i = .int .i64 k ∧ Ext w wr ∧ wr.heap[B]? = some (.cells #[.slice (some ⟨bC, oC, none⟩) C.length capC, .slice aP P.length capP, .slice aR R.length capR] 26) ∧ wr.heap[B + 1]? = some (.cells #[.slice none 0 0, .slice none 0 0, .slice none 0 0] 26) ∧ wr.heap[A]? = some (.cells #[.int .i64 c'.a, .int .i64 c'.b, .int .i64 c'.c, .int .i64 c'.d, .int .i64 c'.e] 53) ∧ wr.heap[D]? = some (.cells #[.slice (some ⟨bC, oC, none⟩) C.length capC, .slice none 0 0, u] 26) ∧ Own 85 5 enc5 (D + 1) wr u ((R.take k).filter (keepF c' steps.length))) (fun i _ => R.length - (intOf i).toNat)
      case atStart => exact ⟨0, .slice none 0 0, Nat.zero_le _, rfl, hE3, hb0, hb1, hbA, hbD, Own.nil _ _ _ _ _⟩
      case round =>
        clear hb0 hb1 hbA hbD hE3 hsz3
        obtain ⟨k, u, hk, rfl, hE, hb0, hb1, hbA, hbD, hO⟩ := hrel
        obtain ⟨ua, un, uc, rfl⟩ := Own.form5 enc5_len hO
        by_cases hlt : k < R.length
        · obtain ⟨bR, oR, x, hx, rfl, q0, q1, q2, q3, q4⟩ := five_at HcR.out hE hlt
          have HX := Lib.hid hx
          have hfl := filter_len R (keepF c' steps.length) k
          clear hx
          obtain ⟨c0, c1, c2, c3, c4⟩ := box5 hbA
          obtain ⟨p0, p1, p2⟩ := box3' hbD
          have zA : A < wr.heap.size := lt_of_cell c0
          have zD : D < wr.heap.size := lt_of_cell p0
          have hcl : 0 ≤ c'.b + (steps.length : Int) ∧ c'.b + (steps.length : Int) ≤ 4001 := by omega
          have hkp : keepF c' steps.length x = (x.b == c'.a && decide (x.c < c'.b + steps.length)) := rfl
          cases e1 : (x.b == c'.a)
          · rw [e1] at hkp
            have HK := Lib.hid hkp
            clear hkp
            go_wp2_with fail
            go_roundw
            case rel => exact ⟨k + 1, _, by omega, by go_num, hE.alloc _, ((Ext.refl _).alloc _).block hb0, ((Ext.refl _).alloc _).block hb1, ((Ext.refl _).alloc _).block hbA, ((Ext.refl _).alloc _).block hbD, by rw [keep_no hlt HX.out HK.out]; exact hO.ext ((Ext.refl _).alloc _)⟩
            case measure => simp [intOf]; omega
          · by_cases e2 : x.c < c'.b + (steps.length : Int)
            · have HK : Hid (keepF c' steps.length x = true) := by show _ = _; rw [hkp, e1, decide_eq_true e2]; rfl
              clear hkp
              go_wp2_with (at_builtin; with_reducible refine app_many 24 85 5 40 (.agg #[.int .i64 0, .int .i64 0, .int .i64 0, .int .i64 0, .int .i64 0]) enc5 enc5_len enc5_one Try.underlying24 infoRe rfl (by decide) (by decide) rfl (.tmp 78) (.tmp 80) rfl (D + 1) (.slice ua un uc) ((R.take k).filter (keepF c' steps.length)) rfl (hO.ext (((Ext.refl _).alloc _).alloc _)) _ [x] rfl (Sl.mk1 (by simp) rfl) (by simp; omega) (by simp; omega) ?_; intro v5 w5 hO5 hg5 hE5 hbq5; have hb0' := block_keep (hO.ext (((Ext.refl _).alloc _).alloc _)) hg5 ((((Ext.refl _).alloc _).alloc _).block hb0) (by decide); have hb1' := block_keep (hO.ext (((Ext.refl _).alloc _).alloc _)) hg5 ((((Ext.refl _).alloc _).alloc _).block hb1) (by decide); have hbA' := block_keep (hO.ext (((Ext.refl _).alloc _).alloc _)) hg5 ((((Ext.refl _).alloc _).alloc _).block hbA) (by decide); have hbD' := block_keep (hO.ext (((Ext.refl _).alloc _).alloc _)) hg5 ((((Ext.refl _).alloc _).alloc _).block hbD) (by decide); have hEq := hE5 w (by omega) ((hE.alloc _).alloc _); obtain ⟨va, vn, vc, rfl⟩ := Own.form5 enc5_len hO5; obtain ⟨q0', q1', q2'⟩ := box3' hbD'; have zQ := lt_of_cell q0'; have fQ1 := frozen_cells ⟨_, hbD'⟩ 1; have fQ2 := frozen_cells ⟨_, hbD'⟩ 2)
              go_roundw
              case rel => exact ⟨k + 1, _, by omega, by go_num, hEq.setCell (by show w.heap.size ≤ D; omega) _, set_ne hb0' (by omega), set_ne hb1' (by omega), set_ne hbA' (by omega), box3e hbD', by rw [keep_yes hlt HX.out HK.out]; exact Own.kx hO5 ((KX.refl _ _).set _ _) hbD' (by decide)⟩
              case measure => simp [intOf]; omega
            · have HK : Hid (keepF c' steps.length x = false) := by show _ = _; rw [hkp, e1, decide_eq_false e2]; rfl
              clear hkp
              go_wp2_with fail
              go_roundw
              case rel => exact ⟨k + 1, _, by omega, by go_num, hE.alloc _, ((Ext.refl _).alloc _).block hb0, ((Ext.refl _).alloc _).block hb1, ((Ext.refl _).alloc _).block hbA, ((Ext.refl _).alloc _).block hbD, by rw [keep_no hlt HX.out HK.out]; exact hO.ext ((Ext.refl _).alloc _)⟩
              case measure => simp [intOf]; omega
        · obtain rfl : k = R.length := by omega
          rw [List.take_length] at hO
          obtain ⟨R', hR'⟩ : ∃ R', R.filter (keepF c' steps.length) = R' := ⟨_, rfl⟩
          rw [hR'] at hO
          have HR' := Lib.hid hR'
          have hRl : R'.length ≤ R.length := by rw [← hR']; exact List.length_filter_le _ _
          have hRY : ∀ r ∈ R', 0 ≤ r.c ∧ r.c ≤ 4000 := by
            intro r hr
            rw [← hR'] at hr
            exact good_rep HG.out r (List.mem_filter.1 hr).1
          have hRB : ∀ r ∈ R', r.b = c'.a → c'.b < r.c ∧ 9000 ≤ r.d := by
            intro r hr hb
            rw [← hR'] at hr
            have ho := (good_okT HG.out (find_self HG.out (List.mem_of_mem_head? HX0.out))).2.2.2 r (List.mem_filter.1 hr).1 hb
            have := okT_parts ho.1 ho.2
            omega
          have hcc : 9000 ≤ c'.c := (okC_parts (HG.out.okc c' (List.mem_of_mem_head? HX0.out))).2.2.1.1
          have HGE := Lib.hid (his_ge start steps hRB hcc)
          clear hR' hRB hcc
          obtain ⟨c0, c1, c2, c3, c4⟩ := box5 hbA
          obtain ⟨p0, p1, p2⟩ := box3' hbD
          have hwk : Wk wr (.agg #[.slice (some ⟨bC, oC, none⟩) C.length capC, .slice none 0 0, .slice ua un uc]) C [] R' := ⟨_, _, _, rfl, HFC.out.ext hE, Sl.nil _ _ _, hO.sl enc5_len, by simp; omega⟩
          go_wp2_with fail
          with_reducible refine (history_any _ C [] R' c' start steps _ _ _ (Ext.refl _) hwk (HS.out.ext hE) hRY ⟨hcb.1, hlen.2.2⟩ hce).mono ?_
          rintro e w6 ⟨hX6, (rfl | ⟨ul, rfl, hOl, hHis⟩)⟩
          · have hE6 := hE.trans hX6
            replace hb0 := hX6.block hb0
            replace hb1 := hX6.block hb1
            clear hX6 c0 c1 c2 c3 c4 p0 p1 p2 hE hwk
            obtain ⟨r0, r1, r2⟩ := box3' hb1
            obtain ⟨k0, k1, k2⟩ := box3' hb0
            have zR2 := lt_of_cell r0
            have zB2 := lt_of_cell k0
            have f0 := frozen_cells ⟨_, hb1⟩ 0
            have f1 := frozen_cells ⟨_, hb1⟩ 1
            have f2 := frozen_cells ⟨_, hb1⟩ 2
            go_wp2_with fail
            refine bodyPost_ret (v := .tuple #[.agg #[.slice (some ⟨bC, oC, none⟩) C.length capC, .slice aP P.length capP, .slice aR R.length capR], .slice none 0 0, .bool false]) (by simp [results, Try.results28, r0, r1, r2, go_sem]) rfl ⟨hX.trans ?_, .inl rfl⟩
            repeat (first | exact hE6 | refine Ext.setCell ?_ (by show w.heap.size ≤ B + 1; omega) _)
          · have hHis := Lib.hid hHis
            have hE6 := hE.trans hX6
            replace hb0 := hX6.block hb0
            replace hb1 := hX6.block hb1
            replace hbA := hX6.block hbA
            replace hbD := hX6.block hbD
            have hOr := hO.ext hX6
            have hszl := hE.le
            have hszw : w.heap.size ≤ w6.heap.size := hE6.le
            have hD6 : D + 1 ≤ w6.heap.size := (Array.getElem?_eq_some_iff.1 hbD).1
            have hbD6 := hbD
            have hll : (hisZ R' c' start steps steps.length).1.length = steps.length := his_len _ _ _ _ _
            obtain ⟨la, lc, rfl, -⟩ := Ints.parts (hOl.sl enc1_len)
            rw [hll]
            rw [hll] at hOl
            clear hX6 c0 c1 c2 c3 c4 p0 p1 p2 hE hwk hO
            obtain ⟨p0, p1, p2⟩ := box3' hbD
            obtain ⟨k0, k1, k2⟩ := box3' hb0
            go_wp2_with fail
            clear p0 p1 p2 k0 k1 k2
            go_loopw [98] (fun i wr => ∃ (k : Nat) (u : Value) (PL : List Five), k ≤ P.length ∧ i = .int .i64 k ∧ Ext w wr ∧ KX D w6 wr ∧ wr.heap[B]? = some (.cells #[.slice (some ⟨bC, oC, none⟩) C.length capC, .slice aP P.length capP, .slice aR R.length capR] 26) ∧ wr.heap[B + 1]? = some (.cells #[.slice none 0 0, .slice none 0 0, .slice none 0 0] 26) ∧ wr.heap[A]? = some (.cells #[.int .i64 c'.a, .int .i64 c'.b, .int .i64 c'.c, .int .i64 c'.d, .int .i64 c'.e] 53) ∧ wr.heap[D]? = some (.cells #[.slice (some ⟨bC, oC, none⟩) C.length capC, u, .slice ua un uc] 26) ∧ Own 72 5 enc5 w6.heap.size wr u PL ∧ Hid (PL.map key3 = ((P.take k).filter (keepF c' steps.length)).map key3 ∧ (∀ p ∈ PL, 9000 ≤ p.d ∧ p.d ≤ trueAt (hisZ R' c' start steps steps.length).1 c' p.c ∧ trueAt (hisZ R' c' start steps steps.length).1 c' p.c ≤ p.e ∧ p.e ≤ 12000))) (fun i _ => P.length - (intOf i).toNat)
            case atStart => exact ⟨0, .slice none 0 0, [], Nat.zero_le _, rfl, hE6, KX.refl _ _, hb0, hb1, hbA, hbD, Own.nil _ _ _ _ _, ⟨rfl, fun p hp => by simp at hp⟩⟩
            case round =>
              clear hb0 hb1 hbA hbD hE6 hlt
              obtain ⟨k, u, PL, hk, rfl, hE, hKX, hb0, hb1, hbA, hbD, hO, HT⟩ := hrel
              obtain ⟨xa, xn, xc, rfl⟩ := Own.form5 enc5_len hO
              by_cases hlt : k < P.length
              · obtain ⟨bP, oP, x, hx, rfl, q0, q1, q2, q3, q4⟩ := five_at HcP.out hE hlt
                have HX := Lib.hid hx
                have hpl : PL.length ≤ k := by
                  have h1 := key_len HT.out.1
                  have h2 := filter_len P (keepF c' steps.length) k
                  omega
                have HPY : Hid (x.b = c'.a → c'.b ≤ x.c ∧ x.c ≤ 4000) := fun h => by
                  have hm : x ∈ P := by rw [hx]; exact List.getElem_mem hlt
                  have hcm := List.mem_of_mem_head? HX0.out
                  have ho := (good_okT HG.out (find_self HG.out hcm)).2.2.1 x hm h
                  have := okT_parts ho.1 ho.2
                  omega
                clear hx
                obtain ⟨c0, c1, c2, c3, c4⟩ := box5 hbA
                obtain ⟨p0, p1, p2⟩ := box3' hbD
                have zA : A < wr.heap.size := lt_of_cell c0
                have zD : D < wr.heap.size := lt_of_cell p0
                have hcl : 0 ≤ c'.b + (steps.length : Int) ∧ c'.b + (steps.length : Int) ≤ 4001 := by omega
                have hkp : keepF c' steps.length x = (x.b == c'.a && decide (x.c < c'.b + steps.length)) := rfl
                cases e1 : (x.b == c'.a)
                · rw [e1] at hkp
                  have HK := Lib.hid hkp
                  clear hkp
                  go_wp2_with fail
                  go_roundw
                  case rel => exact ⟨k + 1, _, PL, by omega, by go_num, hE.alloc _, hKX.ext ((Ext.refl _).alloc _), ((Ext.refl _).alloc _).block hb0, ((Ext.refl _).alloc _).block hb1, ((Ext.refl _).alloc _).block hbA, ((Ext.refl _).alloc _).block hbD, hO.ext ((Ext.refl _).alloc _), ⟨by rw [keep_no hlt HX.out HK.out]; exact HT.out.1, HT.out.2⟩⟩
                  case measure => simp [intOf]; omega
                · by_cases e2 : x.c < c'.b + (steps.length : Int)
                  · have HK : Hid (keepF c' steps.length x = true) := by show _ = _; rw [hkp, e1, decide_eq_true e2]; rfl
                    obtain ⟨y1, y2⟩ := HPY.out (by simpa using e1)
                    clear hkp
                    obtain ⟨j, hj⟩ : ∃ j : Nat, x.c - c'.b = (j : Int) := ⟨(x.c - c'.b).toNat, by omega⟩
                    have hjl : j < steps.length := by omega
                    have hIl := (Own.kx hOl hKX hbD6 (by decide)).sl enc1_len
                    obtain ⟨_, _, e9, -, -, hcl9⟩ := Ints.parts hIl
                    injection e9 with e91 e92 e93
                    subst e91
                    obtain ⟨bL, oL, n, hnn, rfl, n0⟩ := int_at hcl9 (Ext.refl _) (k := j) (by rw [hll]; exact hjl)
                    have hn2 : (hisZ R' c' start steps (j + 1)).2 = n := by
                      rw [← his_at R' c' start steps steps.length j hjl, List.getD_eq_getElem?_getD, List.getElem?_eq_getElem (by rw [hll]; exact hjl), hnn]
                      rfl
                    have hn3 := hHis.out j hjl
                    have hn4 := HGE.out j
                    rw [hn2] at hn3 hn4
                    have HTA : Hid (trueAt (hisZ R' c' start steps steps.length).1 c' x.c = n) := by
                      show _ = _
                      unfold trueAt
                      rw [hj, Int.toNat_natCast, ← hn2]
                      exact his_at R' c' start steps steps.length j hjl
                    clear hIl hcl9 hnn hn2 e92 e93
                    have hj0 : (0 : Int) ≤ (j : Int) ∧ (j : Int) < (steps.length : Int) := by omega
                    have hbT := heap_alloc_new wr (.cells #[.int .i64 x.a, .int .i64 x.b, .int .i64 x.c, .int .i64 x.d, .int .i64 x.e] 72)
                    have hb8 := ((Ext.refl wr).alloc (.cells #[.int .i64 x.a, .int .i64 x.b, .int .i64 x.c, .int .i64 x.d, .int .i64 x.e] 72)).block hbD
                    have n8 := ((Ext.refl wr).alloc (.cells #[.int .i64 x.a, .int .i64 x.b, .int .i64 x.c, .int .i64 x.d, .int .i64 x.e] 72)).cell n0
                    have hE8 := hE.alloc (.cells #[.int .i64 x.a, .int .i64 x.b, .int .i64 x.c, .int .i64 x.d, .int .i64 x.e] 72)
                    obtain ⟨T, hT⟩ : ∃ T, wr.heap.size = T := ⟨_, rfl⟩
                    have hTle : wr.heap.size ≤ T := by omega
                    have hDT : D < T := by omega
                    have zn : bL < wr.heap.size := lt_of_cell n0
                    have zAT : A < T := by omega
                    have znT : bL < T := by omega
                    have hEa : Ext wr (wr.alloc (.cells #[.int .i64 x.a, .int .i64 x.b, .int .i64 x.c, .int .i64 x.d, .int .i64 x.e] 72)) := (Ext.refl wr).alloc (.cells #[.int .i64 x.a, .int .i64 x.b, .int .i64 x.c, .int .i64 x.d, .int .i64 x.e] 72)
                    go_upto_region 21 with fail
                    rw [hT] at hbT
                    obtain ⟨w8, hw8⟩ : ∃ w8, wr.alloc (.cells #[.int .i64 x.a, .int .i64 x.b, .int .i64 x.c, .int .i64 x.d, .int .i64 x.e] 72) = w8 := ⟨_, rfl⟩
                    rw [hw8] at hbT hb8 hE8 hEa ⊢
                    clear hw8 n8 n0 zn c0 c1 c2 c3 c4 p0 p1 p2 q0 q1 q2 q3 q4 zA hj hj0
                    have HP1 := Lib.hid (fun w' (q : Ext w8 w') => pick_any wide _ k w' (HWD.out.ext (hE8.trans q)))
                    have HP2 : Hid (∀ w', Ext w8 w' → Calls Try.prog 74 #[.slice awd wide.length capw, .int .i64 ((k : Int) + 1)] w' fun e w'' => e = .returned (.int .i64 (pickZ wide (k + 1))) ∧ Ext w' w'') := fun w' q => by
                      have := pick_any wide _ (k + 1) w' (HWD.out.ext (hE8.trans q))
                      rw [show (((k + 1 : Nat)) : Int) = (k : Int) + 1 from by omega] at this
                      exact this
                    have HI1 := Lib.hid (fun w' => into_any (pickZ wide k) 0 50 w')
                    have HI2 := Lib.hid (fun w' => into_any (pickZ wide (k + 1)) 0 50 w')
                    have g1 := intoZ_ge (pickZ wide k) 0 50
                    have g2 := intoZ_le (n := pickZ wide k) (show (0 : Int) ≤ 50 by decide)
                    have g3 := intoZ_ge (pickZ wide (k + 1)) 0 50
                    have g4 := intoZ_le (n := pickZ wide (k + 1)) (show (0 : Int) ≤ 50 by decide)
                    generalize intoZ (pickZ wide k) 0 50 = d1 at HI1 g1 g2
                    generalize intoZ (pickZ wide (k + 1)) 0 50 = d2 at HI2 g3 g4
                    generalize pickZ wide k = pk1 at HP1 HI1
                    generalize pickZ wide (k + 1) = pk2 at HP2 HI2
                    have hmax := ite_max
                    have hmin := ite_min
                    have hkb : 0 ≤ (k : Int) ∧ (k : Int) ≤ 60 := by omega
                    go_upto_region 22 with (first
                      | (go_at_call 74; with_reducible refine (HP1.out _ (Ext.refl _)).mono ?_; rintro e w9 ⟨rfl, hX9⟩)
                      | (go_at_call 30; with_reducible refine (HI1.out _).mono ?_; rintro e w10 ⟨rfl, hX10⟩)
                      | (go_at_call 74; with_reducible refine (HP2.out _ (hX9.trans hX10)).mono ?_; rintro e w11 ⟨rfl, hX11⟩)
                      | (go_at_call 30; with_reducible refine (HI2.out _).mono ?_; rintro e w12 ⟨rfl, hX12⟩; have hZ := hX9.trans (hX10.trans (hX11.trans hX12)); obtain ⟨t0, t1, t2, t3, t4⟩ := box5 (hZ.block hbT); have fT3 := frozen_cells ⟨_, hZ.block hbT⟩ 3; have fT4 := frozen_cells ⟨_, hZ.block hbT⟩ 4; have zT : T < w12.heap.size := lt_of_cell t0))
                    have hEz := hEa.trans hZ
                    have hEs : Ext wr ((w12.setCell ⟨T, 3, none⟩ (.int .i64 (max 9000 (n - d1)))).setCell ⟨T, 4, none⟩ (.int .i64 (min 12000 (n + d2)))) := (hEz.setCell (p := ⟨T, 3, none⟩) hTle _).setCell (p := ⟨T, 4, none⟩) hTle _
                    have hbT13 : ((w12.setCell ⟨T, 3, none⟩ (.int .i64 (max 9000 (n - d1)))).setCell ⟨T, 4, none⟩ (.int .i64 (min 12000 (n + d2)))).heap[T]? = some (.cells #[.int .i64 x.a, .int .i64 x.b, .int .i64 x.c, .int .i64 (max 9000 (n - d1)), .int .i64 (min 12000 (n + d2))] 72) := set_eq (set_eq (hZ.block hbT))
                    obtain ⟨w13, hw13⟩ : ∃ w13, (w12.setCell ⟨T, 3, none⟩ (.int .i64 (max 9000 (n - d1)))).setCell ⟨T, 4, none⟩ (.int .i64 (min 12000 (n + d2))) = w13 := ⟨_, rfl⟩
                    rw [hw13] at hEs hbT13 ⊢
                    clear hw13 hEz hZ hX9 hX10 hX11 hX12 t0 t1 t2 t3 t4 fT3 fT4 zT HP1 HP2 HI1 HI2 hbT hb8 hE8 hEa
                    obtain ⟨t0, t1, t2, t3, t4⟩ := box5 hbT13
                    obtain ⟨p0, p1, p2⟩ := box3' (hEs.block hbD)
                    have zT : T < w13.heap.size := lt_of_cell t0
                    have zD3 : D < w13.heap.size := lt_of_cell p0
                    have hK61 : w6.heap.size ≤ wr.heap.size := hKX.1
                    go_wp2_with (at_builtin; with_reducible refine app_many 23 72 5 40 (.agg #[.int .i64 0, .int .i64 0, .int .i64 0, .int .i64 0, .int .i64 0]) enc5 enc5_len enc5_one Try.underlying23 infoPr rfl (by decide) (by decide) rfl (.tmp 146) (.tmp 148) rfl w6.heap.size (.slice xa xn xc) PL rfl (hO.ext (hEs.alloc _)) _ [⟨x.a, x.b, x.c, max 9000 (n - d1), min 12000 (n + d2)⟩] rfl (Sl.mk1 (by simp) rfl) (by simp; omega) (Nat.le_trans hK61 (hEs.alloc _).le) ?_; intro v5 w14 hO5 hg5 hE5 hbq5; have hb0' := block_keep (hO.ext (hEs.alloc _)) hg5 ((hEs.alloc _).block hb0) (by decide); have hb1' := block_keep (hO.ext (hEs.alloc _)) hg5 ((hEs.alloc _).block hb1) (by decide); have hbA' := block_keep (hO.ext (hEs.alloc _)) hg5 ((hEs.alloc _).block hbA) (by decide); have hbD' := block_keep (hO.ext (hEs.alloc _)) hg5 ((hEs.alloc _).block hbD) (by decide); have hKX' := (hKX.ext (hEs.alloc _)).grow2 (hO.ext (hEs.alloc _)) (Nat.le_refl _) hg5; have hEq := hE5 w hszw (hE.trans (hEs.alloc _)); obtain ⟨va, vn, vc, rfl⟩ := Own.form5 enc5_len hO5; obtain ⟨q0', q1', q2'⟩ := box3' hbD'; have zQ := lt_of_cell q0'; have fQ1 := frozen_cells ⟨_, hbD'⟩ 1)
                    go_roundw
                    case rel => exact ⟨k + 1, _, PL ++ [⟨x.a, x.b, x.c, max 9000 (n - d1), min 12000 (n + d2)⟩], by omega, by go_num, hEq.setCell (by show w.heap.size ≤ D; omega) _, hKX'.set _ _, set_ne hb0' (by omega), set_ne hb1' (by omega), set_ne hbA' (by omega), box3s hbD', Own.kx hO5 ((KX.refl _ _).set _ _) hbD' (by decide), ⟨by rw [keep_yes hlt HX.out HK.out, List.map_append, List.map_append, HT.out.1]; rfl, fun p hp => by
                        rcases List.mem_append.1 hp with hp | hp
                        · exact HT.out.2 p hp
                        · obtain rfl := List.mem_singleton.1 hp
                          show 9000 ≤ max 9000 (n - d1) ∧ max 9000 (n - d1) ≤ trueAt (hisZ R' c' start steps steps.length).1 c' x.c ∧ trueAt (hisZ R' c' start steps steps.length).1 c' x.c ≤ min 12000 (n + d2) ∧ min 12000 (n + d2) ≤ 12000
                          rw [HTA.out]
                          omega⟩⟩
                    case measure => simp [intOf]; omega
                  · have HK : Hid (keepF c' steps.length x = false) := by show _ = _; rw [hkp, e1, decide_eq_false e2]; rfl
                    clear hkp
                    go_wp2_with fail
                    go_roundw
                    case rel => exact ⟨k + 1, _, PL, by omega, by go_num, hE.alloc _, hKX.ext ((Ext.refl _).alloc _), ((Ext.refl _).alloc _).block hb0, ((Ext.refl _).alloc _).block hb1, ((Ext.refl _).alloc _).block hbA, ((Ext.refl _).alloc _).block hbD, hO.ext ((Ext.refl _).alloc _), ⟨by rw [keep_no hlt HX.out HK.out]; exact HT.out.1, HT.out.2⟩⟩
                    case measure => simp [intOf]; omega
              · obtain rfl : k = P.length := by omega
                rw [List.take_length] at HT
                obtain ⟨p0, p1, p2⟩ := box3' hbD
                obtain ⟨r0, r1, r2⟩ := box3' hb1
                have f0 := frozen_cells ⟨_, hb1⟩ 0
                have f1 := frozen_cells ⟨_, hb1⟩ 1
                have f2 := frozen_cells ⟨_, hb1⟩ 2
                have kx1 := fun (a b c : Value) => (((KX.refl (B + 1) wr).set 0 a).set 1 b).set 2 c
                have hOr2 := Own.kx hOr hKX hbD6 (by decide)
                have hOl2 := Own.kx hOl hKX hbD6 (by decide)
                clear hOr hOl hbD6
                go_wp2_with fail
                refine bodyPost_ret (v := .tuple #[.agg #[.slice (some ⟨bC, oC, none⟩) C.length capC, .slice xa xn xc, .slice ua un uc], .slice la steps.length lc, .bool true]) (by simp [results, Try.results28, r0, r1, r2, go_sem]) rfl ⟨hX.trans ?_, .inr ⟨c', PL, R', _, _, _, _, _, _, _, rfl, rfl, ?_, ?_, ?_, ⟨HH0.out, HX0.out, hlen, HR'.out.symm, rfl, hHis.out, ⟨HT.out.1, HT.out.2⟩⟩⟩⟩
                · repeat (first | exact hE | refine Ext.setCell ?_ (by show w.heap.size ≤ B + 1; omega) _)
                · exact (Own.kx hO (kx1 _ _ _) hb1 (by decide)).mono hszw
                · exact (Own.kx hOr2 (kx1 _ _ _) hb1 (by decide)).mono (Nat.le_trans hwD (Nat.le_succ _))
                · exact (Own.kx hOl2 (kx1 _ _ _) hb1 (by decide)).mono hszl
end Go.Proofs.Ytaggjclaehigjaa
