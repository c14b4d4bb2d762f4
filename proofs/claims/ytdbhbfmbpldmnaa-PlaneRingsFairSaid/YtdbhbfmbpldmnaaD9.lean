/- Contracts of span, Proper, Sides. -/
import Derived.Test.YtdbhbfmbpldmnaaD7
namespace Go.Proofs.Ytdbhbfmbpldmnaa
open Go.RowKit
def spanB (lo hi : Int) : Bool := winB lo (-1048576) 1048576 && winB hi lo 1048576
def boxB (x0 x1 y0 y1 : Int) : Bool := spanB x0 x1 && spanB y0 y1
set_option maxHeartbeats 400000 in
theorem span_any (W : World) (lo hi : Int) (w : World) (hX : Ext W w) :
    Calls Try.prog 123 #[.agg #[.int .i64 lo, .int .i64 hi]] w fun e w' => e = .returned (.bool (spanB lo hi)) ∧ Ext W w' := by
  go_enter Try.func123, Try.ntmps123
  go_wp2_with (first | (go_at_call 76; refine (within_any _ _ _ _ _ (by first | assumption | exact Ext.refl _)).mono ?_; rintro e w' ⟨rfl, hX1⟩; have hr := hX1.rule))
  all_goals
    go_ret
    exact ⟨ret_bool (by simp [spanB, *]), hX.b1 (by assumption)⟩
set_option maxHeartbeats 400000 in
theorem Proper_any (W : World) (x0 x1 y0 y1 : Int) (w : World) (hX : Ext W w) :
    Calls Try.prog 64 #[.agg #[.int .i64 x0, .int .i64 x1, .int .i64 y0, .int .i64 y1]] w fun e w' => e = .returned (.bool (boxB x0 x1 y0 y1)) ∧ Ext W w' := by
  go_enter Try.func64, Try.ntmps64
  go_wp2_with (first | (go_at_call 123; refine (span_any _ _ _ _ (by first | assumption | exact Ext.refl _)).mono ?_; rintro e w' ⟨rfl, hX1⟩; have hr := hX1.rule))
  all_goals
    go_ret
    exact ⟨ret_bool (by simp [boxB, *]), hX.b1 (by assumption)⟩
theorem boxB_ok {x0 x1 y0 y1 : Int} (h : boxB x0 x1 y0 y1 = true) : ((-1048576 ≤ x0 ∧ x0 ≤ x1) ∧ x1 ≤ 1048576) ∧ (-1048576 ≤ y0 ∧ y0 ≤ y1) ∧ y1 ≤ 1048576 := by
  simp [boxB, spanB, winB] at h
  omega
/-- a point of the box that was looked at has the value v -/
def Seen (F : Int → Int → Int) (x0 y0 y1 v x y : Int) : Prop := ∃ a b, (x0 ≤ a ∧ y0 ≤ b ∧ b ≤ y1) ∧ (a < x ∨ (a = x ∧ b < y)) ∧ F a b = v
theorem seen_none (F : Int → Int → Int) (x0 y0 y1 v : Int) : ¬ Seen F x0 y0 y1 v x0 y0 := by
  rintro ⟨a, b, h, h2, _⟩
  omega
theorem seen_step {F : Int → Int → Int} {x0 y0 y1 x y : Int} (hx : x0 ≤ x) (hy : y0 ≤ y) (hy1 : y ≤ y1) (v : Int) : Seen F x0 y0 y1 v x (y + 1) ↔ Seen F x0 y0 y1 v x y ∨ F x y = v := by
  constructor
  · rintro ⟨a, b, h, h2, h3⟩
    by_cases hab : a = x ∧ b = y
    · obtain ⟨rfl, rfl⟩ := hab
      exact .inr h3
    · exact .inl ⟨a, b, h, by omega, h3⟩
  · rintro (⟨a, b, h, h2, h3⟩ | h)
    · exact ⟨a, b, h, by omega, h3⟩
    · exact ⟨x, y, ⟨hx, hy, hy1⟩, by omega, h⟩
theorem seen_row {F : Int → Int → Int} {x0 y0 y1 x y : Int} (hy : y1 < y) (v : Int) : Seen F x0 y0 y1 v (x + 1) y0 ↔ Seen F x0 y0 y1 v x y := by
  constructor
  · rintro ⟨a, b, h, h2, h3⟩
    exact ⟨a, b, h, by omega, h3⟩
  · rintro ⟨a, b, h, h2, h3⟩
    exact ⟨a, b, h, by omega, h3⟩
/-- three flags say what was seen -/
def Flags (F : Int → Int → Int) (x0 y0 y1 x y : Int) (s0 s1 s2 : Bool) : Prop := (s0 = true ↔ Seen F x0 y0 y1 (-1) x y) ∧ (s1 = true ↔ Seen F x0 y0 y1 0 x y) ∧ (s2 = true ↔ Seen F x0 y0 y1 1 x y)
theorem flags_none (F : Int → Int → Int) (x0 y0 y1 : Int) : Flags F x0 y0 y1 x0 y0 false false false :=
  ⟨⟨(fun h => nomatch h), (fun h => absurd h (seen_none _ _ _ _ _))⟩, ⟨(fun h => nomatch h), (fun h => absurd h (seen_none _ _ _ _ _))⟩, ⟨(fun h => nomatch h), (fun h => absurd h (seen_none _ _ _ _ _))⟩⟩
theorem flags_step {F : Int → Int → Int} {x0 y0 y1 x y : Int} {s0 s1 s2 : Bool} (h : Flags F x0 y0 y1 x y s0 s1 s2) (hx : x0 ≤ x) (hy : y0 ≤ y) (hy1 : y ≤ y1) : Flags F x0 y0 y1 x (y + 1) (s0 || decide (F x y = -1)) (s1 || decide (F x y = 0)) (s2 || decide (F x y = 1)) := by
  refine ⟨?_, ?_, ?_⟩
  · rw [seen_step hx hy hy1, ← h.1]; simp
  · rw [seen_step hx hy hy1, ← h.2.1]; simp
  · rw [seen_step hx hy hy1, ← h.2.2]; simp
theorem flags_row {F : Int → Int → Int} {x0 y0 y1 x y : Int} {s0 s1 s2 : Bool} (h : Flags F x0 y0 y1 x y s0 s1 s2) (hy : y1 < y) : Flags F x0 y0 y1 (x + 1) y0 s0 s1 s2 :=
  ⟨h.1.trans (seen_row hy _).symm, h.2.1.trans (seen_row hy _).symm, h.2.2.trans (seen_row hy _).symm⟩
theorem flags_uniq {F : Int → Int → Int} {x0 y0 y1 x y : Int} {s0 s1 s2 t0 t1 t2 : Bool} (h : Flags F x0 y0 y1 x y s0 s1 s2) (k : Flags F x0 y0 y1 x y t0 t1 t2) : s0 = t0 ∧ s1 = t1 ∧ s2 = t2 :=
  ⟨Bool.eq_iff_iff.2 (h.1.trans k.1.symm), Bool.eq_iff_iff.2 (h.2.1.trans k.2.1.symm), Bool.eq_iff_iff.2 (h.2.2.trans k.2.2.symm)⟩
def b2z (b : Bool) (n : Int) : Int := if b then n else 0
open Classical in
/-- where points of a box lie of a polygon -/
noncomputable def signsZ (F : Int → Int → Int) (x0 x1 y0 y1 : Int) : Int := b2z (decide (Seen F x0 y0 y1 (-1) (x1 + 1) y0)) 1 + b2z (decide (Seen F x0 y0 y1 0 (x1 + 1) y0)) 2 + b2z (decide (Seen F x0 y0 y1 1 (x1 + 1) y0)) 4
open Classical in
theorem signs_flags {F : Int → Int → Int} {x0 x1 y0 y1 : Int} {s0 s1 s2 : Bool} (h : Flags F x0 y0 y1 (x1 + 1) y0 s0 s1 s2) : signsZ F x0 x1 y0 y1 = b2z s0 1 + b2z s1 2 + b2z s2 4 := by
  unfold signsZ
  obtain ⟨e0, e1, e2⟩ := flags_uniq h (t0 := decide (Seen F x0 y0 y1 (-1) (x1 + 1) y0)) (t1 := decide (Seen F x0 y0 y1 0 (x1 + 1) y0)) (t2 := decide (Seen F x0 y0 y1 1 (x1 + 1) y0)) ⟨by simp, by simp, by simp⟩
  rw [e0, e1, e2]
theorem whereZ_cases (l : List (Int × Int)) (px py : Int) : whereZ l px py = -1 ∨ whereZ l px py = 0 ∨ whereZ l px py = 1 := by
  unfold whereZ
  split
  · simp
  · split <;> simp
noncomputable def sidesR (l : List (Int × Int)) (x0 x1 y0 y1 : Int) : Int × Int :=
  if ringE l [] = 0 then
    if boxB x0 x1 y0 y1 = true then
      if 4096 < (x1 - x0 + 1) * (y1 - y0 + 1) then (0, 2)
      else if simpleB l = true then (signsZ (whereZ l) x0 x1 y0 y1, 0) else (0, 4)
    else (0, 1)
  else (0, ringE l [])
def outN (s0 s1 s2 : Bool) : Nat → Int
  | 0 => 0
  | 1 => b2z s0 1
  | 2 => b2z s0 1 + b2z s1 2
  | _ => b2z s0 1 + b2z s1 2 + b2z s2 4
theorem outN_bd (s0 s1 s2 : Bool) (k : Nat) : 0 ≤ outN s0 s1 s2 k ∧ outN s0 s1 s2 k ≤ 7 := by
  unfold outN
  cases s0 <;> cases s1 <;> cases s2 <;> split <;> simp [b2z]
theorem ret_v {k : IntKind} {a b : Int} (h : a = b) : Value.int k a = .int k b := by rw [h]
theorem BoxN.set {W : World} {B : Nat} {cs : Array Value} {t : TypeId} (h : BoxN W B cs t) (i : Nat) (u : Value) : BoxN (W.setCell ⟨B, i, none⟩ u) B (cs.setIfInBounds i u) t := by
  have h' : W.heap[B]? = some (.cells cs t (0, 0)) := h
  unfold BoxN World.setCell
  simp only [Array.getElem?_modify, if_true, h', Option.map_some]
  rfl
theorem BoxN.frozen {W : World} {B : Nat} {cs : Array Value} {t : TypeId} (h : BoxN W B cs t) (o : Nat) : W.frozen? ⟨B, o, none⟩ = false := by simp [World.frozen?, show W.heap[B]? = _ from h]
def seenV (s0 s1 s2 : Bool) : Array Value := #[.bool s0, .bool s1, .bool s2]
set_option maxRecDepth 100000 in
set_option maxHeartbeats 3200000 in
theorem Sides_ok (W : World) (v : Value) (l : List (Int × Int)) (x0 x1 y0 y1 : Int) (w : World) (hX : Ext W w) (hv : Pts w v l) (h : ringE l [] = 0) (hb : boxB x0 x1 y0 y1 = true) (ha : ¬ 4096 < (x1 - x0 + 1) * (y1 - y0 + 1)) (hs : simpleB l = true) :
    Calls Try.prog 40 #[v, .agg #[.int .i64 x0, .int .i64 x1, .int .i64 y0, .int .i64 y1]] w fun e w' => e = .returned (.tuple #[.int .i64 (signsZ (whereZ l) x0 x1 y0 y1), .int .i64 0]) ∧ Ext W w' := by
  obtain ⟨⟨h3, h4⟩, h5, _⟩ := ringE_ok h
  obtain ⟨⟨⟨k1, k2⟩, k3⟩, ⟨k4, k5⟩, k6⟩ := boxB_ok hb
  have hq := mul_bd (a := x1 - x0 + 1) (b := y1 - y0 + 1) (A := 2097153) (B := 2097153) (by omega) (by omega) (by omega) (by omega)
  have hw : IntKind.i64.wrap ((x1 - x0 + 1) * (y1 - y0 + 1)) = (x1 - x0 + 1) * (y1 - y0 + 1) := IntWalk.i64_in _ (by omega)
  have H := Lib.hid h
  have H5 := Lib.hid h5
  have HB := Lib.hid hb
  have HS := Lib.hid hs
  clear h h5 hb hs hq
  go_enter Try.func40, Try.ntmps40
  go_wp2_with fail
  have hE := fun i => cell_new w [.int .i64 x0, .int .i64 x1, .int .i64 y0, .int .i64 y1] 52 i
  have e0 := hE 0
  have e1 := hE 1
  have e2 := hE 2
  have e3 := hE 3
  simp only [List.getElem?_cons_zero, List.getElem?_cons_succ] at e0 e1 e2 e3
  have hXb := hX.alloc (.cells #[.int .i64 x0, .int .i64 x1, .int .i64 y0, .int .i64 y1] 52)
  have hvb := hv.ext ((Ext.refl w).alloc (.cells #[.int .i64 x0, .int .i64 x1, .int .i64 y0, .int .i64 y1] 52))
  obtain ⟨wb, hwb⟩ : ∃ wb, w.alloc (.cells #[.int .i64 x0, .int .i64 x1, .int .i64 y0, .int .i64 y1] 52) = wb := ⟨_, rfl⟩
  change w.alloc (.cells [Value.int .i64 x0, .int .i64 x1, .int .i64 y0, .int .i64 y1].toArray 52) = wb at hwb
  rw [hwb] at e0 e1 e2 e3
  change w.alloc (.cells #[.int .i64 x0, .int .i64 x1, .int .i64 y0, .int .i64 y1] 52) = wb at hwb
  rw [hwb] at hXb hvb ⊢
  clear hE hwb hX hv
  generalize w.heap.size = B at e0 e1 e2 e3 ⊢
  refine (ring_any wb _ _ l [] _ (Ext.refl _) hvb (Pts.nil _)).mono ?_
  rintro e w1 ⟨rfl, hX1⟩
  rw [H.out]
  have f0 := hX1.cell e0
  have f1 := hX1.cell e1
  have f2 := hX1.cell e2
  have f3 := hX1.cell e3
  go_wp2_with (first | (go_at_call 64; refine (Proper_any wb _ _ _ _ _ (by assumption)).mono ?_; rintro e w2 ⟨rfl, hX2⟩; rw [HB.out]; have g0 := hX2.cell e0; have g1 := hX2.cell e1; have g2 := hX2.cell e2; have g3 := hX2.cell e3) | (go_at_call 95; refine (simple_any wb _ l _ hX2 (hvb.ext hX2) h3 h4).mono ?_; rintro e w3 ⟨rfl, hX3⟩; rw [HS.out]; have i0 := hX3.cell e0; have i1 := hX3.cell e1; have i2 := hX3.cell e2; have i3 := hX3.cell e3; have zB : B < w3.heap.size := lt_of_cell i0))
  clear f0 f1 f2 f3 g0 g1 g2 g3 i0 i1 i2 i3 zB hX1 hX2 ha hw
  have hG := BoxN.new w3 104 (seenV false false false)
  have hXs := hX3.alloc (.cells (seenV false false false) 104)
  have zG := hX3.size
  obtain ⟨ws, hws⟩ : ∃ ws, w3.alloc (.cells (seenV false false false) 104) = ws := ⟨_, rfl⟩
  change Code.wp _ _ _ _ (w3.alloc (.cells (seenV false false false) 104))
  rw [hws] at hG hXs ⊢
  clear hws hX3
  generalize w3.heap.size = G at hG zG ⊢
  go_loopw [8, 9] (fun x _ wr => ∃ (a : Int) (s0 s1 s2 : Bool), x = .int .i64 a ∧ x0 ≤ a ∧ a ≤ x1 + 1 ∧ Hid (Flags (whereZ l) x0 y0 y1 a y0 s0 s1 s2) ∧ BoxN wr G (seenV s0 s1 s2) 104 ∧ Ext wb wr) (fun x _ _ => (x1 + 1 - intOf x).toNat)
  case atStart => exact ⟨x0, false, false, false, rfl, by omega, by omega, flags_none _ _ _ _, hG, hXs⟩
  case round =>
    obtain ⟨a, s0, s1, s2, rfl, ha0, ha1, hF, hG1, hx⟩ := hrel
    have i0 := hx.cell e0
    have i1 := hx.cell e1
    have i2 := hx.cell e2
    have i3 := hx.cell e3
    by_cases hax : a ≤ x1
    · go_wp2_with fail
      clear i0 i1 i2 i3
      have oa : Hid (okc a = true) := (okc_iff a).2 (by omega)
      go_loopw [9] (fun y wr => ∃ (c : Int) (s0 s1 s2 : Bool), y = .int .i64 c ∧ y0 ≤ c ∧ c ≤ y1 + 1 ∧ Hid (Flags (whereZ l) x0 y0 y1 a c s0 s1 s2) ∧ BoxN wr G (seenV s0 s1 s2) 104 ∧ Ext wb wr) (fun y _ => (y1 + 1 - intOf y).toNat)
      case atStart => exact ⟨y0, s0, s1, s2, rfl, by omega, by omega, hF, hG1, hx⟩
      case round =>
        clear hx hG1 hF
        obtain ⟨c, s0, s1, s2, rfl, hc0, hc1, hF, hG1, hx⟩ := hrel
        have i0 := hx.cell e0
        have i1 := hx.cell e1
        have i2 := hx.cell e2
        have i3 := hx.cell e3
        by_cases hcy : c ≤ y1
        · have oc : Hid (okc c = true) := (okc_iff c).2 (by omega)
          have hF2 := Lib.hid (flags_step hF.out ha0 hc0 hcy)
          have HW : ∃ k, whereZ l a c = k ∧ (k = -1 ∨ k = 0 ∨ k = 1) := ⟨_, rfl, whereZ_cases l a c⟩
          obtain ⟨k, hk, hk3⟩ := HW
          rw [hk] at hF2
          have HK := Lib.hid hk
          clear hk hF
          go_wp2_with fail
          clear i0 i1 i2 i3
          refine (where_any wr _ l _ _ _ (Ext.refl _) (hvb.ext hx) h3 h4 H5.out oa.out oc.out).mono ?_
          rintro e w5 ⟨rfl, hX5⟩
          rw [HK.out]
          have hG2 := hG1.ext hX5
          have j0 := hG2.cell 0
          have j1 := hG2.cell 1
          have j2 := hG2.cell 2
          have l0 := hG2.frozen 0
          have l1 := hG2.frozen 1
          have l2 := hG2.frozen 2
          simp only [seenV, List.getElem?_toArray, List.getElem?_cons_zero, List.getElem?_cons_succ] at j0 j1 j2
          have hx5 := hx.trans hX5
          rcases hk3 with rfl | rfl | rfl
          all_goals
            go_wp2_with fail
            first
            | exact ⟨⟨c + 1, _, _, _, rfl, by omega, by omega, hF2.out, (by simpa [seenV] using hG2.set 0 (.bool true)), hx5.setCell (p := ⟨G, 0, none⟩) zG _⟩, by simp [intOf]; omega⟩
            | exact ⟨⟨c + 1, _, _, _, rfl, by omega, by omega, hF2.out, (by simpa [seenV] using hG2.set 1 (.bool true)), hx5.setCell (p := ⟨G, 1, none⟩) zG _⟩, by simp [intOf]; omega⟩
            | exact ⟨⟨c + 1, _, _, _, rfl, by omega, by omega, hF2.out, (by simpa [seenV] using hG2.set 2 (.bool true)), hx5.setCell (p := ⟨G, 2, none⟩) zG _⟩, by simp [intOf]; omega⟩
        · go_wp2_with fail
          exact ⟨⟨a + 1, s0, s1, s2, rfl, by omega, by omega, flags_row hF.out (by omega), hG1, hx⟩, by simp [intOf]; omega⟩
    · obtain rfl : a = x1 + 1 := by omega
      have hS := Lib.hid (signs_flags hF.out)
      have j0 := hG1.cell 0
      have j1 := hG1.cell 1
      have j2 := hG1.cell 2
      simp only [seenV, List.getElem?_toArray, List.getElem?_cons_zero, List.getElem?_cons_succ] at j0 j1 j2
      have zG1 : G < wr.heap.size := hG1.lt
      clear hF hG1 ha0 ha1
      go_wp2_with fail
      go_loop [10, 11, 12, 75] (fun n _ _ i => ∃ k : Nat, k ≤ 3 ∧ i = .int .i64 k ∧ n = .int .i64 (outN s0 s1 s2 k)) (fun _ _ _ i => 3 - (intOf i).toNat)
      case atStart => exact ⟨0, by omega, rfl, rfl⟩
      case round =>
        obtain ⟨k, hk, rfl, rfl⟩ := hrel
        have hk4 : k = 0 ∨ k = 1 ∨ k = 2 ∨ k = 3 := by omega
        clear i0 i1 i2 i3
        have hb := outN_bd s0 s1 s2 k
        obtain ⟨n, hn⟩ : ∃ n, outN s0 s1 s2 k = n := ⟨_, rfl⟩
        rw [hn] at hb ⊢
        obtain ⟨hb1, hb2⟩ := hb
        rcases hk4 with rfl | rfl | rfl | rfl
        · have HN : Hid (n = 0) := hn.symm
          clear hn hk
          cases s0
          all_goals
            go_wp2_with fail
            exact ⟨⟨1, by omega, rfl, ret_v (by have := HN.out; simp [outN, b2z, this])⟩, by simp [intOf]⟩
        · have HN : Hid (n = b2z s0 1) := hn.symm
          clear hn hk
          cases s1
          all_goals
            go_wp2_with fail
            exact ⟨⟨2, by omega, rfl, ret_v (by have := HN.out; simp [outN, b2z, this])⟩, by simp [intOf]⟩
        · have HN : Hid (n = b2z s0 1 + b2z s1 2) := hn.symm
          clear hn hk
          cases s2
          all_goals
            go_wp2_with fail
            exact ⟨⟨3, by omega, rfl, ret_v (by have := HN.out; simp [outN, b2z, this])⟩, by simp [intOf]⟩
        · have HN : Hid (n = b2z s0 1 + b2z s1 2 + b2z s2 4) := hn.symm
          clear hn hk
          go_wp2_with fail
          go_ret2
          refine ⟨?_, hXb.trans (hx.alloc _)⟩
          rw [HN.out, hS.out]
          rfl
set_option maxRecDepth 100000 in
set_option maxHeartbeats 1600000 in
theorem Sides_no1 (W : World) (v : Value) (l : List (Int × Int)) (x0 x1 y0 y1 : Int) (w : World) (hX : Ext W w) (hv : Pts w v l) (h : (ringE l [] == 0) = false) :
    Calls Try.prog 40 #[v, .agg #[.int .i64 x0, .int .i64 x1, .int .i64 y0, .int .i64 y1]] w fun e w' => e = .returned (.tuple #[.int .i64 (sidesR l x0 x1 y0 y1).1, .int .i64 (sidesR l x0 x1 y0 y1).2]) ∧ Ext W w' := by
  have HZ : Hid (sidesR l x0 x1 y0 y1 = (0, ringE l [])) := by unfold Hid sidesR; rw [if_neg (by simpa using h)]
  go_enter Try.func40, Try.ntmps40
  go_wp2_with fail
  have hE := fun i => cell_new w [.int .i64 x0, .int .i64 x1, .int .i64 y0, .int .i64 y1] 52 i
  have e0 := hE 0
  have e1 := hE 1
  have e2 := hE 2
  have e3 := hE 3
  simp only [List.getElem?_cons_zero, List.getElem?_cons_succ] at e0 e1 e2 e3
  have hXb := hX.alloc (.cells #[.int .i64 x0, .int .i64 x1, .int .i64 y0, .int .i64 y1] 52)
  have hvb := hv.ext ((Ext.refl w).alloc (.cells #[.int .i64 x0, .int .i64 x1, .int .i64 y0, .int .i64 y1] 52))
  obtain ⟨wb, hwb⟩ : ∃ wb, w.alloc (.cells #[.int .i64 x0, .int .i64 x1, .int .i64 y0, .int .i64 y1] 52) = wb := ⟨_, rfl⟩
  change w.alloc (.cells [Value.int .i64 x0, .int .i64 x1, .int .i64 y0, .int .i64 y1].toArray 52) = wb at hwb
  rw [hwb] at e0 e1 e2 e3
  change w.alloc (.cells #[.int .i64 x0, .int .i64 x1, .int .i64 y0, .int .i64 y1] 52) = wb at hwb
  rw [hwb] at hXb hvb ⊢
  clear hE hwb hX hv
  generalize w.heap.size = B at e0 e1 e2 e3 ⊢
  refine (ring_any wb _ _ l [] _ (Ext.refl _) hvb (Pts.nil _)).mono ?_
  rintro e w1 ⟨rfl, hX1⟩
  go_wp2_with fail
  go_ret2
  rw [HZ.out]
  exact ⟨rfl, hXb.trans hX1⟩
set_option maxRecDepth 100000 in
set_option maxHeartbeats 1600000 in
theorem Sides_no2 (W : World) (v : Value) (l : List (Int × Int)) (x0 x1 y0 y1 : Int) (w : World) (hX : Ext W w) (hv : Pts w v l) (h : ringE l [] = 0) (hb : boxB x0 x1 y0 y1 = false) :
    Calls Try.prog 40 #[v, .agg #[.int .i64 x0, .int .i64 x1, .int .i64 y0, .int .i64 y1]] w fun e w' => e = .returned (.tuple #[.int .i64 (sidesR l x0 x1 y0 y1).1, .int .i64 (sidesR l x0 x1 y0 y1).2]) ∧ Ext W w' := by
  have HZ : Hid (sidesR l x0 x1 y0 y1 = (0, 1)) := by unfold Hid sidesR; rw [if_pos h, if_neg (by simp [hb])]
  have H := Lib.hid h
  have HB := Lib.hid hb
  clear h hb
  go_enter Try.func40, Try.ntmps40
  go_wp2_with fail
  have hE := fun i => cell_new w [.int .i64 x0, .int .i64 x1, .int .i64 y0, .int .i64 y1] 52 i
  have e0 := hE 0
  have e1 := hE 1
  have e2 := hE 2
  have e3 := hE 3
  simp only [List.getElem?_cons_zero, List.getElem?_cons_succ] at e0 e1 e2 e3
  have hXb := hX.alloc (.cells #[.int .i64 x0, .int .i64 x1, .int .i64 y0, .int .i64 y1] 52)
  have hvb := hv.ext ((Ext.refl w).alloc (.cells #[.int .i64 x0, .int .i64 x1, .int .i64 y0, .int .i64 y1] 52))
  obtain ⟨wb, hwb⟩ : ∃ wb, w.alloc (.cells #[.int .i64 x0, .int .i64 x1, .int .i64 y0, .int .i64 y1] 52) = wb := ⟨_, rfl⟩
  change w.alloc (.cells [Value.int .i64 x0, .int .i64 x1, .int .i64 y0, .int .i64 y1].toArray 52) = wb at hwb
  rw [hwb] at e0 e1 e2 e3
  change w.alloc (.cells #[.int .i64 x0, .int .i64 x1, .int .i64 y0, .int .i64 y1] 52) = wb at hwb
  rw [hwb] at hXb hvb ⊢
  clear hE hwb hX hv
  generalize w.heap.size = B at e0 e1 e2 e3 ⊢
  refine (ring_any wb _ _ l [] _ (Ext.refl _) hvb (Pts.nil _)).mono ?_
  rintro e w1 ⟨rfl, hX1⟩
  rw [H.out]
  have f0 := hX1.cell e0
  have f1 := hX1.cell e1
  have f2 := hX1.cell e2
  have f3 := hX1.cell e3
  go_wp2_with (go_at_call 64; refine (Proper_any wb _ _ _ _ _ (by assumption)).mono ?_; rintro e w2 ⟨rfl, hX2⟩; rw [HB.out]; have g0 := hX2.cell e0; have g1 := hX2.cell e1; have g2 := hX2.cell e2; have g3 := hX2.cell e3)
  go_ret2
  rw [HZ.out]
  exact ⟨rfl, hXb.trans hX2⟩
set_option maxRecDepth 100000 in
set_option maxHeartbeats 1600000 in
theorem Sides_no3 (W : World) (v : Value) (l : List (Int × Int)) (x0 x1 y0 y1 : Int) (w : World) (hX : Ext W w) (hv : Pts w v l) (h : ringE l [] = 0) (hb : boxB x0 x1 y0 y1 = true) (ha : 4096 < (x1 - x0 + 1) * (y1 - y0 + 1)) :
    Calls Try.prog 40 #[v, .agg #[.int .i64 x0, .int .i64 x1, .int .i64 y0, .int .i64 y1]] w fun e w' => e = .returned (.tuple #[.int .i64 (sidesR l x0 x1 y0 y1).1, .int .i64 (sidesR l x0 x1 y0 y1).2]) ∧ Ext W w' := by
  have HZ : Hid (sidesR l x0 x1 y0 y1 = (0, 2)) := by unfold Hid sidesR; rw [if_pos h, if_pos hb, if_pos ha]
  obtain ⟨⟨⟨k1, k2⟩, k3⟩, ⟨k4, k5⟩, k6⟩ := boxB_ok hb
  have hq := mul_bd (a := x1 - x0 + 1) (b := y1 - y0 + 1) (A := 2097153) (B := 2097153) (by omega) (by omega) (by omega) (by omega)
  have hw : IntKind.i64.wrap ((x1 - x0 + 1) * (y1 - y0 + 1)) = (x1 - x0 + 1) * (y1 - y0 + 1) := IntWalk.i64_in _ (by omega)
  have H := Lib.hid h
  have HB := Lib.hid hb
  clear h hb hq
  go_enter Try.func40, Try.ntmps40
  go_wp2_with fail
  have hE := fun i => cell_new w [.int .i64 x0, .int .i64 x1, .int .i64 y0, .int .i64 y1] 52 i
  have e0 := hE 0
  have e1 := hE 1
  have e2 := hE 2
  have e3 := hE 3
  simp only [List.getElem?_cons_zero, List.getElem?_cons_succ] at e0 e1 e2 e3
  have hXb := hX.alloc (.cells #[.int .i64 x0, .int .i64 x1, .int .i64 y0, .int .i64 y1] 52)
  have hvb := hv.ext ((Ext.refl w).alloc (.cells #[.int .i64 x0, .int .i64 x1, .int .i64 y0, .int .i64 y1] 52))
  obtain ⟨wb, hwb⟩ : ∃ wb, w.alloc (.cells #[.int .i64 x0, .int .i64 x1, .int .i64 y0, .int .i64 y1] 52) = wb := ⟨_, rfl⟩
  change w.alloc (.cells [Value.int .i64 x0, .int .i64 x1, .int .i64 y0, .int .i64 y1].toArray 52) = wb at hwb
  rw [hwb] at e0 e1 e2 e3
  change w.alloc (.cells #[.int .i64 x0, .int .i64 x1, .int .i64 y0, .int .i64 y1] 52) = wb at hwb
  rw [hwb] at hXb hvb ⊢
  clear hE hwb hX hv
  generalize w.heap.size = B at e0 e1 e2 e3 ⊢
  refine (ring_any wb _ _ l [] _ (Ext.refl _) hvb (Pts.nil _)).mono ?_
  rintro e w1 ⟨rfl, hX1⟩
  rw [H.out]
  have f0 := hX1.cell e0
  have f1 := hX1.cell e1
  have f2 := hX1.cell e2
  have f3 := hX1.cell e3
  go_wp2_with (go_at_call 64; refine (Proper_any wb _ _ _ _ _ (by assumption)).mono ?_; rintro e w2 ⟨rfl, hX2⟩; rw [HB.out]; have g0 := hX2.cell e0; have g1 := hX2.cell e1; have g2 := hX2.cell e2; have g3 := hX2.cell e3)
  go_ret2
  rw [HZ.out]
  exact ⟨rfl, hXb.trans hX2⟩
set_option maxRecDepth 100000 in
set_option maxHeartbeats 1600000 in
theorem Sides_no4 (W : World) (v : Value) (l : List (Int × Int)) (x0 x1 y0 y1 : Int) (w : World) (hX : Ext W w) (hv : Pts w v l) (h : ringE l [] = 0) (hb : boxB x0 x1 y0 y1 = true) (ha : ¬ 4096 < (x1 - x0 + 1) * (y1 - y0 + 1)) (hs : simpleB l = false) :
    Calls Try.prog 40 #[v, .agg #[.int .i64 x0, .int .i64 x1, .int .i64 y0, .int .i64 y1]] w fun e w' => e = .returned (.tuple #[.int .i64 (sidesR l x0 x1 y0 y1).1, .int .i64 (sidesR l x0 x1 y0 y1).2]) ∧ Ext W w' := by
  have HZ : Hid (sidesR l x0 x1 y0 y1 = (0, 4)) := by unfold Hid sidesR; rw [if_pos h, if_pos hb, if_neg ha, if_neg (by simp [hs])]
  obtain ⟨⟨h3, h4⟩, _, _⟩ := ringE_ok h
  obtain ⟨⟨⟨k1, k2⟩, k3⟩, ⟨k4, k5⟩, k6⟩ := boxB_ok hb
  have hq := mul_bd (a := x1 - x0 + 1) (b := y1 - y0 + 1) (A := 2097153) (B := 2097153) (by omega) (by omega) (by omega) (by omega)
  have hw : IntKind.i64.wrap ((x1 - x0 + 1) * (y1 - y0 + 1)) = (x1 - x0 + 1) * (y1 - y0 + 1) := IntWalk.i64_in _ (by omega)
  have H := Lib.hid h
  have HB := Lib.hid hb
  have HS := Lib.hid hs
  clear h hb hq hs
  go_enter Try.func40, Try.ntmps40
  go_wp2_with fail
  have hE := fun i => cell_new w [.int .i64 x0, .int .i64 x1, .int .i64 y0, .int .i64 y1] 52 i
  have e0 := hE 0
  have e1 := hE 1
  have e2 := hE 2
  have e3 := hE 3
  simp only [List.getElem?_cons_zero, List.getElem?_cons_succ] at e0 e1 e2 e3
  have hXb := hX.alloc (.cells #[.int .i64 x0, .int .i64 x1, .int .i64 y0, .int .i64 y1] 52)
  have hvb := hv.ext ((Ext.refl w).alloc (.cells #[.int .i64 x0, .int .i64 x1, .int .i64 y0, .int .i64 y1] 52))
  obtain ⟨wb, hwb⟩ : ∃ wb, w.alloc (.cells #[.int .i64 x0, .int .i64 x1, .int .i64 y0, .int .i64 y1] 52) = wb := ⟨_, rfl⟩
  change w.alloc (.cells [Value.int .i64 x0, .int .i64 x1, .int .i64 y0, .int .i64 y1].toArray 52) = wb at hwb
  rw [hwb] at e0 e1 e2 e3
  change w.alloc (.cells #[.int .i64 x0, .int .i64 x1, .int .i64 y0, .int .i64 y1] 52) = wb at hwb
  rw [hwb] at hXb hvb ⊢
  clear hE hwb hX hv
  generalize w.heap.size = B at e0 e1 e2 e3 ⊢
  refine (ring_any wb _ _ l [] _ (Ext.refl _) hvb (Pts.nil _)).mono ?_
  rintro e w1 ⟨rfl, hX1⟩
  rw [H.out]
  have f0 := hX1.cell e0
  have f1 := hX1.cell e1
  have f2 := hX1.cell e2
  have f3 := hX1.cell e3
  go_wp2_with (first | (go_at_call 64; refine (Proper_any wb _ _ _ _ _ (by assumption)).mono ?_; rintro e w2 ⟨rfl, hX2⟩; rw [HB.out]; have g0 := hX2.cell e0; have g1 := hX2.cell e1; have g2 := hX2.cell e2; have g3 := hX2.cell e3) | (go_at_call 95; refine (simple_any wb _ l _ hX2 (hvb.ext hX2) h3 h4).mono ?_; rintro e w3 ⟨rfl, hX3⟩; rw [HS.out]))
  go_ret2
  rw [HZ.out]
  exact ⟨rfl, hXb.trans hX3⟩
theorem Sides_any (W : World) (v : Value) (l : List (Int × Int)) (x0 x1 y0 y1 : Int) (w : World) (hX : Ext W w) (hv : Pts w v l) :
    Calls Try.prog 40 #[v, .agg #[.int .i64 x0, .int .i64 x1, .int .i64 y0, .int .i64 y1]] w fun e w' => e = .returned (.tuple #[.int .i64 (sidesR l x0 x1 y0 y1).1, .int .i64 (sidesR l x0 x1 y0 y1).2]) ∧ Ext W w' := by
  rcases ringE_cases l [] with h | h
  · cases hb : boxB x0 x1 y0 y1
    · exact Sides_no2 W v l x0 x1 y0 y1 w hX hv h hb
    · by_cases ha : 4096 < (x1 - x0 + 1) * (y1 - y0 + 1)
      · exact Sides_no3 W v l x0 x1 y0 y1 w hX hv h hb ha
      · cases hs : simpleB l
        · exact Sides_no4 W v l x0 x1 y0 y1 w hX hv h hb ha hs
        · have HZ : sidesR l x0 x1 y0 y1 = (signsZ (whereZ l) x0 x1 y0 y1, 0) := by unfold sidesR; rw [if_pos h, if_pos hb, if_neg ha, if_pos hs]
          rw [HZ]
          exact Sides_ok W v l x0 x1 y0 y1 w hX hv h hb ha hs
  · exact Sides_no1 W v l x0 x1 y0 y1 w hX hv h
end Go.Proofs.Ytdbhbfmbpldmnaa
