/- Contracts of what ChainageCounts calls: power, tiny. Contract of possible. A row of ints that is written in place. Plain law of ChainageCounts: what is possible by the words is what Fits takes. Plain law of ChainageCounts: Fits, the least and the greatest lengths, contradictions. Plain law of ChainageCounts: each list of lengths is gone through. Plain law of ChainageCounts: the least and the greatest lengths of those that are possible. Rows of ints that are written in place, beside each other. -/
import Derived.Test.YtaggjclaehigjaaRF
import Derived.Test.YtaggjclaehigjaaA2
namespace Go.Proofs.Ytaggjclaehigjaa
open Go.RowKit
theorem pow_le {k : Nat} (h : k ≤ 4) : (1 : Int) ≤ 13 ^ k ∧ (13 : Int) ^ k ≤ 28561 := by
  match k, h with
  | 0, _ => decide
  | 1, _ => decide
  | 2, _ => decide
  | 3, _ => decide
  | 4, _ => decide
  | k + 5, h => omega
set_option maxRecDepth 100000 in
set_option maxHeartbeats 1000000 in
theorem power_any (n : Nat) (w : World) (hn : n ≤ 4) : Calls Try.prog 32 #[.int .i64 13, .int .i64 n] w fun e w' => e = .returned (.int .i64 (13 ^ n)) ∧ Ext w w' := by
  go_enter Try.func32, Try.ntmps32
  go_wp2_with fail
  go_loopw [5, 7] (fun v i wr => ∃ k : Nat, k ≤ n ∧ i = .int .i64 k ∧ v = .int .i64 (13 ^ k) ∧ Ext w wr) (fun _ i _ => n - (intOf i).toNat)
  case atStart => exact ⟨0, Nat.zero_le _, rfl, rfl, Ext.refl _⟩
  case round =>
    obtain ⟨k, hk, rfl, rfl, hE⟩ := hrel
    have hp := pow_le (k := k) (by omega)
    by_cases hlt : k < n
    · have HS : Hid ((13 : Int) ^ (k + 1) = 13 ^ k * 13) := Int.pow_succ _ _
      generalize (13 : Int) ^ k = z at hp HS ⊢
      have h13 : 0 ≤ (k : Int) ∧ (k : Int) ≤ 4 := by omega
      have hnk : (k : Int) < (n : Int) := by omega
      go_wp2_with fail
      go_roundw
      case rel => exact ⟨k + 1, by omega, by go_num, by rw [HS.out], hE⟩
      case measure => simp [intOf]; omega
    · obtain rfl : k = n := by omega
      go_wp2_with fail
      go_ret
      exact ⟨rfl, hE⟩
/-- works whose lengths can be gone through -/
structure TinyIs (C P R : List Five) (c : Five) : Prop where
  chk : chk C P R = 0
  one : C = [c]
  few : P.length + R.length ≤ 6
  yr : 3997 ≤ c.b
  hi : c.d ≤ 9006
  we : c.e ≤ 2
  pro : ∀ p ∈ P, p.e ≤ 9006
  rep : ∀ r ∈ R, r.e ≤ 9006
def TinyPost (W : World) (C P R : List Five) (e : Ending) (w : World) : Prop := (∃ b, e = .returned (.bool b) ∧ (b = true → ∃ c, TinyIs C P R c)) ∧ Ext W w
theorem all_of {l : List Five} {p : Five → Prop} (h : ∀ j, (hj : j < l.length) → (h : j < l.length) → p l[j]) : ∀ x ∈ l, p x := by
  intro x hx
  obtain ⟨i, hi, rfl⟩ := List.getElem_of_mem hx
  exact h i hi hi
set_option maxRecDepth 100000 in
set_option maxHeartbeats 4000000 in
theorem tiny_any (W : World) (C P R : List Five) (v : Value) (w : World) (hX : Ext W w) (hv : Wk w v C P R) :
    Calls Try.prog 31 #[v] w (TinyPost W C P R) := by
  have HCK := Lib.hid (fun w' (q : Ext w w') => Check_any w' C P R v w' (Ext.refl _) (hv.ext q))
  obtain ⟨vC, vP, vR, rfl, hC, hP, hR, hn⟩ := hv
  obtain ⟨aC, capC, rfl, hlC, hmC, hcC⟩ := hC.parts
  obtain ⟨aP, capP, rfl, hlP, hmP, hcP⟩ := hP.parts
  obtain ⟨aR, capR, rfl, hlR, hmR, hcR⟩ := hR.parts
  have HcC := Lib.hid hcC
  have HcP := Lib.hid hcP
  have HcR := Lib.hid hcR
  clear hC hP hR hcC hcP hcR hmC hmP hmR hlC hlP hlR
  have hPR : (P.length : Int) + (R.length : Int) ≤ 1000000000000000 := by omega
  have hX0 : Ext w (w.alloc (.cells #[.slice aC C.length capC, .slice aP P.length capP, .slice aR R.length capR] 26)) := (Ext.refl w).alloc _
  have hb0 := heap_alloc_new w (.cells #[.slice aC C.length capC, .slice aP P.length capP, .slice aR R.length capR] 26)
  obtain ⟨B, hBB⟩ : ∃ B, w.heap.size = B := ⟨_, rfl⟩
  rw [hBB] at hb0
  go_enter Try.func31, Try.ntmps31
  go_upto_region 1 with fail
  obtain ⟨wa, hwa⟩ : ∃ wa, w.alloc (.cells #[.slice aC C.length capC, .slice aP P.length capP, .slice aR R.length capR] 26) = wa := ⟨_, rfl⟩
  rw [hwa] at hX0 hb0 ⊢
  clear hwa
  go_cut [26] (fun v wx => (v = .bool true ∨ (v = .bool false ∧ chk C P R = 0 ∧ C.length = 1 ∧ P.length + R.length ≤ 6)) ∧ Ext w wx ∧ wx.heap[B]? = some (.cells #[.slice aC C.length capC, .slice aP P.length capP, .slice aR R.length capR] 26))
  case first => as_aux_lemma =>
    obtain ⟨k0, k1, k2⟩ := box3' hb0
    by_cases h1 : C.length = 1
    · have d1 : ((C.length : Int) == 1) = true := by simp; omega
      have d2 : ((C.length : Int) != 1) = false := by simp [bne, d1]
      have H1 := Lib.hid h1
      clear h1
      by_cases h6 : 6 < (P.length : Int) + (R.length : Int)
      · go_wp2_with fail
        go_meet
        case rel => exact ⟨.inl rfl, hX0, hb0⟩
      · obtain ⟨n, hnn⟩ : ∃ n, chk C P R = n := ⟨_, rfl⟩
        have HNN := Lib.hid hnn
        rw [hnn] at HCK
        clear hnn
        cases hnb : (n == 0)
        · have hnb2 : (n != 0) = true := by simp [bne, hnb]
          go_wp2_with (go_at_call 18; with_reducible refine (HCK.out _ hX0).mono ?_; rintro e w2 ⟨rfl, hX2⟩)
          go_meet
          case rel => exact ⟨.inl rfl, hX0.trans hX2, hX2.block hb0⟩
        · have hnb2 : (n != 0) = false := by simp [bne, hnb]
          go_wp2_with (go_at_call 18; with_reducible refine (HCK.out _ hX0).mono ?_; rintro e w2 ⟨rfl, hX2⟩)
          go_meet
          case rel => exact ⟨.inr ⟨rfl, by rw [HNN.out]; simpa using hnb, H1.out, by omega⟩, hX0.trans hX2, hX2.block hb0⟩
    · have d1 : ((C.length : Int) == 1) = false := by simp; omega
      have d2 : ((C.length : Int) != 1) = true := by simp [bne, d1]
      clear h1
      go_wp2_with fail
      go_meet
      case rel => exact ⟨.inl rfl, hX0, hb0⟩
  case rest =>
  clear hX0 hb0 HCK
  obtain ⟨hcase, hE1, hb0⟩ := hcut
  obtain ⟨w1, rfl⟩ : ∃ w', w' = wc := ⟨_, rfl⟩
  rcases hcase with rfl | ⟨rfl, h0, h1, h6⟩
  · go_wp2_with fail
    go_ret
    exact ⟨⟨false, rfl, (fun h => by cases h)⟩, hX.trans hE1⟩
  · have H0 := Lib.hid h0
    have H6 := Lib.hid h6
    have h1' : 0 < C.length := by omega
    obtain ⟨bC, oC, c, hx, rfl, q0, q1, q2, q3, q4⟩ := five_at HcC.out hE1 h1'
    have HC1 : Hid (C = [c]) := by
      show _ = _
      match C, h1 with
      | [x], _ => rw [hx]; rfl
    rw [Nat.zero_mul, Nat.add_zero] at q0 q1 q2 q3 q4
    clear hx h0 h1 h6
    obtain ⟨k0, k1, k2⟩ := box3' hb0
    have hC2 : (0 : Int) < (C.length : Int) := by omega
    have zB : B < w1.heap.size := lt_of_cell k0
    have hE := hE1.alloc (.cells #[.int .i64 c.a, .int .i64 c.b, .int .i64 c.c, .int .i64 c.d, .int .i64 c.e] 53)
    replace hb0 := ((Ext.refl w1).alloc (.cells #[.int .i64 c.a, .int .i64 c.b, .int .i64 c.c, .int .i64 c.d, .int .i64 c.e] 53)).block hb0
    have hbA := heap_alloc_new w1 (.cells #[.int .i64 c.a, .int .i64 c.b, .int .i64 c.c, .int .i64 c.d, .int .i64 c.e] 53)
    obtain ⟨A, hA⟩ : ∃ A, w1.heap.size = A := ⟨_, rfl⟩
    go_upto_region 4 with fail
    rw [hA] at hbA
    obtain ⟨w2, hw2⟩ : ∃ w2, w1.alloc (.cells #[.int .i64 c.a, .int .i64 c.b, .int .i64 c.c, .int .i64 c.d, .int .i64 c.e] 53) = w2 := ⟨_, rfl⟩
    rw [hw2] at hbA hb0 hE ⊢
    clear hw2 k0 k1 k2 q0 q1 q2 q3 q4 hE1 hA zB
    obtain ⟨c0, c1, c2, c3, c4⟩ := box5 hbA
    have hcs : c.b < 3997 ∨ (¬ c.b < 3997 ∧ 9006 < c.d) ∨ (¬ c.b < 3997 ∧ ¬ 9006 < c.d ∧ 2 < c.e) ∨ (¬ c.b < 3997 ∧ ¬ 9006 < c.d ∧ ¬ 2 < c.e) := by omega
    rcases hcs with y1 | ⟨y1, y2⟩ | ⟨y1, y2, y3⟩ | ⟨y1, y2, y3⟩
    · go_wp2_with fail
      go_ret
      exact ⟨⟨false, rfl, (fun h => by cases h)⟩, hX.trans hE⟩
    · go_wp2_with fail
      go_ret
      exact ⟨⟨false, rfl, (fun h => by cases h)⟩, hX.trans hE⟩
    · go_wp2_with fail
      go_ret
      exact ⟨⟨false, rfl, (fun h => by cases h)⟩, hX.trans hE⟩
    · obtain ⟨k0, k1, k2⟩ := box3' hb0
      go_wp2_with fail
      clear c0 c1 c2 c3 c4 hbA k0 k1 k2
      go_loopw [48] (fun i wr => ∃ k : Nat, k ≤ P.length ∧ i = .int .i64 k ∧ Ext w wr ∧ wr.heap[B]? = some (.cells #[.slice (some ⟨bC, oC, none⟩) C.length capC, .slice aP P.length capP, .slice aR R.length capR] 26) ∧ Hid (∀ j, (hj : j < k) → (h : j < P.length) → P[j].e ≤ 9006)) (fun i _ => P.length - (intOf i).toNat)
      case atStart => exact ⟨0, Nat.zero_le _, rfl, hE, hb0, fun j hj => absurd hj (by omega)⟩
      case round =>
        clear hb0 hE
        obtain ⟨k, hk, rfl, hE, hb0, HNP⟩ := hrel
        obtain ⟨k0, k1, k2⟩ := box3' hb0
        by_cases hlt : k < P.length
        · obtain ⟨bb, oo, x, hx, rfl, q0, q1, q2, q3, q4⟩ := five_at HcP.out hE hlt
          have HX := Lib.hid hx
          clear hx
          by_cases hbig : 9006 < x.e
          · go_wp2_with fail
            go_ret
            exact ⟨⟨false, rfl, (fun h => by cases h)⟩, hX.trans (hE.alloc _)⟩
          · go_wp2_with fail
            go_roundw
            case rel => exact ⟨k + 1, by omega, by go_num, hE.alloc _, ((Ext.refl _).alloc _).block hb0, fun j hj h => by
                by_cases e : j = k
                · subst e; rw [← HX.out]; omega
                · exact HNP.out j (by omega) h⟩
            case measure => simp [intOf]; omega
        · obtain rfl : k = P.length := by omega
          go_wp2_with fail
          clear k0 k1 k2 hlt
          go_loopw [60] (fun i wr => ∃ k : Nat, k ≤ R.length ∧ i = .int .i64 k ∧ Ext w wr ∧ wr.heap[B]? = some (.cells #[.slice (some ⟨bC, oC, none⟩) C.length capC, .slice aP P.length capP, .slice aR R.length capR] 26) ∧ Hid (∀ j, (hj : j < k) → (h : j < R.length) → R[j].e ≤ 9006)) (fun i _ => R.length - (intOf i).toNat)
          case atStart => exact ⟨0, Nat.zero_le _, rfl, hE, hb0, fun j hj => absurd hj (by omega)⟩
          case round =>
            clear hb0 hE
            obtain ⟨k, hk, rfl, hE, hb0, HNR⟩ := hrel
            obtain ⟨k0, k1, k2⟩ := box3' hb0
            by_cases hlt : k < R.length
            · obtain ⟨bb, oo, x, hx, rfl, q0, q1, q2, q3, q4⟩ := five_at HcR.out hE hlt
              have HX := Lib.hid hx
              clear hx
              by_cases hbig : 9006 < x.e
              · go_wp2_with fail
                go_ret
                exact ⟨⟨false, rfl, (fun h => by cases h)⟩, hX.trans (hE.alloc _)⟩
              · go_wp2_with fail
                go_roundw
                case rel => exact ⟨k + 1, by omega, by go_num, hE.alloc _, ((Ext.refl _).alloc _).block hb0, fun j hj h => by
                    by_cases e : j = k
                    · subst e; rw [← HX.out]; omega
                    · exact HNR.out j (by omega) h⟩
                case measure => simp [intOf]; omega
            · obtain rfl : k = R.length := by omega
              go_wp2_with fail
              go_ret
              exact ⟨⟨true, rfl, fun _ => ⟨c, H0.out, HC1.out, H6.out, by omega, by omega, by omega, all_of (p := fun x => x.e ≤ 9006) HNP.out, all_of (p := fun x => x.e ≤ 9006) HNR.out⟩⟩, hX.trans hE⟩
end Go.Proofs.Ytaggjclaehigjaa
namespace Go.Proofs.Ytaggjclaehigjaa
open Go.RowKit
/-- a length is possible in its year, by the words alone -/
def posI (P R : List Five) (c : Five) (l : List Int) (i : Nat) : Bool :=
  (!(decide (i = 0)) || inB (l.getD i 0) c.c c.d) && R.all (fun r => !(r.c == c.b + i) || inB (l.getD i 0) r.d r.e) && P.all (fun p => !(p.c == c.b + i) || inB (l.getD i 0) p.d p.e) &&
    ((decide (i = 0) || R.any (fun r => r.c == c.b + i)) || inB (l.getD i 0) (l.getD (i - 1) 0) (l.getD (i - 1) 0 + c.e))
def posB (P R : List Five) (c : Five) (l : List Int) : Bool := (List.range l.length).all (posI P R c l)
theorem posB_false {P R : List Five} {c : Five} {l : List Int} {i : Nat} (hi : i < l.length) (h : posI P R c l i = false) : posB P R c l = false := by
  unfold posB
  rw [List.all_eq_false]
  exact ⟨i, List.mem_range.2 hi, by simp [h]⟩
theorem posB_true {P R : List Five} {c : Five} {l : List Int} (h : ∀ i, i < l.length → posI P R c l i = true) : posB P R c l = true := by
  unfold posB
  rw [List.all_eq_true]
  intro i hi
  exact h i (List.mem_range.1 hi)
theorem any_succ {l : List Five} {p : Five → Bool} {k : Nat} (hk : k < l.length) {x : Five} (hx : x = l[k]) : (l.take (k + 1)).any p = ((l.take k).any p || p x) := by
  rw [List.take_succ_eq_append_getElem hk, List.any_append, ← hx]
  simp
set_option maxRecDepth 100000 in
set_option maxHeartbeats 8000000 in
theorem possible_any (W : World) (C P R : List Five) (c : Five) (l : List Int) (v vl : Value) (w : World) (hX : Ext W w) (hv : Wk w v C P R) (hl : Ints w vl l) (hd : C.head? = some c) (hcb : 0 ≤ c.b ∧ c.b ≤ 4000) (hce : 0 ≤ c.e ∧ c.e ≤ 1000) (hln : l.length ≤ 1000) (hle : ∀ x ∈ l, 0 ≤ x ∧ x ≤ 20000) :
    Calls Try.prog 33 #[v, vl] w fun e w' => e = .returned (.bool (posB P R c l)) ∧ Ext W w' := by
  obtain ⟨al, capl, rfl, -, -, hcl⟩ := hl.parts
  obtain ⟨vC, vP, vR, rfl, hC, hP, hR, hn⟩ := hv
  obtain ⟨aC, capC, rfl, hlC, hmC, hcC⟩ := hC.parts
  obtain ⟨aP, capP, rfl, hlP, hmP, hcP⟩ := hP.parts
  obtain ⟨aR, capR, rfl, hlR, hmR, hcR⟩ := hR.parts
  have HcC := Lib.hid hcC
  have HcP := Lib.hid hcP
  have HcR := Lib.hid hcR
  have HcL := Lib.hid hcl
  have HLE := Lib.hid hle
  clear hl hcl hC hP hR hcC hcP hcR hmC hmP hmR hlC hlP hlR hle
  have hE0 := (Ext.refl w).alloc (.cells #[.slice aC C.length capC, .slice aP P.length capP, .slice aR R.length capR] 26)
  have hb0 := heap_alloc_new w (.cells #[.slice aC C.length capC, .slice aP P.length capP, .slice aR R.length capR] 26)
  have h1 : 0 < C.length := by
    rcases Nat.eq_zero_or_pos C.length with h | h
    · rw [List.eq_nil_of_length_eq_zero h] at hd; cases hd
    · exact h
  obtain ⟨bC, oC, c9, hx, rfl, q0, q1, q2, q3, q4⟩ := five_at HcC.out hE0 h1
  obtain rfl : c = c9 := by
    rw [List.head?_eq_getElem?, List.getElem?_eq_getElem h1] at hd
    rw [hx]
    exact (Option.some.inj hd).symm
  rw [Nat.zero_mul, Nat.add_zero] at q0 q1 q2 q3 q4
  clear hx hd
  obtain ⟨B, hBB⟩ : ∃ B, w.heap.size = B := ⟨_, rfl⟩
  rw [hBB] at hb0
  have hC2 : (0 : Int) < (C.length : Int) := by omega
  go_enter Try.func33, Try.ntmps33
  go_upto_region 1 with fail
  obtain ⟨wa, hwa⟩ : ∃ wa, w.alloc (.cells #[.slice (some ⟨bC, oC, none⟩) C.length capC, .slice aP P.length capP, .slice aR R.length capR] 26) = wa := ⟨_, rfl⟩
  rw [hwa] at hE0 hb0 q0 q1 q2 q3 q4 ⊢
  clear hwa
  obtain ⟨k0, k1, k2⟩ := box3' hb0
  have zB : B < wa.heap.size := lt_of_cell k0
  have hE := hE0.alloc (.cells #[.int .i64 c.a, .int .i64 c.b, .int .i64 c.c, .int .i64 c.d, .int .i64 c.e] 53)
  replace hb0 := ((Ext.refl wa).alloc (.cells #[.int .i64 c.a, .int .i64 c.b, .int .i64 c.c, .int .i64 c.d, .int .i64 c.e] 53)).block hb0
  have hbA := heap_alloc_new wa (.cells #[.int .i64 c.a, .int .i64 c.b, .int .i64 c.c, .int .i64 c.d, .int .i64 c.e] 53)
  obtain ⟨A, hA⟩ : ∃ A, wa.heap.size = A := ⟨_, rfl⟩
  go_upto_region 2 with fail
  rw [hA] at hbA
  obtain ⟨w2, hw2⟩ : ∃ w2, wa.alloc (.cells #[.int .i64 c.a, .int .i64 c.b, .int .i64 c.c, .int .i64 c.d, .int .i64 c.e] 53) = w2 := ⟨_, rfl⟩
  rw [hw2] at hbA hb0 hE ⊢
  clear hw2 k0 k1 k2 q0 q1 q2 q3 q4 hE0 hA zB hC2
  go_wp2_with fail
  go_loopw [20] (fun i wr => ∃ k : Nat, k ≤ l.length ∧ i = .int .i64 k ∧ Ext w wr ∧ wr.heap[B]? = some (.cells #[.slice (some ⟨bC, oC, none⟩) C.length capC, .slice aP P.length capP, .slice aR R.length capR] 26) ∧ wr.heap[A]? = some (.cells #[.int .i64 c.a, .int .i64 c.b, .int .i64 c.c, .int .i64 c.d, .int .i64 c.e] 53) ∧ Hid (∀ j, j < k → posI P R c l j = true)) (fun i _ => l.length - (intOf i).toNat)
  case atStart => exact ⟨0, Nat.zero_le _, rfl, hE, hb0, hbA, fun j hj => absurd hj (by omega)⟩
  case round =>
    clear hb0 hbA hE
    obtain ⟨k, hk, rfl, hE, hb0, hbA, HN⟩ := hrel
    by_cases hlt : k < l.length
    · obtain ⟨bL, oL, n, hnn, rfl, n0⟩ := int_at HcL.out hE hlt
      have hn2 : l.getD k 0 = n := by rw [List.getD_eq_getElem?_getD, List.getElem?_eq_getElem hlt, hnn]; rfl
      have hnr := HLE.out n (by rw [hnn]; exact List.getElem_mem hlt)
      have HF : Hid (posI P R c l k = false → posB P R c l = false) := fun h => posB_false hlt h
      obtain ⟨y, hy⟩ : ∃ y, c.b + (k : Int) = y := ⟨_, rfl⟩
      have HP : Hid (posI P R c l k = ((!(decide (k = 0)) || inB n c.c c.d) && R.all (fun r => !(r.c == y) || inB n r.d r.e) && P.all (fun p => !(p.c == y) || inB n p.d p.e) &&
          ((decide (k = 0) || R.any (fun r => r.c == y)) || inB n (l.getD (k - 1) 0) (l.getD (k - 1) 0 + c.e)))) := by show _ = _; rw [← hy, ← hn2]; rfl
      clear hnn hn2
      obtain ⟨c0, c1, c2, c3, c4⟩ := box5 hbA
      obtain ⟨k0, k1, k2⟩ := box3' hb0
      have hkk : 0 ≤ (k : Int) ∧ (k : Int) ≤ 1000 := by omega
      have hkl : (k : Int) < (l.length : Int) := by omega
      go_upto_region 6 with fail
      go_cut [9, 46] (fun b v wx => b = .bool ((k : Int) == 0) ∧ v = .bool (decide (k = 0) && !(inB n c.c c.d)) ∧ wx = wr)
      case first => as_aux_lemma =>
        by_cases k0' : k = 0
        · have d1 : ((k : Int) == 0) = true := by simp [k0']
          have d2 : decide (k = 0) = true := by simp [k0']
          have HV : Hid ((decide (k = 0) && !(inB n c.c c.d)) = !(inB n c.c c.d)) := by show _ = _; rw [d2, Bool.true_and]
          clear k0' d2
          by_cases a1 : n < c.c
          · have e1 : inB n c.c c.d = false := by rw [← Bool.not_eq_true, inB_iff]; omega
            replace HV := Lib.hid (HV.out.trans (congrArg (fun b : Bool => !b) e1))
            clear e1
            go_wp2_with fail
            go_meet
            case rel => exact ⟨by rw [d1], by rw [HV.out]; rfl, rfl⟩
          · by_cases a2 : c.d < n
            · have e1 : inB n c.c c.d = false := by rw [← Bool.not_eq_true, inB_iff]; omega
              replace HV := Lib.hid (HV.out.trans (congrArg (fun b : Bool => !b) e1))
              clear e1
              go_wp2_with fail
              go_meet
              case rel => exact ⟨by rw [d1], by rw [HV.out]; rfl, rfl⟩
            · have e1 : inB n c.c c.d = true := by rw [inB_iff]; omega
              replace HV := Lib.hid (HV.out.trans (congrArg (fun b : Bool => !b) e1))
              clear e1
              go_wp2_with fail
              go_meet
              case rel => exact ⟨by rw [d1], by rw [HV.out]; rfl, rfl⟩
        · have d1 : ((k : Int) == 0) = false := by simp [k0']
          have d2 : decide (k = 0) = false := by simp [k0']
          have HV : Hid ((decide (k = 0) && !(inB n c.c c.d)) = false) := by show _ = _; rw [d2, Bool.false_and]
          clear k0' d2
          go_wp2_with fail
          go_meet
          case rel => exact ⟨by rw [d1], by rw [HV.out], rfl⟩
      case rest =>
      obtain ⟨rfl, rfl, rfl⟩ := hcut
      cases hz : (decide (k = 0) && !(inB n c.c c.d))
      · have H1 : Hid ((!(decide (k = 0)) || inB n c.c c.d) = true) := by
          show _ = _
          revert hz
          cases decide (k = 0) <;> cases inB n c.c c.d <;> simp
        clear hz
        obtain ⟨zk, hzk⟩ : ∃ z, ((k : Int) == 0) = z := ⟨_, rfl⟩
        have HZK : Hid (decide (k = 0) = zk) := by
          show _ = _
          rw [← hzk]
          by_cases e : k = 0 <;> simp [e]
        rw [HZK.out] at HP
        go_wp2_with fail
        go_loopw [9, 50] (fun b i wr => ∃ j : Nat, j ≤ R.length ∧ i = .int .i64 j ∧ b = .bool (zk || (R.take j).any (fun r => r.c == y)) ∧ Ext w wr ∧ wr.heap[B]? = some (.cells #[.slice (some ⟨bC, oC, none⟩) C.length capC, .slice aP P.length capP, .slice aR R.length capR] 26) ∧ wr.heap[A]? = some (.cells #[.int .i64 c.a, .int .i64 c.b, .int .i64 c.c, .int .i64 c.d, .int .i64 c.e] 53) ∧ Hid (∀ q, (hq : q < j) → (h : q < R.length) → (!(R[q].c == y) || inB n R[q].d R[q].e) = true)) (fun _ i _ => R.length - (intOf i).toNat)
        case atStart => exact ⟨0, Nat.zero_le _, rfl, by simp, hE, hb0, hbA, fun q hq => absurd hq (by omega)⟩
        case round =>
          clear hb0 hbA hE c0 c1 c2 c3 c4 k0 k1 k2
          obtain ⟨j, hj, rfl, rfl, hE, hb0, hbA, HR⟩ := hrel
          obtain ⟨k0, k1, k2⟩ := box3' hb0
          by_cases hlj : j < R.length
          · obtain ⟨bb, oo, x, hx, rfl, q0, q1, q2, q3, q4⟩ := five_at HcR.out hE hlj
            have HA := Lib.hid (any_succ (p := fun r : Five => r.c == y) hlj hx)
            have HX := Lib.hid hx
            clear hx
            have HALL : Hid ((!(x.c == y) || inB n x.d x.e) = false → R.all (fun r => !(r.c == y) || inB n r.d r.e) = false) := fun h => by
              rw [List.all_eq_false]
              exact ⟨x, by rw [HX.out]; exact List.getElem_mem hlj, by simp only [h]; decide⟩
            have HUP : Hid ((!(x.c == y) || inB n x.d x.e) = true → ∀ q, (hq : q < j + 1) → (h : q < R.length) → (!(R[q].c == y) || inB n R[q].d R[q].e) = true) := fun h q hq hh => by
              by_cases e : q = j
              · subst e; rw [← HX.out]; exact h
              · exact HR.out q (by omega) hh
            clear HR
            generalize (R.take j).any (fun r => r.c == y) = z9 at HA ⊢
            cases e1 : (x.c == y)
            · rw [e1] at HUP
              have HA2 : Hid ((R.take (j + 1)).any (fun r => r.c == y) = z9) := by show _ = _; rw [HA.out]; show (z9 || (x.c == y)) = z9; rw [e1, Bool.or_false]
              go_wp2_with fail
              go_roundw
              case rel => exact ⟨j + 1, by omega, by go_num, by rw [HA2.out], hE.alloc _, ((Ext.refl _).alloc _).block hb0, ((Ext.refl _).alloc _).block hbA, HUP.out rfl⟩
              case measure => simp [intOf]; omega
            · rw [e1] at HUP HALL
              have HA2 : Hid ((R.take (j + 1)).any (fun r => r.c == y) = true) := by show _ = _; rw [HA.out]; show (z9 || (x.c == y)) = true; rw [e1, Bool.or_true]
              by_cases a1 : n < x.d
              · have e2 : inB n x.d x.e = false := by rw [← Bool.not_eq_true, inB_iff]; omega
                have HBAD : Hid (posI P R c l k = false) := by show _ = _; rw [HP.out, HALL.out (by rw [e2]; rfl)]; simp
                clear e2
                go_wp2_with fail
                go_ret
                exact ⟨by rw [HF.out HBAD.out]; rfl, hX.trans (hE.alloc _)⟩
              · by_cases a2 : x.e < n
                · have e2 : inB n x.d x.e = false := by rw [← Bool.not_eq_true, inB_iff]; omega
                  have HBAD : Hid (posI P R c l k = false) := by show _ = _; rw [HP.out, HALL.out (by rw [e2]; rfl)]; simp
                  clear e2
                  go_wp2_with fail
                  go_ret
                  exact ⟨by rw [HF.out HBAD.out]; rfl, hX.trans (hE.alloc _)⟩
                · have HUP2 := Lib.hid (HUP.out (by rw [inB_iff.2 ⟨by omega, by omega⟩]; rfl))
                  go_wp2_with fail
                  go_roundw
                  case rel => exact ⟨j + 1, by omega, by go_num, by rw [HA2.out, Bool.or_true], hE.alloc _, ((Ext.refl _).alloc _).block hb0, ((Ext.refl _).alloc _).block hbA, HUP2.out⟩
                  case measure => simp [intOf]; omega
          · obtain rfl : j = R.length := by omega
            rw [List.take_length]
            have H2 : Hid (R.all (fun r => !(r.c == y) || inB n r.d r.e) = true) := by
              show _ = _
              rw [List.all_eq_true]
              intro r hr
              obtain ⟨q, hq, rfl⟩ := List.getElem_of_mem hr
              exact HR.out q hq hq
            clear HR hlj
            generalize R.any (fun r => r.c == y) = z9 at HP ⊢
            go_wp2_with fail
            go_loopw [74] (fun i wr => ∃ j : Nat, j ≤ P.length ∧ i = .int .i64 j ∧ Ext w wr ∧ wr.heap[B]? = some (.cells #[.slice (some ⟨bC, oC, none⟩) C.length capC, .slice aP P.length capP, .slice aR R.length capR] 26) ∧ wr.heap[A]? = some (.cells #[.int .i64 c.a, .int .i64 c.b, .int .i64 c.c, .int .i64 c.d, .int .i64 c.e] 53) ∧ Hid (∀ q, (hq : q < j) → (h : q < P.length) → (!(P[q].c == y) || inB n P[q].d P[q].e) = true)) (fun i _ => P.length - (intOf i).toNat)
            case atStart => exact ⟨0, Nat.zero_le _, rfl, hE, hb0, hbA, fun q hq => absurd hq (by omega)⟩
            case round =>
              clear hb0 hbA hE k0 k1 k2
              obtain ⟨j, hj, rfl, hE, hb0, hbA, HR⟩ := hrel
              by_cases hlj : j < P.length
              · obtain ⟨bb, oo, x, hx, rfl, q0, q1, q2, q3, q4⟩ := five_at HcP.out hE hlj
                have HX := Lib.hid hx
                clear hx
                have HALL : Hid ((!(x.c == y) || inB n x.d x.e) = false → P.all (fun r => !(r.c == y) || inB n r.d r.e) = false) := fun h => by
                  rw [List.all_eq_false]
                  exact ⟨x, by rw [HX.out]; exact List.getElem_mem hlj, by simp only [h]; decide⟩
                have HUP : Hid ((!(x.c == y) || inB n x.d x.e) = true → ∀ q, (hq : q < j + 1) → (h : q < P.length) → (!(P[q].c == y) || inB n P[q].d P[q].e) = true) := fun h q hq hh => by
                  by_cases e : q = j
                  · subst e; rw [← HX.out]; exact h
                  · exact HR.out q (by omega) hh
                clear HR
                cases e1 : (x.c == y)
                · rw [e1] at HUP
                  go_wp2_with fail
                  go_roundw
                  case rel => exact ⟨j + 1, by omega, by go_num, hE.alloc _, ((Ext.refl _).alloc _).block hb0, ((Ext.refl _).alloc _).block hbA, HUP.out rfl⟩
                  case measure => simp [intOf]; omega
                · rw [e1] at HUP HALL
                  by_cases a1 : n < x.d
                  · have e2 : inB n x.d x.e = false := by rw [← Bool.not_eq_true, inB_iff]; omega
                    have HBAD : Hid (posI P R c l k = false) := by show _ = _; rw [HP.out, HALL.out (by rw [e2]; rfl)]; simp
                    clear e2
                    go_wp2_with fail
                    go_ret
                    exact ⟨by rw [HF.out HBAD.out]; rfl, hX.trans (hE.alloc _)⟩
                  · by_cases a2 : x.e < n
                    · have e2 : inB n x.d x.e = false := by rw [← Bool.not_eq_true, inB_iff]; omega
                      have HBAD : Hid (posI P R c l k = false) := by show _ = _; rw [HP.out, HALL.out (by rw [e2]; rfl)]; simp
                      clear e2
                      go_wp2_with fail
                      go_ret
                      exact ⟨by rw [HF.out HBAD.out]; rfl, hX.trans (hE.alloc _)⟩
                    · have HUP2 := Lib.hid (HUP.out (by rw [inB_iff.2 ⟨by omega, by omega⟩]; rfl))
                      go_wp2_with fail
                      go_roundw
                      case rel => exact ⟨j + 1, by omega, by go_num, hE.alloc _, ((Ext.refl _).alloc _).block hb0, ((Ext.refl _).alloc _).block hbA, HUP2.out⟩
                      case measure => simp [intOf]; omega
              · obtain rfl : j = P.length := by omega
                have H3 : Hid (P.all (fun r => !(r.c == y) || inB n r.d r.e) = true) := by
                  show _ = _
                  rw [List.all_eq_true]
                  intro r hr
                  obtain ⟨q, hq, rfl⟩ := List.getElem_of_mem hr
                  exact HR.out q hq hq
                rw [H2.out, H3.out] at HP
                have HQ : Hid (posI P R c l k = ((zk || z9) || inB n (l.getD (k - 1) 0) (l.getD (k - 1) 0 + c.e))) := by
                  show _ = _
                  have h1 := H1.out
                  rw [HZK.out] at h1
                  rw [HP.out, h1]
                  simp
                clear HR hlj HP H1 H2 H3
                have HOK : Hid (posI P R c l k = true → ∀ q, q < k + 1 → posI P R c l q = true) := fun h q hq => by
                  by_cases e : q = k
                  · subst e; exact h
                  · exact HN.out q (by omega)
                obtain ⟨c0, c1, c2, c3, c4⟩ := box5 hbA
                cases hzz : (zk || z9)
                · rw [hzz, Bool.false_or] at HQ
                  have hk0 : k ≠ 0 := by
                    intro e
                    have h1 := HZK.out
                    rw [e] at h1
                    rw [← h1] at hzz
                    simp at hzz
                  obtain ⟨j, hj9⟩ : ∃ j, k = j + 1 := ⟨k - 1, by omega⟩
                  have hjl : j < l.length := by omega
                  obtain ⟨_, _, m, hmm, e9, m0⟩ := int_at HcL.out hE hjl
                  cases e9
                  have hm2 : l.getD (k - 1) 0 = m := by rw [hj9, List.getD_eq_getElem?_getD, show j + 1 - 1 = j by omega, List.getElem?_eq_getElem hjl, hmm]; rfl
                  have hmr := HLE.out m (by rw [hmm]; exact List.getElem_mem hjl)
                  rw [hm2] at HQ
                  have n0' := (rfl : True = True)
                  have g1 : (k : Int) - 1 = (j : Int) := by omega
                  have g2 : (0 : Int) ≤ (j : Int) ∧ (j : Int) ≤ 1000 := by omega
                  have g3 : (j : Int) < (l.length : Int) := by omega
                  have e5 : IntKind.i64.wrap ((k : Int) - 1) = (j : Int) := by rw [wrap_in (by omega)]; omega
                  have e6 : IntKind.i64.wrap (m + c.e) = m + c.e := wrap_in (by omega)
                  clear hmm hm2 hj9 hk0 n0'
                  by_cases a1 : n < m
                  · have HBAD : Hid (posI P R c l k = false) := by show _ = _; rw [HQ.out, ← Bool.not_eq_true, inB_iff]; omega
                    have e7 : decide (n < m) = true := decide_eq_true a1
                    go_wp2_with fail
                    go_quiet (fail)
                    go_wp2_with fail
                    go_ret
                    exact ⟨by rw [HF.out HBAD.out]; rfl, hX.trans (hE.drewN _)⟩
                  · have e7 : decide (n < m) = false := decide_eq_false a1
                    by_cases a2 : m + c.e < n
                    · have HBAD : Hid (posI P R c l k = false) := by show _ = _; rw [HQ.out, ← Bool.not_eq_true, inB_iff]; omega
                      have e8 : decide (m + c.e < n) = true := decide_eq_true a2
                      go_wp2_with fail
                      go_quiet (fail)
                      go_wp2_with fail
                      go_ret
                      exact ⟨by rw [HF.out HBAD.out]; rfl, hX.trans (hE.drewN _)⟩
                    · have e8 : decide (m + c.e < n) = false := decide_eq_false a2
                      have HGD : Hid (posI P R c l k = true) := by show _ = _; rw [HQ.out, inB_iff]; omega
                      go_wp2_with fail
                      go_quiet (fail)
                      go_wp2_with fail
                      go_roundw
                      case rel => exact ⟨k + 1, by omega, by go_num, hE.drewN _, hb0, hbA, HOK.out HGD.out⟩
                      case measure => simp [intOf]; omega
                · have HGD : Hid (posI P R c l k = true) := by show _ = _; rw [HQ.out, hzz]; rfl
                  go_wp2_with fail
                  go_quiet (fail)
                  go_wp2_with fail
                  go_roundw
                  case rel => exact ⟨k + 1, by omega, by go_num, hE.drewN _, hb0, hbA, HOK.out HGD.out⟩
                  case measure => simp [intOf]; omega
      · have HBAD : Hid (posI P R c l k = false) := by
          show _ = _
          rw [HP.out]
          revert hz
          cases decide (k = 0) <;> cases inB n c.c c.d <;> simp
        go_wp2_with fail
        go_ret
        exact ⟨by rw [HF.out HBAD.out]; rfl, hX.trans hE⟩
    · obtain rfl : k = l.length := by omega
      go_wp2_with fail
      go_ret
      exact ⟨by rw [posB_true HN.out]; rfl, hX.trans hE⟩
end Go.Proofs.Ytaggjclaehigjaa
namespace Go.Proofs.Ytaggjclaehigjaa
open Go.RowKit
theorem flat_enc1 (l : List Int) : l.flatMap enc1 = l.map (fun x => Value.int .i64 x) := by
  induction l with
  | nil => rfl
  | cons x l ih => rw [List.flatMap_cons, ih]; rfl
/-- the row of a slice of ints, and its block -/
theorem Own.block1 {base : Nat} {w : World} {v : Value} {l : List Int} (h : Own 3 1 enc1 base w v l) (hne : l ≠ []) : ∃ g cap, v = .slice (some ⟨g, 0, none⟩) l.length cap ∧ base ≤ g ∧ g < w.heap.size ∧ (∃ cs, w.heap[g]? = some (.cells cs 3)) ∧ ∀ i, (hi : i < l.length) → w.cell? ⟨g, i, none⟩ = some (.int .i64 l[i]) := by
  have hs := h.sl enc1_len
  obtain ⟨h1, h2⟩ := h
  rcases h2 with ⟨_, h3⟩ | ⟨g, cap, cur, rfl, hb, hg, h4, h5, h6, h7⟩
  · exact absurd (List.eq_nil_of_length_eq_zero h3) hne
  · refine ⟨g, cap, rfl, hb, (Array.getElem?_eq_some_iff.1 hg).1, ⟨cur, hg⟩, fun i hi => ?_⟩
    have e : cur.toList[i]? = some (.int .i64 l[i]) := by
      have h8 : (List.take (l.length * 1) cur.toList)[i]? = some (.int .i64 l[i]) := by
        rw [h7, flat_enc1, List.getElem?_map, List.getElem?_eq_getElem hi]
        rfl
      rw [List.getElem?_take_of_lt (by omega)] at h8
      exact h8
    rw [cell_at hg i]
    simpa using e
theorem Own.set1 {base : Nat} {w : World} {g cap i : Nat} {x : Int} {l : List Int} (h : Own 3 1 enc1 base w (.slice (some ⟨g, 0, none⟩) l.length cap) l) : Own 3 1 enc1 base (w.setCell ⟨g, i, none⟩ (.int .i64 x)) (.slice (some ⟨g, 0, none⟩) (l.set i x).length cap) (l.set i x) := by
  obtain ⟨h1, h2⟩ := h
  refine ⟨by rw [flat_enc1]; simp, .inr ?_⟩
  rcases h2 with ⟨h3, _⟩ | ⟨g', cap', cur, hv, hb, hg, h4, h5, h6, h7⟩
  · cases h3
  · injection hv with e1 _ e3
    injection e1 with e1
    injection e1 with e1
    subst e1 e3
    refine ⟨g, cap, cur.setIfInBounds i (.int .i64 x), rfl, hb, ?_, by simpa using h4, h5, by simpa using h6, ?_⟩
    · simp [World.setCell, Array.getElem?_modify, hg]
    · rw [Array.toList_setIfInBounds, List.length_set, List.take_set, h7, flat_enc1, flat_enc1, List.map_set]
end Go.Proofs.Ytaggjclaehigjaa
namespace Go.Proofs.Ytaggjclaehigjaa
def tAt (l : List Int) (c : Five) (y : Int) : Int := l.getD (y - c.b).toNat 0
theorem tAt_at (l : List Int) (c : Five) (j : Nat) : l.getD j 0 = tAt l c (c.b + j) := by
  unfold tAt
  rw [show (c.b + (j : Int) - c.b).toNat = j by omega]
/-- lengths of all years of a chain that everything shows -/
structure Hist (C P R : List Five) (c : Five) (n : Nat) (l : List Int) : Prop where
  good : Good C P R
  find : findC C c.a = some c
  len : 0 < n ∧ c.b + n ≤ 4001
  reps : ∀ r ∈ R, r.b = c.a → r.c < c.b + n
  rng : ∀ y, c.b ≤ y → y < c.b + n → 9000 ≤ tAt l c y ∧ tAt l c y ≤ 12000
  step : ∀ y, c.b < y → y < c.b + n → (spellZ R c y).1 ≠ y → tAt l c (y - 1) ≤ tAt l c y ∧ tAt l c y ≤ tAt l c (y - 1) + c.e
  thing : ∀ y t, c.b ≤ y → y < c.b + n → t ∈ innZ P R c (spellZ R c y) → (c.b ≤ t.y ∧ t.y < c.b + n) ∧ ((spellZ R c y).1 ≤ t.y ∧ t.y ≤ (spellZ R c y).2) ∧ t.lo ≤ tAt l c t.y ∧ tAt l c t.y ≤ t.hi
section
variable {C P R : List Five} {c : Five} {n : Nat} {l : List Int}
theorem Hist.mono (h : Hist C P R c n l) {y : Int} (h1 : c.b ≤ y) (m : Nat) : y + m < c.b + n → (spellZ R c y).1 ≤ y + m → y + m ≤ (spellZ R c y).2 → tAt l c y ≤ tAt l c (y + m) ∧ tAt l c (y + m) ≤ tAt l c y + c.e * m := by
  induction m with
  | zero => intro _ _ _; simp
  | succ m ih =>
    intro a1 a2 a3
    have hy4 : y ≤ 4000 := by have := h.len.2; omega
    have hsl := spell_le (R := R) h1 hy4
    obtain ⟨i1, i2⟩ := ih (by omega) (by omega) (by omega)
    have hsame := spellZ_same (R := R) h1 hy4 a2 a3
    have hst := h.step (y + ((m + 1 : Nat) : Int)) (by omega) a1 (by rw [hsame]; omega)
    rw [show y + ((m + 1 : Nat) : Int) - 1 = y + (m : Int) by omega] at hst
    have e : c.e * ((m + 1 : Nat) : Int) = c.e * (m : Int) + c.e := by rw [Int.natCast_add, Int.mul_add]; simp
    omega
theorem Hist.bd (h : Hist C P R c n l) {y : Int} (h1 : c.b ≤ y) (h2 : y < c.b + n) {t : Four} (ht : t ∈ innZ P R c (spellZ R c y)) {z : Int} (z1 : c.b ≤ z) (z2 : z < c.b + n) (z3 : (spellZ R c y).1 ≤ z) (z4 : z ≤ (spellZ R c y).2) :
    loZ c.e z t ≤ tAt l c z ∧ tAt l c z ≤ hiZ c.e z t := by
  have hlen := h.len
  obtain ⟨⟨t1, t2⟩, ⟨t3, t4⟩, t5, t6⟩ := h.thing y t h1 h2 ht
  have hy4 : y ≤ 4000 := by omega
  rcases Int.le_total t.y z with hz | hz
  · obtain ⟨m, hm⟩ : ∃ m : Nat, z = t.y + m := ⟨(z - t.y).toNat, by omega⟩
    have hs := spellZ_same (R := R) h1 hy4 t3 t4
    have := h.mono t1 m (by omega) (by rw [hs]; omega) (by rw [hs]; omega)
    rw [← hm] at this
    unfold loZ hiZ
    rw [show max 0 (t.y - z) = 0 by omega, show max 0 (z - t.y) = (m : Int) by omega]
    simp only [Int.mul_zero, Int.sub_zero]
    omega
  · obtain ⟨m, hm⟩ : ∃ m : Nat, t.y = z + m := ⟨(t.y - z).toNat, by omega⟩
    have hs := spellZ_same (R := R) h1 hy4 z3 z4
    have := h.mono z1 m (by omega) (by rw [hs]; omega) (by rw [hs]; omega)
    rw [← hm] at this
    unfold loZ hiZ
    rw [show max 0 (t.y - z) = (m : Int) by omega, show max 0 (z - t.y) = 0 by omega]
    simp only [Int.mul_zero, Int.add_zero]
    omega
theorem Hist.lim (h : Hist C P R c n l) {y : Int} (h1 : c.b ≤ y) (h2 : y < c.b + n) : loY P R c y ≤ tAt l c y ∧ tAt l c y ≤ hiY P R c y := by
  have hy4 : y ≤ 4000 := by have := h.len.2; omega
  have hsl := spell_le (R := R) h1 hy4
  have hr := h.rng y h1 h2
  exact ⟨limLo_iff.2 ⟨hr.1, fun t ht => (h.bd h1 h2 ht h1 h2 hsl.2.1 hsl.2.2.1).1⟩, limHi_iff.2 ⟨hr.2, fun t ht => (h.bd h1 h2 ht h1 h2 hsl.2.1 hsl.2.2.1).2⟩⟩
theorem Hist.free (h : Hist C P R c n l) : fitCl P R c = false := by
  unfold fitCl
  rw [List.any_eq_false]
  intro y hy
  have hr : c.b ≤ y ∧ y < c.b + n := by
    have := h.len
    refine ⟨(starts_rng h.good h.find y hy).1, ?_⟩
    rcases List.mem_cons.1 hy with rfl | hy
    · omega
    · obtain ⟨r, hr, rfl⟩ := List.mem_map.1 hy
      obtain ⟨hr1, hr2⟩ := List.mem_filter.1 hr
      exact h.reps r hr1 (by simpa using hr2)
  rw [Bool.not_eq_true, clashesB_iff]
  rw [List.pairwise_iff_getElem]
  intro i j hi hj _
  have mi := List.getElem_mem hi
  have mj := List.getElem_mem hj
  have ti := h.thing y _ hr.1 hr.2 mi
  have tj := h.thing y _ hr.1 hr.2 mj
  have b1 := h.bd hr.1 hr.2 mi tj.1.1 tj.1.2 tj.2.1.1 tj.2.1.2
  have b2 := h.bd hr.1 hr.2 mj ti.1.1 ti.1.2 ti.2.1.1 ti.2.1.2
  unfold clashB
  simp only [Bool.or_eq_false_iff, decide_eq_false_iff_not]
  omega
theorem Hist.fit (h : Hist C P R c n l) {j : Nat} (hj : j < n) : fitB P R c c.b l j = true := by
  have hlim := h.lim (y := c.b + j) (by omega) (by omega)
  unfold fitB
  rw [tAt_at l c j, Bool.and_eq_true]
  refine ⟨inB_iff.2 hlim, ?_⟩
  simp only [Bool.or_eq_true, decide_eq_true_eq]
  by_cases j0 : j = 0
  · exact .inl (.inl j0)
  · by_cases s0 : (spellZ R c (c.b + j)).1 = c.b + j
    · exact .inl (.inr s0)
    · right
      rw [tAt_at l c (j - 1), show c.b + ((j - 1 : Nat) : Int) = c.b + (j : Int) - 1 by omega]
      exact inB_iff.2 (h.step _ (by omega) (by omega) s0)
end
section
variable {C P R : List Five} {c : Five} {l : List Int}
theorem TinyIs.good (h : TinyIs C P R c) : Good C P R := chk_zero.1 h.chk
theorem TinyIs.find (h : TinyIs C P R c) : findC C c.a = some c := find_self h.good (by rw [h.one]; exact List.mem_singleton.2 rfl)
theorem find_one {x : Int} {d : Five} (h : findC [c] x = some d) : d = c ∧ x = c.a := by
  have h1 := List.find?_some h
  have h2 := List.mem_of_find?_eq_some h
  obtain rfl := List.mem_singleton.1 h2
  have h3 : d.a = x := by simpa using h1
  exact ⟨rfl, h3.symm⟩
theorem TinyIs.pro_ok (h : TinyIs C P R c) : ∀ p ∈ P, p.b = c.a ∧ c.b ≤ p.c ∧ p.c ≤ 4000 ∧ 9000 ≤ p.d ∧ p.d ≤ p.e ∧ p.e ≤ 9006 := by
  intro p hp
  have h1 := h.good.okp p hp
  unfold okT at h1
  rw [h.one] at h1
  cases hf : findC [c] p.b with
  | none => rw [hf] at h1; simp at h1
  | some d =>
    rw [hf] at h1
    obtain ⟨rfl, e⟩ := find_one hf
    simp only [Bool.and_eq_true, inB_iff, spB_iff] at h1
    have := h.pro p hp
    exact ⟨e, by omega, by omega, by omega, by omega, this⟩
theorem TinyIs.rep_ok (h : TinyIs C P R c) : ∀ r ∈ R, r.b = c.a ∧ c.b < r.c ∧ r.c ≤ 4000 ∧ 9000 ≤ r.d ∧ r.d ≤ r.e ∧ r.e ≤ 9006 := by
  intro p hp
  have h1 := h.good.okr p hp
  unfold okT at h1
  rw [h.one] at h1
  cases hf : findC [c] p.b with
  | none => rw [hf] at h1; simp at h1
  | some d =>
    rw [hf] at h1
    obtain ⟨rfl, e⟩ := find_one hf
    simp only [Bool.and_eq_true, inB_iff, spB_iff] at h1
    have := h.rep p hp
    exact ⟨e, by omega, by omega, by omega, by omega, this⟩
theorem TinyIs.chain_ok (h : TinyIs C P R c) : (3997 ≤ c.b ∧ c.b ≤ 4000) ∧ (9000 ≤ c.c ∧ c.c ≤ c.d ∧ c.d ≤ 9006) ∧ 0 ≤ c.e ∧ c.e ≤ 2 := by
  have := okC_parts (good_okT h.good h.find).2.1
  exact ⟨⟨h.yr, this.2.1.2⟩, ⟨this.2.2.1.1, this.2.2.1.2.1, h.hi⟩, this.2.2.2.1, h.we⟩
/-- a spell begins in a year: with the chain, or with a repair -/
theorem TinyIs.starts (h : TinyIs C P R c) {y : Int} (h1 : c.b ≤ y) (h2 : y ≤ 4000) : (spellZ R c y).1 = y ↔ y = c.b ∨ ∃ r ∈ R, r.c = y := by
  obtain ⟨⟨p1, p2, p3⟩, _⟩ := spell_law c y R (c.b, 4000)
  have hsl := spell_le (R := R) h1 h2
  constructor
  · intro e
    rcases p3 with p3 | ⟨r, hr, hb, hy, e2⟩
    · left
      have : (spellZ R c y).1 = c.b := p3
      omega
    · right
      have : (spellZ R c y).1 = r.c := e2
      exact ⟨r, hr, by omega⟩
  · rintro (rfl | ⟨r, hr, rfl⟩)
    · omega
    · have := p2 r hr (h.rep_ok r hr).1 (Int.le_refl _)
      have : r.c ≤ (spellZ R c r.c).1 := this
      omega
theorem pos_parts {P R : List Five} {c : Five} {l : List Int} {i : Nat} (h : posI P R c l i = true) : (i = 0 → inB (l.getD i 0) c.c c.d = true) ∧ (∀ r ∈ R, r.c = c.b + i → inB (l.getD i 0) r.d r.e = true) ∧ (∀ p ∈ P, p.c = c.b + i → inB (l.getD i 0) p.d p.e = true) ∧
    (i ≠ 0 → (∀ r ∈ R, r.c ≠ c.b + i) → inB (l.getD i 0) (l.getD (i - 1) 0) (l.getD (i - 1) 0 + c.e) = true) := by
  unfold posI at h
  simp only [Bool.and_eq_true, List.all_eq_true, Bool.or_eq_true, Bool.not_eq_true', decide_eq_false_iff_not, decide_eq_true_eq, List.any_eq_true, beq_iff_eq, beq_eq_false_iff_ne, ne_eq] at h
  obtain ⟨⟨⟨a, b⟩, d⟩, e⟩ := h
  refine ⟨fun h0 => a.resolve_left (fun k => k h0), fun r hr hc => (b r hr).resolve_left (fun k => k hc), fun p hp hc => (d p hp).resolve_left (fun k => k hc), fun h0 hn => ?_⟩
  rcases e with (e | ⟨r, hr, hc⟩) | e
  · exact absurd e h0
  · exact absurd hc (hn r hr)
  · exact e
theorem pos_of {P R : List Five} {c : Five} {l : List Int} {i : Nat} (a : i = 0 → inB (l.getD i 0) c.c c.d = true) (b : ∀ r ∈ R, r.c = c.b + i → inB (l.getD i 0) r.d r.e = true) (d : ∀ p ∈ P, p.c = c.b + i → inB (l.getD i 0) p.d p.e = true)
    (e : i ≠ 0 → (∀ r ∈ R, r.c ≠ c.b + i) → inB (l.getD i 0) (l.getD (i - 1) 0) (l.getD (i - 1) 0 + c.e) = true) : posI P R c l i = true := by
  unfold posI
  simp only [Bool.and_eq_true, List.all_eq_true, Bool.or_eq_true, Bool.not_eq_true', decide_eq_false_iff_not, decide_eq_true_eq, List.any_eq_true, beq_iff_eq, beq_eq_false_iff_ne, ne_eq]
  refine ⟨⟨⟨?_, fun r hr => ?_⟩, fun p hp => ?_⟩, ?_⟩
  · by_cases h : i = 0
    · exact .inr (a h)
    · exact .inl h
  · by_cases h : r.c = c.b + i
    · exact .inr (b r hr h)
    · exact .inl h
  · by_cases h : p.c = c.b + i
    · exact .inr (d p hp h)
    · exact .inl h
  · by_cases h : i = 0
    · exact .inl (.inl h)
    · by_cases h2 : ∃ r ∈ R, r.c = c.b + i
      · exact .inl (.inr h2)
      · exact .inr (e h (fun r hr hc => h2 ⟨r, hr, hc⟩))
/-- lengths that are possible by the words are a history -/
theorem TinyIs.hist (h : TinyIs C P R c) (hl : c.b + l.length = 4001) (hr : ∀ i, i < l.length → 9000 ≤ l.getD i 0 ∧ l.getD i 0 ≤ 12000) (hp : posB P R c l = true) : Hist C P R c l.length l := by
  have hall : ∀ i, i < l.length → posI P R c l i = true := by
    unfold posB at hp
    rw [List.all_eq_true] at hp
    exact fun i hi => hp i (List.mem_range.2 hi)
  have hc := h.chain_ok
  refine ⟨h.good, h.find, ⟨by omega, by omega⟩, fun r hr _ => ?_, fun y h1 h2 => ?_, fun y h1 h2 hs => ?_, fun y t h1 h2 ht => ?_⟩
  · have := h.rep_ok r hr; omega
  · obtain ⟨i, rfl⟩ : ∃ i : Nat, y = c.b + i := ⟨(y - c.b).toNat, by omega⟩
    rw [← tAt_at]
    exact hr i (by omega)
  · obtain ⟨i, rfl⟩ : ∃ i : Nat, y = c.b + ((i + 1 : Nat) : Int) := ⟨(y - c.b - 1).toNat, by omega⟩
    have hp4 := (pos_parts (hall (i + 1) (by omega))).2.2.2 (by omega) (fun r hr hc2 => hs ((h.starts (by omega) (by omega)).2 (.inr ⟨r, hr, hc2⟩)))
    rw [← tAt_at, show c.b + ((i + 1 : Nat) : Int) - 1 = c.b + (i : Int) by omega, ← tAt_at]
    rw [show i + 1 - 1 = i by omega] at hp4
    exact inB_iff.1 hp4
  · have hsl := spell_le (R := R) h1 (show y ≤ 4000 by omega)
    unfold innZ at ht
    rcases List.mem_append.1 ht with ht | ht
    · split at ht
      · rename_i hs
        obtain rfl := List.mem_singleton.1 ht
        have := (pos_parts (hall 0 (by omega))).1 rfl
        rw [tAt_at l c 0] at this
        simp only [Int.natCast_zero, Int.add_zero] at this
        exact ⟨⟨Int.le_refl _, by show c.b < _; omega⟩, ⟨by show _ ≤ c.b; omega, by show c.b ≤ _; omega⟩, inB_iff.1 this⟩
      · simp at ht
    · obtain ⟨q, hq, rfl⟩ := List.mem_map.1 ht
      obtain ⟨hq, hk⟩ := List.mem_filter.1 hq
      simp only [Bool.and_eq_true, beq_iff_eq, inB_iff] at hk
      have hqr : c.b ≤ q.c ∧ q.c ≤ 4000 := by
        rcases List.mem_append.1 hq with hq | hq
        · have := h.pro_ok q hq; omega
        · have := h.rep_ok q hq; omega
      obtain ⟨i, hi⟩ : ∃ i : Nat, q.c = c.b + i := ⟨(q.c - c.b).toNat, by omega⟩
      have hin : inB (l.getD i 0) q.d q.e = true := by
        rcases List.mem_append.1 hq with hq | hq
        · exact (pos_parts (hall i (by omega))).2.2.1 q hq hi
        · exact (pos_parts (hall i (by omega))).2.1 q hq hi
      rw [tAt_at l c i, ← hi] at hin
      exact ⟨⟨hqr.1, by show q.c < _; omega⟩, hk.2, inB_iff.1 hin⟩
/-- what Fits takes is possible by the words -/
theorem TinyIs.of_fit (h : TinyIs C P R c) (hl : c.b + l.length = 4001) (hf : ∀ i, i < l.length → fitB P R c c.b l i = true) : posB P R c l = true := by
  have hc := h.chain_ok
  refine posB_true fun i hi => ?_
  have h1 := hf i hi
  unfold fitB at h1
  rw [Bool.and_eq_true, inB_iff] at h1
  obtain ⟨⟨h2, h3⟩, h4⟩ := h1
  have hsl := spell_le (R := R) (c := c) (y := c.b + i) (by omega) (by omega)
  have hlo := (limLo_iff (w := c.e) (y := c.b + i) (l := innZ P R c (spellZ R c (c.b + i)))).1 (Int.le_refl _)
  have hhi := (limHi_iff (w := c.e) (y := c.b + i) (l := innZ P R c (spellZ R c (c.b + i)))).1 (Int.le_refl _)
  have key : ∀ t ∈ innZ P R c (spellZ R c (c.b + i)), t.y = c.b + i → t.lo ≤ l.getD i 0 ∧ l.getD i 0 ≤ t.hi := by
    intro t ht hy
    have a := hlo.2 t ht
    have b := hhi.2 t ht
    unfold loZ at a
    unfold hiZ at b
    rw [hy, Int.sub_self] at a b
    simp only [Int.max_self, Int.mul_zero, Int.sub_zero, Int.add_zero] at a b
    omega
  have mem : ∀ q ∈ P ++ R, q.b = c.a → q.c = c.b + i → (⟨q.a, q.c, q.d, q.e⟩ : Four) ∈ innZ P R c (spellZ R c (c.b + i)) := by
    intro q hq hb hc2
    unfold innZ
    refine List.mem_append.2 (.inr (List.mem_map.2 ⟨q, List.mem_filter.2 ⟨hq, ?_⟩, rfl⟩))
    simp only [Bool.and_eq_true, beq_iff_eq, inB_iff]
    exact ⟨hb, by omega, by omega⟩
  refine pos_of (fun h0 => ?_) (fun r hr hc2 => ?_) (fun p hp hc2 => ?_) (fun h0 hn => ?_)
  · subst h0
    have hs : (spellZ R c c.b).1 = c.b := (h.starts (Int.le_refl _) hc.1.2).2 (.inl rfl)
    have := key ⟨0, c.b, c.c, c.d⟩ (by
      unfold innZ
      simp only [Int.natCast_zero, Int.add_zero]
      rw [if_pos hs]
      exact List.mem_append.2 (.inl (List.mem_singleton.2 rfl))) (by simp)
    exact inB_iff.2 this
  · exact inB_iff.2 (key _ (mem r (List.mem_append.2 (.inr hr)) (h.rep_ok r hr).1 hc2) hc2)
  · exact inB_iff.2 (key _ (mem p (List.mem_append.2 (.inl hp)) (h.pro_ok p hp).1 hc2) hc2)
  · simp only [Bool.or_eq_true, decide_eq_true_eq] at h4
    rcases h4 with (h4 | h4) | h4
    · exact absurd h4 h0
    · rcases (h.starts (by omega) (by omega)).1 h4 with e | ⟨r, hr, e⟩
      · omega
      · exact absurd e (hn r hr)
    · exact h4
end
end Go.Proofs.Ytaggjclaehigjaa
namespace Go.Proofs.Ytaggjclaehigjaa
theorem fitZ_inv {P R : List Five} {c : Five} {Y : Int} {L : List Int} (h : (fitZ P R c Y L).2 = true) : ∀ i, i < L.length → fitB P R c Y L i = true := by
  unfold fitZ at h
  cases hf : (List.range L.length).find? (fun i => !fitB P R c Y L i) with
  | none =>
    intro i hi
    have := List.find?_eq_none.1 hf i (List.mem_range.2 hi)
    simpa using this
  | some i => rw [hf] at h; simp at h
section
variable {C P R : List Five} {c : Five} {l : List Int}
/-- Fits takes just what is possible by the words -/
theorem TinyIs.fits (h : TinyIs C P R c) (hl : c.b + l.length = 4001) (hr : ∀ i, i < l.length → 9000 ≤ l.getD i 0 ∧ l.getD i 0 ≤ 12000) : (fitsR C P R c.a c.b l).2 = posB P R c l := by
  have hc := h.chain_ok
  have hn : l ≠ [] := by
    intro e
    rw [e] at hl
    simp at hl
    omega
  rw [fits_good h.find h.chk hn (Int.le_refl _) hc.1.2 (by omega)]
  cases hp : posB P R c l
  · cases hcl : fitCl P R c
    · rw [if_neg (by decide)]
      cases hz : (fitZ P R c c.b l).2
      · rfl
      · have := h.of_fit hl (fitZ_inv hz)
        rw [hp] at this
        cases this
    · rfl
  · have hh := h.hist hl hr hp
    rw [hh.free, if_neg (by decide), fitZ_all (fun j hj => hh.fit hj)]
theorem TinyIs.hi_le (h : TinyIs C P R c) {y : Int} (h1 : c.b ≤ y) (h2 : y ≤ 4000) : hiY P R c y ≤ 9012 := by
  have hc := h.chain_ok
  have hsl := spell_le (R := R) h1 h2
  have hhi := (limHi_iff (w := c.e) (y := y) (l := innZ P R c (spellZ R c y))).1 (Int.le_refl _)
  have key : ∀ t ∈ innZ P R c (spellZ R c y), t.y = (spellZ R c y).1 → t.hi ≤ 9006 → hiY P R c y ≤ 9012 := by
    intro t ht hy hh
    have b := hhi.2 t ht
    have b2 : hiY P R c y ≤ hiZ c.e y t := b
    unfold hiZ at b2
    have m := Int.mul_le_mul (show c.e ≤ 2 by omega) (show max 0 (y - t.y) ≤ 3 by omega) (by omega) (by omega)
    omega
  obtain ⟨⟨p1, p2, p3⟩, _⟩ := spell_law c y R (c.b, 4000)
  rcases p3 with p3 | ⟨r, hr, hb, hy, e2⟩
  · have e : (spellZ R c y).1 = c.b := p3
    exact key ⟨0, c.b, c.c, c.d⟩ (by unfold innZ; rw [if_pos e]; exact List.mem_append.2 (.inl (List.mem_singleton.2 rfl))) e.symm hc.2.1.2.2
  · have e : (spellZ R c y).1 = r.c := e2
    have hro := h.rep_ok r hr
    exact key ⟨r.a, r.c, r.d, r.e⟩ (by
      unfold innZ
      refine List.mem_append.2 (.inr (List.mem_map.2 ⟨r, List.mem_filter.2 ⟨List.mem_append.2 (.inr hr), ?_⟩, rfl⟩))
      simp only [Bool.and_eq_true, beq_iff_eq, inB_iff]
      exact ⟨hb, by omega, by omega⟩) e.symm hro.2.2.2.2.2
/-- where nothing contradicts itself: the ends of Long are possible -/
theorem TinyIs.sharp (h : TinyIs C P R c) (hcl : fitCl P R c = false) {n : Nat} (hn : c.b + n = 4001) {f : Int → Int} (hf : f = loY P R c ∨ f = hiY P R c) :
    posB P R c (lens f c.b n) = true ∧ ∀ i, i < n → 9000 ≤ (lens f c.b n).getD i 0 ∧ (lens f c.b n).getD i 0 ≤ 9012 := by
  have hc := h.chain_ok
  have hlen := lens_len f c.b n
  have hfz := sharp_fit h.good h.find hcl (Y := c.b) (n := n) (Int.le_refl _) (by omega) hf
  refine ⟨h.of_fit (by rw [hlen]; exact hn) (fitZ_inv (by rw [hfz])), fun i hi => ?_⟩
  rw [lens_at hi]
  have y1 : c.b ≤ c.b + (i : Int) := by omega
  have y2 : c.b + (i : Int) ≤ 4000 := by omega
  have hsl := spell_le (R := R) y1 y2
  have hok := (innZ_ok h.good h.find (P := P) (R := R) hsl.1 (by omega : (spellZ R c (c.b + i)).1 ≤ (spellZ R c (c.b + i)).2)).1
  have hle : loY P R c (c.b + i) ≤ hiY P R c (c.b + i) := lim_le (y := c.b + i) hc.2.2.1 hok (no_clash hcl y1 y2)
  have h9 : 9000 ≤ loY P R c (c.b + i) := le_limLo _ _ _ _
  have h12 := h.hi_le y1 y2
  rcases hf with rfl | rfl <;> omega
/-- each possible length lies between the ends of Long -/
theorem TinyIs.between (h : TinyIs C P R c) (hl : c.b + l.length = 4001) (hr : ∀ i, i < l.length → 9000 ≤ l.getD i 0 ∧ l.getD i 0 ≤ 12000) (hp : posB P R c l = true) {i : Nat} (hi : i < l.length) : loY P R c (c.b + i) ≤ l.getD i 0 ∧ l.getD i 0 ≤ hiY P R c (c.b + i) := by
  have := (h.hist hl hr hp).lim (y := c.b + i) (by omega) (by omega)
  rw [← tAt_at] at this
  exact this
theorem sorted_tt (l : List Th) : ∃ ts : List Th, ts.Perm l ∧ SortedT ts := by
  refine ⟨l.mergeSort (fun s t => !decide (cmpT t s < 0)), List.mergeSort_perm _ _, ?_⟩
  have tr : ∀ x y z : Th, (!decide (cmpT y x < 0)) = true → (!decide (cmpT z y < 0)) = true → (!decide (cmpT z x < 0)) = true := by
    intro x y z h1 h2
    simp only [Bool.not_eq_true', decide_eq_false_iff_not, cmpT_neg] at *
    omega
  have tot : ∀ x y : Th, ((!decide (cmpT y x < 0)) || (!decide (cmpT x y < 0))) = true := by
    intro x y
    simp only [Bool.or_eq_true, Bool.not_eq_true', decide_eq_false_iff_not, cmpT_neg]
    omega
  have := List.pairwise_mergeSort tr tot l
  unfold SortedT
  refine this.imp ?_
  intro a b h
  simpa using h
/-- the pairs of Clashes and the spells -/
theorem TinyIs.pairs (h : TinyIs C P R c) : clsL C P R (clF P R) = [] ↔ fitCl P R c = false := by
  have g := h.good
  have hf := h.find
  obtain ⟨ts, hp, hs⟩ := sorted_tt (thAll P R c)
  have hc : ClC P R c (sortP (prS (splitS c.e ts))) := ⟨ts, hp, hs, rfl⟩
  have e1 : clsL C P R (clF P R) = sortP (prS (splitS c.e ts)) := by
    unfold clsL
    rw [if_pos h.chk, h.one]
    simp only [List.flatMap_cons, List.flatMap_nil, List.append_nil]
    exact (clF_eq g hf hc).symm
  have e2 : sortP (prS (splitS c.e ts)) = [] ↔ prS (splitS c.e ts) = [] := by
    have hl : (sortP (prS (splitS c.e ts))).length = (prS (splitS c.e ts)).length := (List.mergeSort_perm _ _).length_eq
    constructor
    · intro e
      rw [e] at hl
      exact List.eq_nil_of_length_eq_zero hl.symm
    · intro e
      rw [e] at hl
      rw [e]
      exact List.eq_nil_of_length_eq_zero (List.mergeSort_perm _ _).length_eq
  rw [e1, e2]
  unfold prS
  rw [List.flatMap_eq_nil_iff]
  constructor
  · intro hn
    unfold fitCl
    rw [List.any_eq_false]
    intro y hy
    obtain ⟨h1, h2⟩ := starts_rng g hf y hy
    obtain ⟨k, s, e1, e2, e3, e4, e5, e6⟩ := spells_pick g hf hp hs h1 h2
    have h3 := pairsOf_nil.1 (hn s (List.mem_of_getElem? e1))
    rw [e5, clashesB_perm e6, e4] at h3
    rw [h3]
    decide
  · intro hcl s hsm
    obtain ⟨k, hk, rfl⟩ := List.getElem_of_mem hsm
    obtain ⟨y, h1, h2, h3, h4, h5⟩ := spell_at2 g hf hp hs hk
    rw [pairsOf_nil, h4, clashesB_perm h5]
    exact no_clash hcl h1 h2
theorem TinyIs.long (h : TinyIs C P R c) (hcl : fitCl P R c = false) {y : Int} (h1 : c.b ≤ y) (h2 : y ≤ 4000) : longR C P R c.a y = ((loY P R c y, hiY P R c y), 0) := by
  have hat : atE C P R c.a y = 0 := by
    unfold atE
    rw [if_pos h.chk, h.find]
    simp only
    rw [if_pos (inB_iff.2 ⟨h1, h2⟩)]
  have e : agE C P R c.a y = 0 := by
    rw [agE_at hat h.find, no_clash hcl h1 h2]
    rfl
  unfold longR
  rw [if_pos e, h.find]
  rfl
end
end Go.Proofs.Ytaggjclaehigjaa
namespace Go.Proofs.Ytaggjclaehigjaa
/-- the lengths of a code: its digits by thirteens -/
def dig (n code : Nat) : List Int := (List.range n).map (fun i : Nat => 9000 + ((code / 13 ^ i % 13 : Nat) : Int))
theorem dig_len (n code : Nat) : (dig n code).length = n := by simp [dig]
theorem dig_at {n code i : Nat} (h : i < n) : (dig n code).getD i 0 = 9000 + ((code / 13 ^ i % 13 : Nat) : Int) := by
  rw [List.getD_eq_getElem?_getD, List.getElem?_eq_getElem (by simpa [dig] using h)]
  simp [dig]
theorem dig_succ (n code : Nat) : dig (n + 1) code = (9000 + ((code % 13 : Nat) : Int)) :: dig n (code / 13) := by
  unfold dig
  rw [List.range_succ_eq_map, List.map_cons, List.map_map]
  congr 1
  · simp
  · apply List.map_congr_left
    intro i _
    show 9000 + ((code / 13 ^ (i + 1) % 13 : Nat) : Int) = _
    rw [Nat.pow_succ', ← Nat.div_div_eq_div_mul]
theorem dig_rng (n code : Nat) : ∀ x ∈ dig n code, 9000 ≤ x ∧ x ≤ 9012 := by
  intro x hx
  unfold dig at hx
  obtain ⟨i, _, rfl⟩ := List.mem_map.1 hx
  have := Nat.mod_lt (code / 13 ^ i) (show 0 < 13 by decide)
  omega
/-- each list with lengths up to 9012 has a code -/
theorem dig_all : ∀ (l : List Int), (∀ x ∈ l, 9000 ≤ x ∧ x ≤ 9012) → ∃ code, code < 13 ^ l.length ∧ dig l.length code = l := by
  intro l
  induction l with
  | nil => intro _; exact ⟨0, by decide, rfl⟩
  | cons x r ih =>
    intro h
    obtain ⟨code, h1, h2⟩ := ih (fun y hy => h y (List.mem_cons_of_mem _ hy))
    have hx := h x List.mem_cons_self
    obtain ⟨d, hd⟩ : ∃ d : Nat, x = 9000 + (d : Int) := ⟨(x - 9000).toNat, by omega⟩
    have hd2 : d < 13 := by omega
    refine ⟨d + 13 * code, ?_, ?_⟩
    · rw [List.length_cons, Nat.pow_succ]
      omega
    · rw [List.length_cons, dig_succ, show (d + 13 * code) % 13 = d by omega, show (d + 13 * code) / 13 = code by omega, h2, ← hd]
end Go.Proofs.Ytaggjclaehigjaa
namespace Go.Proofs.Ytaggjclaehigjaa
/-- the first i elements are taken together with another list's -/
def uptoL (f : Int → Int → Int) (n i : Nat) (A L : List Int) : List Int := (List.range n).map (fun j => if j < i then f (A.getD j 0) (L.getD j 0) else A.getD j 0)
theorem uptoL_len (f : Int → Int → Int) (n i : Nat) (A L : List Int) : (uptoL f n i A L).length = n := by simp [uptoL]
theorem uptoL_at {f : Int → Int → Int} {n i j : Nat} {A L : List Int} (h : j < n) : (uptoL f n i A L).getD j 0 = if j < i then f (A.getD j 0) (L.getD j 0) else A.getD j 0 := by
  unfold uptoL
  rw [List.getD_eq_getElem?_getD, List.getElem?_eq_getElem (by simpa using h)]
  simp
theorem uptoL_zero {f : Int → Int → Int} {n : Nat} {A L : List Int} (h : A.length = n) : uptoL f n 0 A L = A := by
  apply List.ext_getElem
  · rw [uptoL_len, h]
  · intro j h1 h2
    have := uptoL_at (f := f) (i := 0) (A := A) (L := L) (show j < n by omega)
    rw [List.getD_eq_getElem?_getD, List.getElem?_eq_getElem h1] at this
    simp only [Option.getD_some] at this
    rw [this, if_neg (by omega), List.getD_eq_getElem?_getD, List.getElem?_eq_getElem h2]
    rfl
theorem uptoL_set {f : Int → Int → Int} {n i : Nat} {A L : List Int} (_h : i < n) : (uptoL f n i A L).set i (f (A.getD i 0) (L.getD i 0)) = uptoL f n (i + 1) A L := by
  apply List.ext_getElem
  · rw [List.length_set, uptoL_len, uptoL_len]
  · intro j h1 h2
    rw [uptoL_len] at h2
    rw [List.getElem_set]
    simp only [uptoL, List.getElem_map, List.getElem_range]
    by_cases e : i = j
    · subst e
      rw [if_pos rfl, if_pos (by omega)]
    · rw [if_neg e]
      by_cases g : j < i
      · rw [if_pos g, if_pos (by omega)]
      · rw [if_neg g, if_neg (by omega)]
section
variable (P R : List Five) (c : Five) (n : Nat)
def NoneYet (k : Nat) : Prop := ∀ j, j < k → posB P R c (dig n j) = false
structure MostIs (k : Nat) (Lo Hi : List Int) : Prop where
  lenL : Lo.length = n
  lenH : Hi.length = n
  some : ∃ j, j < k ∧ posB P R c (dig n j) = true
  lo : ∀ i, i < n → ∃ j, j < k ∧ posB P R c (dig n j) = true ∧ (dig n j).getD i 0 = Lo.getD i 0
  hi : ∀ i, i < n → ∃ j, j < k ∧ posB P R c (dig n j) = true ∧ (dig n j).getD i 0 = Hi.getD i 0
  all : ∀ i, i < n → ∀ j, j < k → posB P R c (dig n j) = true → Lo.getD i 0 ≤ (dig n j).getD i 0 ∧ (dig n j).getD i 0 ≤ Hi.getD i 0
end
section
variable {P R : List Five} {c : Five} {n k : Nat} {Lo Hi : List Int}
theorem NoneYet.zero : NoneYet P R c n 0 := fun j h => absurd h (by omega)
theorem NoneYet.skip (h : NoneYet P R c n k) (hp : posB P R c (dig n k) = false) : NoneYet P R c n (k + 1) := fun j hj => by
  by_cases e : j = k
  · rw [e]; exact hp
  · exact h j (by omega)
theorem MostIs.skip (h : MostIs P R c n k Lo Hi) (hp : posB P R c (dig n k) = false) : MostIs P R c n (k + 1) Lo Hi := by
  refine ⟨h.lenL, h.lenH, ?_, fun i hi => ?_, fun i hi => ?_, fun i hi j hj hq => ?_⟩
  · obtain ⟨j, a, b⟩ := h.some; exact ⟨j, by omega, b⟩
  · obtain ⟨j, a, b⟩ := h.lo i hi; exact ⟨j, by omega, b⟩
  · obtain ⟨j, a, b⟩ := h.hi i hi; exact ⟨j, by omega, b⟩
  · by_cases e : j = k
    · rw [e, hp] at hq; cases hq
    · exact h.all i hi j (by omega) hq
/-- what is known when the k-th list is possible: the ends of those ahead, or that list itself -/
def MostOr (P R : List Five) (c : Five) (n k : Nat) (Lo Hi : List Int) : Prop := (NoneYet P R c n k ∧ Lo = dig n k ∧ Hi = dig n k) ∨ MostIs P R c n k Lo Hi
theorem MostOr.lens (h : MostOr P R c n k Lo Hi) : Lo.length = n ∧ Hi.length = n := by
  rcases h with ⟨_, rfl, rfl⟩ | h
  · exact ⟨dig_len _ _, dig_len _ _⟩
  · exact ⟨h.lenL, h.lenH⟩
theorem MostOr.step (h : MostOr P R c n k Lo Hi) (hp : posB P R c (dig n k) = true) : MostIs P R c n (k + 1) (uptoL min n n Lo (dig n k)) (uptoL max n n Hi (dig n k)) := by
  refine ⟨uptoL_len _ _ _ _ _, uptoL_len _ _ _ _ _, ⟨k, by omega, hp⟩, fun i hi => ?_, fun i hi => ?_, fun i hi j hj hq => ?_⟩
  · rw [uptoL_at hi, if_pos hi]
    rcases h with ⟨_, rfl, _⟩ | h
    · exact ⟨k, by omega, hp, by rw [Int.min_self]⟩
    · obtain ⟨j, a, b, e⟩ := h.lo i hi
      rcases Int.le_total (Lo.getD i 0) ((dig n k).getD i 0) with g | g
      · exact ⟨j, by omega, b, by omega⟩
      · exact ⟨k, by omega, hp, by omega⟩
  · rw [uptoL_at hi, if_pos hi]
    rcases h with ⟨_, _, rfl⟩ | h
    · exact ⟨k, by omega, hp, by rw [Int.max_self]⟩
    · obtain ⟨j, a, b, e⟩ := h.hi i hi
      rcases Int.le_total (Hi.getD i 0) ((dig n k).getD i 0) with g | g
      · exact ⟨k, by omega, hp, by omega⟩
      · exact ⟨j, by omega, b, by omega⟩
  · rw [uptoL_at hi, if_pos hi, uptoL_at hi, if_pos hi]
    by_cases e : j = k
    · subst e; omega
    · rcases h with ⟨h, _, _⟩ | h
      · rw [h j (by omega)] at hq; cases hq
      · have := h.all i hi j (by omega) hq
        omega
end
section
variable {C P R : List Five} {c : Five} {n : Nat} {Lo Hi : List Int}
theorem dig_rng2 {n code : Nat} : ∀ i, i < (dig n code).length → 9000 ≤ (dig n code).getD i 0 ∧ (dig n code).getD i 0 ≤ 12000 := by
  intro i hi
  rw [List.getD_eq_getElem?_getD, List.getElem?_eq_getElem hi]
  have := dig_rng n code _ (List.getElem_mem hi)
  simp only [Option.getD_some]
  omega
theorem TinyIs.code (h : TinyIs C P R c) (hn : c.b + n = 4001) (hcl : fitCl P R c = false) {f : Int → Int} (hf : f = loY P R c ∨ f = hiY P R c) : ∃ j, j < 13 ^ n ∧ posB P R c (dig n j) = true ∧ dig n j = Go.Proofs.Ytaggjclaehigjaa.lens f c.b n := by
  obtain ⟨h1, h2⟩ := h.sharp hcl hn hf
  have hlen := lens_len f c.b n
  obtain ⟨j, h3, h4⟩ := dig_all (Go.Proofs.Ytaggjclaehigjaa.lens f c.b n) (fun x hx => by
    obtain ⟨i, hi, rfl⟩ := List.getElem_of_mem hx
    have := h2 i (by omega)
    rw [List.getD_eq_getElem?_getD, List.getElem?_eq_getElem hi] at this
    exact this)
  rw [hlen] at h3 h4
  exact ⟨j, h3, by rw [h4]; exact h1, h4⟩
/-- where none is possible the works contradict themselves -/
theorem TinyIs.none (h : TinyIs C P R c) (hn : c.b + n = 4001) (hN : NoneYet P R c n (13 ^ n)) : fitCl P R c = true := by
  cases hcl : fitCl P R c
  · obtain ⟨j, h1, h2, _⟩ := h.code hn hcl (.inl rfl)
    rw [hN j h1] at h2
    cases h2
  · rfl
/-- where some are possible their ends are those of Long -/
theorem TinyIs.most (h : TinyIs C P R c) (hn : c.b + n = 4001) (hM : MostIs P R c n (13 ^ n) Lo Hi) : fitCl P R c = false ∧ ∀ i, i < n → longR C P R c.a (c.b + i) = ((Lo.getD i 0, Hi.getD i 0), 0) := by
  have hcl : fitCl P R c = false := by
    obtain ⟨j, _, h2⟩ := hM.some
    exact (h.hist (by rw [dig_len]; exact hn) dig_rng2 h2).free
  refine ⟨hcl, fun i hi => ?_⟩
  rw [h.long hcl (by omega) (by omega)]
  have lo1 : loY P R c (c.b + i) = Lo.getD i 0 := by
    obtain ⟨j, h1, h2, h3⟩ := h.code hn hcl (.inl rfl)
    have a := (hM.all i hi j h1 h2).1
    rw [h3, lens_at hi] at a
    obtain ⟨k, g1, g2, g3⟩ := hM.lo i hi
    have b := (h.between (l := dig n k) (by rw [dig_len]; exact hn) dig_rng2 g2 (i := i) (by rw [dig_len]; exact hi)).1
    omega
  have hi1 : hiY P R c (c.b + i) = Hi.getD i 0 := by
    obtain ⟨j, h1, h2, h3⟩ := h.code hn hcl (.inr rfl)
    have a := (hM.all i hi j h1 h2).2
    rw [h3, lens_at hi] at a
    obtain ⟨k, g1, g2, g3⟩ := hM.hi i hi
    have b := (h.between (l := dig n k) (by rw [dig_len]; exact hn) dig_rng2 g2 (i := i) (by rw [dig_len]; exact hi)).2
    omega
  rw [lo1, hi1]
end
end Go.Proofs.Ytaggjclaehigjaa
namespace Go.Proofs.Ytaggjclaehigjaa
open Go.RowKit
theorem Own.kx2 {α : Type} {T k : Nat} {enc : α → List Value} {base R a n c : Nat} {w w' : World} {l : List α} (h : Own T k enc base w (.slice (some ⟨a, 0, none⟩) n c) l) (x : KX R w w') (hne : a ≠ R) : Own T k enc base w' (.slice (some ⟨a, 0, none⟩) n c) l := by
  obtain ⟨h1, h2⟩ := h
  refine ⟨h1, ?_⟩
  rcases h2 with ⟨h3, _⟩ | ⟨g, cap, cur, hv, hb, hg, r⟩
  · cases h3
  · have hga : a = g := by injection hv with e1 _ _; injection e1 with e1; injection e1
    subst hga
    exact .inr ⟨a, cap, cur, hv, hb, (x.2 a (Array.getElem?_eq_some_iff.1 hg).1 hne).trans hg, r⟩
theorem Own.set2 {base : Nat} {w : World} {g cap n i : Nat} {x : Int} {l : List Int} (h : Own 3 1 enc1 base w (.slice (some ⟨g, 0, none⟩) n cap) l) (hn : l.length = n) : Own 3 1 enc1 base (w.setCell ⟨g, i, none⟩ (.int .i64 x)) (.slice (some ⟨g, 0, none⟩) n cap) (l.set i x) := by
  subst hn
  have := Own.set1 (i := i) (x := x) h
  rw [List.length_set] at this
  exact this
theorem Own.block2 {base : Nat} {w : World} {g n cap : Nat} {l : List Int} (h : Own 3 1 enc1 base w (.slice (some ⟨g, 0, none⟩) n cap) l) (hn : l.length = n) (h0 : 0 < n) : base ≤ g ∧ g < w.heap.size ∧ (∃ cs, w.heap[g]? = some (.cells cs 3)) ∧ ∀ i, i < n → w.cell? ⟨g, i, none⟩ = some (.int .i64 (l.getD i 0)) := by
  subst hn
  obtain ⟨g', cap', e, h1, h2, h3, h4⟩ := h.block1 (fun e => by rw [e] at h0; exact absurd h0 (by decide))
  cases e
  refine ⟨h1, h2, h3, fun i hi => ?_⟩
  rw [h4 i hi, List.getD_eq_getElem?_getD, List.getElem?_eq_getElem hi]
  rfl
theorem Own.sl2 {base : Nat} {w : World} {v : Value} {l : List Int} (h : Own 3 1 enc1 base w v l) : Ints w v l := h.sl enc1_len
/-- an empty row of ints of its own -/
theorem own_empty1 (w : World) (base : Nat) (hb : base ≤ w.heap.size) : Own 3 1 enc1 base (w.alloc (.cells #[] 3)) (.slice (some ⟨w.heap.size, 0, none⟩) 0 0) [] :=
  ⟨rfl, Or.inr ⟨w.heap.size, 0, #[], rfl, hb, World.alloc_heap_new w _, Nat.le_refl _, by simp [maxLen], rfl, rfl⟩⟩
/-- the row of an appended list that is not empty -/
theorem Own.form1 {base : Nat} {w : World} {v : Value} {l : List Int} {n : Nat} (h : Own 3 1 enc1 base w v l) (hn : l.length = n) (h0 : 0 < n) : ∃ a ca, v = .slice (some ⟨a, 0, none⟩) n ca ∧ base ≤ a ∧ a < w.heap.size := by
  subst hn
  obtain ⟨g', cap', e, h1, h2, _⟩ := h.block1 (fun e => by rw [e] at h0; exact absurd h0 (by decide))
  exact ⟨g', cap', e, h1, h2⟩
/-- the least and the greatest lengths lie in rows of their own -/
def LM (base g n : Nat) (w : World) (u v : Value) (Lo Hi : List Int) : Prop :=
  ∃ a ca b cb, u = .slice (some ⟨a, 0, none⟩) n ca ∧ v = .slice (some ⟨b, 0, none⟩) n cb ∧ (a ≠ g ∧ b ≠ g ∧ a ≠ b) ∧ Own 3 1 enc1 base w (.slice (some ⟨a, 0, none⟩) n ca) Lo ∧ Own 3 1 enc1 base w (.slice (some ⟨b, 0, none⟩) n cb) Hi
theorem LM.kx {base g n : Nat} {w w' : World} {u v : Value} {Lo Hi : List Int} (h : LM base g n w u v Lo Hi) (x : KX g w w') : LM base g n w' u v Lo Hi := by
  obtain ⟨a, ca, b, cb, h1, h2, ⟨h3, h4, h5⟩, h6, h7⟩ := h
  exact ⟨a, ca, b, cb, h1, h2, ⟨h3, h4, h5⟩, h6.kx2 x h3, h7.kx2 x h4⟩
theorem LM.ext {base g n : Nat} {w w' : World} {u v : Value} {Lo Hi : List Int} (h : LM base g n w u v Lo Hi) (x : Ext w w') : LM base g n w' u v Lo Hi := by
  obtain ⟨a, ca, b, cb, h1, h2, h3, h6, h7⟩ := h
  exact ⟨a, ca, b, cb, h1, h2, h3, h6.ext x, h7.ext x⟩
def sndF (_ b : Int) : Int := b
theorem uptoL_snd {n k : Nat} {A : List Int} : uptoL sndF n n A (dig n k) = dig n k := by
  apply List.ext_getElem
  · rw [uptoL_len, dig_len]
  · intro j h1 h2
    have hj : j < n := by rw [uptoL_len] at h1; exact h1
    have e := uptoL_at (f := sndF) (i := n) (A := A) (L := dig n k) hj
    rw [if_pos hj] at e
    have e2 : (uptoL sndF n n A (dig n k)).getD j 0 = (dig n k).getD j 0 := e
    rw [List.getD_eq_getElem?_getD, List.getElem?_eq_getElem h1, List.getD_eq_getElem?_getD, List.getElem?_eq_getElem h2] at e2
    exact e2
theorem dig_step {n k j : Nat} {A : List Int} (h : j < n) : (uptoL sndF n j A (dig n k)).set j (9000 + ((k / 13 ^ j % 13 : Nat) : Int)) = uptoL sndF n (j + 1) A (dig n k) := by
  rw [← uptoL_set h, ← dig_at h]
  rfl
theorem div_step (k j : Nat) : k / 13 ^ j / 13 = k / 13 ^ (j + 1) := by
  rw [Nat.div_div_eq_div_mul, Nat.pow_succ]
theorem eql_nil_no (b n c : Nat) (w : World) : (binOp .eql 44 (.slice (some ⟨b, 0, none⟩) n c) (.slice none 0 0)).run Try.prog w = .ok (.bool false) w := by kernel_rfl
theorem eql_nil_yes (w : World) : (binOp .eql 44 (.slice none 0 0) (.slice none 0 0)).run Try.prog w = .ok (.bool true) w := by kernel_rfl
/-- the state of the great loop -/
def Counted (P R : List Five) (c : Five) (base g n k : Nat) (w : World) (u v : Value) : Prop :=
  (u = .slice none 0 0 ∧ v = .slice none 0 0 ∧ NoneYet P R c n k) ∨ ∃ Lo Hi, LM base g n w u v Lo Hi ∧ MostIs P R c n k Lo Hi
theorem Counted.kx {P R : List Five} {c : Five} {base g n k : Nat} {w w' : World} {u v : Value} (h : Counted P R c base g n k w u v) (x : KX g w w') : Counted P R c base g n k w' u v := by
  rcases h with h | ⟨Lo, Hi, h1, h2⟩
  · exact .inl h
  · exact .inr ⟨Lo, Hi, h1.kx x, h2⟩
theorem Counted.ext {P R : List Five} {c : Five} {base g n k : Nat} {w w' : World} {u v : Value} (h : Counted P R c base g n k w u v) (x : Ext w w') : Counted P R c base g n k w' u v := by
  rcases h with h | ⟨Lo, Hi, h1, h2⟩
  · exact .inl h
  · exact .inr ⟨Lo, Hi, h1.ext x, h2⟩
theorem Counted.skip {P R : List Five} {c : Five} {base g n k : Nat} {w : World} {u v : Value} (h : Counted P R c base g n k w u v) (hp : posB P R c (dig n k) = false) : Counted P R c base g n (k + 1) w u v := by
  rcases h with ⟨h1, h2, h3⟩ | ⟨Lo, Hi, h1, h2⟩
  · exact .inl ⟨h1, h2, h3.skip hp⟩
  · exact .inr ⟨Lo, Hi, h1, h2.skip hp⟩
theorem two_set {base g n m a ca b cb : Nat} {w : World} {Lo Hi D : List Int} {x y : Int} (hm : m < n) (hne : a ≠ g ∧ b ≠ g ∧ a ≠ b) (ha : Own 3 1 enc1 base w (.slice (some ⟨a, 0, none⟩) n ca) (uptoL min n m Lo D)) (hb : Own 3 1 enc1 base w (.slice (some ⟨b, 0, none⟩) n cb) (uptoL max n m Hi D))
    (hO : Own 3 1 enc1 base w (.slice (some ⟨g, 0, none⟩) n n) D) (hx : x = min (Lo.getD m 0) (D.getD m 0)) (hy : y = max (Hi.getD m 0) (D.getD m 0)) :
    Own 3 1 enc1 base ((w.setCell ⟨a, m, none⟩ (.int .i64 x)).setCell ⟨b, m, none⟩ (.int .i64 y)) (.slice (some ⟨g, 0, none⟩) n n) D ∧ LM base g n ((w.setCell ⟨a, m, none⟩ (.int .i64 x)).setCell ⟨b, m, none⟩ (.int .i64 y)) (.slice (some ⟨a, 0, none⟩) n ca) (.slice (some ⟨b, 0, none⟩) n cb) (uptoL min n (m + 1) Lo D) (uptoL max n (m + 1) Hi D) := by
  subst hx hy
  refine ⟨(hO.kx2 ((KX.refl a w).set _ _) hne.1.symm).kx2 ((KX.refl b _).set _ _) hne.2.1.symm, a, ca, b, cb, rfl, rfl, hne, ?_, ?_⟩
  · rw [← uptoL_set hm]
    exact (ha.set2 (uptoL_len _ _ _ _ _)).kx2 ((KX.refl b _).set _ _) hne.2.2
  · rw [← uptoL_set hm]
    exact (hb.kx2 ((KX.refl a w).set _ _) hne.2.2.symm).set2 (uptoL_len _ _ _ _ _)
theorem Counted.test {P R : List Five} {c : Five} {base g n k : Nat} {w : World} {u v : Value} (h : Counted P R c base g n k w u v) : ∃ t : Bool, (∀ w', (binOp .eql 44 u (.slice none 0 0)).run Try.prog w' = .ok (.bool t) w') ∧ (∀ o1 o2 w', (eqGuard .eql 44 o1 o2 u (.slice none 0 0)).run Try.prog w' = .ok () w') ∧ ((t = true ∧ u = .slice none 0 0 ∧ v = .slice none 0 0 ∧ NoneYet P R c n k) ∨ (t = false ∧ ∃ Lo Hi, LM base g n w u v Lo Hi ∧ MostIs P R c n k Lo Hi)) := by
  rcases h with ⟨rfl, rfl, h3⟩ | ⟨Lo, Hi, h1, h2⟩
  · exact ⟨true, eql_nil_yes, fun _ _ _ => rfl, .inl ⟨rfl, rfl, rfl, h3⟩⟩
  · have h1' := h1
    obtain ⟨a, ca, b, cb, rfl, rfl, _⟩ := h1
    exact ⟨false, eql_nil_no a n ca, fun _ _ _ => rfl, .inr ⟨rfl, Lo, Hi, h1', h2⟩⟩
end Go.Proofs.Ytaggjclaehigjaa
