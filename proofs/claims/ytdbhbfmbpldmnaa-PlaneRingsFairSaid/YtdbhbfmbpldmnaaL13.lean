/- The walk of PlaneRingsFair: it returns true. -/
import Derived.Test.YtdbhbfmbpldmnaaJ8
import Derived.Test.YtdbhbfmbpldmnaaD8
import Derived.Test.YtdbhbfmbpldmnaaX8
namespace Go.Proofs.Ytdbhbfmbpldmnaa
open Go.RowKit Go.Sort
set_option maxRecDepth 100000 in
set_option maxHeartbeats 8000000 in
theorem turned_f (W : World) (v : Value) (l : List (Int × Int)) (w : World) (hX : Ext W w) (hv : Pts w v l) (h3 : 0 < l.length) (h200 : l.length ≤ 200) :
    Calls Try.prog 39 #[v, .bool false] w fun e w' => ∃ vv, e = .returned vv ∧ Pts w' vv (rotL l) ∧ Ext W w' := by
  obtain ⟨a0, cap, rfl, hl, hm, hc⟩ := hv
  obtain ⟨b, off, rfl, hcc⟩ := hc.resolve_left (by intro e; rw [e] at h3; simp at h3)
  have HC := Lib.hid hcc
  obtain ⟨n, hn⟩ : ∃ n, l.length = n := ⟨_, rfl⟩
  have HN := Lib.hid hn
  rw [hn] at hl h3 h200 ⊢
  clear hc hcc hn
  go_enter Try.func39, Try.ntmps39
  go_wp2_with fail
  go_loopw [5, 6] (fun u x wr => ∃ i : Nat, x = .int .i64 i ∧ i ≤ n ∧ Own w.heap.size wr u ((rotL l).take i) ∧ Ext w wr) (fun _ x _ => n - (intOf x).toNat)
  case atStart => exact ⟨0, rfl, Nat.zero_le _, Own.nil _ _, Ext.refl _⟩
  case round =>
    obtain ⟨i, rfl, hi, hown, hx⟩ := hrel
    have HO := Lib.hid hown
    clear hown
    by_cases hlt : i < n
    · have hltz : (i : Int) < (n : Int) := by omega
      skip
      · obtain ⟨m, hm⟩ : ∃ m, (i + 1) % n = m := ⟨_, rfl⟩
        have hE := HN.out
        have hmn : m < n := by rw [← hm]; exact Nat.mod_lt _ (by omega)
        have hml : m < l.length := by omega
        have hT : (rotL l)[i]'(by rw [rotL_len]; omega) = l[m] := by
          rw [← getD_at' (d := ((0, 0) : Int × Int)), rot_get l i (by omega), HN.out, hm, getD_at' hml]
        have f1 : ((i : Int) + 1).tmod (n : Int) = (m : Int) := by
          rw [Int.tmod_eq_emod_of_nonneg (by omega), ← hm]
          simp
        have f2 : ((i : Int) + 1) % (n : Int) = (m : Int) := by rw [← hm]; simp
        have f3 : IntKind.i64.wrap ((i : Int) + 1) = (i : Int) + 1 := by rw [IntKind.wrap_i64]; omega
        have f4 : IntKind.i64.wrap (m : Int) = (m : Int) := by rw [IntKind.wrap_i64]; omega
        have f5 : (m : Int) < (n : Int) := by omega
        obtain ⟨c0, c1⟩ := HC.out m hml
        obtain ⟨px, py, hp⟩ : ∃ x y, l[m] = (x, y) := ⟨_, _, rfl⟩
        rw [hp] at c0 c1 hT
        have d0 := hx.cell c0
        have d1 := hx.cell c1
        simp only at d0 d1
        have dl := lt_of_cell d0
        simp only at dl
        have hstep : (rotL l).take (i + 1) = (rotL l).take i ++ [(px, py)] := by
          rw [List.take_succ_eq_append_getElem (by rw [rotL_len]; omega), hT]
        have HST := Lib.hid hstep
        clear hm hp hT hstep c0 c1 hml hE
        go_wp2_with (at_builtin; refine app_pt rfl (.tmp 25) (.tmp 34) rfl w.heap.size _ _ rfl (Own.ext HO.out ((Ext.refl _).alloc _)) _ px py rfl ?c1 ?c2 ?c3 (hx.alloc _) (Nat.le_refl _) ?_)
        case c1 => go_simp
        case c2 => go_simp
        case c3 => rw [List.length_take]; have := Nat.min_le_left i (rotL l).length; omega
        intro v' w8 ho' hg' hext
        go_wp2_with fail
        rw [← HST.out] at ho'
        exact ⟨⟨i + 1, by simp, by omega, ho', hext w (Nat.le_refl _) (hx.alloc _)⟩, by simp [intOf]; omega⟩
    · obtain rfl : n = i := by omega
      go_wp2_with fail
      go_ret
      have q := HO.out.pts
      rw [List.take_of_length_le (by rw [rotL_len]; exact Nat.le_of_eq HN.out)] at q
      exact ⟨_, rfl, q, hX.trans hx⟩
set_option maxRecDepth 100000 in
set_option maxHeartbeats 8000000 in
theorem turned_t (W : World) (v : Value) (l : List (Int × Int)) (w : World) (hX : Ext W w) (hv : Pts w v l) (h3 : 0 < l.length) (h200 : l.length ≤ 200) :
    Calls Try.prog 39 #[v, .bool true] w fun e w' => ∃ vv, e = .returned vv ∧ Pts w' vv (l.reverse) ∧ Ext W w' := by
  obtain ⟨a0, cap, rfl, hl, hm, hc⟩ := hv
  obtain ⟨b, off, rfl, hcc⟩ := hc.resolve_left (by intro e; rw [e] at h3; simp at h3)
  have HC := Lib.hid hcc
  obtain ⟨n, hn⟩ : ∃ n, l.length = n := ⟨_, rfl⟩
  have HN := Lib.hid hn
  rw [hn] at hl h3 h200 ⊢
  clear hc hcc hn
  go_enter Try.func39, Try.ntmps39
  go_wp2_with fail
  go_loopw [5, 6] (fun u x wr => ∃ i : Nat, x = .int .i64 i ∧ i ≤ n ∧ Own w.heap.size wr u ((l.reverse).take i) ∧ Ext w wr) (fun _ x _ => n - (intOf x).toNat)
  case atStart => exact ⟨0, rfl, Nat.zero_le _, Own.nil _ _, Ext.refl _⟩
  case round =>
    obtain ⟨i, rfl, hi, hown, hx⟩ := hrel
    have HO := Lib.hid hown
    clear hown
    by_cases hlt : i < n
    · have hltz : (i : Int) < (n : Int) := by omega
      skip
      · obtain ⟨m, hm⟩ : ∃ m, n - 1 - i = m := ⟨_, rfl⟩
        have hE := HN.out
        have hmn : m < n := by rw [← hm]; omega
        have hml : m < l.length := by omega
        have hT : (l.reverse)[i]'(by simp; omega) = l[m] := by
          rw [← getD_at' (d := ((0, 0) : Int × Int)), rev_get l i (by omega), HN.out, hm, getD_at' hml]
        have f1 : (n : Int) - 1 = ((n - 1 : Nat) : Int) := by omega
        have f2 : ((n - 1 : Nat) : Int) - (i : Int) = (m : Int) := by omega
        obtain ⟨n1, hn1⟩ : ∃ n1, n - 1 = n1 := ⟨_, rfl⟩
        rw [hn1] at f1 f2
        have f3 : IntKind.i64.wrap (n1 : Int) = (n1 : Int) := by rw [IntKind.wrap_i64]; omega
        have f4 : IntKind.i64.wrap (m : Int) = (m : Int) := by rw [IntKind.wrap_i64]; omega
        have f5 : (m : Int) < (n : Int) := by omega
        obtain ⟨c0, c1⟩ := HC.out m hml
        obtain ⟨px, py, hp⟩ : ∃ x y, l[m] = (x, y) := ⟨_, _, rfl⟩
        rw [hp] at c0 c1 hT
        have d0 := hx.cell c0
        have d1 := hx.cell c1
        simp only at d0 d1
        have dl := lt_of_cell d0
        simp only at dl
        have hstep : (l.reverse).take (i + 1) = (l.reverse).take i ++ [(px, py)] := by
          rw [List.take_succ_eq_append_getElem (by simp; omega), hT]
        have HST := Lib.hid hstep
        clear hm hp hT hstep c0 c1 hml hE
        go_wp2_with (at_builtin; refine app_pt rfl (.tmp 14) (.tmp 23) rfl w.heap.size _ _ rfl (Own.ext HO.out ((Ext.refl _).alloc _)) _ px py rfl ?c1 ?c2 ?c3 (hx.alloc _) (Nat.le_refl _) ?_)
        case c1 => go_simp
        case c2 => go_simp
        case c3 => rw [List.length_take]; have := Nat.min_le_left i (l.reverse).length; omega
        intro v' w8 ho' hg' hext
        go_wp2_with fail
        rw [← HST.out] at ho'
        exact ⟨⟨i + 1, by simp, by omega, ho', hext w (Nat.le_refl _) (hx.alloc _)⟩, by simp [intOf]; omega⟩
    · obtain rfl : n = i := by omega
      go_wp2_with fail
      go_ret
      have q := HO.out.pts
      rw [List.take_of_length_le (by rw [List.length_reverse]; exact Nat.le_of_eq HN.out)] at q
      exact ⟨_, rfl, q, hX.trans hx⟩
end Go.Proofs.Ytdbhbfmbpldmnaa
