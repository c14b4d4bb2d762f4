/- Contracts of the specification's functions: in, within, chainAt, fits. -/
import Derived.Test.YtaggjclaehigjaaP8
import Derived.Test.YtaggjclaehigjaaU
import Derived.Lib.QuietBelow
namespace Go.Proofs.Ytaggjclaehigjaa
open Go.RowKit
theorem rin (n lo hi : Int) (w : World) :
    Calls Try.prog 51 #[.int .i64 n, .int .i64 lo, .int .i64 hi] w fun e w' => e = .returned (.bool (inB n lo hi)) ∧ w = w' := by
  unfold inB
  by_cases h : lo ≤ n
  all_goals
    go_enter Try.func51, Try.ntmps51
    go_wp2
    go_ret
    exact ⟨by first | (simp [h]; done) | (simp; omega), rfl⟩
theorem rwithin (W : World) (x y lo hi : Int) (w : World) (hX : Ext W w) :
    Calls Try.prog 93 #[.agg #[.int .i64 x, .int .i64 y], .int .i64 lo, .int .i64 hi] w fun e w' => e = .returned (.bool (spB x y lo hi)) ∧ Ext W w' := by
  unfold spB
  by_cases h : lo ≤ x
  · by_cases h2 : x ≤ y
    all_goals
      go_enter Try.func93, Try.ntmps93
      go_wp2
      go_ret
      exact ⟨by first | (simp [h, h2]; done) | (simp; omega), hX.alloc _⟩
  · go_enter Try.func93, Try.ntmps93
    go_wp2
    go_ret
    exact ⟨by simp; omega, hX.alloc _⟩
open Go.Sort in
theorem regrow {P : Program} {f : FuncId} {args : Array Value} {w : World} {v : Value} (h : ∀ w', Ext w w' → Calls P f args w' (fun e w'' => e = .returned v ∧ Ext w' w'')) (x : Nat) (os : Array Obj) :
    Calls P f args (grow (redrawn w x) os) fun e w'' => e = .returned v ∧ ∃ p : Regrown, w'' = grow (redrawn w p.d) p.os := Calls.regrown_of (h _ (below_regrown w x os))
set_option maxRecDepth 100000 in
set_option maxHeartbeats 1000000 in
theorem rchainAt (W : World) (C P R : List Five) (v : Value) (id : Int) (w : World) (hX : Ext W w) (hv : Wk w v C P R) :
    Calls Try.prog 50 #[v, .int .i64 id] w fun e w' => e = .returned (.int .i64 (idx (fun c => c.a == id) C)) ∧ Ext W w' := by
  obtain ⟨vC, vP, vR, rfl, hC, hP, hR, hn⟩ := hv
  obtain ⟨a, cap, rfl, hl, hm, hc⟩ := hC.parts
  have HC := Lib.hid hc
  clear hC hP hR hc hm
  go_enter Try.func50, Try.ntmps50
  go_wp2_with fail
  have hX0 : Ext w (w.alloc (.cells #[.slice a C.length cap, vP, vR] 26)) := (Ext.refl w).alloc _
  have hb0 : (w.alloc (.cells #[.slice a C.length cap, vP, vR] 26)).cell? ⟨w.heap.size, 0, none⟩ = some (.slice a C.length cap) := cell_new w [_, _, _] _ 0
  obtain ⟨wa, hwa⟩ : ∃ wa, w.alloc (.cells #[.slice a C.length cap, vP, vR] 26) = wa := ⟨_, rfl⟩
  rw [hwa] at hX0 hb0 ⊢
  clear hwa
  generalize w.heap.size = B at hb0 ⊢
  go_loopw [5] (fun i wr => ∃ k : Nat, k ≤ C.length ∧ i = .int .i64 k ∧ Hid (∀ j, (hj : j < k) → (h : j < C.length) → (C[j].a == id) = false) ∧ Ext wa wr) (fun i _ => C.length - (intOf i).toNat)
  case atStart => exact ⟨0, Nat.zero_le _, rfl, fun j hj => absurd hj (by omega), Ext.refl _⟩
  case round =>
    obtain ⟨k, hk, rfl, HN, hE⟩ := hrel
    have d0 := hE.cell hb0
    by_cases hlt : k < C.length
    · obtain ⟨b, off, x, hx, rfl, c0, c1, c2, c3, c4⟩ := five_at HC.out (hX0.trans hE) hlt
      have HX := Lib.hid hx
      clear hx
      cases hp : (x.a == id)
      · go_wp2_with fail
        go_roundw
        case rel =>
          refine ⟨k + 1, by omega, by go_num, fun j hj h => ?_, hE⟩
          by_cases e : j = k
          · subst e; rw [← HX.out]; exact hp
          · exact HN.out j (by omega) h
        case measure => simp [intOf]; omega
      · go_wp2_with fail
        go_ret
        exact ⟨by rw [idx_some hlt (by rw [← HX.out]; exact hp) (fun i hi => HN.out i hi (by omega))]; rfl, hX.trans (hX0.trans hE)⟩
    · obtain rfl : k = C.length := by omega
      go_wp2_with fail
      go_ret
      exact ⟨by rw [idx_none (fun i hi => HN.out i hi hi)]; rfl, hX.trans (hX0.trans hE)⟩
end Go.Proofs.Ytaggjclaehigjaa
