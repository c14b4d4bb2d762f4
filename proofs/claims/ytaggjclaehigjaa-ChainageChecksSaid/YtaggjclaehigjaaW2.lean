/- The example of the laws: few, long. -/
import Derived.Test.YtaggjclaehigjaaW1
import Derived.Test.YtaggjclaehigjaaK6
import Derived.Test.YtaggjclaehigjaaK5
namespace Go.Proofs.Ytaggjclaehigjaa
open Go.RowKit
def fewB (C P R : List Five) : Bool := decide (C.length ≤ 40) && decide (P.length + R.length ≤ 80)
set_option maxRecDepth 100000 in
set_option maxHeartbeats 2000000 in
theorem few_any (W : World) (C P R : List Five) (v : Value) (w : World) (hX : Ext W w) (hv : Wk w v C P R) : Calls Try.prog 14 #[v] w fun e w' => e = .returned (.bool (fewB C P R)) ∧ Ext W w' := by
  obtain ⟨vC, vP, vR, rfl, hC, hP, hR, hn⟩ := hv
  obtain ⟨aC, capC, rfl, hlC, hmC, -⟩ := hC.parts
  obtain ⟨aP, capP, rfl, hlP, hmP, -⟩ := hP.parts
  obtain ⟨aR, capR, rfl, hlR, hmR, -⟩ := hR.parts
  unfold fewB
  clear hC hP hR
  generalize C.length = c at *
  generalize P.length = p at *
  generalize R.length = r at *
  have e : ((p : Int) + (r : Int)) = ((p + r : Nat) : Int) := by omega
  have e2 : wrap64 ((p : Int) + (r : Int)) = (p : Int) + (r : Int) := IntWalk.wrap64_in _ (by omega)
  have hr : (decide (c ≤ 40) && decide (p + r ≤ 80)) = (decide ((c : Int) ≤ 40) && decide ((p : Int) + (r : Int) ≤ 80)) := by
    congr 1
    · exact decide_eq_decide.2 (by omega)
    · exact decide_eq_decide.2 (by omega)
  have HR := Lib.hid hr
  clear hr e
  cases k1 : decide ((c : Int) ≤ 40)
  · go_enter Try.func14, Try.ntmps14
    go_wp2_with fail
    go_ret
    exact ⟨by rw [HR.out, k1]; rfl, hX.trans ((Ext.refl w).alloc _)⟩
  · cases k2 : decide ((p : Int) + (r : Int) ≤ 80)
    all_goals
      go_enter Try.func14, Try.ntmps14
      go_wp2_with fail
      go_ret
      exact ⟨by rw [HR.out, k1, k2]; rfl, hX.trans ((Ext.refl w).alloc _)⟩
/-- the answer of law.long -/
def isLong (r : (Int × Int) × Int) (lo hi : Int) : Bool := r.2 == 0 && (r.1.1 == lo && r.1.2 == hi)
set_option maxRecDepth 100000 in
set_option maxHeartbeats 2000000 in
theorem lawlong_any (W : World) (C P R : List Five) (v : Value) (y lo hi : Int) (w : World) (hX : Ext W w) (hv : Wk w v C P R) : Calls Try.prog 48 #[v, .int .i64 y, .int .i64 lo, .int .i64 hi] w fun e w' => e = .returned (.bool (isLong (longR C P R 1 y) lo hi)) ∧ Ext W w' := by
  have HLG := Lib.hid (fun w' (x : Ext w w') => Long_any w' C P R v 1 y w' (Ext.refl _) (hv.ext x))
  obtain ⟨vC, vP, vR, rfl, _⟩ := hv
  have hX0 : Ext w (w.alloc (.cells #[vC, vP, vR] 26)) := (Ext.refl w).alloc _
  obtain ⟨⟨⟨a, b⟩, e⟩, hr⟩ : ∃ r, longR C P R 1 y = r := ⟨_, rfl⟩
  rw [hr] at HLG ⊢
  clear hr
  have hs : Hid (isLong ((a, b), e) lo hi = (e == 0 && (a == lo && b == hi))) := rfl
  generalize isLong ((a, b), e) lo hi = z at hs ⊢
  cases k1 : (e == 0)
  · go_enter Try.func48, Try.ntmps48
    go_wp2_with (go_at_call 20; with_reducible refine (HLG.out _ hX0).mono ?_; rintro e w1 ⟨rfl, hX1⟩)
    go_ret
    exact ⟨by rw [hs.out, k1]; rfl, (hX.trans (hX0.trans hX1)).alloc _⟩
  · cases k2 : (a == lo) <;> cases k3 : (b == hi)
    all_goals
      go_enter Try.func48, Try.ntmps48
      go_wp2_with (go_at_call 20; with_reducible refine (HLG.out _ hX0).mono ?_; rintro e w1 ⟨rfl, hX1⟩)
      go_ret
      exact ⟨by rw [hs.out, k1, k2, k3]; rfl, (hX.trans (hX0.trans hX1)).alloc _⟩
end Go.Proofs.Ytaggjclaehigjaa
