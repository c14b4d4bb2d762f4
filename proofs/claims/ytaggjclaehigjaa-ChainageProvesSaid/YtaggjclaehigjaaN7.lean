/- Contract of Clash. -/
import Derived.Test.YtaggjclaehigjaaN6
namespace Go.Proofs.Ytaggjclaehigjaa
open Go.RowKit
/-- what Clash returns -/
def clashV (L : List (Int × Int)) (e : Int) : Value := match L with
  | [] => .tuple #[.int .i64 0, .int .i64 0, .bool false, .int .i64 e]
  | p :: _ => .tuple #[.int .i64 p.1, .int .i64 p.2, .bool true, .int .i64 e]
theorem SlI.parts {w : World} {v : Value} {l : List (Int × Int)} (h : Sl 2 encI w v l) : ∃ a cap, v = .slice a l.length cap ∧ l.length ≤ cap ∧ cap ≤ maxLen ∧
    ∀ p r, l = p :: r → ∃ b off, a = some ⟨b, off, none⟩ ∧ w.cell? ⟨b, off, none⟩ = some (.int .i64 p.1) ∧ w.cell? ⟨b, off + 1, none⟩ = some (.int .i64 p.2) := by
  obtain ⟨a, cap, hv, hl, hm, h⟩ := h
  refine ⟨a, cap, hv, hl, hm, ?_⟩
  rintro p r rfl
  obtain ⟨b, off, ha, hc⟩ := h.resolve_left (by simp)
  have := hc 0 (by simp)
  exact ⟨b, off, ha, by have := this 0 _ rfl; simpa using this, by have := this 1 _ rfl; simpa using this⟩
set_option maxRecDepth 100000 in
set_option maxHeartbeats 4000000 in
theorem Clash_any (W : World) (C P R : List Five) (v : Value) (cl : Five → List (Int × Int)) (w : World) (hX : Ext W w) (hv : Wk w v C P R) (hU : chk C P R = 0 → ∀ c ∈ C, ∀ l, ClC P R c l → l = cl c) :
    Calls Try.prog 29 #[v] w fun e w' => e = .returned (clashV (clsL C P R cl) (chk C P R)) ∧ Ext W w' := by
  have HCL := Lib.hid (fun w' (x : Ext w w') => Clashes_any w' C P R v cl w' (Ext.refl _) (hv.ext x) hU)
  obtain ⟨vC, vP, vR, rfl, _⟩ := hv
  have hX0 : Ext w (w.alloc (.cells #[vC, vP, vR] 26)) := (Ext.refl w).alloc _
  have hnil : chk C P R ≠ 0 → clsL C P R cl = [] := fun h => if_neg h
  obtain ⟨L, hL⟩ : ∃ L, clsL C P R cl = L := ⟨_, rfl⟩
  obtain ⟨n, hn⟩ : ∃ n, chk C P R = n := ⟨_, rfl⟩
  rw [hL, hn] at HCL hnil ⊢
  clear hU hL hn
  by_cases hE : n = 0
  · subst hE
    clear hnil
    cases L with
    | nil =>
      go_enter Try.func29, Try.ntmps29
      go_wp2_with (go_at_call 75; with_reducible refine (HCL.out _ hX0).mono ?_; rintro e w1 ⟨⟨v', rfl, hs⟩, hX1⟩; obtain ⟨a, cap, rfl, hl, hm, hc⟩ := SlI.parts hs; clear hc)
      refine bodyPost_ret (v := .tuple #[.int .i64 0, .int .i64 0, .bool false, .int .i64 0]) (by simp [results, Try.results29, go_sem]) rfl ⟨rfl, hX.trans (hX0.trans hX1)⟩
    | cons p l =>
      go_enter Try.func29, Try.ntmps29
      go_wp2_with (go_at_call 75; with_reducible refine (HCL.out _ hX0).mono ?_; rintro e w1 ⟨⟨v', rfl, hs⟩, hX1⟩; obtain ⟨a, cap, rfl, hl, hm, hc⟩ := SlI.parts hs; obtain ⟨b, off, rfl, c0, c1⟩ := hc p l rfl; clear hc)
      have h0 : (0 : Int) < ((l.length : Int) + 1) := by omega
      have h1 : 0 < l.length + 1 := by omega
      go_quiet (fail)
      go_wp2_with fail
      refine bodyPost_ret (v := .tuple #[.int .i64 p.1, .int .i64 p.2, .bool true, .int .i64 0]) (by simp [results, Try.results29, go_sem]) rfl ⟨rfl, ?_⟩
      exact (hX.trans (hX0.trans hX1)).trans ⟨rfl, rfl, rfl, Nat.le_refl _, fun _ _ => rfl⟩
  · have hnb : (n == 0) = false := by simpa using hE
    have hnb2 : (n != 0) = true := by simpa using hE
    obtain rfl := hnil hE
    clear hE hnil
    go_enter Try.func29, Try.ntmps29
    go_wp2_with (go_at_call 75; with_reducible refine (HCL.out _ hX0).mono ?_; rintro e w1 ⟨⟨v', rfl, hs⟩, hX1⟩; obtain ⟨a, cap, rfl, hl, hm, hc⟩ := SlI.parts hs; clear hc)
    refine bodyPost_ret (v := .tuple #[.int .i64 0, .int .i64 0, .bool false, .int .i64 n]) (by simp [results, Try.results29, go_sem]) rfl ⟨rfl, hX.trans (hX0.trans hX1)⟩
end Go.Proofs.Ytaggjclaehigjaa
