/- Contracts of ContainsFunc at spells, and of the closure of Fits. The closure of Fits. -/
import Derived.Test.YtaggjclaehigjaaK2
namespace Go.Proofs.Ytaggjclaehigjaa
open Go.RowKit
theorem idxS_find (p : SpE → Bool) (l : List SpE) : (idxS p l = -1 ∧ l.any p = false) ∨ ∃ k, k < l.length ∧ idxS p l = (k : Nat) ∧ l.any p = true := by
  unfold idxS
  cases h : l.findIdx? p with
  | none =>
    left
    refine ⟨rfl, ?_⟩
    rw [List.findIdx?_eq_none_iff] at h
    exact List.any_eq_false.2 (fun x hx => by simp [h x hx])
  | some k =>
    right
    obtain ⟨hk, hp, _⟩ := List.findIdx?_eq_some_iff_getElem.1 h
    exact ⟨k, hk, rfl, List.any_eq_true.2 ⟨l[k], List.getElem_mem hk, hp⟩⟩
set_option maxRecDepth 100000 in
set_option maxHeartbeats 1000000 in
theorem containsS_any (W : World) (l : List SpE) (v : Value) (g : Nat) (caps : Array Value) (p : SpE → Bool) (w : World) (hX : Ext W w) (hv : SpellsAt w v l) (hg : Enters g)
    (hp : ∀ i, (h : i < l.length) → ∀ w', Ext w w' → Calls Try.prog g (#[l[i].val] ++ caps) w' fun e w'' => e = .returned (.bool (p l[i])) ∧ Ext w' w'') :
    Calls Try.prog 65 #[v, .func (.func g) #[] caps] w fun e w' => e = .returned (.bool (l.any p)) ∧ Ext W w' := by
  have HI := Lib.hid (indexS_any w l v g caps p w (Ext.refl _) hv hg hp)
  have hcs := idxS_find p l
  generalize idxS p l = n at HI hcs
  generalize l.any p = b at hcs ⊢
  clear hp hv hg
  have hb : b = decide (0 ≤ n) := by
    rcases hcs with ⟨rfl, rfl⟩ | ⟨k, _, rfl, rfl⟩
    · rfl
    · simp
  have HB := Lib.hid hb
  clear hcs hb
  go_enter Try.func65, Try.ntmps65
  go_wp2_with (go_at_call 67; with_reducible refine HI.out.mono ?_; rintro e w' ⟨rfl, hX1⟩)
  go_ret
  exact ⟨by rw [HB.out]; rfl, hX.trans hX1⟩
end Go.Proofs.Ytaggjclaehigjaa
namespace Go.Proofs.Ytaggjclaehigjaa
open Go.RowKit
set_option maxRecDepth 100000 in
set_option maxHeartbeats 1000000 in
theorem fitC_any (s : SpE) (y : Int) (b : Nat) (w : World) (hc : w.cell? ⟨b, 0, none⟩ = some (.int .i64 y)) :
    Calls Try.prog 68 #[s.val, .pointer (some ⟨b, 0, none⟩)] w fun e w' => e = .returned (.bool (inB y s.lo s.hi)) ∧ Ext w w' := by
  have hb := lt_of_cell hc
  unfold SpE.val
  go_enter Try.func68, Try.ntmps68
  go_wp2_with (go_at_call 53; with_reducible refine (within_any _ _ _ _).mono ?_; rintro e w' ⟨rfl, rfl⟩)
  go_ret
  exact ⟨rfl, (Ext.refl _).alloc _⟩
theorem enters_fit : Enters 68 := fun _ _ => by kernel_rfl
end Go.Proofs.Ytaggjclaehigjaa
