/- Contract of sorted at pairs. -/
import Derived.Test.YtaggjclaehigjaaN3
namespace Go.Proofs.Ytaggjclaehigjaa
open Go.RowKit Go.Sort Go.Shelf
theorem run_eql_nilP (b off n cap : Nat) (w : World) : (binOp .eql 128 (.slice (some ⟨b, off, none⟩) n cap) (.slice none 0 0)).run Try.prog w = .ok (.bool false) w := by kernel_rfl
theorem run_eql_nilP2 (w : World) : (binOp .eql 128 (.slice none 0 0) (.slice none 0 0)).run Try.prog w = .ok (.bool true) w := by kernel_rfl
theorem own_slice {base : Nat} {w : World} {v : Value} {l : List (Int × Int)} (h : OwnP base w v l) : ∃ a cap, v = .slice a l.length cap := by
  obtain ⟨a, cap, hv, -⟩ := h.sl encI_len
  exact ⟨a, cap, hv⟩
theorem own_emptyP (w : World) (base : Nat) (hb : base ≤ w.heap.size) : OwnP base (w.alloc (.cells #[] 131)) (.slice (some ⟨w.heap.size, 0, none⟩) 0 0) [] := by
  refine ⟨rfl, Or.inr ⟨w.heap.size, 0, #[], rfl, hb, World.alloc_heap_new w _, Nat.le_refl _, by simp [maxLen], rfl, rfl⟩⟩
set_option maxRecDepth 100000 in
set_option maxHeartbeats 1000000 in
theorem cloneP_any (base : Nat) (w : World) (v : Value) (l : List (Int × Int)) (h : OwnP base w v l) (hlen : l.length ≤ 1000000000000) :
    Calls Try.prog 125 #[v] w fun e w' => ∃ v', e = .returned v' ∧ OwnP w.heap.size w' v' l ∧ Ext w w' := by
  have hs := h.sl encI_len
  obtain ⟨h1, h2⟩ := h
  rcases h2 with ⟨rfl, hn⟩ | ⟨g, cap, cur, rfl, hb, hg, hle, hm, hsz, htk⟩
  · obtain rfl := List.length_eq_zero_iff.1 hn
    have hnil := run_eql_nilP2
    go_enter Try.func125, Try.ntmps125
    go_wp2_with fail
    go_ret
    exact ⟨_, rfl, Own.nil _ _ _ _ _, Ext.refl _⟩
  · have hnil := run_eql_nilP g 0 l.length cap
    have HS := Lib.hid hs
    clear h1 hs htk
    go_enter Try.func125, Try.ntmps125
    go_wp2_with (at_builtin; refine app_many 128 131 2 16 (.agg #[.int .i64 0, .int .i64 0]) encI encI_len encI_one Try.underlying128 infoP rfl (by decide) (by decide) rfl (.tmp 5) (.tmp 6) rfl w.heap.size _ [] rfl (own_emptyP w _ (Nat.le_refl _)) _ l rfl (HS.out.ext ((Ext.refl _).alloc _)) (by simpa using hlen) (by simp) ?_; intro v2 w2 hO2 hg2 hE2 hb2; obtain ⟨a3, cap3, hv3⟩ := own_slice hO2; generalize ([] ++ l).length = m3 at hv3; subst hv3)
    go_ret
    exact ⟨_, rfl, by simpa using hO2, hE2 w (Nat.le_refl _) ((Ext.refl _).alloc _)⟩
set_option maxRecDepth 100000 in
set_option maxHeartbeats 1000000 in
theorem sortedP_any (base : Nat) (w : World) (v : Value) (l : List (Int × Int)) (h : OwnP base w v l) (hlen : l.length ≤ 1000000000000) :
    Calls Try.prog 106 #[v, .func (.func 107) #[] #[]] w fun e w' => ∃ v', e = .returned v' ∧ OwnP w.heap.size w' v' (sortP l) ∧ Ext w w' := by
  have HCL := Lib.hid (cloneP_any base w v l h hlen)
  obtain ⟨a, cap, hv, -⟩ := h.sl encI_len
  have hSO : Hid (∀ w' v', OwnP w.heap.size w' v' l → Calls Try.prog 126 #[v', .func (.func 107) #[] #[]] w' fun e w2 => e = .returned (.tuple #[]) ∧ OwnP w.heap.size w2 v' (sortP l) ∧ ∀ W : World, W.heap.size ≤ w.heap.size → Ext W w' → Ext W w2) := by
    intro w' v' ho
    by_cases hl : l = []
    · subst hl
      obtain ⟨a2, cap2, rfl, -⟩ := ho.sl encI_len
      refine (AnyF.slices_SortFunc_none sortPairs a2 cap2 (.func (.func 107) #[] #[]) w').mono ?_
      rintro e w2 ⟨rfl, rfl⟩
      exact ⟨rfl, by simpa [sortP] using ho, fun W _ h => h⟩
    · exact sortP_any _ _ _ _ ho hl (by omega)
  generalize l.length = n at hv
  subst hv
  clear h
  go_enter Try.func106, Try.ntmps106
  go_wp2_with (first
    | (go_at_call 125; (with_reducible refine (HCL.out).mono ?_; rintro e w1 ⟨v1, rfl, ho, hX1⟩; have HO := Lib.hid ho; obtain ⟨a3, cap3, hv3⟩ := own_slice ho; generalize l.length = m3 at hv3; subst hv3; clear ho))
    | (go_at_call 126; (with_reducible refine (hSO.out _ _ HO.out).mono ?_; rintro e w2 ⟨rfl, ho2, hE2⟩; have HO2 := Lib.hid (And.intro ho2 (hE2 w (Nat.le_refl _) hX1)); clear ho2 hE2)))
  go_ret
  exact ⟨_, rfl, HO2.out.1, HO2.out.2⟩
end Go.Proofs.Ytaggjclaehigjaa
