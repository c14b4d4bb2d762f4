/- Contract of Clashes. -/
import Derived.Test.YtaggjclaehigjaaN5
namespace Go.Proofs.Ytaggjclaehigjaa
open Go.RowKit
theorem find_self {C P R : List Five} (g : Good C P R) {c : Five} (hc : c ∈ C) : findC C c.a = some c := by
  cases hf : findC C c.a with
  | none =>
    have := List.find?_eq_none.1 hf c hc
    simp at this
  | some d =>
    have h1 := List.mem_of_find?_eq_some hf
    have h2 : d.a = c.a := by have := List.find?_some hf; simpa using this
    by_cases e : d = c
    · rw [e]
    · exfalso
      obtain ⟨i, hi, rfl⟩ := List.mem_iff_getElem.1 h1
      obtain ⟨j, hj, rfl⟩ := List.mem_iff_getElem.1 hc
      have ht := List.pairwise_iff_getElem.1 g.twc
      rcases Nat.lt_trichotomy i j with h | h | h
      · exact ht i j hi hj h h2
      · subst h; exact e rfl
      · exact ht j i hj hi h h2.symm
/-- all pairs of works -/
def clsL (C P R : List Five) (cl : Five → List (Int × Int)) : List (Int × Int) := if chk C P R = 0 then C.flatMap cl else []
set_option maxRecDepth 100000 in
set_option maxHeartbeats 8000000 in
theorem Clashes_any (W : World) (C P R : List Five) (v : Value) (cl : Five → List (Int × Int)) (w : World) (hX : Ext W w) (hv : Wk w v C P R) (hU : chk C P R = 0 → ∀ c ∈ C, ∀ l, ClC P R c l → l = cl c) :
    Calls Try.prog 75 #[v] w fun e w' => (∃ v', e = .returned (.tuple #[v', .int .i64 (chk C P R)]) ∧ Sl 2 encI w' v' (clsL C P R cl)) ∧ Ext W w' := by
  have HCK := Lib.hid (fun w' (x : Ext w w') => Check_any w' C P R v w' (Ext.refl _) (hv.ext x))
  have HV := Lib.hid hv
  obtain ⟨vC, vP, vR, rfl, hC, hP, hR, hn⟩ := hv
  obtain ⟨aC, capC, rfl, hlC, hmC, hcC⟩ := hC.parts
  have HCC := Lib.hid hcC
  clear hC hP hR hn hcC
  have hX0 : Ext w (w.alloc (.cells #[.slice aC C.length capC, vP, vR] 26)) := (Ext.refl w).alloc _
  by_cases hE : chk C P R = 0
  · have g := chk_zero.1 hE
    have HU := Lib.hid (hU hE)
    have HCS : Hid (clsL C P R cl = C.flatMap cl) := if_pos hE
    have HE := Lib.hid hE
    have hfew := g.few
    have HSP : Hid (∀ c ∈ C, ∀ w', Ext w w' → Calls Try.prog 64 #[.agg #[.slice aC C.length capC, vP, vR], v5 c] w' (SpellsPost w' P R c)) := fun c hc w' x =>
      spells_any w' C P R c _ w' (Ext.refl _) (HV.out.ext x) (by have := g.few; omega) (fun ts hp hs => by obtain ⟨t, r, e, hb, _⟩ := head_beg g (find_self g hc) hp hs; exact ⟨t, r, e, hb⟩) (fun t ht => (thAll_ok g (find_self g hc) t ht).1.1)
    have G := Lib.hid g
    clear hE hU g
    go_enter Try.func75, Try.ntmps75
    go_wp2_with (go_at_call 18; with_reducible refine (HCK.out _ hX0).mono ?_; rintro e w1 ⟨rfl, hX1⟩; rw [HE.out]; have hbx := hX1.block (heap_alloc_new w (.cells #[.slice aC C.length capC, vP, vR] 26)); have p0 := cell_at hbx 0; have p1 := cell_at hbx 1; have p2 := cell_at hbx 2; simp only [List.getElem?_toArray, List.getElem?_cons_succ, List.getElem?_cons_zero] at p0 p1 p2)
    have hW1 := hX0.trans hX1
    have hWz := hW1.le
    obtain ⟨wa, hwa⟩ : ∃ wa, wa = w1 := ⟨_, rfl⟩
    rw [← hwa] at p0 p1 p2 hbx hX1 hW1 hWz ⊢
    clear hwa
    generalize hB : w.heap.size = B at *
    go_loopw [5, 19] (fun u i wr => ∃ k : Nat, k ≤ C.length ∧ i = .int .i64 k ∧ OwnP wa.heap.size wr u ((C.take k).flatMap cl) ∧ ((C.take k).flatMap cl).length ≤ k * 1000000 ∧ Ext wa wr) (fun _ i _ => C.length - (intOf i).toNat)
    case atStart => exact ⟨0, Nat.zero_le _, rfl, Own.nil _ _ _ _ _, by simp, Ext.refl _⟩
    case round =>
      obtain ⟨k, hk, rfl, hO, hLN, hE⟩ := hrel
      obtain ⟨a5, c5, hv5⟩ := own_slice hO
      have HLN := Lib.hid hLN
      clear hLN
      generalize ((C.take k).flatMap cl).length = n5 at hv5
      subst hv5
      have HO := Lib.hid hO
      clear hO
      by_cases hlt : k < C.length
      · obtain ⟨b, off, ha, hcl⟩ := HCC.out.resolve_left (fun e => by rw [e] at hlt; simp at hlt)
        obtain ⟨c, hc⟩ : ∃ c, c = C[k] := ⟨_, rfl⟩
        have hcm : c ∈ C := by rw [hc]; exact List.getElem_mem hlt
        obtain ⟨e0, e1, e2, e3, e4⟩ := (hcl k hlt).ext (hW1.trans hE)
        rw [← hc] at e0 e1 e2 e3 e4
        subst ha
        have q0 := hE.cell p0
        have q1 := hE.cell p1
        have q2 := hE.cell p2
        have z0 := lt_of_cell q0
        have HC := Lib.hid hc
        clear hcl hc
        go_wp2_with fail
        with_reducible refine (HSP.out c hcm _ ((hW1.trans hE).alloc (.cells #[.int .i64 c.a, .int .i64 c.b, .int .i64 c.c, .int .i64 c.d, .int .i64 c.e] 53))).mono ?_
        rintro e w3 ⟨v3, S, ts, rfl, hS, hp, hs, hm, hX3⟩
        obtain ⟨hok, hSn, hfn⟩ := spOk_all G.out (find_self G.out hcm) hS hp hm
        obtain ⟨a3, cap3, rfl, hl3, hm3, hc3⟩ := hS.parts
        have HC3 := Lib.hid hc3
        have HOK := Lib.hid hok
        have HFN := Lib.hid hfn
        have HCL := Lib.hid (HU.out c hcm _ ⟨ts, hp, hs, rfl⟩)
        rw [← hm, prS_map] at HCL
        have hE3 := (hE.alloc (.cells #[.int .i64 c.a, .int .i64 c.b, .int .i64 c.c, .int .i64 c.d, .int .i64 c.e] 53)).trans hX3
        have HO3 := Lib.hid ((HO.out.ext ((Ext.refl wr).alloc (.cells #[.int .i64 c.a, .int .i64 c.b, .int .i64 c.c, .int .i64 c.d, .int .i64 c.e] 53))).ext hX3)
        clear hS hp hs hm hok hfn hc3 hX3 q0 q1 q2 z0 e0 e1 e2 e3 e4
        go_wp2_with fail
        obtain ⟨wq, hwq⟩ : ∃ wq, wq = wr := ⟨_, rfl⟩
        rw [← hwq] at HO hE
        clear hwq
        go_loopw [8, 27] (fun u i wr => ∃ j : Nat, j ≤ S.length ∧ i = .int .i64 j ∧ OwnP w3.heap.size wr u ((S.take j).flatMap fun s => pairsOf s.w s.fs) ∧ ((S.take j).flatMap fun s => pairsOf s.w s.fs).length ≤ j * 10000 ∧ Ext w3 wr) (fun _ i _ => S.length - (intOf i).toNat)
        case atStart => exact ⟨0, Nat.zero_le _, rfl, Own.nil _ _ _ _ _, by simp, Ext.refl _⟩
        case round =>
          obtain ⟨j, hj, rfl, hO2, hL2, hE2⟩ := hrel
          obtain ⟨a8, c8, hv8⟩ := own_slice hO2
          have HL2 := Lib.hid hL2
          generalize hn8 : ((S.take j).flatMap fun s => pairsOf s.w s.fs).length = n8 at hv8
          subst hv8
          have HO2 := Lib.hid hO2
          clear hO2 hL2 hn8
          by_cases hlt2 : j < S.length
          · obtain ⟨b3, off3, ha3, hc4⟩ := HC3.out.resolve_left (fun e => by rw [e] at hlt2; simp at hlt2)
            obtain ⟨d0, d1, d2, d3⟩ := hc4 j hlt2
            subst ha3
            obtain ⟨s, hsj⟩ : ∃ s, s = S[j] := ⟨_, rfl⟩
            have hsm : s ∈ S := by rw [hsj]; exact List.getElem_mem hlt2
            rw [← hsj] at d0 d1 d2 d3
            have d0 := hE2.cell d0
            have d1 := hE2.cell d1
            have d2 := hE2.cell d2
            have d3 := hE2.cell d3
            have HSJ := Lib.hid hsj
            clear hc4 hsj
            have HPA : Hid (∀ w, Calls Try.prog 102 #[.agg #[.int .i64 s.lo, .int .i64 s.hi, .int .i64 s.w, .slice s.a s.n s.c]] w fun e w' => e = .returned (.func (.func 123) #[] #[.pointer (some ⟨w.heap.size, 0, none⟩)]) ∧ w' = w.alloc (.cells #[.int .i64 s.lo, .int .i64 s.hi, .int .i64 s.w, .slice s.a s.n s.c] 88)) := fun w => pairs_any s w
            have hB2 : BoxS ((wr.alloc (.cells #[.int .i64 s.lo, .int .i64 s.hi, .int .i64 s.w, .slice s.a s.n s.c] 88)).alloc (.cells #[.int .i64 s.lo, .int .i64 s.hi, .int .i64 s.w, .slice s.a s.n s.c] 88)) (wr.heap.size + 1) s := by
              have := heap_alloc_new (wr.alloc (.cells #[.int .i64 s.lo, .int .i64 s.hi, .int .i64 s.w, .slice s.a s.n s.c] 88)) (.cells #[.int .i64 s.lo, .int .i64 s.hi, .int .i64 s.w, .slice s.a s.n s.c] 88)
              rwa [World.size_alloc] at this
            have hpl : (pairsOf s.w s.fs).length ≤ 10000 := by
              have h1 := pairs_len s.w s.fs
              have h2 := HFN.out s hsm
              have h3 := Nat.mul_le_mul h2 h2
              omega
            have HPL := Lib.hid hpl
            have HAS := Lib.hid (appendSeq_any s (wr.heap.size + 1) w3 _ _ _ (HOK.out s hsm) ((hE2.alloc (.cells #[.int .i64 s.lo, .int .i64 s.hi, .int .i64 s.w, .slice s.a s.n s.c] 88)).alloc (.cells #[.int .i64 s.lo, .int .i64 s.hi, .int .i64 s.w, .slice s.a s.n s.c] 88)) hB2 ((HO2.out.ext ((Ext.refl wr).alloc (.cells #[.int .i64 s.lo, .int .i64 s.hi, .int .i64 s.w, .slice s.a s.n s.c] 88))).ext ((Ext.refl _).alloc (.cells #[.int .i64 s.lo, .int .i64 s.hi, .int .i64 s.w, .slice s.a s.n s.c] 88))) (by have := HL2.out; have := hpl; omega))
            clear hB2 hpl
            go_wp2_with fail
            with_reducible refine (HPA.out _).mono ?_
            rintro e w4 ⟨rfl, rfl⟩
            rw [World.size_alloc]
            go_wp2_with fail
            with_reducible refine HAS.out.mono ?_
            rintro e w4 ⟨⟨v4, rfl, hO4⟩, hE4⟩
            obtain ⟨a4, c4, hv4⟩ := own_slice hO4
            generalize hn4 : ((S.take j).flatMap (fun s => pairsOf s.w s.fs) ++ pairsOf s.w s.fs).length = n4 at hv4
            subst hv4
            have HO4 := Lib.hid hO4
            clear hO4 hn4
            go_wp2_with fail
            have hst : (S.take (j + 1)).flatMap (fun s => pairsOf s.w s.fs) = (S.take j).flatMap (fun s => pairsOf s.w s.fs) ++ pairsOf s.w s.fs := by
              rw [List.take_succ_eq_append_getElem hlt2, List.flatMap_append, ← HSJ.out]
              simp
            go_roundw
            case rel => exact ⟨j + 1, by omega, by go_num, by rw [hst]; exact HO4.out, by rw [hst, List.length_append]; have := HL2.out; have := HPL.out; omega, hE4⟩
            case measure => simp [intOf]; omega
          · obtain rfl : j = S.length := by omega
            have HSO := Lib.hid (sortedP_any w3.heap.size wr _ _ HO2.out (by have := HL2.out; omega))
            rw [List.take_length] at HSO HL2
            rw [show sortP (S.flatMap fun s => pairsOf s.w s.fs) = cl c from HCL.out] at HSO
            have hcn : (cl c).length ≤ 1000000 := by
              rw [← HCL.out]
              unfold sortP
              rw [List.length_mergeSort]
              have := HL2.out
              omega
            have HCN := Lib.hid hcn
            clear hcn
            go_wp2_with fail
            with_reducible refine HSO.out.mono ?_
            rintro e w5 ⟨v5', rfl, hO5, hE5⟩
            obtain ⟨a7, c7, hv7⟩ := own_slice hO5
            have hS5 := hO5.sl encI_len
            generalize hn7 : (cl c).length = n7 at hv7
            subst hv7
            have HS5 := Lib.hid hS5
            have HE5 := Lib.hid ((hE3.trans hE2).trans hE5)
            have HO5 := Lib.hid ((HO3.out.ext hE2).ext hE5)
            have hlz := HE5.out.le
            clear hO5 hS5 hn7
            go_wp2_with (at_builtin; refine app_many 128 131 2 16 (.agg #[.int .i64 0, .int .i64 0]) encI encI_len encI_one Try.underlying128 infoP rfl (by decide) (by decide) rfl (.tmp 36) (.tmp 38) rfl wa.heap.size _ _ rfl HO5.out _ (cl c) rfl HS5.out (by have := HLN.out; have := HCN.out; omega) hlz ?_; intro v6 w6 hO6 hg6 hE6 hb6; have hE7 := hE6 wa (Nat.le_refl _) HE5.out; obtain ⟨a9, c9, hv9⟩ := own_slice hO6; generalize ((C.take k).flatMap cl ++ cl c).length = n9 at hv9; subst hv9)
            have hst : (C.take (k + 1)).flatMap cl = (C.take k).flatMap cl ++ cl c := by
              rw [List.take_succ_eq_append_getElem hlt, List.flatMap_append, ← HC.out]
              simp
            go_roundw
            case rel => exact ⟨k + 1, by omega, by go_num, by rw [hst]; exact hO6, by rw [hst, List.length_append]; have := HLN.out; have := HCN.out; omega, hE7⟩
            case measure => simp [intOf]; omega
      · obtain rfl : k = C.length := by omega
        rw [List.take_length] at HO
        go_wp2_with fail
        go_ret2
        refine ⟨⟨.slice a5 n5 c5, ?_, ?_⟩, hX.trans (hW1.trans hE)⟩
        · show Ending.returned (.tuple #[.slice a5 n5 c5, .int .i64 0]) = _
          rw [HE.out]
        rw [HCS.out]
        exact HO.out.sl encI_len
  · obtain ⟨n, hn⟩ : ∃ n, chk C P R = n := ⟨_, rfl⟩
    have HN := Lib.hid hn
    rw [hn] at hE
    have HCS : Hid (clsL C P R cl = []) := by show _ = _; unfold clsL; rw [hn, if_neg hE]
    have hnb : (n == 0) = false := by simpa using hE
    clear hn hE hU
    go_enter Try.func75, Try.ntmps75
    go_wp2_with (go_at_call 18; with_reducible refine (HCK.out _ hX0).mono ?_; rintro e w1 ⟨rfl, hX1⟩; rw [HN.out])
    go_ret2
    refine ⟨⟨.slice none 0 0, ?_, ?_⟩, hX.trans (hX0.trans hX1)⟩
    · show Ending.returned (.tuple #[.slice none 0 0, .int .i64 n]) = _
      rw [HN.out]
    rw [HCS.out]
    exact Sl.nil _ _ _
end Go.Proofs.Ytaggjclaehigjaa
