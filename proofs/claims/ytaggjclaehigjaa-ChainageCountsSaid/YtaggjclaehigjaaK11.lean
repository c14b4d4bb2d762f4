/- Contract of Fits. -/
import Derived.Test.YtaggjclaehigjaaRF
import Derived.Test.YtaggjclaehigjaaKF
import Derived.BigQuiet
namespace Go.Proofs.Ytaggjclaehigjaa
open Go.RowKit
theorem enters_cl : Enters 66 := fun _ _ => by kernel_rfl
theorem relN {w2 w3 : World} {T : Nat} (h : Ext w2 w3) (cs : Array Value) : ∃ N, Value.pointer (some ⟨w3.heap.size, 0, none⟩) = .pointer (some ⟨N, 0, none⟩) ∧ Ext w2 (w3.alloc (.cells cs T)) ∧ (w3.alloc (.cells cs T)).heap[N]? = some (.cells cs T) :=
  ⟨_, rfl, h.alloc _, heap_alloc_new w3 _⟩
set_option maxRecDepth 100000 in
set_option maxHeartbeats 8000000 in
theorem Fits_any (W : World) (C P R : List Five) (v : Value) (id Y : Int) (L : List Int) (vL : Value) (w : World) (hX : Ext W w) (hv : Wk w v C P R) (hL : Ints w vL L) :
    Calls Try.prog 26 #[v, .agg #[.int .i64 id, .int .i64 Y, vL]] w fun e w' => e = .returned (fitV (fitsR C P R id Y L)) ∧ Ext W w' := by
  have HFI : Hid (∀ w', Ext w w' → Calls Try.prog 55 #[v, .int .i64 id] w' fun e w'' => e = .returned (findV C id) ∧ Ext w' w'') := by
    intro w' q
    obtain ⟨vC, vP, vR, rfl, hC, -⟩ := hv
    exact find_any w' C _ _ _ _ _ (Ext.refl _) (hC.ext q)
  have HCK := Lib.hid (fun w' (q : Ext w w') => Check_any w' C P R v w' (Ext.refl _) (hv.ext q))
  have HV := Lib.hid hv
  obtain ⟨aL, capL, rfl, hlL, hmL, hcL⟩ := hL.parts
  have HcL := Lib.hid hcL
  obtain ⟨vC, vP, vR, rfl, -⟩ := hv
  unfold maxLen at hmL
  have hLm : (L.length : Int) ≤ 9223372036854775807 := by omega
  clear hL hmL hlL hcL
  have hX0 : Ext w ((w.alloc (.cells #[vC, vP, vR] 26)).alloc (.cells #[.int .i64 id, .int .i64 Y, .slice aL L.length capL] 46)) := ((Ext.refl w).alloc _).alloc _
  have hb0 := ((Ext.refl _).alloc (.cells #[.int .i64 id, .int .i64 Y, .slice aL L.length capL] 46)).block (heap_alloc_new w (.cells #[vC, vP, vR] 26))
  have hb1 := heap_alloc_new (w.alloc (.cells #[vC, vP, vR] 26)) (.cells #[.int .i64 id, .int .i64 Y, .slice aL L.length capL] 46)
  rw [World.size_alloc] at hb1
  obtain ⟨B, hBB⟩ : ∃ B, w.heap.size = B := ⟨_, rfl⟩
  rw [hBB] at hb0 hb1
  go_enter Try.func26, Try.ntmps26
  go_wp2_with fail
  with_reducible refine (HFI.out _ hX0).mono ?_
  rintro e w1 ⟨rfl, hX1⟩
  have hE1 := hX0.trans hX1
  replace hb0 := hX1.block hb0
  replace hb1 := hX1.block hb1
  obtain ⟨k0, k1, k2⟩ := box3' hb0
  have zB := lt_of_cell k0
  clear HFI hX0 hX1
  cases hf : findC C id with
  | none =>
    rw [findV_none hf]
    have HR : Hid (fitsR C P R id Y L = (-1, false)) := fits_bad (fun c hc => by rw [hf] at hc; cases hc)
    clear hf
    have hbA := heap_alloc_new w1 (.cells #[.int .i64 zero5.a, .int .i64 zero5.b, .int .i64 zero5.c, .int .i64 zero5.d, .int .i64 zero5.e] 53)
    replace hb0 := ((Ext.refl w1).alloc (.cells #[.int .i64 zero5.a, .int .i64 zero5.b, .int .i64 zero5.c, .int .i64 zero5.d, .int .i64 zero5.e] 53)).block hb0
    replace hb1 := ((Ext.refl w1).alloc (.cells #[.int .i64 zero5.a, .int .i64 zero5.b, .int .i64 zero5.c, .int .i64 zero5.d, .int .i64 zero5.e] 53)).block hb1
    have hE2 := hE1.alloc (.cells #[.int .i64 zero5.a, .int .i64 zero5.b, .int .i64 zero5.c, .int .i64 zero5.d, .int .i64 zero5.e] 53)
    obtain ⟨A, hA⟩ : ∃ A, w1.heap.size = A := ⟨_, rfl⟩
    have zBA : B < A := hA ▸ zB
    go_wp2_with fail
    rw [hA] at hbA
    obtain ⟨w2, hw2⟩ : ∃ w2, w1.alloc (.cells #[.int .i64 zero5.a, .int .i64 zero5.b, .int .i64 zero5.c, .int .i64 zero5.d, .int .i64 zero5.e] 53) = w2 := ⟨_, rfl⟩
    rw [hw2] at hbA hb0 hb1 hE2 ⊢
    clear hw2
    with_reducible refine (HCK.out _ hE2).mono ?_
    rintro e w3 ⟨rfl, hX3⟩
    have hE3 := hE2.trans hX3
    replace hb0 := hX3.block hb0
    replace hb1 := hX3.block hb1
    replace hbA := hX3.block hbA
    obtain ⟨k0, k1, k2⟩ := box3' hb0
    obtain ⟨x0, x1, x2⟩ := box3' hb1
    obtain ⟨c0, c1, c2, c3, c4⟩ := box5 hbA
    clear HCK hE2 hX3 hE1
    obtain ⟨n, hn⟩ : ∃ n, chk C P R = n := ⟨_, rfl⟩
    rw [hn]
    clear hn
    cases hnb : (n == 0)
    · have hnb2 : (n != 0) = true := by simp [bne, hnb]
      go_wp2_with (go_at_call 53; with_reducible refine (within_any _ _ _ _).mono ?_; rintro e w' ⟨rfl, rfl⟩)
      exact bodyPost_ret (v := .tuple #[.int .i64 (-1), .bool false]) (by simp [results, Try.results26, go_sem]) rfl ⟨by rw [HR.out], hX.trans hE3⟩
    · have hnb2 : (n != 0) = false := by simp [bne, hnb]
      go_wp2_with (go_at_call 53; with_reducible refine (within_any _ _ _ _).mono ?_; rintro e w' ⟨rfl, rfl⟩)
      exact bodyPost_ret (v := .tuple #[.int .i64 (-1), .bool false]) (by simp [results, Try.results26, go_sem]) rfl ⟨by rw [HR.out], hX.trans hE3⟩
  | some c =>
    rw [findV_some hf]
    have HF := Lib.hid hf
    have hbA := heap_alloc_new w1 (.cells #[.int .i64 c.a, .int .i64 c.b, .int .i64 c.c, .int .i64 c.d, .int .i64 c.e] 53)
    replace hb0 := ((Ext.refl w1).alloc (.cells #[.int .i64 c.a, .int .i64 c.b, .int .i64 c.c, .int .i64 c.d, .int .i64 c.e] 53)).block hb0
    replace hb1 := ((Ext.refl w1).alloc (.cells #[.int .i64 c.a, .int .i64 c.b, .int .i64 c.c, .int .i64 c.d, .int .i64 c.e] 53)).block hb1
    have hE2 := hE1.alloc (.cells #[.int .i64 c.a, .int .i64 c.b, .int .i64 c.c, .int .i64 c.d, .int .i64 c.e] 53)
    obtain ⟨A, hA⟩ : ∃ A, w1.heap.size = A := ⟨_, rfl⟩
    have zBA : B < A := hA ▸ zB
    go_wp2_with fail
    rw [hA] at hbA
    obtain ⟨w2, hw2⟩ : ∃ w2, w1.alloc (.cells #[.int .i64 c.a, .int .i64 c.b, .int .i64 c.c, .int .i64 c.d, .int .i64 c.e] 53) = w2 := ⟨_, rfl⟩
    rw [hw2] at hbA hb0 hb1 hE2 ⊢
    clear hw2
    with_reducible refine (HCK.out _ hE2).mono ?_
    rintro e w3 ⟨rfl, hX3⟩
    have hE3 := hE2.trans hX3
    replace hb0 := hX3.block hb0
    replace hb1 := hX3.block hb1
    replace hbA := hX3.block hbA
    obtain ⟨k0, k1, k2⟩ := box3' hb0
    obtain ⟨x0, x1, x2⟩ := box3' hb1
    obtain ⟨c0, c1, c2, c3, c4⟩ := box5 hbA
    clear HCK hE2 hX3 hE1
    by_cases h0 : chk C P R = 0
    · rw [h0]
      have g := chk_zero.1 h0
      have HBAD : Hid (¬ (L ≠ [] ∧ c.b ≤ Y ∧ Y ≤ 4000 ∧ (L.length : Int) ≤ 4000 - Y + 1) → fitsR C P R id Y L = (-1, false)) := fun h => fits_bad (fun d hd => by rw [HF.out] at hd; cases hd; exact fun q => h q.2)
      by_cases l0 : L = []
      · have HR : Hid (fitsR C P R id Y L = (-1, false)) := HBAD.out (fun q => q.1 l0)
        have d0 : ((L.length : Int) == 0) = true := by simp [l0]
        clear hf h0 g HBAD l0
        go_wp2_with (go_at_call 53; with_reducible refine (within_any _ _ _ _).mono ?_; rintro e w' ⟨rfl, rfl⟩)
        exact bodyPost_ret (v := .tuple #[.int .i64 (-1), .bool false]) (by simp [results, Try.results26, go_sem]) rfl ⟨by rw [HR.out], hX.trans hE3⟩
      · have d0 : ((L.length : Int) == 0) = false := by simpa using l0
        have hL0 : L.length ≠ 0 := by simpa using l0
        cases hi : inB Y c.b 4000
        · have HR : Hid (fitsR C P R id Y L = (-1, false)) := HBAD.out (fun q => by have : inB Y c.b 4000 = true := inB_iff.2 ⟨q.2.1, q.2.2.1⟩; rw [hi] at this; cases this)
          clear hf h0 g HBAD
          go_wp2_with (go_at_call 53; with_reducible refine (within_any _ _ _ _).mono ?_; rintro e w' ⟨rfl, rfl⟩; rw [hi])
          exact bodyPost_ret (v := .tuple #[.int .i64 (-1), .bool false]) (by simp [results, Try.results26, go_sem]) rfl ⟨by rw [HR.out], hX.trans hE3⟩
        · have hyy := inB_iff.1 hi
          have hcc := okC_parts (good_okT g hf).2.1
          have hcb : 0 ≤ c.b ∧ c.b ≤ 4000 := hcc.2.1
          have hcw := hcc.2.2.2
          clear hcc
          by_cases l1 : 4000 - Y + 1 < (L.length : Int)
          · have HR : Hid (fitsR C P R id Y L = (-1, false)) := HBAD.out (fun q => by omega)
            clear hf h0 g HBAD
            go_wp2_with (go_at_call 53; with_reducible refine (within_any _ _ _ _).mono ?_; rintro e w' ⟨rfl, rfl⟩; rw [hi])
            exact bodyPost_ret (v := .tuple #[.int .i64 (-1), .bool false]) (by simp [results, Try.results26, go_sem]) rfl ⟨by rw [HR.out], hX.trans hE3⟩
          · have HG := Lib.hid (fits_good (P := P) (R := R) (Y := Y) (L := L) hf h0 l0 (by omega) (by omega) (by omega))
            have HSPL : Hid (∀ w', Ext w w' → Calls Try.prog 64 #[.agg #[vC, vP, vR], v5 c] w' (SpellsPost w' P R c)) := fun w' x =>
              spells_any w' C P R c _ w' (Ext.refl _) (HV.out.ext x) (by have := g.few; omega) (fun ts hp hs => by obtain ⟨t, r, e, hb, _⟩ := head_beg g hf hp hs; exact ⟨t, r, e, hb⟩) (fun t ht => (thAll_ok g hf t ht).1.1)
            clear h0 HBAD HV hf
            go_wp2_with (go_at_call 53; with_reducible refine (within_any _ _ _ _).mono ?_; rintro e w' ⟨rfl, rfl⟩; rw [hi])
            with_reducible refine (HSPL.out _ hE3).mono ?_
            rintro e w4 ⟨v4, S, ts, rfl, hS, hp, hs, hm, hX4⟩
            have hE4 := hE3.trans hX4
            replace hb0 := hX4.block hb0
            replace hb1 := hX4.block hb1
            replace hbA := hX4.block hbA
            clear HSPL hX4 k0 k1 k2 x0 x1 x2 c0 c1 c2 c3 c4 hE3 hi
            go_wp2_with fail
            have hok := (spOk_all g HF.out hS hp hm).1
            with_reducible refine (containsS_any _ S _ _ _ clS _ (Ext.refl _) hS enters_cl (fun i hi w' hw => by have := clashes_any w' S[i] w' (Ext.refl _) ((hok _ (List.getElem_mem hi)).ext hw); simpa using this)).mono ?_
            rintro e w5 ⟨rfl, hX5⟩
            rw [anyCl g HF.out hS hp hs hm]
            have hE3 := hE4.trans hX5
            replace hb0 := hX5.block hb0
            replace hb1 := hX5.block hb1
            replace hbA := hX5.block hbA
            replace hS := hS.ext hX5
            clear hok hX5 hE4
            obtain ⟨x0, x1, x2⟩ := box3' hb1
            cases hcl : fitCl P R c
            · have HR : Hid (fitsR C P R id Y L = fitZ P R c Y L) := by show _ = _; rw [HG.out, hcl]; rfl
              clear HG hcl
              go_wp2_with fail
              go_loopw [63] (fun i wr => ∃ i' : Nat, i' ≤ L.length ∧ i = .int .i64 i' ∧ Ext w5 wr ∧ Hid (∀ q, q < i' → fitB P R c Y L q = true)) (fun i _ => L.length - (intOf i).toNat)
              case atStart => exact ⟨0, Nat.zero_le _, rfl, Ext.refl _, fun q hq => absurd hq (by omega)⟩
              case round =>
                obtain ⟨i, hi, rfl, hE, HN⟩ := hrel
                replace hb1 := hE.block hb1
                replace hbA := hE.block hbA
                clear x0 x1 x2
                obtain ⟨x0, x1, x2⟩ := box3' hb1
                by_cases hlt : i < L.length
                · obtain ⟨bL, oL, n, hn, rfl, n0⟩ := int_at HcL.out (hE3.trans hE) hlt
                  have HHIT : Hid (fitB P R c Y L i = false → fitZ P R c Y L = (Y + i, false)) := fun h => fitZ_hit hlt h HN.out
                  have HPV : Hid (∀ q, q < i → 9000 ≤ L.getD q 0 ∧ L.getD q 0 ≤ 12000) := fun q hq => fitB_rng (HN.out q hq)
                  have HSUC : Hid (fitB P R c Y L i = true → ∀ q, q < i + 1 → fitB P R c Y L q = true) := fun h q hq => by
                    by_cases e : q = i
                    · subst e; exact h
                    · exact HN.out q (by omega)
                  have hn2 : L.getD i 0 = n := by rw [List.getD_eq_getElem?_getD, List.getElem?_eq_getElem hlt, hn]; rfl
                  have HB : Hid (fitB P R c Y L i = (inB n (limLo c.e (Y + i) (innZ P R c (spellZ R c (Y + i)))) (limHi c.e (Y + i) (innZ P R c (spellZ R c (Y + i)))) &&
                    (decide (i = 0) || decide ((spellZ R c (Y + i)).1 = Y + i) || inB n (L.getD (i - 1) 0) (L.getD (i - 1) 0 + c.e)))) := by show _ = _; rw [← hn2]; rfl
                  clear hn hn2 HN
                  have hi0 : (0 : Int) ≤ (i : Int) ∧ (i : Int) ≤ 4000 := by omega
                  have hi1 : (i : Int) < (L.length : Int) := by omega
                  have hy1 : c.b ≤ Y + i := by omega
                  have hy2 : Y + i ≤ 4000 := by omega
                  have hy3 : 0 ≤ Y + (i : Int) := by omega
                  have hY0 : 0 ≤ Y ∧ Y ≤ 4000 := by omega
                  obtain ⟨y, hyy2⟩ : ∃ y, Y + (i : Int) = y := ⟨_, rfl⟩
                  rw [hyy2] at hy1 hy2 hy3 HB HHIT
                  have hbN := heap_alloc_new wr (.cells #[.int .i64 y] 3)
                  replace hb1 := ((Ext.refl wr).alloc (.cells #[.int .i64 y] 3)).block hb1
                  replace hbA := ((Ext.refl wr).alloc (.cells #[.int .i64 y] 3)).block hbA
                  have n0' := ((Ext.refl wr).alloc (.cells #[.int .i64 y] 3)).cell n0
                  have hEa := hE.alloc (.cells #[.int .i64 y] 3)
                  obtain ⟨Nb, hNb⟩ : ∃ N, wr.heap.size = N := ⟨_, rfl⟩
                  go_wp2_with fail
                  rw [hNb] at hbN
                  obtain ⟨w6, hw6⟩ : ∃ w6, wr.alloc (.cells #[.int .i64 y] 3) = w6 := ⟨_, rfl⟩
                  rw [hw6] at hbN hb1 hbA n0' hEa ⊢
                  clear hw6 n0 hE x0 x1 x2
                  with_reducible refine (indexS_any _ S _ _ _ (fun s => inB y s.lo s.hi) _ (Ext.refl _) (hS.ext hEa) enters_fit (fun j hj w' hw => fitC_any _ y _ w' (cell_at (hw.block hbN) 0))).mono ?_
                  rintro e w7 ⟨rfl, hX7⟩
                  have hE7 := hEa.trans hX7
                  replace hb1 := hX7.block hb1
                  replace hbA := hX7.block hbA
                  replace hbN := hX7.block hbN
                  have n0 := hX7.cell n0'
                  have hS7 := hS.ext hE7
                  obtain ⟨k, hk, hidx, hOK, hIS⟩ := pick_at g HF.out hS7 hp hs hm hy1 hy2
                  rw [hidx]
                  obtain ⟨a3, cap3, rfl, hl3, hm3, hc3⟩ := hS7.parts
                  obtain ⟨b3, off3, rfl, hc4⟩ := hc3.resolve_left (fun e => by rw [e] at hk; simp at hk)
                  obtain ⟨d0, d1, d2, d3⟩ := hc4 k hk
                  have hkz : (k : Int) < (S.length : Int) := by omega
                  have hkz0 : (0 : Int) ≤ (k : Int) := by omega
                  generalize hsk : S[k] = sk at d0 d1 d2 d3 hOK hIS
                  have hsl := spell_le (R := R) hy1 hy2
                  have hIwe := hIS.we
                  have hIsp := hIS.sp
                  have hIfs := hIS.fs
                  obtain ⟨⟨s1, s2⟩, hz⟩ : ∃ s, spellZ R c y = s := ⟨_, rfl⟩
                  rw [hz] at hIsp hIfs HB hsl
                  have es1 : sk.lo = s1 := congrArg Prod.fst hIsp
                  rw [es1] at d0
                  have HLO : Hid (∀ w', SpOk w' sk → Calls Try.prog 62 #[.agg #[.int .i64 s1, .int .i64 sk.hi, .int .i64 sk.w, .slice sk.a sk.n sk.c], .int .i64 y] w' fun e w'' => e = .returned (.agg #[.int .i64 (limLo c.e y (innZ P R c (s1, s2))), .int .i64 (limHi c.e y (innZ P R c (s1, s2)))]) ∧ Ext w' w'') := fun w' q => by
                    have := long_any w' sk y w' (Ext.refl _) q hy3 hy2
                    rw [hIwe, limLo_perm hIfs, limHi_perm hIfs] at this
                    unfold SpE.val at this
                    rw [es1, hIwe] at this
                    rw [hIwe]
                    exact this
                  have HOK : Hid (∀ w', Ext w7 w' → SpOk w' sk) := fun w' q => hOK.ext q
                  generalize limLo c.e y (innZ P R c (s1, s2)) = la at HLO HB
                  generalize limHi c.e y (innZ P R c (s1, s2)) = lb at HLO HB
                  have hsy : s1 ≤ y := hsl.2.1
                  simp only at HB
                  clear hidx hsk hIS hIwe hIsp hIfs es1 hsl hz hc3 hc4 hl3 hm3 hOK hS7 hX7 hEa n0'
                  go_upto_region 12 with fail
                  obtain ⟨wr, rfl⟩ : ∃ w', w' = w7 := ⟨_, rfl⟩
                  go_cut [13] (fun v wx => ∃ N, v = .pointer (some ⟨N, 0, none⟩) ∧ Ext wr wx ∧ wx.heap[N]? = some (.cells #[.int .i64 la, .int .i64 lb] 30))
                  case first => as_aux_lemma =>
                    have e0 := cell_at hbN 0
                    have hK2 : ∀ w', Ext wr w' → (fun w' => Ext wr w' ∧ (Nb < w'.heap.size ∧ b3 < w'.heap.size) ∧ (w'.cell? ⟨b3, off3 + k * 4, none⟩ = some (.int .i64 s1) ∧ w'.cell? ⟨b3, off3 + k * 4 + 1, none⟩ = some (.int .i64 sk.hi) ∧ w'.cell? ⟨b3, off3 + k * 4 + 2, none⟩ = some (.int .i64 sk.w) ∧ w'.cell? ⟨b3, off3 + k * 4 + 3, none⟩ = some (.slice sk.a sk.n sk.c)) ∧ w'.cell? ⟨Nb, 0, none⟩ = some (.int .i64 y)) w' := fun w' x => ⟨x, ⟨lt_of_cell (x.cell e0), lt_of_cell (x.cell d0)⟩, ⟨x.cell d0, x.cell d1, x.cell d2, x.cell d3⟩, x.cell e0⟩
                    have HK2 := Lib.hid hK2
                    have hX2 := Ext.refl wr
                    clear hK2
                    go_region_held3 (fun w' => Ext wr w' ∧ (Nb < w'.heap.size ∧ b3 < w'.heap.size) ∧ (w'.cell? ⟨b3, off3 + k * 4, none⟩ = some (.int .i64 s1) ∧ w'.cell? ⟨b3, off3 + k * 4 + 1, none⟩ = some (.int .i64 sk.hi) ∧ w'.cell? ⟨b3, off3 + k * 4 + 2, none⟩ = some (.int .i64 sk.w) ∧ w'.cell? ⟨b3, off3 + k * 4 + 3, none⟩ = some (.slice sk.a sk.n sk.c)) ∧ w'.cell? ⟨Nb, 0, none⟩ = some (.int .i64 y)) (first | exact HK2.out _ (by assumption) | (refine HK2.out _ ?_; repeat (first | assumption | refine Ext.drew ?_ | refine Ext.alloc ?_ _ | refine Ext.setCell ?_ ?_ _ | exact Ext.le (by assumption) | exact Nat.le_trans (Ext.le (by assumption)) (Nat.le_succ _))))
                      ((go_at_call 62; first
                        | (with_reducible refine (HLO.out _ (HOK.out _ (Ext.drew (Ext.refl _)))).mono ?_; rintro e w8 ⟨rfl, hY⟩; have hX4 : Ext wr w8 := Ext.trans (Ext.drew (Ext.refl wr)) hY)
                        | (with_reducible refine (HLO.out _ (HOK.out _ ((Ext.alloc (Ext.refl _) _).drew))).mono ?_; rintro e w8 ⟨rfl, hY⟩; have hX4 : Ext wr w8 := Ext.trans (((Ext.refl wr).alloc _).drew) hY; have hN4 := hY.block (new_drew1 wr _); have hNs := (Array.getElem?_eq_some_iff.1 hN4).1; obtain ⟨t0, t1⟩ := box2 hN4; have y0 := frozen_cells ⟨_, hN4⟩ 0; have y1 := frozen_cells ⟨_, hN4⟩ 1)))
                    all_goals
                      go_wp2_with fail
                      go_meet
                      case rel => first | with_reducible exact relB1 hX4 (Nat.le_refl _) hN4 | with_reducible exact relN hX4 _
                  case rest =>
                  obtain ⟨M, rfl, hX8, hbM⟩ := hcut
                  obtain ⟨w8, rfl⟩ : ∃ w', w' = wc := ⟨_, rfl⟩
                  have hE8 := hE7.trans hX8
                  replace hb1 := hX8.block hb1
                  replace hbA := hX8.block hbA
                  replace hbN := hX8.block hbN
                  replace n0 := hX8.cell n0
                  replace d0 := hX8.cell d0
                  have e0 := cell_at hbN 0
                  simp only [List.getElem?_toArray, List.getElem?_cons_zero] at e0
                  obtain ⟨x0, x1, x2⟩ := box3' hb1
                  obtain ⟨c0, c1, c2, c3, c4⟩ := box5 hbA
                  obtain ⟨m0, m1⟩ := box2 hbM
                  have zN := lt_of_cell e0
                  have z3 := lt_of_cell d0
                  have zX := lt_of_cell x0
                  have zA := lt_of_cell c0
                  have zM := lt_of_cell m0
                  have zL := lt_of_cell n0
                  clear HLO HOK hX8 hE7 d1 d2 d3 hbM hbN hb0
                  go_upto_region 14 with (go_at_call 53; with_reducible refine (within_any _ _ _ _).mono ?_; rintro e w' ⟨rfl, rfl⟩)
                  generalize inB n la lb = z1 at HB ⊢
                  have hEQ := hE8.drewN
                  by_cases i0 : i = 0
                  · have g1 : decide (0 < (i : Int)) = false := by simp [i0]
                    have g2 : ¬ (0 < i) := by omega
                    have g3 : ¬ ((0 : Int) < (i : Int)) := by omega
                    rw [show decide (i = 0) = true by simp [i0], Bool.true_or, Bool.true_or, Bool.and_true] at HB
                    clear HPV i0
                    go_quiet (fail)
                    cases z1
                    · have HR2 : Hid (fitsR C P R id Y L = (y, false)) := by show _ = _; rw [HR.out, HHIT.out (HB.out.trans (by simp))]
                      go_wp2_with (go_at_call 53; with_reducible refine (within_any _ _ _ _).mono ?_; rintro e w' ⟨rfl, rfl⟩)
                      exact bodyPost_ret (v := .tuple #[.int .i64 y, .bool false]) (by simp [results, Try.results26, go_sem]) rfl ⟨by rw [HR2.out], hX.trans (hE3.trans (hEQ _))⟩
                    · go_wp2_with (go_at_call 53; with_reducible refine (within_any _ _ _ _).mono ?_; rintro e w' ⟨rfl, rfl⟩)
                      go_roundw
                      case rel => exact ⟨i + 1, by omega, by go_num, (hEQ _), HSUC.out (HB.out.trans (by simp))⟩
                      case measure => simp [intOf]; omega
                  · have g1 : decide (0 < (i : Int)) = true := by simp; omega
                    have g3 : (0 : Int) < (i : Int) := by omega
                    have g4 : 0 < i := by omega
                    rw [show decide (i = 0) = false by simp [i0], Bool.false_or] at HB
                    by_cases s0 : s1 = y
                    · have g2 : decide (s1 < y) = false := by simp; omega
                      rw [show decide (s1 = y) = true by simp [s0], Bool.true_or, Bool.and_true] at HB
                      clear HPV i0 s0
                      go_quiet (fail)
                      cases z1
                      · have HR2 : Hid (fitsR C P R id Y L = (y, false)) := by show _ = _; rw [HR.out, HHIT.out (HB.out.trans (by simp))]
                        go_wp2_with (go_at_call 53; with_reducible refine (within_any _ _ _ _).mono ?_; rintro e w' ⟨rfl, rfl⟩)
                        exact bodyPost_ret (v := .tuple #[.int .i64 y, .bool false]) (by simp [results, Try.results26, go_sem]) rfl ⟨by rw [HR2.out], hX.trans (hE3.trans (hEQ _))⟩
                      · go_wp2_with (go_at_call 53; with_reducible refine (within_any _ _ _ _).mono ?_; rintro e w' ⟨rfl, rfl⟩)
                        go_roundw
                        case rel => exact ⟨i + 1, by omega, by go_num, (hEQ _), HSUC.out (HB.out.trans (by simp))⟩
                        case measure => simp [intOf]; omega
                    · have g2 : decide (s1 < y) = true := by simp; omega
                      rw [show decide (s1 = y) = false by simp [s0], Bool.false_or] at HB
                      obtain ⟨j, hj⟩ : ∃ j, i = j + 1 := ⟨i - 1, by omega⟩
                      have hjl : j < L.length := by omega
                      obtain ⟨b', o', m, hmm, e9, q0⟩ := int_at HcL.out (hE3.trans hE8) hjl
                      cases e9
                      have hm2 : L.getD (i - 1) 0 = m := by rw [hj, List.getD_eq_getElem?_getD, show j + 1 - 1 = j by omega, List.getElem?_eq_getElem hjl, hmm]; rfl
                      have hpr := HPV.out (i - 1) (by omega)
                      rw [hm2] at hpr HB
                      have hj0 : (i : Int) - 1 = (j : Int) := by omega
                      have hj1 : (0 : Int) ≤ (j : Int) ∧ (j : Int) ≤ 4000 := by omega
                      have hj2 : (j : Int) < (L.length : Int) := by omega
                      have e5 : IntKind.i64.wrap ((i : Int) - 1) = (j : Int) := by rw [wrap_in (by omega)]; omega
                      have e6 : IntKind.i64.wrap (m + c.e) = m + c.e := wrap_in (by omega)
                      clear HPV i0 s0 hmm hm2 hj
                      go_quiet (fail)
                      go_upto_region 15 with fail
                      have hE9 : Ext w5 (w8.drewN nq) := hE8.drewN nq
                      have x2' : (w8.drewN nq).cell? ⟨B + 1, 2, none⟩ = some (.slice (some ⟨bL, oL, none⟩) L.length capL) := x2
                      have q0' : (w8.drewN nq).cell? ⟨bL, oL + j, none⟩ = some (.int .i64 m) := q0
                      have c3' : (w8.drewN nq).cell? ⟨A, 4, none⟩ = some (.int .i64 c.e) := c4
                      have e0' : (w8.drewN nq).cell? ⟨Nb, 0, none⟩ = some (.int .i64 y) := e0
                      clear hEQ x0 x1 x2 q0 c0 c1 c2 c3 c4 e0 d0 m0 m1 n0 hb1 hbA
                      generalize w8.drewN nq = w9 at hE9 x2' q0' c3' e0' ⊢
                      have zX := lt_of_cell x2'
                      have zA := lt_of_cell c3'
                      have zQ := lt_of_cell q0'
                      have zN := lt_of_cell e0'
                      have hEQ := hE9.drewN
                      cases hz2 : inB n m (m + c.e)
                      all_goals
                        rw [hz2] at HB
                        have HQ : ∀ n', Calls Try.prog 53 #[.int .i64 n, .int .i64 m, .int .i64 (m + c.e)] (w9.drewN n') fun e w'' => e = .returned (.bool _) ∧ ∃ m', w'' = w9.drewN m' := fun n' => (within_any n m (m + c.e) (w9.drewN n')).mono (fun e w' h => ⟨hz2 ▸ h.1, n', h.2.symm⟩)
                        cases z1
                      · go_quiet (fail)
                        have HR2 : Hid (fitsR C P R id Y L = (y, false)) := by show _ = _; rw [HR.out, HHIT.out (HB.out.trans (by simp))]
                        go_wp2_with (go_at_call 53; with_reducible refine (within_any _ _ _ _).mono ?_; rintro e w' ⟨rfl, rfl⟩)
                        exact bodyPost_ret (v := .tuple #[.int .i64 y, .bool false]) (by simp [results, Try.results26, go_sem]) rfl ⟨by rw [HR2.out], hX.trans (hE3.trans (hEQ _))⟩
                      · go_quiet (with_reducible exact HQ _)
                        have HR2 : Hid (fitsR C P R id Y L = (y, false)) := by show _ = _; rw [HR.out, HHIT.out (HB.out.trans (by simp))]
                        go_wp2_with (go_at_call 53; with_reducible refine (within_any _ _ _ _).mono ?_; rintro e w' ⟨rfl, rfl⟩)
                        exact bodyPost_ret (v := .tuple #[.int .i64 y, .bool false]) (by simp [results, Try.results26, go_sem]) rfl ⟨by rw [HR2.out], hX.trans (hE3.trans (hEQ _))⟩
                      · go_quiet (fail)
                        have HR2 : Hid (fitsR C P R id Y L = (y, false)) := by show _ = _; rw [HR.out, HHIT.out (HB.out.trans (by simp))]
                        go_wp2_with (go_at_call 53; with_reducible refine (within_any _ _ _ _).mono ?_; rintro e w' ⟨rfl, rfl⟩)
                        exact bodyPost_ret (v := .tuple #[.int .i64 y, .bool false]) (by simp [results, Try.results26, go_sem]) rfl ⟨by rw [HR2.out], hX.trans (hE3.trans (hEQ _))⟩
                      · go_quiet (with_reducible exact HQ _)
                        go_wp2_with (go_at_call 53; with_reducible refine (within_any _ _ _ _).mono ?_; rintro e w' ⟨rfl, rfl⟩)
                        go_roundw
                        case rel => exact ⟨i + 1, by omega, by go_num, (hEQ _), HSUC.out (HB.out.trans (by simp))⟩
                        case measure => simp [intOf]; omega
                · obtain rfl : i = L.length := by omega
                  have HR2 : Hid (fitsR C P R id Y L = (-1, true)) := by show _ = _; rw [HR.out, fitZ_all HN.out]
                  go_wp2_with fail
                  exact bodyPost_ret (v := .tuple #[.int .i64 (-1), .bool true]) (by simp [results, Try.results26, go_sem]) rfl ⟨by rw [HR2.out], hX.trans (hE3.trans hE)⟩
            · have HR : Hid (fitsR C P R id Y L = (Y, false)) := by show _ = _; rw [HG.out, hcl]; rfl
              clear HG hcl
              go_wp2_with fail
              exact bodyPost_ret (v := .tuple #[.int .i64 Y, .bool false]) (by simp [results, Try.results26, go_sem]) rfl ⟨by rw [HR.out], hX.trans hE3⟩
    · have HR : Hid (fitsR C P R id Y L = (-1, false)) := fits_bad (fun c hc q => h0 q.1)
      have hnb : (chk C P R == 0) = false := by simpa using h0
      generalize chk C P R = n at HR hnb ⊢
      have hnb2 : (n != 0) = true := by simp [bne, hnb]
      clear h0 HF hf
      go_wp2_with (go_at_call 53; with_reducible refine (within_any _ _ _ _).mono ?_; rintro e w' ⟨rfl, rfl⟩)
      exact bodyPost_ret (v := .tuple #[.int .i64 (-1), .bool false]) (by simp [results, Try.results26, go_sem]) rfl ⟨by rw [HR.out], hX.trans hE3⟩
end Go.Proofs.Ytaggjclaehigjaa
