/- The walk of the law ChainageCounts. -/
import Derived.Test.YtaggjclaehigjaaCT
import Derived.Test.YtaggjclaehigjaaK11
import Derived.BigRegion
import Derived.BigQuiet
import Derived.Deep.OwnRows
namespace Go.Proofs.Ytaggjclaehigjaa
open Go.RowKit
theorem neq_sp4 : ∀ (a b : Int) (w : World), (binOp .neq 30 (.agg #[.int .i64 a, .int .i64 b]) (.agg #[.int .i64 a, .int .i64 b])).run Try.prog w = .ok (.bool false) w := by
  intro a b w
  have h1 : (a == a) = true := by simp
  have h2 : (b == b) = true := by simp
  go_simp
set_option maxRecDepth 100000 in
set_option maxHeartbeats 16000000 in
theorem lawCounts (W : World) (C P R : List Five) (v : Value) (w : World) (hX : Ext W w) (hv : Wk w v C P R) :
    Calls Try.prog 8 #[v] w fun e w' => e = .returned (.bool true) ∧ Ext W w' := by
  have HTI := Lib.hid (fun w' (q : Ext w w') => tiny_any w' C P R v w' (Ext.refl _) (hv.ext q))
  have HPO := Lib.hid (fun (c : Five) l vl w' (q : Ext w w') (hl : Ints w' vl l) (hd : C.head? = some c) a b d e => possible_any w' C P R c l v vl w' (Ext.refl _) (hv.ext q) hl hd a b d e)
  have HFI := Lib.hid (fun id Y L vL w' (q : Ext w w') (hL : Ints w' vL L) => Fits_any w' C P R v id Y L vL w' (Ext.refl _) (hv.ext q) hL)
  have HCL := Lib.hid (fun w' (q : Ext w w') => clash_any w' C P R v w' (Ext.refl _) (hv.ext q))
  have HLO := Lib.hid (fun id y w' (q : Ext w w') => Long_any w' C P R v id y w' (Ext.refl _) (hv.ext q))
  obtain ⟨vC, vP, vR, rfl, hC, hP, hR, hn⟩ := hv
  obtain ⟨aC, capC, rfl, -, -, hcC⟩ := hC.parts
  obtain ⟨aP, capP, rfl, -⟩ := hP.parts
  obtain ⟨aR, capR, rfl, -⟩ := hR.parts
  have HcC := Lib.hid hcC
  clear hC hP hR hcC
  have hE0 : Ext w (w.alloc (.cells #[.slice aC C.length capC, .slice aP P.length capP, .slice aR R.length capR] 26)) := (Ext.refl w).alloc _
  have hb0 := heap_alloc_new w (.cells #[.slice aC C.length capC, .slice aP P.length capP, .slice aR R.length capR] 26)
  obtain ⟨B, hBB⟩ : ∃ B, w.heap.size = B := ⟨_, rfl⟩
  rw [hBB] at hb0
  go_enter Try.func8, Try.ntmps8
  go_wp2_with fail
  with_reducible refine (HTI.out _ hE0).mono ?_
  rintro e w1 ⟨⟨b, rfl, hb⟩, hX1⟩
  have hE1 := hE0.trans hX1
  replace hb0 := hX1.block hb0
  clear hE0 hX1 HTI
  cases b
  · go_wp2_with fail
    with_reducible refine (sanity_any _ _ (Ext.refl _)).mono ?_
    rintro e w2 ⟨rfl, hX2⟩
    go_wp2_with fail
    go_ret
    exact ⟨rfl, hX.trans (hE1.trans hX2)⟩
  · obtain ⟨c, HT⟩ := hb rfl
    have hc := HT.chain_ok
    have h1 : 0 < C.length := by rw [HT.one]; exact Nat.one_pos
    obtain ⟨bC, oC, c9, hx, rfl, q0, q1, q2, q3, q4⟩ := five_at HcC.out hE1 h1
    have hcc : c9 = c := by
      have h2 := HT.one
      subst h2
      rw [hx]
      rfl
    subst hcc
    rw [Nat.zero_mul, Nat.add_zero] at q0 q1 q2 q3 q4
    have HTT := Lib.hid HT
    clear hx HT hb
    have hC2 : (0 : Int) < (C.length : Int) := by omega
    obtain ⟨k0, k1, k2⟩ := box3' hb0
    have zB : B < w1.heap.size := lt_of_cell k0
    have hE2 := hE1.alloc (.cells #[.int .i64 c9.a, .int .i64 c9.b, .int .i64 c9.c, .int .i64 c9.d, .int .i64 c9.e] 53)
    replace hb0 := ((Ext.refl w1).alloc (.cells #[.int .i64 c9.a, .int .i64 c9.b, .int .i64 c9.c, .int .i64 c9.d, .int .i64 c9.e] 53)).block hb0
    have hbA := heap_alloc_new w1 (.cells #[.int .i64 c9.a, .int .i64 c9.b, .int .i64 c9.c, .int .i64 c9.d, .int .i64 c9.e] 53)
    obtain ⟨A, hA⟩ : ∃ A, w1.heap.size = A := ⟨_, rfl⟩
    go_upto_region 4 with fail
    rw [hA] at hbA
    obtain ⟨w2, hw2⟩ : ∃ w2, w1.alloc (.cells #[.int .i64 c9.a, .int .i64 c9.b, .int .i64 c9.c, .int .i64 c9.d, .int .i64 c9.e] 53) = w2 := ⟨_, rfl⟩
    rw [hw2] at hbA hb0 hE2 ⊢
    clear hw2 k0 k1 k2 q0 q1 q2 q3 q4 hE1 hA zB hC2
    obtain ⟨c0, c1, c2, c3, c4⟩ := box5 hbA
    obtain ⟨n, hn9⟩ : ∃ n : Nat, 4000 - c9.b + 1 = (n : Int) := ⟨(4000 - c9.b + 1).toNat, by omega⟩
    have hn1 : 1 ≤ n ∧ n ≤ 4 := by omega
    go_upto_region 5 with fail
    have hmk : ∀ w', Sem.run Try.prog (Instr.makeSlice 44 (.int .i64 (n : Int)) (.int .i64 (n : Int))) w' = .ok (.slice (some ⟨w'.heap.size, 0, none⟩) n n) (w'.alloc (.cells (madeCells #[.int .i64 0] n) 3)) := fun w' => run_make_row' 44 3 (.int .i64 0) 8 Try.underlying44 infoI rfl .i64 .i64 n (by omega) (by omega) w'
    have hmc : madeCells #[.int .i64 0] n = ((List.replicate n (0 : Int)).flatMap enc1).toArray := by
      apply Array.toList_inj.1
      rw [toList_madeCells_one, flat_enc1]
      simp
    have HMC := Lib.hid hmc
    clear hmc
    go_cut [5] (fun v wx => ∃ g, v = .slice (some ⟨g, 0, none⟩) n n ∧ Ext w2 wx ∧ Own 3 1 enc1 w2.heap.size wx v (List.replicate n 0))
    case first => as_aux_lemma =>
      go_wp2_with fail
      go_meet
      case rel => exact ⟨_, rfl, (Ext.refl _).alloc _, by rw [HMC.out]; exact Own.new enc1_len rfl rfl (by simp) (Nat.le_refl _) (by simp; omega)⟩
    case rest =>
    obtain ⟨g, rfl, hX3, hO⟩ := hcut
    obtain ⟨w3, rfl⟩ : ∃ w', w' = wc := ⟨_, rfl⟩
    have hcb : Hid (c9.b + (n : Int) = 4001) := by show _ = _; omega
    clear hn9 hmk HMC
    have hg0 := (hO.block2 (by simp) (by omega)).1
    have HHd : Hid (C.head? = some c9) := by show _ = _; rw [HTT.out.one]; rfl
    obtain ⟨N, hN⟩ : ∃ N : Nat, 13 ^ n = N := ⟨_, rfl⟩
    have hNI : ((13 : Int) ^ n) = (N : Int) := by rw [← hN]; exact (Int.natCast_pow 13 n).symm
    have hN4 : N ≤ 28561 := by rw [← hN]; exact Nat.pow_le_pow_right (by decide) hn1.2
    have HNN := Lib.hid hN
    have HPW := Lib.hid (fun w' => power_any n w' hn1.2)
    rw [hNI] at HPW
    clear hN hNI
    have q1 := eql_nil_no
    have q2 := eql_nil_yes
    go_wp2_with fail
    with_reducible refine (HPW.out _).mono ?_
    rintro e w4 ⟨rfl, hX4⟩
    have hE4 := hX3.trans hX4
    replace hO := hO.ext hX4
    clear HPW hX3 hX4
    go_wp2_with fail
    go_loopw [6, 7, 39] (fun u v i wr => ∃ k : Nat, k ≤ N ∧ i = .int .i64 k ∧ Ext w2 wr ∧ (∃ L : List Int, L.length = n ∧ Own 3 1 enc1 w2.heap.size wr (.slice (some ⟨g, 0, none⟩) n n) L) ∧ Counted P R c9 w2.heap.size g n k wr u v) (fun _ _ i _ => N - (intOf i).toNat)
    case atStart => exact ⟨0, Nat.zero_le _, rfl, hE4, ⟨_, by simp, hO⟩, .inl ⟨rfl, rfl, NoneYet.zero⟩⟩
    case round =>
      clear hE4 hO
      obtain ⟨k, hk, rfl, hE, ⟨L, hL, hO⟩, hCo⟩ := hrel
      by_cases hlt : k < N
      · have HCo := Lib.hid hCo
        clear hCo
        have hkN : (k : Int) < (N : Int) := by omega
        have hk0 : 0 ≤ (k : Int) ∧ (k : Int) ≤ 28561 := by omega
        obtain ⟨w5, rfl⟩ : ∃ w', w' = wr := ⟨_, rfl⟩
        go_wp2_with fail
        go_loopw [9, 45] (fun x i wr => ∃ j : Nat, j ≤ n ∧ i = .int .i64 j ∧ x = .int .i64 ((k / 13 ^ j : Nat) : Int) ∧ Ext w2 wr ∧ KX g w5 wr ∧ Own 3 1 enc1 w2.heap.size wr (.slice (some ⟨g, 0, none⟩) n n) (uptoL sndF n j L (dig n k))) (fun _ i _ => n - (intOf i).toNat)
        case atStart => exact ⟨0, Nat.zero_le _, rfl, by simp, hE, KX.refl _ _, by rw [uptoL_zero hL]; exact hO⟩
        case round =>
          clear hE hO
          obtain ⟨j, hj, rfl, rfl, hE, hKX, hO⟩ := hrel
          by_cases hlj : j < n
          · have hql : k / 13 ^ j ≤ 28561 := by have := Nat.div_le_self k (13 ^ j); omega
            have HST := Lib.hid (dig_step (k := k) (A := L) hlj)
            have HD1 := Lib.hid (div_step k j)
            obtain ⟨q, hq⟩ : ∃ q, k / 13 ^ j = q := ⟨_, rfl⟩
            rw [hq] at HST HD1 hql ⊢
            have ht1 : (q : Int).tmod 13 = ((q % 13 : Nat) : Int) := (Int.ofNat_tmod q 13).symm
            have ht2 : (q : Int).tdiv 13 = ((q / 13 : Nat) : Int) := (Int.ofNat_tdiv q 13).symm
            have hr13 : q % 13 < 13 := Nat.mod_lt _ (by decide)
            have hp13 : q / 13 ≤ 28561 := by omega
            obtain ⟨r, hr⟩ : ∃ r, q % 13 = r := ⟨_, rfl⟩
            obtain ⟨p, hp⟩ : ∃ p, q / 13 = p := ⟨_, rfl⟩
            rw [hr] at HST ht1 hr13
            rw [hp] at HD1 ht2 hp13
            obtain ⟨-, hg1, ⟨cs, hg2⟩, hg3⟩ := hO.block2 (uptoL_len _ _ _ _ _) (by omega)
            have hcell := hg3 j hlj
            have hfz := frozen_cells ⟨_, hg2⟩ j
            have HO2 := Lib.hid (hO.set2 (i := j) (x := 9000 + (r : Int)) (uptoL_len _ _ _ _ _))
            rw [HST.out] at HO2
            clear hg2 hg3 hr hp hq hO
            have hlj2 : (j : Int) < (n : Int) := by omega
            have hr0 : 0 ≤ (r : Int) ∧ (r : Int) < 13 := by omega
            have hq0 : 0 ≤ (q : Int) ∧ (q : Int) ≤ 28561 := by omega
            have hp0 : 0 ≤ (p : Int) ∧ (p : Int) ≤ 28561 := by omega
            go_wp2_with fail
            go_roundw
            case rel => exact ⟨j + 1, by omega, by go_num, by rw [← HD1.out], hE.setCell hg0 _, hKX.set _ _, HO2.out⟩
            case measure => simp [intOf]; omega
          · obtain rfl : j = n := by omega
            rw [uptoL_snd] at hO
            have hCo := HCo.out.kx hKX
            have hIn := hO.sl2
            clear HCo hKX hlj
            have hb1 := hE.block hb0
            obtain ⟨k0, k1, k2⟩ := box3' hb1
            have HPB := Lib.hid (HPO.out c9 (dig j k) _ wr (hE2.trans hE) hIn HHd.out ⟨by omega, by omega⟩ ⟨by omega, by omega⟩ (by rw [dig_len]; omega) (fun x hx => by have := dig_rng j k x hx; omega))
            obtain ⟨b, hb⟩ : ∃ b, posB P R c9 (dig j k) = b := ⟨_, rfl⟩
            rw [hb] at HPB
            have HBB := Lib.hid hb
            obtain ⟨z, hz⟩ : ∃ z, fitsR C P R c9.a c9.b (dig j k) = (z, b) := ⟨_, Prod.ext rfl (by rw [HTT.out.fits (by rw [dig_len]; exact hcb.out) dig_rng2, hb])⟩
            have HFF := Lib.hid (fun w' (q : Ext w w') (hi : Ints w' (.slice (some ⟨g, 0, none⟩) j j) (dig j k)) => HFI.out c9.a c9.b (dig j k) _ w' q hi)
            rw [hz] at HFF
            clear hb hz hIn
            obtain ⟨w6, rfl⟩ : ∃ w', w' = wr := ⟨_, rfl⟩
            go_wp2_with fail
            with_reducible refine (HPB.out).mono ?_
            rintro e w7 ⟨rfl, hX7⟩
            replace hE := hE.trans hX7
            replace hO := hO.ext hX7
            replace hCo := hCo.ext hX7
            clear k0 k1 k2 hb1 hX7 HPB
            have HCo := Lib.hid hCo
            clear hCo
            go_upto_if 60 with fail
            go_cut [6, 7] (fun u v wx => Ext w2 wx ∧ Own 3 1 enc1 w2.heap.size wx (.slice (some ⟨g, 0, none⟩) j j) (dig j k) ∧ Counted P R c9 w2.heap.size g j (k + 1) wx u v)
            case first => as_aux_lemma =>
              cases b
              · go_wp2_with fail
                go_meet
                case rel => exact ⟨hE, hO, HCo.out.skip HBB.out⟩
              · obtain ⟨t, hqt, hqg, hts⟩ := HCo.out.test
                have HTS := Lib.hid hts
                have HO := Lib.hid hO
                clear hts
                go_upto_if 62 with fail
                go_cut [6, 7] (fun u v wx => ∃ Lo Hi, Ext w2 wx ∧ Own 3 1 enc1 w2.heap.size wx (.slice (some ⟨g, 0, none⟩) j j) (dig j k) ∧ LM w2.heap.size g j wx u v Lo Hi ∧ MostOr P R c9 j k Lo Hi)
                case first => as_aux_lemma =>
                  rcases HTS.out with ⟨rfl, rfl, rfl, hNY⟩ | ⟨rfl, Lo, Hi, hLM, hMI⟩
                  · have HNY := Lib.hid hNY
                    have hgl := (hO.block2 (dig_len _ _) (by omega)).2.1
                    clear hNY
                    go_wp2_with (first
                      | (at_builtin; (with_reducible refine app_many 44 3 1 8 (.int .i64 0) enc1 enc1_len enc1_one Try.underlying44 infoI rfl (by decide) (by decide) rfl (.tmp 63) (.tmp 64) rfl w7.heap.size (.slice (some ⟨w7.heap.size, 0, none⟩) 0 0) [] rfl (own_empty1 w7 _ (Nat.le_refl _)) (.slice (some ⟨g, 0, none⟩) j j) (dig j k) rfl (HO.out.sl2.ext ((Ext.refl _).alloc _)) (by rw [dig_len]; simp; omega) (by simp) ?_); intro v9 w9 hO9 hg9 hE9 hb9; obtain ⟨a, ca, rfl, ha1, ha2⟩ := Own.form1 (n := j) hO9 (by simp [dig_len]) (by omega); have hX9 := hE9 w7 (Nat.le_refl _) ((Ext.refl _).alloc _))
                      | (at_builtin; with_reducible refine app_many 44 3 1 8 (.int .i64 0) enc1 enc1_len enc1_one Try.underlying44 infoI rfl (by decide) (by decide) rfl (.tmp 66) (.tmp 67) rfl w9.heap.size (.slice (some ⟨w9.heap.size, 0, none⟩) 0 0) [] rfl (own_empty1 w9 _ (Nat.le_refl _)) (.slice (some ⟨g, 0, none⟩) j j) (dig j k) rfl ((HO.out.sl2.ext hX9).ext ((Ext.refl _).alloc _)) (by rw [dig_len]; simp; omega) (by simp) ?_; intro v10 w10 hO10 hg10 hE10 hb10; obtain ⟨d, cd, rfl, hd1, hd2⟩ := Own.form1 (n := j) hO10 (by simp [dig_len]) (by omega); have hX10 := hE10 w9 (Nat.le_refl _) ((Ext.refl _).alloc _)))
                    go_meet
                    case rel => exact ⟨_, _, hE.trans (hX9.trans hX10), hO.ext (hX9.trans hX10), ⟨a, ca, d, cd, rfl, rfl, ⟨by omega, by omega, by omega⟩, (hO9.ext hX10).mono (by have := hE.le; omega), hO10.mono (by have := (hE.trans hX9).le; omega)⟩, .inl ⟨HNY.out, rfl, rfl⟩⟩
                  · go_wp2_with fail
                    go_meet
                    case rel => exact ⟨Lo, Hi, hE, hO, hLM, .inr hMI⟩
                case rest =>
                obtain ⟨Lo, Hi, hE, hO, hLM, hMO⟩ := hcut
                obtain ⟨w8, rfl⟩ : ∃ w', w' = wc := ⟨_, rfl⟩
                clear HTS HO HCo hqt hqg
                obtain ⟨a, ca, d, cd, rfl, rfl, hne, ha, hd⟩ := hLM
                have HMO := Lib.hid hMO
                have ha0 := (ha.block2 hMO.lens.1 (by omega)).1
                have hd0 := (hd.block2 hMO.lens.2 (by omega)).1
                have qm1 := ite_min
                have qm2 := ite_max
                have HNE := Lib.hid hne
                have hne3 : a ≠ d := hne.2.2
                clear hMO hne
                go_wp2_with fail
                go_loopw [71] (fun i wr => ∃ m : Nat, m ≤ j ∧ i = .int .i64 m ∧ Ext w2 wr ∧ Own 3 1 enc1 w2.heap.size wr (.slice (some ⟨g, 0, none⟩) j j) (dig j k) ∧ LM w2.heap.size g j wr (.slice (some ⟨a, 0, none⟩) j ca) (.slice (some ⟨d, 0, none⟩) j cd) (uptoL min j m Lo (dig j k)) (uptoL max j m Hi (dig j k))) (fun i _ => j - (intOf i).toNat)
                case atStart => exact ⟨0, Nat.zero_le _, rfl, hE, hO, a, ca, d, cd, rfl, rfl, HNE.out, by rw [uptoL_zero HMO.out.lens.1]; exact ha, by rw [uptoL_zero HMO.out.lens.2]; exact hd⟩
                case round =>
                  clear hE hO ha hd
                  obtain ⟨m, hm, rfl, hE, hO, hLM⟩ := hrel
                  by_cases hlm : m < j
                  · obtain ⟨_, _, _, _, e1, e2, _, ha, hd⟩ := hLM
                    cases e1
                    cases e2
                    obtain ⟨-, zg, -, hg3⟩ := hO.block2 (dig_len _ _) (by omega)
                    obtain ⟨-, za, ⟨cs1, ha2⟩, ha3⟩ := ha.block2 (uptoL_len _ _ _ _ _) (by omega)
                    obtain ⟨-, zd, ⟨cs2, hd2⟩, hd3⟩ := hd.block2 (uptoL_len _ _ _ _ _) (by omega)
                    have cg := hg3 m hlm
                    have cA := ha3 m hlm
                    have cD := hd3 m hlm
                    rw [uptoL_at hlm, if_neg (by omega)] at cA cD
                    have fA := frozen_cells ⟨_, ha2⟩ m
                    have fD := frozen_cells ⟨_, hd2⟩ m
                    have HOO := Lib.hid hO
                    have HA := Lib.hid ha
                    have HDD := Lib.hid hd
                    obtain ⟨x, hx⟩ : ∃ x, x = (dig j k).getD m 0 := ⟨_, rfl⟩
                    obtain ⟨y, hy⟩ : ∃ y, y = Lo.getD m 0 := ⟨_, rfl⟩
                    obtain ⟨z9, hz9⟩ : ∃ z, z = Hi.getD m 0 := ⟨_, rfl⟩
                    rw [← hx] at cg
                    rw [← hy] at cA
                    rw [← hz9] at cD
                    have HXY := Lib.hid (And.intro hx (And.intro hy hz9))
                    have hlm2 : (m : Int) < (j : Int) := by omega
                    clear hO ha hd hg3 ha3 hd3 ha2 hd2 hx hy hz9
                    go_upto_region 24 with fail
                    go_region
                    all_goals
                      go_wp2_with fail
                      go_roundw
                      case rel =>
                        have h2 := two_set (x := min y x) (y := max z9 x) hlm HNE.out HA.out HDD.out HOO.out (by rw [← HXY.out.1, ← HXY.out.2.1]) (by rw [← HXY.out.1, ← HXY.out.2.2])
                        exact ⟨m + 1, by omega, by go_num, ((hE.setCell ha0 _).setCell hd0 _).drew, h2.1.ext (Ext.refl _).drew, h2.2.ext (Ext.refl _).drew⟩
                      case measure => simp [intOf]; omega
                  · obtain rfl : m = j := by omega
                    go_wp2_with fail
                    go_meet
                    case rel => exact ⟨hE, hO, .inr ⟨_, _, hLM, HMO.out.step HBB.out⟩⟩
            case rest =>
            clear hE hO HCo HBB
            obtain ⟨hE, hO, hCo⟩ := hcut
            obtain ⟨w8, rfl⟩ : ∃ w', w' = wc := ⟨_, rfl⟩
            have HO := Lib.hid hO
            have HCo := Lib.hid hCo
            obtain ⟨k0, k1, k2⟩ := box3' (hE.block hb0)
            obtain ⟨c0, c1, c2, c3, c4⟩ := box5 (hE.block hbA)
            clear hO hCo
            have hcs : b = true ∨ (b = false ∧ k % 37 = 0) ∨ (b = false ∧ ¬ k % 37 = 0) := by cases b <;> simp <;> omega
            have ht37 : (k : Int).tmod 37 = ((k % 37 : Nat) : Int) := (Int.ofNat_tmod k 37).symm
            rcases hcs with rfl | ⟨rfl, h37⟩ | ⟨rfl, h37⟩
            · go_wp2_with (go_at_call 26; with_reducible refine (HFF.out _ (hE2.trans hE) HO.out.sl2).mono ?_; rintro e w9 ⟨rfl, hX9⟩; unfold fitV)
              go_roundw
              case rel => exact ⟨k + 1, by omega, by go_num, hE.trans hX9, ⟨_, dig_len _ _, HO.out.ext hX9⟩, HCo.out.ext hX9⟩
              case measure => simp [intOf]; omega
            · rw [h37] at ht37
              go_wp2_with (go_at_call 26; with_reducible refine (HFF.out _ (hE2.trans hE) HO.out.sl2).mono ?_; rintro e w9 ⟨rfl, hX9⟩; unfold fitV)
              go_roundw
              case rel => exact ⟨k + 1, by omega, by go_num, hE.trans hX9, ⟨_, dig_len _ _, HO.out.ext hX9⟩, HCo.out.ext hX9⟩
              case measure => simp [intOf]; omega
            · obtain ⟨r, hr⟩ : ∃ r, k % 37 = r := ⟨_, rfl⟩
              rw [hr] at h37 ht37
              have hr2 : ((r : Int) == 0) = false := by simp; omega
              go_wp2_with fail
              go_roundw
              case rel => exact ⟨k + 1, by omega, by go_num, hE, ⟨_, dig_len _ _, HO.out⟩, HCo.out⟩
              case measure => simp [intOf]; omega
      · obtain rfl : k = N := by omega
        clear hlt hO hk HPO HFI
        have hq : Hid (∀ q, clsL C P R (clF P R) = q → (q = [] ↔ fitCl P R c9 = false)) := fun q h => by rw [← h]; exact HTT.out.pairs
        have hch := HTT.out.chk
        obtain ⟨q, hqe⟩ : ∃ q, clsL C P R (clF P R) = q := ⟨_, rfl⟩
        have hq2 := hq.out q hqe
        rw [hqe, hch] at HCL
        clear hq hqe hch
        obtain ⟨k0, k1, k2⟩ := box3' (hE.block hb0)
        rcases hCo with ⟨rfl, rfl, hNY⟩ | ⟨Lo, Hi, hLM, hMI⟩
        · have hf := HTT.out.none hcb.out (by rw [HNN.out]; exact hNY)
          have hq3 : q ≠ [] := fun e => by have := hq2.1 e; rw [hf] at this; cases this
          clear hq2 hNY hf
          cases q with
          | nil => exact absurd rfl hq3
          | cons x r =>
            go_wp2_with (go_at_call 29; with_reducible refine (HCL.out _ (hE2.trans hE)).mono ?_; rintro e w9 ⟨rfl, hX9⟩; unfold clashV)
            have hE9 := hE.trans hX9
            go_loopw [133] (fun i wr => i = .int .i64 0 ∧ Ext w2 wr) (fun _ _ => 0)
            case atStart => exact ⟨rfl, hE9⟩
            case round =>
              obtain ⟨rfl, hE⟩ := hrel
              go_wp2_with fail
              with_reducible refine (sanity_any _ _ (Ext.refl _)).mono ?_
              rintro e w10 ⟨rfl, hX10⟩
              go_wp2_with fail
              go_ret
              exact ⟨rfl, hX.trans (hE2.trans (hE.trans hX10))⟩
        · obtain ⟨hf, hlo⟩ := HTT.out.most hcb.out (by rw [HNN.out]; exact hMI)
          obtain rfl := hq2.2 hf
          have HLG := Lib.hid hlo
          obtain ⟨a, ca, d, cd, rfl, rfl, -, ha, hd⟩ := hLM
          have HA := Lib.hid ha
          have HD := Lib.hid hd
          have HLL := Lib.hid hMI.lenL
          have HLH := Lib.hid hMI.lenH
          clear hq2 hf hlo ha hd hMI
          go_wp2_with (go_at_call 29; with_reducible refine (HCL.out _ (hE2.trans hE)).mono ?_; rintro e w9 ⟨rfl, hX9⟩; unfold clashV)
          have hE9 := hE.trans hX9
          go_loopw [133] (fun i wr => ∃ m : Nat, m ≤ n ∧ i = .int .i64 m ∧ Ext w9 wr) (fun i _ => n - (intOf i).toNat)
          case atStart => exact ⟨0, Nat.zero_le _, rfl, Ext.refl _⟩
          case round =>
            clear k0 k1 k2 hE
            obtain ⟨m, hm, rfl, hE⟩ := hrel
            obtain ⟨k0, k1, k2⟩ := box3' (hE.block (hE9.block hb0))
            by_cases hlm : m < n
            · have HY := Lib.hid (HLO.out c9.a (c9.b + (m : Int)))
              rw [HLG.out m hlm] at HY
              obtain ⟨p, hp⟩ : ∃ p, Lo.getD m 0 = p := ⟨_, rfl⟩
              obtain ⟨r, hr⟩ : ∃ r, Hi.getD m 0 = r := ⟨_, rfl⟩
              have p0 := (((HA.out.ext hX9).ext hE).block2 HLL.out (by omega)).2.2.2 m hlm
              have r0 := (((HD.out.ext hX9).ext hE).block2 HLH.out (by omega)).2.2.2 m hlm
              rw [hp] at HY p0
              rw [hr] at HY r0
              have hm0 : 0 ≤ (m : Int) ∧ (m : Int) < (n : Int) := by omega
              obtain ⟨c0, c1, c2, c3, c4⟩ := box5 (hE.block (hE9.block hbA))
              obtain ⟨yy, hyy⟩ : ∃ y, c9.b + (m : Int) = y := ⟨_, rfl⟩
              rw [hyy] at HY
              clear hp hr
              have qN := neq_sp4
              go_upto_region 37 with fail
              go_wp2_with fail
              with_reducible refine (HY.out _ (hE2.trans (hE9.trans hE))).mono ?_
              rintro e w10 ⟨rfl, hX10⟩
              have hbT := heap_alloc_new w10 (.cells #[.int .i64 p, .int .i64 r] 30)
              have hE11 := hX10.alloc (.cells #[.int .i64 p, .int .i64 r] 30)
              obtain ⟨T, hT⟩ : ∃ T, w10.heap.size = T := ⟨_, rfl⟩
              go_upto_region 38 with fail
              rw [hT] at hbT
              obtain ⟨w11, hw11⟩ : ∃ w11, w10.alloc (.cells #[.int .i64 p, .int .i64 r] 30) = w11 := ⟨_, rfl⟩
              rw [hw11] at hbT hE11 ⊢
              clear hw11 k0 k1 k2 c0 c1 c2 c3 c4 hX10
              obtain ⟨t0, t1⟩ := box2 hbT
              have p0 := hE11.cell p0
              have r0 := hE11.cell r0
              have zt := lt_of_cell t0
              have zp := lt_of_cell p0
              have zr := lt_of_cell r0
              go_quiet (fail)
              go_wp2_with fail
              go_roundw
              case rel => exact ⟨m + 1, by omega, by go_num, (hE.trans hE11).drewN _⟩
              case measure => simp [intOf]; omega
            · obtain rfl : m = n := by omega
              go_wp2_with fail
              with_reducible refine (sanity_any _ _ (Ext.refl _)).mono ?_
              rintro e w10 ⟨rfl, hX10⟩
              go_wp2_with fail
              go_ret
              exact ⟨rfl, hX.trans (hE2.trans (hE9.trans (hE.trans hX10)))⟩
end Go.Proofs.Ytaggjclaehigjaa
