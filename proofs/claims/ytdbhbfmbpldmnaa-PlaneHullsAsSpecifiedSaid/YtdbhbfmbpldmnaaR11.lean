/- Contract of the reference's Around. -/
import Derived.Test.YtdbhbfmbpldmnaaR10
import Derived.Test.YtdbhbfmbpldmnaaUV
import Derived.Test.YtdbhbfmbpldmnaaR4
import Derived.Deep.CutBlock
import Derived.Deep.RegionHeld3
namespace Go.Proofs.Ytdbhbfmbpldmnaa
open Go.RowKit Go.Sort
theorem pts_ar (o : Int × Int) (l : List (Int × Int)) : (200 < l.length ∧ ptsE l 0 = 2 ∧ arE o l = 2) ∨ (l.length ≤ 200 ∧ l.all okp = false ∧ ptsE l 0 = 1 ∧ arE o l = 1) ∨ (l.length ≤ 200 ∧ l.all okp = true ∧ ptsE l 0 = 0 ∧ okp o = false ∧ arE o l = 1) ∨
    (l.length ≤ 200 ∧ l.all okp = true ∧ ptsE l 0 = 0 ∧ okp o = true ∧ arE o l = if o ∈ l then 1 else 0) := by
  by_cases h : 200 < l.length
  · exact .inl ⟨h, by unfold ptsE; rw [if_neg (by omega)], by unfold arE; rw [if_pos h]⟩
  · have hp : 0 ≤ l.length ∧ l.length ≤ 200 := by omega
    cases h1 : l.all okp
    · exact .inr (.inl ⟨by omega, rfl, by unfold ptsE; rw [if_pos hp, h1]; rfl, by unfold arE; rw [if_neg h, h1]; rfl⟩)
    · cases h2 : okp o
      · exact .inr (.inr (.inl ⟨by omega, rfl, by unfold ptsE; rw [if_pos hp, h1]; rfl, rfl, by unfold arE; rw [if_neg h, h1, h2]; rfl⟩))
      · refine .inr (.inr (.inr ⟨by omega, rfl, by unfold ptsE; rw [if_pos hp, h1]; rfl, rfl, ?_⟩))
        unfold arE
        rw [if_neg h, h1, h2]
        by_cases h3 : o ∈ l <;> simp [h3]
theorem own_emptyI2 (w : World) (o : Obj) : OwnI w.heap.size ((w.alloc o).alloc (.cells #[] 3)) (.slice (some ⟨w.heap.size + 1, 0, none⟩) 0 0) [] := by
  have h := own_emptyI (w.alloc o) w.heap.size (by rw [World.size_alloc]; omega)
  rwa [World.size_alloc] at h
theorem cellB (w : World) (o : Obj) (u : Value) : ((w.alloc o).alloc (.cells #[u] 3)).cell? ⟨w.heap.size + 1, 0, none⟩ = some u := by
  have h := (BoxN.new (w.alloc o) 3 #[u]).cell 0
  rwa [World.size_alloc] at h
theorem cellC (w : World) (o : Obj) (u : Value) : ((w.alloc (.cells #[u] 3)).alloc o).cell? ⟨w.heap.size, 0, none⟩ = some u :=
  ((BoxN.new w 3 #[u]).ext ((Ext.refl _).alloc o)).cell 0
theorem OwnI.form {base : Nat} {w : World} {v : Value} {l : List Nat} (h : OwnI base w v l) : ∃ a cap, v = .slice a l.length cap ∧ l.length ≤ cap ∧ cap ≤ maxLen ∧ ((a = none ∧ l = []) ∨ ∃ g, a = some ⟨g, 0, none⟩ ∧ ∀ i, (h : i < l.length) → w.cell? ⟨g, i, none⟩ = some (.int .i64 (l[i] : Int))) := by
  rcases h.2 with ⟨hv, hn⟩ | ⟨g, cap, cur, hv, hbg, hg, hnc, hcm, hcs, htake⟩
  · have : l = [] := List.length_eq_zero_iff.1 hn
    subst this
    exact ⟨none, 0, hv, Nat.le_refl _, by simp [maxLen], .inl ⟨rfl, rfl⟩⟩
  · refine ⟨_, cap, hv, hnc, hcm, .inr ⟨g, rfl, fun i hi => ?_⟩⟩
    have q := World.ownsRow.cells h (by rw [hv]; rfl) i (.int .i64 (l[i] : Int)) (by simp [ints, hi])
    have e : (⟨g, 0, none⟩ : Addr).add i = ⟨g, i, none⟩ := by unfold Addr.add; split <;> simp_all
    rwa [e] at q
theorem OwnI.mono {base base' : Nat} {w : World} {v : Value} {l : List Nat} (h : OwnI base w v l) (hb : base' ≤ base) : OwnI base' w v l :=
  ⟨h.1, h.2.imp id (fun ⟨g, cap, cur, hv, hbg, r⟩ => ⟨g, cap, cur, hv, Nat.le_trans hb hbg, r⟩)⟩
theorem OwnI.kx {base R : Nat} {w w' : World} {v : Value} {l : List Nat} (h : OwnI base w v l) (k : KX R w w') (hb : R < base) : OwnI base w' v l := by
  obtain ⟨h1, h2⟩ := h
  refine ⟨h1, ?_⟩
  rcases h2 with h2 | ⟨g, cap, cur, hv, hbg, hg, r⟩
  · exact Or.inl h2
  · refine Or.inr ⟨g, cap, cur, hv, hbg, ?_, r⟩
    have hlt : g < w.heap.size := by
      rcases Nat.lt_or_ge g w.heap.size with h' | h'
      · exact h'
      · rw [Array.getElem?_eq_none h'] at hg
        cases hg
    exact (k.2 g hlt (by omega)).trans hg
theorem OwnI.toInts {base : Nat} {w : World} {v : Value} {l : List Nat} (h : OwnI base w v l) : Ints w v l := by
  obtain ⟨a, cap, hv, h1, h2, h3⟩ := h.form
  refine ⟨a, cap, hv, h1, h2, ?_⟩
  rcases h3 with ⟨_, h3⟩ | ⟨g, ha, hc⟩
  · exact .inl h3
  · exact .inr ⟨g, 0, ha, fun i hi => by rw [Nat.zero_add]; exact hc i hi⟩
set_option maxRecDepth 100000 in
set_option maxHeartbeats 16000000 in
theorem rAround_any (W : World) (v : Value) (ox oy : Int) (l : List (Int × Int)) (r : List Nat) (w : World) (hX : Ext W w) (hv : Pts w v l) (hr : (arE (ox, oy) l ≠ 0 ∧ r = []) ∨ (arE (ox, oy) l = 0 ∧ ArS (ox, oy) l r)) :
    Calls Try.prog 46 #[spV ox oy, v] w fun e w' => ∃ vv, e = .returned (.agg #[vv, .int .i64 (arE (ox, oy) l)]) ∧ Ints w' vv r ∧ Ext W w' := by
  have hv0 := hv
  have hlen := hv.len
  obtain ⟨a0, cap, rfl, hl, hm, hc⟩ := hv
  have HC := Lib.hid hc
  have HR := Lib.hid hr
  clear hc hr
  have hPA := pts_ar (ox, oy) l
  go_enter Try.func46, Try.ntmps46
  have HPA := Lib.hid hPA
  clear hPA
  go_wp2_with fail
  have bO := (BoxN.new w 23 (spC (ox, oy))).ext ((Ext.refl _).alloc (.cells #[.slice none 0 0, .int .i64 0] 66))
  have bR := BoxN.new (w.alloc (.cells (spC (ox, oy)) 23)) 66 #[.slice none 0 0, .int .i64 0]
  rw [World.size_alloc] at bR
  have hX0 := ((Ext.refl w).alloc (.cells (spC (ox, oy)) 23)).alloc (.cells #[.slice none 0 0, .int .i64 0] 66)
  have zR : w.heap.size ≤ w.heap.size + 1 := by omega
  change Calls _ _ _ ((w.alloc (.cells (spC (ox, oy)) 23)).alloc (.cells #[.slice none 0 0, .int .i64 0] 66)) _
  generalize (w.alloc (.cells (spC (ox, oy)) 23)).alloc (.cells #[.slice none 0 0, .int .i64 0] 66) = w1 at bO bR hX0 ⊢
  have nOR : w.heap.size ≠ w.heap.size + 1 := by omega
  generalize w.heap.size + 1 = R at bR zR nOR ⊢
  generalize w.heap.size = O at bO nOR ⊢
  refine (rpoints w1 _ l 0 _ (Ext.refl _) (hv0.ext hX0)).mono ?_
  rintro en w2 ⟨rfl, hX2⟩
  replace bR := bR.ext hX2
  replace bO := bO.ext hX2
  replace hX2 := hX0.trans hX2
  clear hX0
  obtain ⟨n0, n1, n2⟩ := bR.box2
  have hrE : arE (ox, oy) l ≠ 0 → r = [] := fun h => by
    rcases HR.out with ⟨_, h2⟩ | ⟨h2, _⟩
    · exact h2
    · exact absurd h2 h
  have HRE := Lib.hid hrE
  clear hrE
  have nilI : ∀ w', Ints w' (.slice none 0 0) [] := fun w' => ⟨none, 0, rfl, Nat.le_refl _, by simp [maxLen], .inl rfl⟩
  have NI := Lib.hid nilI
  clear nilI
  rcases HPA.out with ⟨h1, h2, h3⟩ | ⟨h1, h2, h3, h4⟩ | ⟨h1, h2, h3, h4, h5⟩ | ⟨h200, hok, h3, h4, h5⟩
  · obtain rfl : r = [] := HRE.out (by rw [h3]; decide)
    rw [h2]
    have H3 := Lib.hid h3
    clear h1 h2 h3
    go_wp2_with fail
    refine bodyPost_ret (v := .agg #[.slice none 0 0, .int .i64 2]) ?_ ?_ ?_
    · simp [results, Try.f46, go_sem, n0, n1]
    · rfl
    · exact ⟨_, by rw [H3.out], NI.out _, hX.trans (ext_two hX2 zR _ _)⟩
  · obtain rfl : r = [] := HRE.out (by rw [h4]; decide)
    rw [h3]
    have H3 := Lib.hid h4
    clear h1 h2 h3 h4
    go_wp2_with fail
    refine bodyPost_ret (v := .agg #[.slice none 0 0, .int .i64 1]) ?_ ?_ ?_
    · simp [results, Try.f46, go_sem, n0, n1]
    · rfl
    · exact ⟨_, by rw [H3.out], NI.out _, hX.trans (ext_two hX2 zR _ _)⟩
  · obtain rfl : r = [] := HRE.out (by rw [h5]; decide)
    rw [h3]
    have H3 := Lib.hid h5
    have H4 := Lib.hid h4
    clear h1 h2 h3 h4 h5
    obtain ⟨o0, o1, -⟩ := bO.box2
    simp only at o0 o1
    go_wp2_with fail
    with_reducible refine (rValid w2 ox oy _ (Ext.refl _)).mono ?_
    rintro en w3 ⟨rfl, hX3⟩
    rw [H4.out]
    clear n0 n1 n2 o0 o1
    obtain ⟨n0, n1, n2⟩ := (bR.ext hX3).box2
    go_wp2_with fail
    refine bodyPost_ret (v := .agg #[.slice none 0 0, .int .i64 1]) ?_ ?_ ?_
    · simp [results, Try.f46, go_sem, n0, n1]
    · rfl
    · exact ⟨_, by rw [H3.out], NI.out _, hX.trans (ext_two (hX2.trans hX3) zR _ _)⟩
  rw [h3]
  have H5 := Lib.hid h5
  have H4 := Lib.hid h4
  have OK := Lib.hid hok
  clear h3 h4 h5 hok
  obtain ⟨o0, o1, -⟩ := bO.box2
  simp only at o0 o1
  go_wp2_with fail
  with_reducible refine (rValid w2 ox oy _ (Ext.refl _)).mono ?_
  rintro en w3 ⟨rfl, hX3⟩
  rw [H4.out]
  replace bR := bR.ext hX3
  replace bO := bO.ext hX3
  replace hX2 := hX2.trans hX3
  clear n0 n1 n2 o0 o1 hX3
  go_wp2_with fail
  obtain ⟨base, hbase⟩ : ∃ b, w3.heap.size = b := ⟨_, rfl⟩
  have HB := Lib.hid hbase
  clear hbase
  go_loopw [7, 8] (fun v x wr => ∃ (i : Nat) (out : List Nat), x = .int .i64 i ∧ i ≤ l.length ∧ (∀ q ∈ l.take i, q ≠ (ox, oy)) ∧ ArP (ox, oy) l i out ∧ OwnI base wr v out ∧ Ext w3 wr) (fun _ x _ => l.length - (intOf x).toNat)
  case atStart => exact ⟨0, [], rfl, Nat.zero_le _, by simp, ArP.zero _ _, OwnI.nil _ _, Ext.refl _⟩
  case round =>
    obtain ⟨i, out, rfl, hi, hno, hAr, hown, hx⟩ := hrel
    obtain ⟨wq, rfl⟩ : ∃ w', w' = wr := ⟨_, rfl⟩
    have HNO := Lib.hid hno
    have HAR := Lib.hid hAr
    have hol := hAr.len
    obtain ⟨ag, cg, rfl, hg1, hg2, hg3⟩ := hown.form
    rw [hol] at hg1 ⊢
    have HOL := Lib.hid hol
    have HOWN := Lib.hid hown
    have HG := Lib.hid hg3
    clear hno hAr hown hg3 hol
    by_cases hlt : i < l.length
    · have hltz : (i : Int) < (l.length : Int) := by omega
      obtain ⟨b, off, rfl, hcc⟩ := HC.out.resolve_left (by intro e; rw [e] at hlt; simp at hlt)
      have HCC := Lib.hid hcc
      have d0 := (hX2.trans hx).cell (hcc i hlt).1
      have d1 := (hX2.trans hx).cell (hcc i hlt).2
      clear hcc
      obtain ⟨qx, qy, hq⟩ : ∃ x y, l[i] = (x, y) := ⟨_, _, rfl⟩
      rw [hq] at d0 d1
      simp only at d0 d1
      obtain ⟨o0, o1, -⟩ := (bO.ext hx).box2
      simp only at o0 o1
      have HQ := Lib.hid hq
      have memQ : (qx, qy) ∈ l := by rw [← hq]; exact List.getElem_mem hlt
      have MQ := Lib.hid memQ
      clear hq memQ
      have eqq := fun w => run_eql_pt qx qy ox oy w
      by_cases e : qx = ox ∧ qy = oy
      · rw [decide_eq_true e] at eqq
        have hE1 : arE (ox, oy) l = 1 := by
          rw [H5.out, if_pos (by have := MQ.out; rw [e.1, e.2] at this; exact this)]
        obtain rfl : r = [] := HRE.out (by rw [hE1]; decide)
        have HE1 := Lib.hid hE1
        clear e hE1
        go_wp2_with fail
        refine wp_region_quiet_lit (by kernel_rfl) (by kernel_rfl) ?_
        repeat (with_reducible refine wpQuiet_step (fun K hK => ?_); go_simp; first | (with_reducible refine hK _ ?_; clear hK K) | (rw [if_neg (by simp [undef])]; with_reducible refine hK _ ?_; clear hK K))
        refine wpQuiet_nil ?_
        intro _ hw'
        obtain ⟨nq, hw''⟩ := hw'
        subst hw''
        obtain ⟨n0, n1, n2⟩ := (bR.ext (hx.drewN nq)).box2
        have hf := hX.trans (ext_two (hX2.trans (hx.drewN nq)) zR (.slice none 0 0) (.int .i64 1))
        generalize wq.drewN nq = wd at n0 n1 n2 hf ⊢
        clear o0 o1 d0 d1 eqq
        go_wp2_with fail
        refine bodyPost_ret (v := .agg #[.slice none 0 0, .int .i64 1]) ?_ ?_ ?_
        · simp [results, Try.f46, go_sem, n0, n1]
        · rfl
        · exact ⟨_, by rw [HE1.out], NI.out _, hf⟩
      · rw [decide_eq_false e] at eqq
        have HE := Lib.hid e
        clear e
        go_wp2_with fail
        refine wp_region_quiet_lit (by kernel_rfl) (by kernel_rfl) ?_
        repeat (with_reducible refine wpQuiet_step (fun K hK => ?_); go_simp; first | (with_reducible refine hK _ ?_; clear hK K) | (rw [if_neg (by simp [undef])]; with_reducible refine hK _ ?_; clear hK K))
        refine wpQuiet_nil ?_
        intro _ hw'
        obtain ⟨nq, hw''⟩ := hw'
        subst hw''
        have hx2 := hx.drewN nq
        have o0 := ((Ext.refl wq).drewN nq).cell o0
        have o1 := ((Ext.refl wq).drewN nq).cell o1
        have d0 := ((Ext.refl wq).drewN nq).cell d0
        have d1 := ((Ext.refl wq).drewN nq).cell d1
        have hxq := (Ext.refl wq).drewN nq
        generalize wq.drewN nq = wd at hx2 hxq o0 o1 d0 d1 ⊢
        clear eqq
        go_upto_block 2 with fail
        go_cut [9] (fun y wx => ∃ k : Nat, y = .int .i64 k ∧ k ≤ i ∧ (∀ j, j < i → k ≤ j → aheadB (ox, oy) (qx, qy) (l.getD (out.getD j 0) (0, 0)) = true) ∧ (k = 0 ∨ aheadB (ox, oy) (qx, qy) (l.getD (out.getD (k - 1) 0) (0, 0)) = false) ∧ Ext wd wx)
        case first =>
          obtain ⟨oo1, oo2⟩ : okc ox = true ∧ okc oy = true := by have := H4.out; unfold okp at this; rwa [Bool.and_eq_true] at this
          obtain ⟨oq1, oq2⟩ : okc qx = true ∧ okc qy = true := by have := List.all_eq_true.1 OK.out _ MQ.out; unfold okp at this; rwa [Bool.and_eq_true] at this
          go_wp2_with fail
          go_loopw [9] (fun y wi => ∃ k : Nat, y = .int .i64 k ∧ k ≤ i ∧ (∀ j, j < i → k ≤ j → aheadB (ox, oy) (qx, qy) (l.getD (out.getD j 0) (0, 0)) = true) ∧ Ext wd wi) (fun y _ => (intOf y).toNat)
          case atStart => exact ⟨i, rfl, Nat.le_refl _, fun j h1 h2 => by omega, Ext.refl _⟩
          case round =>
            obtain ⟨k, rfl, hk, hall, hz⟩ := hrel
            have HALL := Lib.hid hall
            clear hall
            by_cases hk0 : k = 0
            · obtain rfl : 0 = k := hk0.symm
              go_wp2_with fail
              refine wp_region_quiet_below (by kernel_rfl) (by kernel_rfl) ?_
              repeat (with_reducible refine wpQuiet_step (fun K hK => ?_); go_simp; first | (with_reducible refine hK _ ?_; clear hK K) | (rw [if_neg (by simp [undef])]; with_reducible refine hK _ ?_; clear hK K))
              refine wpQuiet_nil ?_
              intro _ hw'
              obtain ⟨⟨dq, osq⟩, hw''⟩ := hw'
              subst hw''
              have hXq : Ext wr (Go.Sort.grow (redrawn wr dq) osq) := below_regrown wr dq osq
              have hz2 := hz.trans hXq
              go_wp2_with fail
              go_meet
              exact ⟨0, rfl, Nat.zero_le _, HALL.out, .inl rfl, hz2⟩
            · obtain ⟨k1, hk1⟩ : ∃ k1, k = k1 + 1 := ⟨k - 1, by omega⟩
              have hki : k1 < i := by omega
              have hko : k1 < out.length := by rw [HOL.out]; exact hki
              rcases HG.out with ⟨_, h⟩ | ⟨g, rfl, hcg⟩
              · exfalso; rw [h] at hko; simp at hko
              have c0 := hcg k1 hko
              have hmi := (HAR.out).lt _ (List.getElem_mem hko)
              obtain ⟨m, hmm⟩ : ∃ m, out[k1] = m := ⟨_, rfl⟩
              rw [hmm] at c0 hmi
              have hml : m < l.length := by omega
              have hgm : out.getD (k - 1) 0 = m := by rw [hk1, Nat.add_sub_cancel, getD_in 0 hko]; exact hmm
              have hgm2 : out.getD k1 0 = m := by rw [getD_in 0 hko]; exact hmm
              obtain ⟨p0, p1⟩ := HCC.out m hml
              obtain ⟨px, py, hp⟩ : ∃ x y, l[m] = (x, y) := ⟨_, _, rfl⟩
              have hgp : l.getD m (0, 0) = (px, py) := by rw [getD_in (0, 0) hml]; exact hp
              rw [hp] at p0 p1
              have okP := List.all_eq_true.1 OK.out _ (List.getElem_mem hml)
              rw [hp] at okP
              obtain ⟨op1, op2⟩ : okc px = true ∧ okc py = true := by unfold okp at okP; rwa [Bool.and_eq_true] at okP
              obtain ⟨bb, hbb⟩ : ∃ bb, aheadB (ox, oy) (qx, qy) (px, py) = bb := ⟨_, rfl⟩
              have cA := regrow (w := wr) (fun w' => rahead_any w' ox oy qx qy px py w' (Ext.refl _) oo1 oo2 oq1 oq2 op1 op2)
              rw [hbb] at cA
              have c0 := cell_regrown ((hxq.trans hz).cell c0)
              have p0 := cell_regrown (((hX2.trans hx2).trans hz).cell p0)
              have p1 := cell_regrown (((hX2.trans hx2).trans hz).cell p1)
              have d0 := cell_regrown (hz.cell d0)
              have d1 := cell_regrown (hz.cell d1)
              have o0 := cell_regrown (hz.cell o0)
              have o1 := cell_regrown (hz.cell o1)
              have hkz : (0 : Int) < (k : Int) := by omega
              have kk1 : (k : Int) - 1 = (k1 : Int) := by omega
              have kk2 : IntKind.i64.wrap (k1 : Int) = (k1 : Int) := by rw [IntKind.wrap_i64]; omega
              have kk3 : (k1 : Int) < (i : Int) := by omega
              have kk4 : (m : Int) < (l.length : Int) := by omega
              have kmax : max (0 : Int) (k1 : Int) = (k1 : Int) := by omega
              have hmax := ite_max
              have HGM := Lib.hid (And.intro hgm (And.intro hgm2 hgp))
              have HBB := Lib.hid hbb
              have HK1 := Lib.hid hk1
              have h0k : 0 < k := by omega
              clear hcg hmm hp hgp hgm hgm2 hbb hk1 okP hmi hml hko
              go_wp2_with fail
              refine wp_region_quiet_below (by kernel_rfl) (by kernel_rfl) ?_
              repeat (with_reducible refine wpQuiet_step (fun K hK => ?_); go_simp; first | (with_reducible refine hK _ ?_; clear hK K) | (rw [if_neg (by simp [undef])]; with_reducible refine hK _ ?_; clear hK K) | (apply Exists.intro; with_reducible refine ⟨fun _ => ?_, hK _ ?_⟩; (first | with_reducible exact cA _ _); clear hK K))
              refine wpQuiet_nil ?_
              intro _ hw'
              obtain ⟨⟨dq, osq⟩, hw''⟩ := hw'
              subst hw''
              have hXq : Ext wr (Go.Sort.grow (redrawn wr dq) osq) := below_regrown wr dq osq
              have hz2 := hz.trans hXq
              cases bb
              · go_wp2_with fail
                go_meet
                exact ⟨k, rfl, hk, HALL.out, .inr (by rw [HGM.out.1, HGM.out.2.2]; exact HBB.out), hz2⟩
              · go_wp2_with fail
                refine ⟨⟨k1, rfl, by omega, fun j hj hkj => ?_, hz2⟩, by simp [intOf]; omega⟩
                by_cases e : j = k1
                · rw [e, HGM.out.2.1, HGM.out.2.2]; exact HBB.out
                · exact HALL.out j hj (by have := HK1.out; omega)
        case rest =>
          obtain ⟨wz, rfl⟩ : ∃ w', w' = wc := ⟨_, rfl⟩
          obtain ⟨k, rfl, hk, hall, hstop, hz⟩ := hcut
          have hxz := hxq.trans hz
          have pt : ∀ j, j ≤ i → l.getD j (0, 0) ≠ (ox, oy) := by
            intro j hj
            have hjl : j < l.length := by omega
            rw [getD_in (0, 0) hjl]
            by_cases e : j = i
            · subst e
              rw [HQ.out]
              intro c
              exact HE.out ⟨congrArg Prod.fst c, congrArg Prod.snd c⟩
            · refine HNO.out _ ?_
              rw [List.mem_take_iff_getElem]
              exact ⟨j, by omega, rfl⟩
          have hq2 : l.getD i (0, 0) = (qx, qy) := by rw [getD_in (0, 0) hlt]; exact HQ.out
          have hnew := ins_ok (k := k) pt HAR.out (by rw [hq2, HOL.out]; exact hall) (by rw [hq2, HOL.out]; exact hstop.imp id (fun h => ⟨hk, h⟩))
          have HNEW := Lib.hid hnew
          have hno2 : ∀ q ∈ l.take (i + 1), q ≠ (ox, oy) := by
            intro q hq
            rw [List.mem_take_iff_getElem] at hq
            obtain ⟨j, hj, rfl⟩ := hq
            have := pt j (by omega)
            rwa [getD_in (0, 0) (by omega)] at this
          have HNO2 := Lib.hid hno2
          have hkc : (k : Int) ≤ (cg : Int) := by omega
          have hki : (k : Int) ≤ (i : Int) := by omega
          have htl : (out.take k).length = k := by rw [List.length_take, HOL.out]; omega
          have hdl : (out.drop k).length = i - k := by rw [List.length_drop, HOL.out]
          have h200i : i ≤ 200 := by omega
          clear hall hstop pt hq2 hnew hno2
          have hxw := hx2.trans hz
          have hbz : base ≤ wz.heap.size := by rw [← HB.out]; exact hxw.le
          have fin : ∀ v' w' (L : List Nat), OwnI wz.heap.size w' v' L → L = out.take k ++ i :: out.drop k → Ext wz w' → OwnI base w' v' (out.take k ++ i :: out.drop k) ∧ Ext w3 w' := fun v' w' L h e x => by
            subst e
            exact ⟨OwnI.mono h hbz, hxw.trans x⟩
          have HFIN := Lib.hid fin
          clear fin
          rcases HG.out with ⟨rfl, ho⟩ | ⟨g, rfl, hcg⟩
          · obtain rfl : out = [] := ho
            obtain rfl : 0 = i := by have := HOL.out; simpa using this
            obtain rfl : 0 = k := by omega
            have I1 : Ints wz (.slice none 0 cg) [] := ⟨none, cg, rfl, Nat.zero_le _, hg2, .inl rfl⟩
            have I3 := I1
            clear o0 o1 d0 d1
            go_wp2_with fail
            go_region_held3 (fun w' => Ext wz w') (first | assumption | exact Ext.refl _ | (repeat (first | assumption | exact Ext.refl _ | refine Ext.alloc ?_ _ | refine Ext.drew ?_)))
              ((first | (refine step_app_ints (by rfl) (.tmp 57) (.tmp 60) (by rfl) wz.heap.size (.slice (some ⟨wz.heap.size, 0, none⟩) 0 0) (.slice none 0 cg) ([]) ([]) (by rfl) (own_emptyI wz _ (Nat.le_refl _)) (by rfl) (I1.ext (by repeat (first | assumption | exact Ext.refl _ | refine Ext.drew ?_ | refine Ext.alloc ?_ _))) (by simp) (by repeat (first | assumption | exact Ext.refl _ | refine Ext.drew ?_ | refine Ext.alloc ?_ _)) rfl ?_; intro v1 wa ho1 he1 hf1) | (refine step_app_ints (by rfl) (.tmp 57) (.tmp 60) (by rfl) wz.heap.size (.slice (some ⟨wz.heap.size, 0, none⟩) 0 0) (.slice none 0 cg) ([]) ([]) (by rfl) ((own_emptyI wz _ (Nat.le_refl _)).ext (by repeat (first | exact Ext.refl _ | refine Ext.drew ?_ | refine Ext.alloc ?_ _))) (by rfl) (I1.ext (by repeat (first | assumption | exact Ext.refl _ | refine Ext.drew ?_ | refine Ext.alloc ?_ _))) (by simp) (by repeat (first | assumption | exact Ext.refl _ | refine Ext.drew ?_ | refine Ext.alloc ?_ _)) rfl ?_; intro v1 wa ho1 he1 hf1; (first | have hcB := hf1 (wz.heap.size + 1) (.int .i64 ((0 : Nat) : Int)) ((Ext.drew (Ext.refl _)).cell (cellB wz _ _)) (by simp [Value.ownBlock]) | have hcB := hf1 (wz.heap.size + 1) (.int .i64 ((0 : Nat) : Int)) (cellB wz _ _) (by simp [Value.ownBlock]) | skip)) | (refine step_app_ints (by rfl) (.tmp 57) (.tmp 60) (by rfl) wz.heap.size (.slice (some ⟨wz.heap.size + 1, 0, none⟩) 0 0) (.slice none 0 cg) ([]) ([]) (by rfl) ((own_emptyI2 wz _).ext (by repeat (first | exact Ext.refl _ | refine Ext.drew ?_ | refine Ext.alloc ?_ _))) (by rfl) (I1.ext (by repeat (first | assumption | exact Ext.refl _ | refine Ext.drew ?_ | refine Ext.alloc ?_ _))) (by simp) (by repeat (first | assumption | exact Ext.refl _ | refine Ext.drew ?_ | refine Ext.alloc ?_ _)) rfl ?_; intro v1 wa ho1 he1 hf1; (first | have hcC := hf1 wz.heap.size (.int .i64 ((0 : Nat) : Int)) ((Ext.drew (Ext.refl _)).cell (cellC wz _ _)) (by simp [Value.ownBlock]) | have hcC := hf1 wz.heap.size (.int .i64 ((0 : Nat) : Int)) (cellC wz _ _) (by simp [Value.ownBlock]))) | (refine step_app_ints (by rfl) (.tmp 61) (.tmp 63) (by rfl) wz.heap.size v1 (.slice (some ⟨wa.heap.size, 0, none⟩) 1 1) ([] ++ []) ([0]) (by rfl) (ho1.ext (by repeat (first | exact Ext.refl _ | refine Ext.drew ?_ | refine Ext.alloc ?_ _))) (by rfl) ((int_new wa 0).ext (by repeat (first | exact Ext.refl _ | refine Ext.drew ?_ | refine Ext.alloc ?_ _))) (by simp) (by repeat (first | assumption | exact Ext.refl _ | refine Ext.drew ?_ | refine Ext.alloc ?_ _)) rfl ?_; intro v2 wb ho2 he2 hf2) | (refine step_app_ints (by rfl) (.tmp 61) (.tmp 63) (by rfl) wz.heap.size v1 (.slice (some ⟨wz.heap.size + 1, 0, none⟩) 1 1) ([] ++ []) ([0]) (by rfl) (ho1.ext (by repeat (first | exact Ext.refl _ | refine Ext.drew ?_ | refine Ext.alloc ?_ _))) (by rfl) ((int_of_cell hcB).ext (by repeat (first | exact Ext.refl _ | refine Ext.drew ?_ | refine Ext.alloc ?_ _))) (by simp) (by repeat (first | assumption | exact Ext.refl _ | refine Ext.drew ?_ | refine Ext.alloc ?_ _)) rfl ?_; intro v2 wb ho2 he2 hf2) | (refine step_app_ints (by rfl) (.tmp 61) (.tmp 63) (by rfl) wz.heap.size v1 (.slice (some ⟨wz.heap.size, 0, none⟩) 1 1) ([] ++ []) ([0]) (by rfl) (ho1.ext (by repeat (first | exact Ext.refl _ | refine Ext.drew ?_ | refine Ext.alloc ?_ _))) (by rfl) ((int_of_cell hcC).ext (by repeat (first | exact Ext.refl _ | refine Ext.drew ?_ | refine Ext.alloc ?_ _))) (by simp) (by repeat (first | assumption | exact Ext.refl _ | refine Ext.drew ?_ | refine Ext.alloc ?_ _)) rfl ?_; intro v2 wb ho2 he2 hf2) | (refine step_app_ints (by rfl) (.tmp 64) (.tmp 67) (by rfl) wz.heap.size v2 (.slice none 0 cg) (([] ++ []) ++ [0]) ([]) (by rfl) (ho2.ext (by repeat (first | exact Ext.refl _ | refine Ext.drew ?_ | refine Ext.alloc ?_ _))) (by rfl) (I3.ext (by repeat (first | assumption | exact Ext.refl _ | refine Ext.drew ?_ | refine Ext.alloc ?_ _))) (by simp) (by repeat (first | assumption | exact Ext.refl _ | refine Ext.drew ?_ | refine Ext.alloc ?_ _)) rfl ?_; intro v3 we ho3 he3 hf3)))
            all_goals
              obtain ⟨q1, q2⟩ := HFIN.out _ _ _ ho3 (by simp) he3
              go_wp2_with fail
              exact ⟨⟨0 + 1, _, by simp, by omega, HNO2.out, HNEW.out, q1, q2⟩, by simp [intOf]; omega⟩
          · have hcz : ∀ j (h : j < out.length), wz.cell? ⟨g, j, none⟩ = some (.int .i64 (out[j] : Int)) := fun j h => hxz.cell (hcg j h)
            have I1 : Ints wz (.slice (some ⟨g, 0, none⟩) k cg) (out.take k) := ⟨some ⟨g, 0, none⟩, cg, by rw [htl], by omega, hg2, .inr ⟨g, 0, rfl, fun j hj => by rw [List.getElem_take, Nat.zero_add]; exact hcz j _⟩⟩
            by_cases hck : cg = k
            · obtain rfl : k = i := by omega
              obtain rfl : k = cg := hck.symm
              have hd0 : out.drop k = [] := List.length_eq_zero_iff.1 (by rw [hdl]; omega)
              have I3 : Ints wz (.slice (some ⟨g, 0, none⟩) 0 0) (out.drop k) := by
                rw [hd0]
                exact ⟨some ⟨g, 0, none⟩, 0, rfl, Nat.le_refl _, by simp [maxLen], .inl rfl⟩
              clear o0 o1 d0 d1 hcg hcz hd0 hck
              go_wp2_with fail
              go_region_held3 (fun w' => Ext wz w') (first | assumption | exact Ext.refl _ | (repeat (first | assumption | exact Ext.refl _ | refine Ext.alloc ?_ _ | refine Ext.drew ?_)))
                ((first | (refine step_app_ints (by rfl) (.tmp 57) (.tmp 60) (by rfl) wz.heap.size (.slice (some ⟨wz.heap.size, 0, none⟩) 0 0) (.slice (some ⟨g, 0, none⟩) k k) ([]) (out.take k) (by rfl) (own_emptyI wz _ (Nat.le_refl _)) (by rfl) (I1.ext (by repeat (first | assumption | exact Ext.refl _ | refine Ext.drew ?_ | refine Ext.alloc ?_ _))) (by (first | (simp only [List.length_nil, htl]; omega) | (simp only [List.length_append, List.length_nil, List.length_cons, htl]; omega) | (simp only [List.length_append, List.length_nil, List.length_cons, htl, hdl]; omega))) (by repeat (first | assumption | exact Ext.refl _ | refine Ext.drew ?_ | refine Ext.alloc ?_ _)) rfl ?_; intro v1 wa ho1 he1 hf1) | (refine step_app_ints (by rfl) (.tmp 57) (.tmp 60) (by rfl) wz.heap.size (.slice (some ⟨wz.heap.size, 0, none⟩) 0 0) (.slice (some ⟨g, 0, none⟩) k k) ([]) (out.take k) (by rfl) ((own_emptyI wz _ (Nat.le_refl _)).ext (by repeat (first | exact Ext.refl _ | refine Ext.drew ?_ | refine Ext.alloc ?_ _))) (by rfl) (I1.ext (by repeat (first | assumption | exact Ext.refl _ | refine Ext.drew ?_ | refine Ext.alloc ?_ _))) (by (first | (simp only [List.length_nil, htl]; omega) | (simp only [List.length_append, List.length_nil, List.length_cons, htl]; omega) | (simp only [List.length_append, List.length_nil, List.length_cons, htl, hdl]; omega))) (by repeat (first | assumption | exact Ext.refl _ | refine Ext.drew ?_ | refine Ext.alloc ?_ _)) rfl ?_; intro v1 wa ho1 he1 hf1; (first | have hcB := hf1 (wz.heap.size + 1) (.int .i64 ((k : Nat) : Int)) ((Ext.drew (Ext.refl _)).cell (cellB wz _ _)) (by simp [Value.ownBlock]) | have hcB := hf1 (wz.heap.size + 1) (.int .i64 ((k : Nat) : Int)) (cellB wz _ _) (by simp [Value.ownBlock]) | skip)) | (refine step_app_ints (by rfl) (.tmp 57) (.tmp 60) (by rfl) wz.heap.size (.slice (some ⟨wz.heap.size + 1, 0, none⟩) 0 0) (.slice (some ⟨g, 0, none⟩) k k) ([]) (out.take k) (by rfl) ((own_emptyI2 wz _).ext (by repeat (first | exact Ext.refl _ | refine Ext.drew ?_ | refine Ext.alloc ?_ _))) (by rfl) (I1.ext (by repeat (first | assumption | exact Ext.refl _ | refine Ext.drew ?_ | refine Ext.alloc ?_ _))) (by (first | (simp only [List.length_nil, htl]; omega) | (simp only [List.length_append, List.length_nil, List.length_cons, htl]; omega) | (simp only [List.length_append, List.length_nil, List.length_cons, htl, hdl]; omega))) (by repeat (first | assumption | exact Ext.refl _ | refine Ext.drew ?_ | refine Ext.alloc ?_ _)) rfl ?_; intro v1 wa ho1 he1 hf1; (first | have hcC := hf1 wz.heap.size (.int .i64 ((k : Nat) : Int)) ((Ext.drew (Ext.refl _)).cell (cellC wz _ _)) (by simp [Value.ownBlock]) | have hcC := hf1 wz.heap.size (.int .i64 ((k : Nat) : Int)) (cellC wz _ _) (by simp [Value.ownBlock]))) | (refine step_app_ints (by rfl) (.tmp 61) (.tmp 63) (by rfl) wz.heap.size v1 (.slice (some ⟨wa.heap.size, 0, none⟩) 1 1) ([] ++ out.take k) ([k]) (by rfl) (ho1.ext (by repeat (first | exact Ext.refl _ | refine Ext.drew ?_ | refine Ext.alloc ?_ _))) (by rfl) ((int_new wa k).ext (by repeat (first | exact Ext.refl _ | refine Ext.drew ?_ | refine Ext.alloc ?_ _))) (by (first | (simp only [List.length_nil, htl]; omega) | (simp only [List.length_append, List.length_nil, List.length_cons, htl]; omega) | (simp only [List.length_append, List.length_nil, List.length_cons, htl, hdl]; omega))) (by repeat (first | assumption | exact Ext.refl _ | refine Ext.drew ?_ | refine Ext.alloc ?_ _)) rfl ?_; intro v2 wb ho2 he2 hf2) | (refine step_app_ints (by rfl) (.tmp 61) (.tmp 63) (by rfl) wz.heap.size v1 (.slice (some ⟨wz.heap.size + 1, 0, none⟩) 1 1) ([] ++ out.take k) ([k]) (by rfl) (ho1.ext (by repeat (first | exact Ext.refl _ | refine Ext.drew ?_ | refine Ext.alloc ?_ _))) (by rfl) ((int_of_cell hcB).ext (by repeat (first | exact Ext.refl _ | refine Ext.drew ?_ | refine Ext.alloc ?_ _))) (by (first | (simp only [List.length_nil, htl]; omega) | (simp only [List.length_append, List.length_nil, List.length_cons, htl]; omega) | (simp only [List.length_append, List.length_nil, List.length_cons, htl, hdl]; omega))) (by repeat (first | assumption | exact Ext.refl _ | refine Ext.drew ?_ | refine Ext.alloc ?_ _)) rfl ?_; intro v2 wb ho2 he2 hf2) | (refine step_app_ints (by rfl) (.tmp 61) (.tmp 63) (by rfl) wz.heap.size v1 (.slice (some ⟨wz.heap.size, 0, none⟩) 1 1) ([] ++ out.take k) ([k]) (by rfl) (ho1.ext (by repeat (first | exact Ext.refl _ | refine Ext.drew ?_ | refine Ext.alloc ?_ _))) (by rfl) ((int_of_cell hcC).ext (by repeat (first | exact Ext.refl _ | refine Ext.drew ?_ | refine Ext.alloc ?_ _))) (by (first | (simp only [List.length_nil, htl]; omega) | (simp only [List.length_append, List.length_nil, List.length_cons, htl]; omega) | (simp only [List.length_append, List.length_nil, List.length_cons, htl, hdl]; omega))) (by repeat (first | assumption | exact Ext.refl _ | refine Ext.drew ?_ | refine Ext.alloc ?_ _)) rfl ?_; intro v2 wb ho2 he2 hf2) | (refine step_app_ints (by rfl) (.tmp 64) (.tmp 67) (by rfl) wz.heap.size v2 (.slice (some ⟨g, 0, none⟩) 0 0) (([] ++ out.take k) ++ [k]) (out.drop k) (by rfl) (ho2.ext (by repeat (first | exact Ext.refl _ | refine Ext.drew ?_ | refine Ext.alloc ?_ _))) (by rfl) (I3.ext (by repeat (first | assumption | exact Ext.refl _ | refine Ext.drew ?_ | refine Ext.alloc ?_ _))) (by (first | (simp only [List.length_nil, htl]; omega) | (simp only [List.length_append, List.length_nil, List.length_cons, htl]; omega) | (simp only [List.length_append, List.length_nil, List.length_cons, htl, hdl]; omega))) (by repeat (first | assumption | exact Ext.refl _ | refine Ext.drew ?_ | refine Ext.alloc ?_ _)) rfl ?_; intro v3 we ho3 he3 hf3)))
              all_goals
                obtain ⟨q1, q2⟩ := HFIN.out _ _ _ ho3 (by simp) he3
                go_wp2_with fail
                exact ⟨⟨k + 1, _, by simp, by omega, HNO2.out, HNEW.out, q1, q2⟩, by simp [intOf]; omega⟩
            · have I3 : Ints wz (.slice (some ⟨g, k, none⟩) (i - k) (cg - k)) (out.drop k) := ⟨some ⟨g, k, none⟩, cg - k, by rw [hdl], by omega, by omega, .inr ⟨g, k, rfl, fun j hj => by rw [List.getElem_drop]; exact hcz (k + j) _⟩⟩
              clear o0 o1 d0 d1 hcg hcz
              go_wp2_with fail
              go_region_held3 (fun w' => Ext wz w') (first | assumption | exact Ext.refl _ | (repeat (first | assumption | exact Ext.refl _ | refine Ext.alloc ?_ _ | refine Ext.drew ?_)))
                ((first | (refine step_app_ints (by rfl) (.tmp 57) (.tmp 60) (by rfl) wz.heap.size (.slice (some ⟨wz.heap.size, 0, none⟩) 0 0) (.slice (some ⟨g, 0, none⟩) k cg) ([]) (out.take k) (by rfl) (own_emptyI wz _ (Nat.le_refl _)) (by rfl) (I1.ext (by repeat (first | assumption | exact Ext.refl _ | refine Ext.drew ?_ | refine Ext.alloc ?_ _))) (by (first | (simp only [List.length_nil, htl]; omega) | (simp only [List.length_append, List.length_nil, List.length_cons, htl]; omega) | (simp only [List.length_append, List.length_nil, List.length_cons, htl, hdl]; omega))) (by repeat (first | assumption | exact Ext.refl _ | refine Ext.drew ?_ | refine Ext.alloc ?_ _)) rfl ?_; intro v1 wa ho1 he1 hf1) | (refine step_app_ints (by rfl) (.tmp 57) (.tmp 60) (by rfl) wz.heap.size (.slice (some ⟨wz.heap.size, 0, none⟩) 0 0) (.slice (some ⟨g, 0, none⟩) k cg) ([]) (out.take k) (by rfl) ((own_emptyI wz _ (Nat.le_refl _)).ext (by repeat (first | exact Ext.refl _ | refine Ext.drew ?_ | refine Ext.alloc ?_ _))) (by rfl) (I1.ext (by repeat (first | assumption | exact Ext.refl _ | refine Ext.drew ?_ | refine Ext.alloc ?_ _))) (by (first | (simp only [List.length_nil, htl]; omega) | (simp only [List.length_append, List.length_nil, List.length_cons, htl]; omega) | (simp only [List.length_append, List.length_nil, List.length_cons, htl, hdl]; omega))) (by repeat (first | assumption | exact Ext.refl _ | refine Ext.drew ?_ | refine Ext.alloc ?_ _)) rfl ?_; intro v1 wa ho1 he1 hf1; (first | have hcB := hf1 (wz.heap.size + 1) (.int .i64 ((i : Nat) : Int)) ((Ext.drew (Ext.refl _)).cell (cellB wz _ _)) (by simp [Value.ownBlock]) | have hcB := hf1 (wz.heap.size + 1) (.int .i64 ((i : Nat) : Int)) (cellB wz _ _) (by simp [Value.ownBlock]) | skip)) | (refine step_app_ints (by rfl) (.tmp 57) (.tmp 60) (by rfl) wz.heap.size (.slice (some ⟨wz.heap.size + 1, 0, none⟩) 0 0) (.slice (some ⟨g, 0, none⟩) k cg) ([]) (out.take k) (by rfl) ((own_emptyI2 wz _).ext (by repeat (first | exact Ext.refl _ | refine Ext.drew ?_ | refine Ext.alloc ?_ _))) (by rfl) (I1.ext (by repeat (first | assumption | exact Ext.refl _ | refine Ext.drew ?_ | refine Ext.alloc ?_ _))) (by (first | (simp only [List.length_nil, htl]; omega) | (simp only [List.length_append, List.length_nil, List.length_cons, htl]; omega) | (simp only [List.length_append, List.length_nil, List.length_cons, htl, hdl]; omega))) (by repeat (first | assumption | exact Ext.refl _ | refine Ext.drew ?_ | refine Ext.alloc ?_ _)) rfl ?_; intro v1 wa ho1 he1 hf1; (first | have hcC := hf1 wz.heap.size (.int .i64 ((i : Nat) : Int)) ((Ext.drew (Ext.refl _)).cell (cellC wz _ _)) (by simp [Value.ownBlock]) | have hcC := hf1 wz.heap.size (.int .i64 ((i : Nat) : Int)) (cellC wz _ _) (by simp [Value.ownBlock]))) | (refine step_app_ints (by rfl) (.tmp 61) (.tmp 63) (by rfl) wz.heap.size v1 (.slice (some ⟨wa.heap.size, 0, none⟩) 1 1) ([] ++ out.take k) ([i]) (by rfl) (ho1.ext (by repeat (first | exact Ext.refl _ | refine Ext.drew ?_ | refine Ext.alloc ?_ _))) (by rfl) ((int_new wa i).ext (by repeat (first | exact Ext.refl _ | refine Ext.drew ?_ | refine Ext.alloc ?_ _))) (by (first | (simp only [List.length_nil, htl]; omega) | (simp only [List.length_append, List.length_nil, List.length_cons, htl]; omega) | (simp only [List.length_append, List.length_nil, List.length_cons, htl, hdl]; omega))) (by repeat (first | assumption | exact Ext.refl _ | refine Ext.drew ?_ | refine Ext.alloc ?_ _)) rfl ?_; intro v2 wb ho2 he2 hf2) | (refine step_app_ints (by rfl) (.tmp 61) (.tmp 63) (by rfl) wz.heap.size v1 (.slice (some ⟨wz.heap.size + 1, 0, none⟩) 1 1) ([] ++ out.take k) ([i]) (by rfl) (ho1.ext (by repeat (first | exact Ext.refl _ | refine Ext.drew ?_ | refine Ext.alloc ?_ _))) (by rfl) ((int_of_cell hcB).ext (by repeat (first | exact Ext.refl _ | refine Ext.drew ?_ | refine Ext.alloc ?_ _))) (by (first | (simp only [List.length_nil, htl]; omega) | (simp only [List.length_append, List.length_nil, List.length_cons, htl]; omega) | (simp only [List.length_append, List.length_nil, List.length_cons, htl, hdl]; omega))) (by repeat (first | assumption | exact Ext.refl _ | refine Ext.drew ?_ | refine Ext.alloc ?_ _)) rfl ?_; intro v2 wb ho2 he2 hf2) | (refine step_app_ints (by rfl) (.tmp 61) (.tmp 63) (by rfl) wz.heap.size v1 (.slice (some ⟨wz.heap.size, 0, none⟩) 1 1) ([] ++ out.take k) ([i]) (by rfl) (ho1.ext (by repeat (first | exact Ext.refl _ | refine Ext.drew ?_ | refine Ext.alloc ?_ _))) (by rfl) ((int_of_cell hcC).ext (by repeat (first | exact Ext.refl _ | refine Ext.drew ?_ | refine Ext.alloc ?_ _))) (by (first | (simp only [List.length_nil, htl]; omega) | (simp only [List.length_append, List.length_nil, List.length_cons, htl]; omega) | (simp only [List.length_append, List.length_nil, List.length_cons, htl, hdl]; omega))) (by repeat (first | assumption | exact Ext.refl _ | refine Ext.drew ?_ | refine Ext.alloc ?_ _)) rfl ?_; intro v2 wb ho2 he2 hf2) | (refine step_app_ints (by rfl) (.tmp 64) (.tmp 67) (by rfl) wz.heap.size v2 (.slice (some ⟨g, k, none⟩) (i - k) (cg - k)) (([] ++ out.take k) ++ [i]) (out.drop k) (by rfl) (ho2.ext (by repeat (first | exact Ext.refl _ | refine Ext.drew ?_ | refine Ext.alloc ?_ _))) (by rfl) (I3.ext (by repeat (first | assumption | exact Ext.refl _ | refine Ext.drew ?_ | refine Ext.alloc ?_ _))) (by (first | (simp only [List.length_nil, htl]; omega) | (simp only [List.length_append, List.length_nil, List.length_cons, htl]; omega) | (simp only [List.length_append, List.length_nil, List.length_cons, htl, hdl]; omega))) (by repeat (first | assumption | exact Ext.refl _ | refine Ext.drew ?_ | refine Ext.alloc ?_ _)) rfl ?_; intro v3 we ho3 he3 hf3)))
              all_goals
                obtain ⟨q1, q2⟩ := HFIN.out _ _ _ ho3 (by simp) he3
                go_wp2_with fail
                exact ⟨⟨i + 1, _, by simp, by omega, HNO2.out, HNEW.out, q1, q2⟩, by simp [intOf]; omega⟩
    · obtain rfl : l.length = i := by omega
      have hn : ¬ (ox, oy) ∈ l := fun c => by
        have := HNO.out (ox, oy) (by rw [List.take_length]; exact c)
        exact this rfl
      have hE0 : arE (ox, oy) l = 0 := by rw [H5.out, if_neg hn]
      have hrs : r = out := by
        rcases HR.out with ⟨h, _⟩ | ⟨_, h⟩
        · exact absurd hE0 h
        · exact h.uniq HAR.out
      have HE0 := Lib.hid hE0
      have HRS := Lib.hid hrs
      obtain ⟨n0, n1, n2⟩ := (bR.ext hx).box2
      have hRb : R < base := by rw [← HB.out]; exact bR.lt
      have fin : ∀ u0 u1, Ints ((wq.setCell ⟨R, 0, none⟩ u0).setCell ⟨R, 1, none⟩ u1) (.slice ag l.length cg) r := fun u0 u1 => by
        have q := (OwnI.kx HOWN.out ((KX.refl R wq).two u0 u1) hRb).toInts
        rw [HRS.out]
        rw [HOL.out] at q
        exact q
      have finE : ∀ u0 u1, Ext W ((wq.setCell ⟨R, 0, none⟩ u0).setCell ⟨R, 1, none⟩ u1) := fun u0 u1 => hX.trans (ext_two (hX2.trans hx) zR u0 u1)
      have HF1 := Lib.hid fin
      have HF2 := Lib.hid finE
      clear fin finE hn hE0 hrs
      go_wp2_with fail
      refine bodyPost_ret (v := .agg #[.slice ag l.length cg, .int .i64 0]) ?_ ?_ ?_
      · simp [results, Try.f46, go_sem, n0, n1]
      · rfl
      · exact ⟨_, by rw [HE0.out], HF1.out _ _, HF2.out _ _⟩
end Go.Proofs.Ytdbhbfmbpldmnaa
