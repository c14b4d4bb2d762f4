/- Contract of the reference's Hull. -/
import Derived.Test.YtdbhbfmbpldmnaaP6
import Derived.Test.YtdbhbfmbpldmnaaR4
namespace Go.Proofs.Ytdbhbfmbpldmnaa
open Go.RowKit Go.Sort
theorem nx_same2 {a n : Int × Int} : nxF a n a = n := if_pos rfl
theorem nx_t {a n q : Int × Int} (hne : ¬ q = a) (h : n = a ∨ tw a n q < 0 ∨ (tw a n q = 0 ∧ sqd a n < sqd a q)) : nxF a n q = q := by
  unfold nxF; rw [if_neg hne, if_pos h]
theorem nx_f {a n q : Int × Int} (hne : ¬ q = a) (h : ¬ (n = a ∨ tw a n q < 0 ∨ (tw a n q = 0 ∧ sqd a n < sqd a q))) : nxF a n q = n := by
  unfold nxF; rw [if_neg hne, if_neg h]
theorem okp_two {p : Int × Int} (h : okp p = true) : okc p.1 = true ∧ okc p.2 = true := by
  unfold okp at h
  rwa [Bool.and_eq_true] at h
theorem own_one (w : World) (x y : Int) : Own w.heap.size (w.alloc (.cells #[.int .i64 x, .int .i64 y] 23)) (.slice (some ⟨w.heap.size, 0, none⟩) 1 1) [(x, y)] :=
  ⟨rfl, Or.inr ⟨w.heap.size, 1, #[.int .i64 x, .int .i64 y], rfl, Nat.le_refl _, World.alloc_heap_new w _, Nat.le_refl _, by simp [maxLen], rfl, rfl⟩⟩
theorem pts_hu (l : List (Int × Int)) : ptsE l 1 = huE l := by
  unfold ptsE huE
  by_cases h : 1 ≤ l.length ∧ l.length ≤ 200
  · rw [if_pos h, if_neg (show ¬ (l.length = 0 ∨ 200 < l.length) by omega)]
  · rw [if_neg h, if_pos (show l.length = 0 ∨ 200 < l.length by omega)]
theorem hu_cases (l : List (Int × Int)) : huE l = 2 ∨ huE l = 1 ∨ (huE l = 0 ∧ 0 < l.length ∧ l.length ≤ 200 ∧ l.all okp = true) := by
  unfold huE
  split
  · exact .inl rfl
  · split
    · rename_i h1 h2; exact .inr (.inr ⟨rfl, by omega, by omega, h2⟩)
    · exact .inr (.inl rfl)
theorem fold_take {α β : Type} (f : β → α → β) (z : β) (l : List α) (k : Nat) (hk : k < l.length) : (l.take (k + 1)).foldl f z = f ((l.take k).foldl f z) l[k] := by
  rw [List.take_succ_eq_append_getElem hk, List.foldl_append]
  rfl
theorem nx_mem {l : List (Int × Int)} {a : Int × Int} : ∀ (s : List (Int × Int)) (n : Int × Int), (∀ q ∈ s, q ∈ l) → n ∈ l → s.foldl (nxF a) n ∈ l
  | [], _, _, h => h
  | q :: s, n, hs, h => by
    rw [List.foldl_cons]
    refine nx_mem s _ (fun x hx => hs x (by simp [hx])) ?_
    rcases nx_or a n q with e | e <;> rw [e]
    · exact h
    · exact hs q (by simp)
theorem fs_t {f q : Int × Int} (h : q.1 < f.1 ∨ (q.1 = f.1 ∧ q.2 < f.2)) : fsF f q = q := if_pos h
theorem fs_f {f q : Int × Int} (h : ¬ (q.1 < f.1 ∨ (q.1 = f.1 ∧ q.2 < f.2))) : fsF f q = f := if_neg h
set_option maxRecDepth 100000 in
set_option maxHeartbeats 16000000 in
theorem rHull_any (W : World) (v : Value) (l H : List (Int × Int)) (w : World) (hX : Ext W w) (hv : Pts w v l) (hH : (huE l ≠ 0 ∧ H = []) ∨ (huE l = 0 ∧ HullOf l H)) :
    Calls Try.prog 44 #[v] w fun e w' => ∃ vv, e = .returned (.agg #[vv, .int .i64 (huE l)]) ∧ Pts w' vv H ∧ Ext W w' := by
  have hv0 := hv
  have hlen := hv.len
  obtain ⟨a0, cap, rfl, hl, hm, hc⟩ := hv
  have HE : Hid (ptsE l 1 = huE l) := pts_hu l
  go_enter Try.func44, Try.ntmps44
  have HC := Lib.hid hc
  have HHH := Lib.hid hH
  clear hc hH
  go_wp2_with fail
  have bR := BoxN.new w 60 #[.slice none 0 0, .int .i64 0]
  have hXR := (Ext.refl w).alloc (.cells #[.slice none 0 0, .int .i64 0] 60)
  have zR := Nat.le_refl w.heap.size
  obtain ⟨w1, hw⟩ : ∃ w', w.alloc (.cells #[.slice none 0 0, .int .i64 0] 60) = w' := ⟨_, rfl⟩
  change Calls _ _ _ (w.alloc (.cells #[.slice none 0 0, .int .i64 0] 60)) _
  rw [hw] at hXR bR ⊢
  clear hw
  generalize hR : w.heap.size = R at bR zR ⊢
  have zR2 : w.heap.size ≤ R := by omega
  clear hR zR
  refine (rpoints w1 _ l 1 _ (Ext.refl _) (hv0.ext hXR)).mono ?_
  rintro en w2 ⟨rfl, hX2⟩
  rw [HE.out]
  replace bR := bR.ext hX2
  replace hX2 := hXR.trans hX2
  clear hXR
  obtain ⟨n0, n1, n2⟩ := bR.box2
  rcases hu_cases l with he | he | ⟨he, hpos, h200, hok⟩
  · obtain rfl : H = [] := by
      rcases HHH.out with ⟨_, h⟩ | ⟨h, _⟩
      · exact h
      · rw [he] at h; cases h
    rw [he]
    go_wp2_with fail
    refine bodyPost_ret (v := .agg #[.slice none 0 0, .int .i64 2]) ?_ ?_ ?_
    · simp [results, Try.f44, go_sem, n0, n1]
    · rfl
    · exact ⟨_, by rw [he], Pts.nil _, hX.trans (ext_two hX2 zR2 _ _)⟩
  · obtain rfl : H = [] := by
      rcases HHH.out with ⟨_, h⟩ | ⟨h, _⟩
      · exact h
      · rw [he] at h; cases h
    rw [he]
    go_wp2_with fail
    refine bodyPost_ret (v := .agg #[.slice none 0 0, .int .i64 1]) ?_ ?_ ?_
    · simp [results, Try.f44, go_sem, n0, n1]
    · rfl
    · exact ⟨_, by rw [he], Pts.nil _, hX.trans (ext_two hX2 zR2 _ _)⟩
  · have hH : HullOf l H := by
      rcases HHH.out with ⟨h, _⟩ | ⟨_, h⟩
      · exact absurd he h
      · exact h
    rw [he]
    obtain ⟨b, off, rfl, hc⟩ := HC.out.resolve_left (by intro e; rw [e] at hpos; simp at hpos)
    have hc2 : ∀ i (h : i < l.length), w2.cell? ⟨b, off + i * 2, none⟩ = some (.int .i64 l[i].1) ∧ w2.cell? ⟨b, off + i * 2 + 1, none⟩ = some (.int .i64 l[i].2) := fun i h => ⟨hX2.cell (hc i h).1, hX2.cell (hc i h).2⟩
    have HC2 := Lib.hid hc2
    have Hok := Lib.hid hok
    have HH := Lib.hid hH
    clear hc hc2 HC HHH hok hH hv0 HE
    obtain ⟨k0, k1⟩ := HC2.out 0 hpos
    obtain ⟨p, s, rfl⟩ : ∃ p s, l = p :: s := List.exists_cons_of_ne_nil (by intro e; rw [e] at hpos; simp at hpos)
    simp only [Nat.zero_mul, Nat.add_zero, List.getElem_cons_zero] at k0 k1
    have hlz : (0 : Int) < ((p :: s).length : Int) := by omega
    have kl := lt_of_cell k0
    simp only at kl
    obtain ⟨L, hL⟩ : ∃ L, (p :: s).length = L := ⟨_, rfl⟩
    rw [hL] at hlz hl hpos h200 hlen ⊢
    have HL := Lib.hid hL
    clear hL
    go_wp2_with fail
    have bF := BoxN.new w2 23 #[.int .i64 p.1, .int .i64 p.2]
    have hF := (Ext.refl w2).alloc (.cells #[.int .i64 p.1, .int .i64 p.2] 23)
    have zF := Nat.le_refl w2.heap.size
    obtain ⟨w3, hw⟩ : ∃ w', w2.alloc (.cells #[.int .i64 p.1, .int .i64 p.2] 23) = w' := ⟨_, rfl⟩
    change Code.wp _ _ _ _ (w2.alloc (.cells #[.int .i64 p.1, .int .i64 p.2] 23))
    rw [hw] at hF bF ⊢
    clear hw
    generalize hFF : w2.heap.size = F at bF zF ⊢
    have zF2 : w2.heap.size ≤ F := by omega
    clear hFF zF k0 k1 kl n0 n1 n2
    go_loopw [5] (fun x wr => ∃ m k : Nat, x = .int .i64 m ∧ m = k + 1 ∧ m ≤ L ∧ BoxN wr F (spC ((s.take k).foldl fsF p)) 23 ∧ Ext w2 wr) (fun x _ => L - (intOf x).toNat)
    case atStart => exact ⟨1, 0, rfl, rfl, by omega, bF, hF⟩
    case round =>
      obtain ⟨m, k, rfl, hmk, hk, hF1, hx1⟩ := hrel
      have HMK := Lib.hid hmk
      by_cases hlt : m < L
      · have hltz : (m : Int) < (L : Int) := by omega
        have hlt2 : m < (p :: s).length := by rw [HL.out]; exact hlt
        obtain ⟨c0, c1⟩ := HC2.out m hlt2
        have hs : k < s.length := by have := HL.out; simp only [List.length_cons] at this; omega
        have hq : (p :: s)[m] = s[k] := by simp [hmk]
        have hstep := fold_take fsF p s k hs
        rw [hq] at c0 c1
        obtain ⟨qx, qy, hqq⟩ : ∃ x y, s[k] = (x, y) := ⟨_, _, rfl⟩
        obtain ⟨fx, fy, hff⟩ : ∃ x y, (s.take k).foldl fsF p = (x, y) := ⟨_, _, rfl⟩
        rw [hqq] at c0 c1
        rw [hff] at hF1
        rw [hff, hqq] at hstep
        have d0 := hx1.cell c0
        have d1 := hx1.cell c1
        clear c0 c1 hqq hff hq hmk
        obtain ⟨f0, f1, f2⟩ := hF1.box2
        simp only at d0 d1 f0 f1
        have hcase : (qx < fx ∨ (¬ qx < fx ∧ qx = fx ∧ qy < fy)) ∨ (¬ qx < fx ∧ (¬ qx = fx ∨ (qx = fx ∧ ¬ qy < fy))) := by omega
        rcases hcase with hcase | hcase
        · rw [fs_t (by simp only; omega)] at hstep
          have HS := Lib.hid hstep
          clear hstep
          have zz : qx ≤ fx := by omega
          rcases hcase with h1 | ⟨h1, h2, h3⟩
          all_goals
            go_wp2_with fail
            refine wp_region_quiet_lit (by kernel_rfl) (by kernel_rfl) ?_
            repeat (with_reducible refine wpQuiet_step (fun K hK => ?_); go_simp; first | (with_reducible refine hK _ ?_; clear hK K) | (rw [if_neg (by simp [undef])]; with_reducible refine hK _ ?_; clear hK K))
            refine wpQuiet_nil ?_
            intro _ hw'
            obtain ⟨nq, hw''⟩ := hw'
            subst hw''
            go_wp2_with fail
          · have hb := ((hF1.ext ((Ext.refl wr).drewN nq)).set 0 (.int .i64 qx)).set 1 (.int .i64 qy)
            exact ⟨⟨m + 1, m, by simp, rfl, by omega, by rw [show (s.take m).foldl fsF p = (qx, qy) by rw [HMK.out]; exact HS.out]; exact hb, ext_two (hx1.drewN _) zF2 _ _⟩, by simp [intOf]; omega⟩
          · have hb := ((hF1.ext ((Ext.refl wr).drewN nq)).set 0 (.int .i64 fx)).set 1 (.int .i64 qy)
            exact ⟨⟨m + 1, m, by simp, rfl, by omega, by rw [show (s.take m).foldl fsF p = (fx, qy) by rw [HMK.out, ← h2]; exact HS.out]; exact hb, ext_two (hx1.drewN _) zF2 _ _⟩, by simp [intOf]; omega⟩
        · rw [fs_f (by simp only; omega)] at hstep
          have HS := Lib.hid hstep
          clear hstep
          rcases hcase with ⟨h1, h2 | ⟨h2, h3⟩⟩
          all_goals
            go_wp2_with fail
            refine wp_region_quiet_lit (by kernel_rfl) (by kernel_rfl) ?_
            repeat (with_reducible refine wpQuiet_step (fun K hK => ?_); go_simp; first | (with_reducible refine hK _ ?_; clear hK K) | (rw [if_neg (by simp [undef])]; with_reducible refine hK _ ?_; clear hK K))
            refine wpQuiet_nil ?_
            intro _ hw'
            obtain ⟨nq, hw''⟩ := hw'
            subst hw''
            go_wp2_with fail
            exact ⟨⟨m + 1, m, by simp, rfl, by omega, by rw [show (s.take m).foldl fsF p = (fx, fy) by rw [HMK.out]; exact HS.out]; exact hF1.ext ((Ext.refl wr).drewN nq), hx1.drewN _⟩, by simp [intOf]; omega⟩
      · obtain rfl : m = L := by omega
        obtain ⟨wp, rfl⟩ : ∃ w', w' = wr := ⟨_, rfl⟩
        have hks : k = s.length := by have := HL.out; simp only [List.length_cons] at this; omega
        rw [hks, List.take_length] at hF1
        obtain ⟨t, rfl⟩ := fs_hull rfl HH.out
        obtain ⟨o, ho⟩ : ∃ o, s.foldl fsF p = o := ⟨_, rfl⟩
        rw [ho] at hF1 HH
        have HO := Lib.hid ho
        clear ho hks hmk HMK k
        obtain ⟨f0, f1, -⟩ := hF1.box2
        go_wp2_with fail
        have own := own_one wp o.1 o.2
        have hX3 := (Ext.refl wp).alloc (.cells #[.int .i64 o.1, .int .i64 o.2] 23)
        obtain ⟨w4, hw⟩ : ∃ w', wp.alloc (.cells #[.int .i64 o.1, .int .i64 o.2] 23) = w' := ⟨_, rfl⟩
        change Code.wp _ _ _ _ (wp.alloc (.cells #[.int .i64 o.1, .int .i64 o.2] 23))
        rw [hw] at hX3 own ⊢
        clear hw f0 f1
        have bse := Nat.le_refl wp.heap.size
        generalize hbs : wp.heap.size = base at own bse ⊢
        have hHL := hull_len HH.out
        rw [HL.out] at hHL
        have hm8 : m ≤ 200 := h200
        go_loopw [6] (fun v wq => ∃ k : Nat, v = v ∧ k < (o :: t).length ∧ Own base wq v ((o :: t).take (k + 1)) ∧ Ext wp wq) (fun v _ => m + 1 - slLen v)
        case atStart => exact ⟨0, rfl, by simp, own, hX3⟩
        case round =>
          obtain ⟨k, -, hk, hown, hx4⟩ := hrel
          obtain ⟨wq, rfl⟩ : ∃ w', w' = wr := ⟨_, rfl⟩
          have hkm : k + 1 ≤ m := by omega
          obtain ⟨g, cg, rfl, hg1, hg2, hg3, rp⟩ := hown.rpt (by simp)
          have hlenK : ((o :: t).take (k + 1)).length = k + 1 := by rw [List.length_take]; omega
          obtain ⟨K, hK⟩ : ∃ K, k + 1 = K := ⟨_, rfl⟩
          have HK := Lib.hid hK
          have rw0 := (rp.row k (by omega)).1
          have hak : ((o :: t).take (k + 1))[k]'(by omega) = (o :: t)[k] := by rw [List.getElem_take]
          rw [hak] at rw0
          obtain ⟨ax, ay, haa⟩ : ∃ x y, (o :: t)[k] = (x, y) := ⟨_, _, rfl⟩
          rw [haa] at rw0
          obtain ⟨c0, c1⟩ := rw0
          simp only [Nat.zero_add] at c0 c1
          have HAA := Lib.hid haa
          rw [hlenK, hK] at hown ⊢
          rw [hlenK, hK] at hg1
          rw [hK] at hkm
          clear hlenK hak haa rp
          have kl := lt_of_cell c0
          simp only at kl
          have hkz : (K : Int) ≤ (m : Int) := by omega
          have kk1 : (K : Int) - 1 = (k : Int) := by omega
          have kk2 : IntKind.i64.wrap (k : Int) = (k : Int) := by rw [IntKind.wrap_i64]; omega
          have kk3 : (k : Int) < (K : Int) := by omega
          have HOWN := Lib.hid hown
          clear hown hK
          go_wp2_with fail
          have bA := (BoxN.new wq 23 #[.int .i64 ax, .int .i64 ay]).ext ((Ext.refl _).alloc (.cells #[.int .i64 ax, .int .i64 ay] 23))
          have bN := BoxN.new (wq.alloc (.cells #[.int .i64 ax, .int .i64 ay] 23)) 23 #[.int .i64 ax, .int .i64 ay]
          rw [World.size_alloc] at bN
          have hx5 := ((Ext.refl wq).alloc (.cells #[.int .i64 ax, .int .i64 ay] 23)).alloc (.cells #[.int .i64 ax, .int .i64 ay] 23)
          obtain ⟨w5, hw⟩ : ∃ w', (wq.alloc (.cells #[.int .i64 ax, .int .i64 ay] 23)).alloc (.cells #[.int .i64 ax, .int .i64 ay] 23) = w' := ⟨_, rfl⟩
          change Code.wp _ _ _ _ ((wq.alloc (.cells #[.int .i64 ax, .int .i64 ay] 23)).alloc (.cells #[.int .i64 ax, .int .i64 ay] 23))
          rw [hw] at bA bN hx5 ⊢
          clear hw
          have zN : wq.heap.size ≤ wq.heap.size + 1 := by omega
          have nAN : wq.heap.size ≠ wq.heap.size + 1 := by omega
          generalize wq.heap.size + 1 = N at bN zN nAN ⊢
          generalize wq.heap.size = A at bA nAN ⊢
          clear c0 c1 kl
          go_loopw [9] (fun x wi => ∃ i : Nat, x = .int .i64 i ∧ i ≤ m ∧ BoxN wi A (spC (ax, ay)) 23 ∧ BoxN wi N (spC (((p :: s).take i).foldl (nxF (ax, ay)) (ax, ay))) 23 ∧ Ext wq wi) (fun x _ => m - (intOf x).toNat)
          case atStart => exact ⟨0, rfl, by omega, bA, bN, hx5⟩
          case round =>
            obtain ⟨i, rfl, hi, hA1, hN1, hx6⟩ := hrel
            by_cases hlt : i < m
            · have hlz : (i : Int) < (m : Int) := by omega
              have hlt2 : i < (p :: s).length := by rw [HL.out]; exact hlt
              obtain ⟨c0, c1⟩ := HC2.out i hlt2
              have hstep := fold_take (nxF (ax, ay)) (ax, ay) (p :: s) i hlt2
              have memA : (ax, ay) ∈ p :: s := by rw [← HAA.out]; exact hull_mem HH.out _ (List.getElem_mem hk)
              have memN := nx_mem (a := (ax, ay)) ((p :: s).take i) (ax, ay) (fun q hq => List.mem_of_mem_take hq) memA
              have memQ : (p :: s)[i] ∈ p :: s := List.getElem_mem hlt2
              obtain ⟨qx, qy, hqq⟩ : ∃ x y, (p :: s)[i] = (x, y) := ⟨_, _, rfl⟩
              obtain ⟨nx, ny, hnn⟩ : ∃ x y, ((p :: s).take i).foldl (nxF (ax, ay)) (ax, ay) = (x, y) := ⟨_, _, rfl⟩
              rw [hqq] at c0 c1 memQ
              rw [hnn] at hN1 memN
              rw [hnn, hqq] at hstep
              obtain ⟨oa1, oa2⟩ := okp_two (List.all_eq_true.1 Hok.out _ memA)
              obtain ⟨on1, on2⟩ := okp_two (List.all_eq_true.1 Hok.out _ memN)
              obtain ⟨oq1, oq2⟩ := okp_two (List.all_eq_true.1 Hok.out _ memQ)
              have hxw := (hx1.trans hx4).trans hx6
              have d0 := hxw.cell c0
              have d1 := hxw.cell c1
              simp only at d0 d1
              clear memA memN memQ hqq hnn c0 c1 hlt2
              obtain ⟨a0, a1, -⟩ := hA1.box2
              have eqA := fun w => run_eql_pt qx qy ax ay w
              by_cases e : qx = ax ∧ qy = ay
              · rw [decide_eq_true e] at eqA
                have hstep2 : ((p :: s).take (i + 1)).foldl (nxF (ax, ay)) (ax, ay) = (nx, ny) := by rw [hstep, e.1, e.2]; exact nx_same2
                have HS := Lib.hid hstep2
                clear hstep hstep2 e
                go_wp2_with fail
                refine wp_region_quiet_lit (by kernel_rfl) (by kernel_rfl) ?_
                repeat (with_reducible refine wpQuiet_step (fun K hK => ?_); go_simp; first | (with_reducible refine hK _ ?_; clear hK K) | (rw [if_neg (by simp [undef])]; with_reducible refine hK _ ?_; clear hK K))
                refine wpQuiet_nil ?_
                intro _ hw'
                obtain ⟨nq, hw''⟩ := hw'
                subst hw''
                go_wp2_with fail
                exact ⟨⟨i + 1, by simp, by omega, hA1.ext ((Ext.refl wr).drewN nq), by rw [HS.out]; exact hN1.ext ((Ext.refl wr).drewN nq), hx6.drewN _⟩, by simp [intOf]; omega⟩
              · rw [decide_eq_false e] at eqA
                have HS := Lib.hid hstep
                have HNE := Lib.hid e
                clear hstep e
                go_wp2_with fail
                refine wp_region_quiet_lit (by kernel_rfl) (by kernel_rfl) ?_
                repeat (with_reducible refine wpQuiet_step (fun K hK => ?_); go_simp; first | (with_reducible refine hK _ ?_; clear hK K) | (rw [if_neg (by simp [undef])]; with_reducible refine hK _ ?_; clear hK K))
                refine wpQuiet_nil ?_
                intro _ hw'
                obtain ⟨nq, hw''⟩ := hw'
                subst hw''
                go_wp2_with fail
                have hA2 := hA1.ext ((Ext.refl wr).drewN nq)
                have hN2 := hN1.ext ((Ext.refl wr).drewN nq)
                have hx7 := hx6.drewN nq
                have d0 := ((Ext.refl wr).drewN nq).cell d0
                have d1 := ((Ext.refl wr).drewN nq).cell d1
                generalize wr.drewN nq = wd at hA2 hN2 hx7 d0 d1 ⊢
                clear a0 a1 eqA hxw hx6 hA1 hN1
                obtain ⟨a0, a1, -⟩ := hA2.box2
                obtain ⟨n0, n1, -⟩ := hN2.box2
                have cT := regrow (w := wd) (fun w' => rTwice w' ax ay nx ny qx qy w' (Ext.refl _) oa1 oa2 on1 on2 oq1 oq2)
                obtain ⟨T, hT⟩ : ∃ T, twz ax ay nx ny qx qy = T := ⟨_, rfl⟩
                rw [hT] at cT
                have HT := Lib.hid hT
                clear hT
                have f0 := cell_regrown d0
                have f1 := cell_regrown d1
                have a0 := cell_regrown a0
                have a1 := cell_regrown a1
                have n0 := cell_regrown n0
                have n1 := cell_regrown n1
                refine wp_region_quiet_below (by kernel_rfl) (by kernel_rfl) ?_
                repeat (with_reducible refine wpQuiet_step (fun K hK => ?_); go_simp; first | (with_reducible refine hK _ ?_; clear hK K) | (rw [if_neg (by simp [undef])]; with_reducible refine hK _ ?_; clear hK K) | (apply Exists.intro; with_reducible refine ⟨fun _ => ?_, hK _ ?_⟩; (first | with_reducible exact cT _ _); clear hK K))
                refine wpQuiet_nil ?_
                intro _ hw'
                obtain ⟨⟨dq, osq⟩, hw''⟩ := hw'
                subst hw''
                have hXq : Ext wd (Go.Sort.grow (redrawn wd dq) osq) := below_regrown wd dq osq
                have hA3 := hA2.ext hXq
                have hN3 := hN2.ext hXq
                have hx8 := hx7.trans hXq
                have d0 := hXq.cell d0
                have d1 := hXq.cell d1
                change Exit.then _ _ Exit.normal _ (Go.Sort.grow (redrawn wd dq) osq)
                generalize Go.Sort.grow (redrawn wd dq) osq = we at hA3 hN3 hx8 d0 d1 ⊢
                clear hXq f0 f1 a0 a1 n0 n1 cT hA2 hN2 hx7
                obtain ⟨a0, a1, -⟩ := hA3.box2
                obtain ⟨n0, n1, n2⟩ := hN3.box2
                have cS1 := regrow (w := we) (fun w' => rSquare w' ax ay qx qy w' (Ext.refl _) oa1 oa2 oq1 oq2)
                have cS2 := regrow (w := we) (fun w' => rSquare w' ax ay nx ny w' (Ext.refl _) oa1 oa2 on1 on2)
                obtain ⟨S1, hS1⟩ : ∃ T, dsz ax ay qx qy = T := ⟨_, rfl⟩
                obtain ⟨S2, hS2⟩ : ∃ T, dsz ax ay nx ny = T := ⟨_, rfl⟩
                rw [hS1] at cS1
                rw [hS2] at cS2
                have HS1 := Lib.hid hS1
                have HS2 := Lib.hid hS2
                clear hS1 hS2
                have eqN := fun w => run_eql_pt nx ny ax ay w
                have f0 := cell_regrown d0
                have f1 := cell_regrown d1
                have a0 := cell_regrown a0
                have a1 := cell_regrown a1
                have m0 := cell_regrown n0
                have m1 := cell_regrown n1
                have qne : ¬ (qx, qy) = (ax, ay) := fun c => HNE.out (by simpa using c)
                go_wp2_with fail
                have hcase : (nx = ax ∧ ny = ay) ∨ (¬ (nx = ax ∧ ny = ay) ∧ (T < 0 ∨ (T = 0 ∧ S2 < S1) ∨ (T = 0 ∧ ¬ S2 < S1) ∨ 0 < T)) := by omega
                rcases hcase with h0 | ⟨h0, h1 | ⟨rfl, h1⟩ | ⟨rfl, h1⟩ | h1⟩
                · rw [decide_eq_true h0] at eqN
                  have hs2 : ((p :: s).take (i + 1)).foldl (nxF (ax, ay)) (ax, ay) = (qx, qy) := HS.out.trans (nx_t qne (.inl (by rw [h0.1, h0.2])))
                  have HSS := Lib.hid hs2
                  clear hs2 h0 HT HS1 HS2
                  refine wp_region_quiet_below (by kernel_rfl) (by kernel_rfl) ?_
                  repeat (with_reducible refine wpQuiet_step (fun K hK => ?_); go_simp; first | (with_reducible refine hK _ ?_; clear hK K) | (rw [if_neg (by simp [undef])]; with_reducible refine hK _ ?_; clear hK K) | (apply Exists.intro; with_reducible refine ⟨fun _ => ?_, hK _ ?_⟩; (first | with_reducible exact cS1 _ _ | with_reducible exact cS2 _ _); clear hK K))
                  refine wpQuiet_nil ?_
                  intro _ hw'
                  obtain ⟨⟨dq, osq⟩, hw''⟩ := hw'
                  subst hw''
                  have hXq : Ext we (Go.Sort.grow (redrawn we dq) osq) := below_regrown we dq osq
                  have hA4 := hA3.ext hXq
                  have hN4 := hN3.ext hXq
                  have hx9 := hx8.trans hXq
                  have d0 := hXq.cell d0
                  have d1 := hXq.cell d1
                  change Exit.then _ _ Exit.normal _ (Go.Sort.grow (redrawn we dq) osq)
                  generalize Go.Sort.grow (redrawn we dq) osq = wf at hA4 hN4 hx9 d0 d1 ⊢
                  clear hXq f0 f1 a0 a1 m0 m1 n0 n1 n2 cS1 cS2 eqN
                  obtain ⟨n0, n1, n2⟩ := hN4.box2
                  go_wp2_with fail
                  have hb := (hN4.set 0 (.int .i64 qx)).set 1 (.int .i64 qy)
                  have ha := (hA4.other ⟨N, 0, none⟩ (.int .i64 qx) nAN).other ⟨N, 1, none⟩ (.int .i64 qy) nAN
                  exact ⟨⟨i + 1, by simp, by omega, ha, by rw [HSS.out]; exact hb, ext_two hx9 zN _ _⟩, by simp [intOf]; omega⟩
                · rw [decide_eq_false h0] at eqN
                  have hs2 : ((p :: s).take (i + 1)).foldl (nxF (ax, ay)) (ax, ay) = (qx, qy) := HS.out.trans (nx_t qne (.inr (.inl (by change twz ax ay nx ny qx qy < 0; rw [HT.out]; exact h1))))
                  have HSS := Lib.hid hs2
                  clear hs2 h0 HT HS1 HS2
                  refine wp_region_quiet_below (by kernel_rfl) (by kernel_rfl) ?_
                  repeat (with_reducible refine wpQuiet_step (fun K hK => ?_); go_simp; first | (with_reducible refine hK _ ?_; clear hK K) | (rw [if_neg (by simp [undef])]; with_reducible refine hK _ ?_; clear hK K) | (apply Exists.intro; with_reducible refine ⟨fun _ => ?_, hK _ ?_⟩; (first | with_reducible exact cS1 _ _ | with_reducible exact cS2 _ _); clear hK K))
                  refine wpQuiet_nil ?_
                  intro _ hw'
                  obtain ⟨⟨dq, osq⟩, hw''⟩ := hw'
                  subst hw''
                  have hXq : Ext we (Go.Sort.grow (redrawn we dq) osq) := below_regrown we dq osq
                  have hA4 := hA3.ext hXq
                  have hN4 := hN3.ext hXq
                  have hx9 := hx8.trans hXq
                  have d0 := hXq.cell d0
                  have d1 := hXq.cell d1
                  change Exit.then _ _ Exit.normal _ (Go.Sort.grow (redrawn we dq) osq)
                  generalize Go.Sort.grow (redrawn we dq) osq = wf at hA4 hN4 hx9 d0 d1 ⊢
                  clear hXq f0 f1 a0 a1 m0 m1 n0 n1 n2 cS1 cS2 eqN
                  obtain ⟨n0, n1, n2⟩ := hN4.box2
                  go_wp2_with fail
                  have hb := (hN4.set 0 (.int .i64 qx)).set 1 (.int .i64 qy)
                  have ha := (hA4.other ⟨N, 0, none⟩ (.int .i64 qx) nAN).other ⟨N, 1, none⟩ (.int .i64 qy) nAN
                  exact ⟨⟨i + 1, by simp, by omega, ha, by rw [HSS.out]; exact hb, ext_two hx9 zN _ _⟩, by simp [intOf]; omega⟩
                · rw [decide_eq_false h0] at eqN
                  have hs2 : ((p :: s).take (i + 1)).foldl (nxF (ax, ay)) (ax, ay) = (qx, qy) := HS.out.trans (nx_t qne (.inr (.inr ⟨HT.out, by change dsz ax ay nx ny < dsz ax ay qx qy; rw [HS1.out, HS2.out]; exact h1⟩)))
                  have HSS := Lib.hid hs2
                  clear hs2 h0 HT HS1 HS2
                  refine wp_region_quiet_below (by kernel_rfl) (by kernel_rfl) ?_
                  repeat (with_reducible refine wpQuiet_step (fun K hK => ?_); go_simp; first | (with_reducible refine hK _ ?_; clear hK K) | (rw [if_neg (by simp [undef])]; with_reducible refine hK _ ?_; clear hK K) | (apply Exists.intro; with_reducible refine ⟨fun _ => ?_, hK _ ?_⟩; (first | with_reducible exact cS1 _ _ | with_reducible exact cS2 _ _); clear hK K))
                  refine wpQuiet_nil ?_
                  intro _ hw'
                  obtain ⟨⟨dq, osq⟩, hw''⟩ := hw'
                  subst hw''
                  have hXq : Ext we (Go.Sort.grow (redrawn we dq) osq) := below_regrown we dq osq
                  have hA4 := hA3.ext hXq
                  have hN4 := hN3.ext hXq
                  have hx9 := hx8.trans hXq
                  have d0 := hXq.cell d0
                  have d1 := hXq.cell d1
                  change Exit.then _ _ Exit.normal _ (Go.Sort.grow (redrawn we dq) osq)
                  generalize Go.Sort.grow (redrawn we dq) osq = wf at hA4 hN4 hx9 d0 d1 ⊢
                  clear hXq f0 f1 a0 a1 m0 m1 n0 n1 n2 cS1 cS2 eqN
                  obtain ⟨n0, n1, n2⟩ := hN4.box2
                  go_wp2_with fail
                  have hb := (hN4.set 0 (.int .i64 qx)).set 1 (.int .i64 qy)
                  have ha := (hA4.other ⟨N, 0, none⟩ (.int .i64 qx) nAN).other ⟨N, 1, none⟩ (.int .i64 qy) nAN
                  exact ⟨⟨i + 1, by simp, by omega, ha, by rw [HSS.out]; exact hb, ext_two hx9 zN _ _⟩, by simp [intOf]; omega⟩
                · rw [decide_eq_false h0] at eqN
                  have hs2 : ((p :: s).take (i + 1)).foldl (nxF (ax, ay)) (ax, ay) = (nx, ny) := HS.out.trans (nx_f qne (by rintro (c | c | ⟨_, c⟩); exact h0 (by simpa using c); (change twz ax ay nx ny qx qy < 0 at c; rw [HT.out] at c; exact absurd c (by decide)); (change dsz ax ay nx ny < dsz ax ay qx qy at c; rw [HS1.out, HS2.out] at c; exact h1 c)))
                  have HSS := Lib.hid hs2
                  clear hs2 h0 HT HS1 HS2
                  refine wp_region_quiet_below (by kernel_rfl) (by kernel_rfl) ?_
                  repeat (with_reducible refine wpQuiet_step (fun K hK => ?_); go_simp; first | (with_reducible refine hK _ ?_; clear hK K) | (rw [if_neg (by simp [undef])]; with_reducible refine hK _ ?_; clear hK K) | (apply Exists.intro; with_reducible refine ⟨fun _ => ?_, hK _ ?_⟩; (first | with_reducible exact cS1 _ _ | with_reducible exact cS2 _ _); clear hK K))
                  refine wpQuiet_nil ?_
                  intro _ hw'
                  obtain ⟨⟨dq, osq⟩, hw''⟩ := hw'
                  subst hw''
                  have hXq : Ext we (Go.Sort.grow (redrawn we dq) osq) := below_regrown we dq osq
                  have hA4 := hA3.ext hXq
                  have hN4 := hN3.ext hXq
                  have hx9 := hx8.trans hXq
                  have d0 := hXq.cell d0
                  have d1 := hXq.cell d1
                  change Exit.then _ _ Exit.normal _ (Go.Sort.grow (redrawn we dq) osq)
                  generalize Go.Sort.grow (redrawn we dq) osq = wf at hA4 hN4 hx9 d0 d1 ⊢
                  clear hXq f0 f1 a0 a1 m0 m1 n0 n1 n2 cS1 cS2 eqN
                  obtain ⟨n0, n1, n2⟩ := hN4.box2
                  go_wp2_with fail
                  exact ⟨⟨i + 1, by simp, by omega, hA4, by rw [HSS.out]; exact hN4, hx9⟩, by simp [intOf]; omega⟩
                · rw [decide_eq_false h0] at eqN
                  have hs2 : ((p :: s).take (i + 1)).foldl (nxF (ax, ay)) (ax, ay) = (nx, ny) := HS.out.trans (nx_f qne (by rintro (c | c | ⟨c, _⟩); exact h0 (by simpa using c); (change twz ax ay nx ny qx qy < 0 at c; rw [HT.out] at c; omega); (change twz ax ay nx ny qx qy = 0 at c; rw [HT.out] at c; omega)))
                  have HSS := Lib.hid hs2
                  clear hs2 h0 HT HS1 HS2
                  have h2 : (T == 0) = false := by rw [beq_eq_false_iff_ne]; omega
                  have h3 : ¬ T < 0 := by omega
                  refine wp_region_quiet_below (by kernel_rfl) (by kernel_rfl) ?_
                  repeat (with_reducible refine wpQuiet_step (fun K hK => ?_); go_simp; first | (with_reducible refine hK _ ?_; clear hK K) | (rw [if_neg (by simp [undef])]; with_reducible refine hK _ ?_; clear hK K) | (apply Exists.intro; with_reducible refine ⟨fun _ => ?_, hK _ ?_⟩; (first | with_reducible exact cS1 _ _ | with_reducible exact cS2 _ _); clear hK K))
                  refine wpQuiet_nil ?_
                  intro _ hw'
                  obtain ⟨⟨dq, osq⟩, hw''⟩ := hw'
                  subst hw''
                  have hXq : Ext we (Go.Sort.grow (redrawn we dq) osq) := below_regrown we dq osq
                  have hA4 := hA3.ext hXq
                  have hN4 := hN3.ext hXq
                  have hx9 := hx8.trans hXq
                  have d0 := hXq.cell d0
                  have d1 := hXq.cell d1
                  change Exit.then _ _ Exit.normal _ (Go.Sort.grow (redrawn we dq) osq)
                  generalize Go.Sort.grow (redrawn we dq) osq = wf at hA4 hN4 hx9 d0 d1 ⊢
                  clear hXq f0 f1 a0 a1 m0 m1 n0 n1 n2 cS1 cS2 eqN
                  obtain ⟨n0, n1, n2⟩ := hN4.box2
                  go_wp2_with fail
                  exact ⟨⟨i + 1, by simp, by omega, hA4, by rw [HSS.out]; exact hN4, hx9⟩, by simp [intOf]; omega⟩
            · obtain rfl : m = i := by omega
              rw [List.take_of_length_le (by rw [HL.out]; exact Nat.le_refl _)] at hN1
              have nxt := nx_hull HH.out k hk
              rw [HAA.out] at nxt
              rw [nxt] at hN1
              have send := succH_end HH.out k hk
              obtain ⟨sx, sy, hsx⟩ : ∃ x y, succH (o :: t) k = (x, y) := ⟨_, _, rfl⟩
              rw [hsx] at hN1
              rw [hsx, HAA.out, show (o :: t).getD 0 (0, 0) = o from rfl] at send
              have hFx := hF1.ext (hx4.trans hx6)
              have hRx := bR.ext ((hx1.trans hx4).trans hx6)
              have HSX := Lib.hid hsx
              have hRb : R < base := by rw [← hbs]; exact Nat.lt_of_lt_of_le bR.lt hx1.le
              clear nxt hsx
              obtain ⟨f0, f1, -⟩ := hFx.box2
              obtain ⟨n0, n1, -⟩ := hN1.box2
              obtain ⟨a0, a1, -⟩ := hA1.box2
              obtain ⟨r0, r1, r2⟩ := hRx.box2
              simp only at f0 f1 n0 n1 a0 a1
              have eqF := fun w => run_eql_pt sx sy o.1 o.2 w
              have eqA2 := fun w => run_eql_pt sx sy ax ay w
              by_cases hend : k + 1 = (o :: t).length
              · have hdisj := send.2 hend
                have fin : ∀ u0 u1, Pts ((wr.setCell ⟨R, 0, none⟩ u0).setCell ⟨R, 1, none⟩ u1) (.slice (some ⟨g, 0, none⟩) K cg) (s.foldl fsF p :: t) := fun u0 u1 => by
                  have q := (Own.kx (HOWN.out.ext hx6) ((KX.refl R wr).two u0 u1) hRb).pts
                  rw [List.take_of_length_le (by omega)] at q
                  rw [HO.out]
                  exact q
                have finE : ∀ u0 u1, Ext W ((wr.setCell ⟨R, 0, none⟩ u0).setCell ⟨R, 1, none⟩ u1) := fun u0 u1 => hX.trans (ext_two (hX2.trans ((hx1.trans hx4).trans hx6)) zR2 u0 u1)
                have HF1 := Lib.hid fin
                have HF2 := Lib.hid finE
                clear fin finE send hend
                by_cases e1 : sx = o.1 ∧ sy = o.2
                · rw [decide_eq_true e1] at eqF
                  clear e1 hdisj
                  go_wp2_with fail
                  refine bodyPost_ret (v := .agg #[.slice (some ⟨g, 0, none⟩) K cg, .int .i64 0]) ?_ ?_ ?_
                  · simp [results, Try.f44, go_sem, r0, r1]
                  · rfl
                  · exact ⟨_, by rw [he], HF1.out _ _, HF2.out _ _⟩
                · have e2 : sx = ax ∧ sy = ay := by
                    rcases hdisj with c | c
                    · exact absurd ⟨congrArg Prod.fst c, congrArg Prod.snd c⟩ e1
                    · simpa using c
                  rw [decide_eq_false e1] at eqF
                  rw [decide_eq_true e2] at eqA2
                  clear e1 e2 hdisj
                  go_wp2_with fail
                  refine bodyPost_ret (v := .agg #[.slice (some ⟨g, 0, none⟩) K cg, .int .i64 0]) ?_ ?_ ?_
                  · simp [results, Try.f44, go_sem, r0, r1]
                  · rfl
                  · exact ⟨_, by rw [he], HF1.out _ _, HF2.out _ _⟩
              · have hn : ¬ ((sx, sy) = o ∨ (sx, sy) = (ax, ay)) := fun c => hend (send.1 c)
                have e1 : ¬ (sx = o.1 ∧ sy = o.2) := fun c => hn (.inl (Prod.ext c.1 c.2))
                have e2 : ¬ (sx = ax ∧ sy = ay) := fun c => hn (.inr (by rw [c.1, c.2]))
                rw [decide_eq_false e1] at eqF
                rw [decide_eq_false e2] at eqA2
                have hk1 : k + 1 < (o :: t).length := by omega
                have hs1 : (o :: t).take (k + 1 + 1) = (o :: t).take (k + 1) ++ [(sx, sy)] := by
                  rw [List.take_succ_eq_append_getElem hk1]
                  have q := HSX.out
                  unfold succH at q
                  rw [getD_at hk1] at q
                  rw [q]
                have HS1 := Lib.hid hs1
                have HK1 := Lib.hid hk1
                have zN2 := hN1.lt
                clear e1 e2 hn send hend hs1 hk1
                go_wp2_with (at_builtin; refine app_pt rfl (.tmp 128) (.tmp 130) rfl base _ _ rfl (Own.ext (Own.ext HOWN.out hx6) ((Ext.refl _).alloc _)) _ sx sy rfl ?c1 ?c2 ?c3 ((hx4.trans hx6).alloc _) (Nat.le_of_eq hbs.symm) ?_)
                case c1 => go_simp
                case c2 => go_simp
                case c3 => rw [List.length_take]; omega
                intro v' w8 ho' hg' hext
                go_wp2_with fail
                rw [← HK.out, ← HS1.out] at ho'
                refine ⟨⟨k + 1, trivial, HK1.out, ho', hext wp (Nat.le_of_eq hbs) ((hx4.trans hx6).alloc _)⟩, ?_⟩
                have q := ho'.len
                rw [List.length_take] at q
                have q2 := HK1.out
                have q3 := HK.out
                have q4 : slLen (.slice (some ⟨g, 0, none⟩) K cg) = K := rfl
                omega
end Go.Proofs.Ytdbhbfmbpldmnaa
