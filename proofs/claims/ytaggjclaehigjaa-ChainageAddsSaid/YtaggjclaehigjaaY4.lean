/- The walk of the law ChainageAdds. -/
import Derived.Test.YtaggjclaehigjaaWX
import Derived.Test.YtaggjclaehigjaaP9
import Derived.Test.YtaggjclaehigjaaR3
import Derived.Deep.DeepCutAuto
namespace Go.Proofs.Ytaggjclaehigjaa
open Go.RowKit
theorem neq_sp2 : ∀ (a b : Int) (w : World), (binOp .neq 30 (.agg #[.int .i64 a, .int .i64 b]) (.agg #[.int .i64 a, .int .i64 b])).run Try.prog w = .ok (.bool false) w := by
  intro a b w
  have h1 : (a == a) = true := by simp
  have h2 : (b == b) = true := by simp
  go_simp
theorem box5' {w : World} {B T : Nat} {a b c d e : Value} {ro : Nat × Nat} (h : w.heap[B]? = some (.cells #[a, b, c, d, e] T ro)) : w.cell? ⟨B, 0, none⟩ = some a ∧ w.cell? ⟨B, 1, none⟩ = some b ∧ w.cell? ⟨B, 2, none⟩ = some c ∧ w.cell? ⟨B, 3, none⟩ = some d ∧ w.cell? ⟨B, 4, none⟩ = some e :=
  ⟨cell_at h 0, cell_at h 1, cell_at h 2, cell_at h 3, cell_at h 4⟩
theorem totR_rng {C P R l : List Five} (hl : l.length ≤ 20) (h : (totR C P R l).2 = 0) : (0 ≤ (totR C P R l).1.1 ∧ (totR C P R l).1.1 ≤ 260000000) ∧ 0 ≤ (totR C P R l).1.2 ∧ (totR C P R l).1.2 ≤ 260000000 := by
  unfold totR at h ⊢
  by_cases h0 : chk C P R = 0
  · rw [if_pos h0, if_neg (by omega)] at h ⊢
    have := totL_rng l h
    omega
  · rw [if_neg h0] at h
    exact absurd h h0
theorem own_empty {w : World} {n T base : Nat} (h : w.heap[n]? = some (.cells #[] T)) (hb : base ≤ n) : Own T 5 enc5 base w (.slice (some ⟨n, 0, none⟩) 0 0) [] :=
  ⟨rfl, .inr ⟨n, 0, #[], rfl, hb, h, Nat.le_refl _, by simp [maxLen], rfl, rfl⟩⟩
theorem Own.keep_at {α : Type} {T k T' D : Nat} {enc : α → List Value} {base : Nat} {w w' : World} {v : Value} {l : List α} {cs : Array Value} {ro : Nat × Nat} (h : Own T k enc base w v l) (hg : w.grownBy w' v.ownBlock) (hD : w.heap[D]? = some (.cells cs T' ro)) (hT : T ≠ T') : w'.heap[D]? = some (.cells cs T' ro) := by
  refine (hg.block D (Array.getElem?_eq_some_iff.1 hD).1 (fun e => ?_)).trans hD
  obtain ⟨_, h2⟩ := h
  rcases h2 with ⟨rfl, _⟩ | ⟨g, c1, cur, rfl, _, hh, _⟩
  · cases e
  · injection e with e
    simp only at e
    subst e
    rw [hD] at hh
    injection hh with hh
    injection hh with _ hh _
    exact hT hh.symm
theorem fives_app {base : Nat} {w : World} {v : Value} {l m : List Five} (h : Own 41 5 enc5 base w v ([] ++ l ++ m)) : Fives w v (l ++ m) := h.sl enc5_len
theorem relA3 {w2 w3 : World} {T : Nat} {n : Int} (h : Ext w2 w3) (cs : Array Value) : ∃ N, Value.pointer (some ⟨w3.heap.size, 0, none⟩) = .pointer (some ⟨N, 0, none⟩) ∧ Value.int .i64 n = .int .i64 n ∧ Ext w2 (w3.alloc (.cells cs T)) ∧ (w3.alloc (.cells cs T)).heap[N]? = some (.cells cs T) ∧ w2.heap.size ≤ N :=
  ⟨_, rfl, rfl, h.alloc _, heap_alloc_new w3 _, h.le⟩
theorem relB3 {w2 w3 : World} {T n : Nat} {a b a' b' : Value} {z : Int} (h : Ext w2 w3) (hN : w3.heap[n]? = some (.cells #[a', b'] T)) (hn : w2.heap.size ≤ n) :
    ∃ N, Value.pointer (some ⟨n, 0, none⟩) = .pointer (some ⟨N, 0, none⟩) ∧ Value.int .i64 z = .int .i64 z ∧ Ext w2 ((w3.setCell ⟨n, 0, none⟩ a).setCell ⟨n, 1, none⟩ b) ∧ ((w3.setCell ⟨n, 0, none⟩ a).setCell ⟨n, 1, none⟩ b).heap[N]? = some (.cells #[a, b] T) ∧ w2.heap.size ≤ N :=
  ⟨_, rfl, rfl, (h.setCell (p := ⟨n, 0, none⟩) hn _).setCell (p := ⟨n, 1, none⟩) hn _, set_eq (set_eq hN), hn⟩
theorem infoMe : (Try.prog.info? 41).map (fun i => (i.zero, i.size, i.bytes)) = some (some (.agg #[.int .i64 0, .int .i64 0, .int .i64 0, .int .i64 0, .int .i64 0]), 5, 40) := by kernel_rfl
theorem m_ok {C P R : List Five} {m : Five} (h : (distM C P R m).2 = 0) : 0 ≤ m.e ∧ m.e ≤ 100000 := by
  unfold distM distR at h
  by_cases h0 : chk C P R = 0
  · rw [if_pos h0] at h
    cases hf : findC C m.a with
    | none => rw [hf] at h; simp at h
    | some c =>
      rw [hf] at h
      simp only at h
      cases hk : okM c m.b m.c m.d m.e
      · rw [hk] at h; simp at h
      · unfold okM at hk
        simp only [Bool.and_eq_true, inB_iff] at hk
        omega
  · rw [if_neg h0] at h
    exact absurd h h0
set_option maxRecDepth 100000 in
set_option maxHeartbeats 8000000 in
theorem lawAdds (W : World) (C P R : List Five) (v : Value) (l m : List Five) (s t : Value) (n : Int) (w : World) (hX : Ext W w) (hv : Wk w v C P R) (hs : Fives w s l) (ht : Fives w t m) (hn0 : 0 ≤ n ∧ n ≤ 255) :
    Calls Try.prog 5 #[v, s, t, .int .u8 n] w fun e w' => e = .returned (.bool true) ∧ Ext W w' := by
  have HF := Lib.hid (fun w' (q : Ext w w') => few_any w' C P R v w' (Ext.refl _) (hv.ext q))
  have HA := Lib.hid (fun w' (q : Ext w w') => Total_any w' C P R v l s w' (Ext.refl _) (hv.ext q) (hs.ext q))
  have HB := Lib.hid (fun w' (q : Ext w w') => Total_any w' C P R v m t w' (Ext.refl _) (hv.ext q) (ht.ext q))
  have HC := Lib.hid (fun w' u (q : Ext w w') (hu : Fives w' u (l ++ m)) => Total_any w' C P R v (l ++ m) u w' (Ext.refl _) (hv.ext q) hu)
  have HP := Lib.hid (fun (m : Five) w' (q : Ext w w') => Distance_any w' C P R v m.a m.b m.c m.d m.e w' (Ext.refl _) (hv.ext q))
  obtain ⟨vC, vP, vR, rfl, hC0, hP0, hR0, hn⟩ := hv
  obtain ⟨aP, capP, rfl, -⟩ := hP0.parts
  obtain ⟨aR, capR, rfl, -⟩ := hR0.parts
  have HS := Lib.hid hs
  have HT := Lib.hid ht
  obtain ⟨a, cap, rfl, hl, hm, hc⟩ := hs.parts
  obtain ⟨a2, cap2, rfl, -, -, -⟩ := ht.parts
  have HCL := Lib.hid hc
  clear hs ht hc hC0 hP0 hR0 hm
  generalize fewB C P R = f at HF
  have hX0 : Ext w (w.alloc (.cells #[vC, .slice aP P.length capP, .slice aR R.length capR] 26)) := (Ext.refl w).alloc _
  have hb0 := heap_alloc_new w (.cells #[vC, .slice aP P.length capP, .slice aR R.length capR] 26)
  obtain ⟨B, hBB⟩ : ∃ B, w.heap.size = B := ⟨_, rfl⟩
  rw [hBB] at hb0
  have e64 : IntKind.i64.wrap ((P.length : Int) + (R.length : Int)) = (P.length : Int) + (R.length : Int) := wrap_in (by omega)
  go_enter Try.func5, Try.ntmps5
  go_upto_region 1 with fail
  obtain ⟨wa, hwa⟩ : ∃ wa, w.alloc (.cells #[vC, .slice aP P.length capP, .slice aR R.length capR] 26) = wa := ⟨_, rfl⟩
  rw [hwa] at hX0 hb0 ⊢
  clear hwa
  go_cut [43] (fun v wx => ∃ b, v = .bool b ∧ (b = false → l.length ≤ 20 ∧ m.length ≤ 20) ∧ Ext w wx ∧ wx.heap[B]? = some (.cells #[vC, .slice aP P.length capP, .slice aR R.length capR] 26))
  case first => as_aux_lemma =>
    obtain ⟨k0, k1, k2⟩ := box3' hb0
    cases f
    · go_wp2_with (go_at_call 14; with_reducible refine (HF.out _ hX0).mono ?_; rintro e w2 ⟨rfl, hX2⟩; have hE2 := hX0.trans hX2; have hb2 := hX2.block hb0; obtain ⟨k0, k1, k2⟩ := box3' hb2)
      go_meet
      case rel => exact ⟨true, rfl, by simp, hE2, hb2⟩
    · by_cases h30 : 30 < (P.length : Int) + (R.length : Int)
      · go_wp2_with (go_at_call 14; with_reducible refine (HF.out _ hX0).mono ?_; rintro e w2 ⟨rfl, hX2⟩; have hE2 := hX0.trans hX2; have hb2 := hX2.block hb0; obtain ⟨k0, k1, k2⟩ := box3' hb2)
        go_meet
        case rel => exact ⟨true, rfl, by simp, hE2, hb2⟩
      · by_cases hl20 : l.length ≤ 20
        · by_cases hm20 : m.length ≤ 20
          · go_wp2_with (go_at_call 14; with_reducible refine (HF.out _ hX0).mono ?_; rintro e w2 ⟨rfl, hX2⟩; have hE2 := hX0.trans hX2; have hb2 := hX2.block hb0; obtain ⟨k0, k1, k2⟩ := box3' hb2)
            go_meet
            case rel => exact ⟨_, rfl, fun _ => ⟨hl20, hm20⟩, hE2, hb2⟩
          · have hm21 : (20 : Int) < (m.length : Int) := by omega
            go_wp2_with (go_at_call 14; with_reducible refine (HF.out _ hX0).mono ?_; rintro e w2 ⟨rfl, hX2⟩; have hE2 := hX0.trans hX2; have hb2 := hX2.block hb0; obtain ⟨k0, k1, k2⟩ := box3' hb2)
            go_meet
            case rel => exact ⟨true, by first | rfl | (congr 1; simp; omega), by simp, hE2, hb2⟩
        · have hl21 : (20 : Int) < (l.length : Int) := by omega
          go_wp2_with (go_at_call 14; with_reducible refine (HF.out _ hX0).mono ?_; rintro e w2 ⟨rfl, hX2⟩; have hE2 := hX0.trans hX2; have hb2 := hX2.block hb0; obtain ⟨k0, k1, k2⟩ := box3' hb2)
          go_meet
          case rel => exact ⟨true, by first | rfl | (congr 1; simp; omega), by simp, hE2, hb2⟩
  case rest =>
    obtain ⟨b, rfl, hlm, hE, hb⟩ := hcut
    clear hX0 hb0 HF e64
    cases b
    · obtain ⟨hl20, hm20⟩ := hlm rfl
      obtain ⟨hap1, hap2⟩ := totR_app (C := C) (P := P) (R := R) hl20 hm20
      have hrx : (totR C P R l).2 = 0 → _ := fun h => totR_rng (C := C) (P := P) (R := R) hl20 h
      have hry : (totR C P R m).2 = 0 → _ := fun h => totR_rng (C := C) (P := P) (R := R) hm20 h
      obtain ⟨⟨⟨xl, xh⟩, xe⟩, hx⟩ : ∃ x, totR C P R l = x := ⟨_, rfl⟩
      rw [hx] at HA hap1 hap2 hrx
      obtain ⟨⟨⟨yl, yh⟩, ye⟩, hy⟩ : ∃ x, totR C P R m = x := ⟨_, rfl⟩
      rw [hy] at HB hap1 hap2 hry
      obtain ⟨⟨⟨zl, zh⟩, ze⟩, hz⟩ : ∃ x, totR C P R (l ++ m) = x := ⟨_, rfl⟩
      rw [hz] at HC hap1 hap2
      simp only [Prod.mk.injEq] at hap1 hap2 hrx hry
      clear hx hy hz hlm
      have HAP1 := Lib.hid hap1
      have HAP2 := Lib.hid hap2
      have HRX := Lib.hid hrx
      have HRY := Lib.hid hry
      clear hap1 hap2 hrx hry
      obtain ⟨c0, c1, c2⟩ := box3' hb
      go_wp2_with fail
      with_reducible refine (HA.out _ hE).mono ?_
      rintro e w5 ⟨rfl, hX5⟩
      have hE5 := Ext.trans hE hX5
      have hb5 := hX5.block hb
      obtain ⟨c0, c1, c2⟩ := box3' hb5
      have zB := lt_of_cell c0
      have hE5' := hE5.alloc (.cells #[.int .i64 xl, .int .i64 xh] 30)
      have hb5' := ((Ext.refl w5).alloc (.cells #[.int .i64 xl, .int .i64 xh] 30)).block hb5
      have hx5 := heap_alloc_new w5 (.cells #[.int .i64 xl, .int .i64 xh] 30)
      go_wp2_with fail
      obtain ⟨w6, hw6⟩ : ∃ w6, w5.alloc (.cells #[.int .i64 xl, .int .i64 xh] 30) = w6 := ⟨_, rfl⟩
      rw [hw6] at hE5' hb5' hx5 ⊢
      clear hw6 c0 c1 c2 zB hb5 hE5 hX5 hb hE
      generalize w5.heap.size = X at hx5 ⊢
      with_reducible refine (HB.out _ hE5').mono ?_
      rintro e w7 ⟨rfl, hX7⟩
      have hE7 := hE5'.trans hX7
      have hb7 := hX7.block hb5'
      have hx7 := hX7.block hx5
      obtain ⟨c0, c1, c2⟩ := box3' hb7
      have zB := lt_of_cell c0
      have hE7' := hE7.alloc (.cells #[.int .i64 yl, .int .i64 yh] 30)
      have hb7' := ((Ext.refl w7).alloc (.cells #[.int .i64 yl, .int .i64 yh] 30)).block hb7
      have hx7' := ((Ext.refl w7).alloc (.cells #[.int .i64 yl, .int .i64 yh] 30)).block hx7
      have hy7 := heap_alloc_new w7 (.cells #[.int .i64 yl, .int .i64 yh] 30)
      go_upto_region 5 with fail
      obtain ⟨w8, hw8⟩ : ∃ w8, w7.alloc (.cells #[.int .i64 yl, .int .i64 yh] 30) = w8 := ⟨_, rfl⟩
      rw [hw8] at hE7' hb7' hx7' hy7 ⊢
      clear hw8 c0 c1 c2 zB hb7 hE7 hX7 hx7 hx5 hE5' hb5'
      generalize w7.heap.size = Y at hy7 ⊢
      go_cut [13, 14] (fun v e wx => ∃ N, v = .pointer (some ⟨N, 0, none⟩) ∧ e = .int .i64 ze ∧ Ext w8 wx ∧ wx.heap[N]? = some (.cells #[.int .i64 zl, .int .i64 zh] 30) ∧ w8.heap.size ≤ N)
      case first => as_aux_lemma =>
        obtain ⟨k0, k1, k2⟩ := box3' hb7'
        have zB := lt_of_cell k0
        have EXa : Ext w8 (w8.alloc (.cells #[] 41)).drew := ((Ext.refl w8).alloc _).drew
        have EXb : Ext w8 ((w8.alloc (.cells #[] 41)).alloc (.cells #[.int .i64 0, .int .i64 0] 30)).drew := (((Ext.refl w8).alloc _).alloc _).drew
        have EXc : Ext w8 ((w8.alloc (.cells #[.int .i64 0, .int .i64 0] 30)).alloc (.cells #[] 41)).drew := (((Ext.refl w8).alloc _).alloc _).drew
        have HOa : Own 41 5 enc5 w8.heap.size (w8.alloc (.cells #[] 41)).drew (.slice (some ⟨w8.heap.size, 0, none⟩) 0 0) [] := own_empty (heap_alloc_new w8 _) (Nat.le_refl _)
        have HOb : Own 41 5 enc5 w8.heap.size ((w8.alloc (.cells #[] 41)).alloc (.cells #[.int .i64 0, .int .i64 0] 30)).drew (.slice (some ⟨w8.heap.size, 0, none⟩) 0 0) [] := own_empty (((Ext.refl _).alloc _).block (heap_alloc_new w8 _)) (Nat.le_refl _)
        have HOc : Own 41 5 enc5 w8.heap.size ((w8.alloc (.cells #[.int .i64 0, .int .i64 0] 30)).alloc (.cells #[] 41)).drew (.slice (some ⟨w8.heap.size + 1, 0, none⟩) 0 0) [] := own_empty (by have := heap_alloc_new (w8.alloc (.cells #[.int .i64 0, .int .i64 0] 30)) (.cells #[] 41); rw [World.size_alloc] at this; exact this) (by omega)
        have HDb : ((w8.alloc (.cells #[] 41)).alloc (.cells #[.int .i64 0, .int .i64 0] 30)).drew.heap[w8.heap.size + 1]? = some (.cells #[.int .i64 0, .int .i64 0] 30) := by have := heap_alloc_new (w8.alloc (.cells #[] 41)) (.cells #[.int .i64 0, .int .i64 0] 30); rw [World.size_alloc] at this; exact this
        have HDc : ((w8.alloc (.cells #[.int .i64 0, .int .i64 0] 30)).alloc (.cells #[] 41)).drew.heap[w8.heap.size]? = some (.cells #[.int .i64 0, .int .i64 0] 30) := ((Ext.refl _).alloc _).block (heap_alloc_new w8 _)
        clear hx7' hy7 HAP1 HAP2 HRX HRY HP HA HB HCL
        go_region_law (first
          | (with_reducible refine step_app 38 41 5 40 (.agg #[.int .i64 0, .int .i64 0, .int .i64 0, .int .i64 0, .int .i64 0]) enc5 enc5_len enc5_one Try.underlying38 infoMe rfl (by decide) (by decide) rfl (.tmp 59) (.tmp 60) rfl w8.heap.size (.slice (some ⟨w8.heap.size, 0, none⟩) 0 0) [] rfl HOa (.slice a l.length cap) l rfl (HS.out.ext (hE7'.trans EXa)) (by simp; omega) (Ext.le EXa) ?_; intro v1 u1 ho1 hg1 he1 hb1; have hE1 := he1 w8 (Nat.le_refl _) EXa; skip; clear hg1 he1 hb1; obtain ⟨k0, k1, k2⟩ := box3' (hE1.block hb7'); have zk1 := lt_of_cell k0)
          | (with_reducible refine step_app 38 41 5 40 (.agg #[.int .i64 0, .int .i64 0, .int .i64 0, .int .i64 0, .int .i64 0]) enc5 enc5_len enc5_one Try.underlying38 infoMe rfl (by decide) (by decide) rfl (.tmp 59) (.tmp 60) rfl w8.heap.size (.slice (some ⟨w8.heap.size, 0, none⟩) 0 0) [] rfl HOb (.slice a l.length cap) l rfl (HS.out.ext (hE7'.trans EXb)) (by simp; omega) (Ext.le EXb) ?_; intro v1 u1 ho1 hg1 he1 hb1; have hE1 := he1 w8 (Nat.le_refl _) EXb; have hD1 := HOb.keep_at hg1 HDb (by decide); clear hg1 he1 hb1; obtain ⟨k0, k1, k2⟩ := box3' (hE1.block hb7'); have zk1 := lt_of_cell k0)
          | (with_reducible refine step_app 38 41 5 40 (.agg #[.int .i64 0, .int .i64 0, .int .i64 0, .int .i64 0, .int .i64 0]) enc5 enc5_len enc5_one Try.underlying38 infoMe rfl (by decide) (by decide) rfl (.tmp 59) (.tmp 60) rfl w8.heap.size (.slice (some ⟨w8.heap.size + 1, 0, none⟩) 0 0) [] rfl HOc (.slice a l.length cap) l rfl (HS.out.ext (hE7'.trans EXc)) (by simp; omega) (Ext.le EXc) ?_; intro v1 u1 ho1 hg1 he1 hb1; have hE1 := he1 w8 (Nat.le_refl _) EXc; have hD1 := HOc.keep_at hg1 HDc (by decide); clear hg1 he1 hb1; obtain ⟨k0, k1, k2⟩ := box3' (hE1.block hb7'); have zk1 := lt_of_cell k0)
          | (with_reducible refine step_app 38 41 5 40 (.agg #[.int .i64 0, .int .i64 0, .int .i64 0, .int .i64 0, .int .i64 0]) enc5 enc5_len enc5_one Try.underlying38 infoMe rfl (by decide) (by decide) rfl (.tmp 61) (.tmp 62) rfl w8.heap.size v1 ([] ++ l) rfl ho1 (.slice a2 m.length cap2) m rfl (HT.out.ext (hE7'.trans hE1)) (by simp; omega) (Ext.le hE1) ?_; intro v2 u2 ho2 hg2 he2 hb2; have hE2 := he2 w8 (Nat.le_refl _) hE1; (first | have hD2 := ho1.keep_at hg2 hD1 (by decide) | skip); clear hg2 he2 hb2; obtain ⟨k0, k1, k2⟩ := box3' (hE2.block hb7'); have zk2 := lt_of_cell k0)
          | (with_reducible refine step_app 38 41 5 40 (.agg #[.int .i64 0, .int .i64 0, .int .i64 0, .int .i64 0, .int .i64 0]) enc5 enc5_len enc5_one Try.underlying38 infoMe rfl (by decide) (by decide) rfl (.tmp 61) (.tmp 62) rfl w8.heap.size v1 ([] ++ l) rfl (ho1.ext ((Ext.refl _).alloc _)) (.slice a2 m.length cap2) m rfl (HT.out.ext (hE7'.trans (hE1.alloc _))) (by simp; omega) (Ext.le (hE1.alloc _)) ?_; intro v2 u2 ho2 hg2 he2 hb2; have hE2 := he2 w8 (Nat.le_refl _) (hE1.alloc _); have hD2 := (ho1.ext ((Ext.refl u1).alloc (.cells #[.int .i64 0, .int .i64 0] 30))).keep_at hg2 (heap_alloc_new u1 _) (by decide); clear hg2 he2 hb2; obtain ⟨k0, k1, k2⟩ := box3' (hE2.block hb7'); have zk2 := lt_of_cell k0)
          | (go_simp; go_at_call 24; with_reducible refine (HC.out _ v2 (hE7'.trans hE2) (fives_app ho2)).mono ?_; rintro e u3 ⟨rfl, hX3⟩; have hE3 := hE2.trans hX3; (first | (have hD3 := hX3.block hD2; obtain ⟨t0, t1⟩ := box2 hD3; have y0 := frozen_cells ⟨_, hD3⟩ 0; have y1 := frozen_cells ⟨_, hD3⟩ 1) | skip); obtain ⟨k0, k1, k2⟩ := box3' (hE3.block hb7'); have zk3 := lt_of_cell k0)
          | (go_simp; go_at_call 24; with_reducible refine (HC.out _ v2 (hE7'.trans (hE2.alloc _)) (fives_app (ho2.ext ((Ext.refl _).alloc _)))).mono ?_; rintro e u3 ⟨rfl, hX3⟩; have hE3 := (hE2.alloc _).trans hX3; have hD3 := hX3.block (heap_alloc_new u2 _); obtain ⟨t0, t1⟩ := box2 hD3; have y0 := frozen_cells ⟨_, hD3⟩ 0; have y1 := frozen_cells ⟨_, hD3⟩ 1; obtain ⟨k0, k1, k2⟩ := box3' (hE3.block hb7'); have zk3 := lt_of_cell k0)
          | fail)
        all_goals
          go_wp2_with fail
          go_meet
          case rel => first | with_reducible exact relB3 hE3 hD3 (by first | exact Nat.le_refl _ | omega | exact hE1.le | exact hE2.le) | with_reducible exact relA3 hE3 _
      case rest =>
      obtain ⟨Z, rfl, rfl, hX9, hz9, -⟩ := hcut
      have hE9 := hE7'.trans hX9
      have hb9 := hX9.block hb7'
      obtain ⟨x0, x1⟩ := box2 (hX9.block hx7')
      obtain ⟨y0, y1⟩ := box2 (hX9.block hy7)
      obtain ⟨z0, z1⟩ := box2 hz9
      obtain ⟨w9, rfl⟩ : ∃ w', w' = wc := ⟨_, rfl⟩
      clear HA HB HC hX9 hz9 hE7' hb7' hx7' hy7 HS HT
      go_upto_region 6 with fail
      go_cut [94] (fun v wx => v = .bool false ∧ wx = w9)
      case first => as_aux_lemma =>
        by_cases hz0 : ze = 0
        · obtain ⟨hx0, hy0⟩ := HAP1.out.1 hz0
          obtain ⟨e1, e2⟩ := HAP2.out hz0
          subst hx0
          subst hy0
          have r1 := HRX.out rfl
          have r2 := HRY.out rfl
          subst hz0
          subst e1
          subst e2
          have e3 : IntKind.i64.wrap (xl + yl) = xl + yl := wrap_in (by omega)
          have e4 : IntKind.i64.wrap (xh + yh) = xh + yh := wrap_in (by omega)
          have qN := neq_sp2
          go_wp2_with fail
          go_meet
          case rel => exact ⟨rfl, rfl⟩
        · have hzb : (ze == 0) = false := by simpa using hz0
          by_cases hx0 : xe = 0
          · have hy0 : ye ≠ 0 := fun h => hz0 (HAP1.out.2 ⟨hx0, h⟩)
            have hyb : (ye == 0) = false := by simpa using hy0
            subst hx0
            clear hz0 hy0 HRX HRY HAP1 HAP2
            go_wp2_with fail
            go_meet
            case rel => exact ⟨rfl, rfl⟩
          · have hxb : (xe == 0) = false := by simpa using hx0
            clear hz0 hx0 HRX HRY HAP1 HAP2
            go_wp2_with fail
            go_meet
            case rel => exact ⟨rfl, rfl⟩
      case rest =>
      obtain ⟨rfl, rfl⟩ := hcut
      clear HAP1 HAP2 HRX HRY x0 x1 y0 y1 z0 z1
      go_wp2_with fail
      have zBw : B < wc.heap.size := (Array.getElem?_eq_some_iff.1 hb9).1
      go_loopw [97] (fun i wr => ∃ k : Nat, k ≤ l.length ∧ i = .int .i64 k ∧ Ext w wr ∧ wr.heap[B]? = some (.cells #[vC, .slice aP P.length capP, .slice aR R.length capR] 26)) (fun i _ => l.length - (intOf i).toNat)
      case atStart => exact ⟨0, Nat.zero_le _, rfl, hE9, hb9⟩
      case round =>
        obtain ⟨k, hk, rfl, hE, hb⟩ := hrel
        clear hE9 hb9 zBw
        by_cases hlt : k < l.length
        · obtain ⟨bb, off, x, hx, rfl, q0, q1, q2, q3, q4⟩ := five_at HCL.out hE hlt
          clear hx
          have HPX := Lib.hid (HP.out x)
          have HPY := Lib.hid (HP.out (more x n))
          have hdm : distR C P R x.a x.b x.c x.d x.e = distM C P R x := rfl
          have hdm2 : distR C P R (more x n).a (more x n).b (more x n).c (more x n).d (more x n).e = distM C P R (more x n) := rfl
          rw [hdm] at HPX
          rw [hdm2] at HPY
          clear hdm hdm2
          have HMO := Lib.hid (fun (h : (distM C P R x).2 = 0) (h2 : x.e + n ≤ 100000) => dist_more h hn0.1 h2)
          have HMK := Lib.hid (fun (h : (distM C P R x).2 = 0) => m_ok h)
          obtain ⟨⟨⟨sl, sh⟩, se⟩, hsd⟩ : ∃ t, distM C P R x = t := ⟨_, rfl⟩
          obtain ⟨⟨⟨tl, th⟩, te⟩, htd⟩ : ∃ t, distM C P R (more x n) = t := ⟨_, rfl⟩
          rw [hsd] at HPX HMO HMK
          rw [htd] at HPY HMO
          clear hsd htd
          have HPZ := Lib.hid (show ∀ w', Ext w w' → Calls Try.prog 25 #[.agg #[vC, .slice aP P.length capP, .slice aR R.length capR], .agg #[.int .i64 x.a, .int .i64 x.b, .int .i64 x.c, .int .i64 x.d, .int .i64 (x.e + n)]] w' fun e w'' => e = .returned (spanT ((tl, th), te)) ∧ Ext w' w'' from HPY.out)
          clear HPY
          have hEa := hE.alloc (.cells #[.int .i64 x.a, .int .i64 x.b, .int .i64 x.c, .int .i64 x.d, .int .i64 x.e] 41)
          have ha := heap_alloc_new wr (.cells #[.int .i64 x.a, .int .i64 x.b, .int .i64 x.c, .int .i64 x.d, .int .i64 x.e] 41)
          have hba := ((Ext.refl wr).alloc (.cells #[.int .i64 x.a, .int .i64 x.b, .int .i64 x.c, .int .i64 x.d, .int .i64 x.e] 41)).block hb
          obtain ⟨k0, k1, k2⟩ := box3' hb
          have zB := lt_of_cell k0
          go_wp2_with fail
          obtain ⟨w2, hw2⟩ : ∃ w2, wr.alloc (.cells #[.int .i64 x.a, .int .i64 x.b, .int .i64 x.c, .int .i64 x.d, .int .i64 x.e] 41) = w2 := ⟨_, rfl⟩
          rw [hw2] at hEa ha hba ⊢
          clear hw2 hE hb k0 k1 k2 q0 q1 q2 q3 q4
          have hBA : B < wr.heap.size := zB
          generalize wr.heap.size = A at ha hBA ⊢
          with_reducible refine (HPX.out _ hEa).mono ?_
          rintro e w3 ⟨rfl, hX3⟩
          have hE3 := hEa.trans hX3
          have hb3 := hX3.block hba
          have ha3 := hX3.block ha
          obtain ⟨k0, k1, k2⟩ := box3' hb3
          obtain ⟨q0, q1, q2, q3, q4⟩ := box5' ha3
          have f4 := frozen_cells ⟨_, ha3⟩ 4
          have zA := lt_of_cell q0
          have zB2 := lt_of_cell k0
          have hba3 := ((Ext.refl w3).alloc (.cells #[.int .i64 sl, .int .i64 sh] 30)).block hb3
          by_cases hse : se = 0
          · obtain ⟨o1, o2⟩ := HMK.out hse
            have e1 : IntKind.i64.wrap (x.e + n) = x.e + n := wrap_in (by omega)
            by_cases h2 : x.e + n ≤ 100000
            · obtain ⟨t1, t2, t3⟩ := HMO.out hse h2
              subst hse
              subst t1
              have hb4 := ((Ext.refl _).alloc (.cells #[.int .i64 sl, .int .i64 sh] 30)).block (set_ne (o := 4) (u := .int .i64 (x.e + n)) hb3 (show B ≠ A by omega))
              have hs4 := heap_alloc_new (w3.setCell ⟨A, 4, none⟩ (.int .i64 (x.e + n))) (.cells #[.int .i64 sl, .int .i64 sh] 30)
              rw [World.size_setCell] at hs4
              have hE4 : Ext w ((w3.setCell ⟨A, 4, none⟩ (.int .i64 (x.e + n))).alloc (.cells #[.int .i64 sl, .int .i64 sh] 30)) := (hE3.setCell (by show w.heap.size ≤ A; omega) _).alloc _
              clear HMO HMK
              go_wp2_with fail
              obtain ⟨w4, hw4⟩ : ∃ w4, (w3.setCell ⟨A, 4, none⟩ (.int .i64 (x.e + n))).alloc (.cells #[.int .i64 sl, .int .i64 sh] 30) = w4 := ⟨_, rfl⟩
              rw [hw4] at hb4 hs4 hE4 ⊢
              clear hw4 k0 k1 k2 q0 q1 q2 q3 q4 f4 hE3 hb3 ha3 hba3 hX3 ha hba
              generalize w3.heap.size = D at hs4 ⊢
              with_reducible refine (HPZ.out _ hE4).mono ?_
              rintro e w5 ⟨rfl, hX5⟩
              have hb5 := hX5.block hb4
              obtain ⟨s0, s1⟩ := box2 (hX5.block hs4)
              have zD := lt_of_cell s0
              have hb6 := ((Ext.refl w5).alloc (.cells #[.int .i64 tl, .int .i64 th] 30)).block hb5
              have hE6 := (hE4.trans hX5).alloc (.cells #[.int .i64 tl, .int .i64 th] 30)
              clear HPZ hE4 hX5 hb4 hs4 hb5
              go_wp2_with fail
              exact ⟨⟨k + 1, by omega, by go_num, hE6, hb6⟩, by simp [intOf]; omega⟩
            · have h3 : (100000 : Int) < x.e + n := by omega
              subst hse
              clear HMO HMK
              go_wp2_with fail
              exact ⟨⟨k + 1, by omega, by go_num, hE3.alloc _, hba3⟩, by simp [intOf]; omega⟩
          · have hnb : (se == 0) = false := by simpa using hse
            have hnb2 : (se != 0) = true := by simp [bne, hnb]
            clear hse HMO HMK
            go_wp2_with fail
            exact ⟨⟨k + 1, by omega, by go_num, hE3.alloc _, hba3⟩, by simp [intOf]; omega⟩
        · obtain rfl : k = l.length := by omega
          go_wp2_with fail
          with_reducible refine (sanity_any _ _ (Ext.refl _)).mono ?_
          rintro e w2 ⟨rfl, hX2⟩
          go_wp2_with fail
          go_ret
          exact ⟨rfl, hX.trans (hE.trans hX2)⟩
    · obtain ⟨k0, k1, k2⟩ := box3' hb
      go_wp2_with fail
      with_reducible refine (sanity_any _ _ (Ext.refl _)).mono ?_
      rintro e w2 ⟨rfl, hX2⟩
      go_wp2_with fail
      go_ret
      exact ⟨rfl, hX.trans (hE.trans hX2)⟩
end Go.Proofs.Ytaggjclaehigjaa
