/- Contract of Rests. -/
import Derived.Test.YtaggjclaehigjaaK4
import Derived.Deep.DeepCutAuto
namespace Go.Proofs.Ytaggjclaehigjaa
open Go.RowKit
def stepR (v all one : Int) (t : Four) : Int := if v = all ∧ (one < 0 ∨ t.i < one) then t.i else one
def foldLo (w y all : Int) (l : List Four) : Int := l.foldl (fun one t => stepR (limLo w y [t]) all one t) (if all = 9000 then 0 else -1)
def foldHi (w y all : Int) (l : List Four) : Int := l.foldl (fun one t => stepR (limHi w y [t]) all one t) (if all = 12000 then 0 else -1)
theorem foldLo_succ {w y all : Int} {l : List Four} {k : Nat} (hk : k < l.length) {t : Four} (ht : t = l[k]) : foldLo w y all (l.take (k + 1)) = stepR (limLo w y [t]) all (foldLo w y all (l.take k)) t := by
  unfold foldLo
  rw [List.take_succ_eq_append_getElem hk, List.foldl_append, ht]
  rfl
theorem foldHi_succ {w y all : Int} {l : List Four} {k : Nat} (hk : k < l.length) {t : Four} (ht : t = l[k]) : foldHi w y all (l.take (k + 1)) = stepR (limHi w y [t]) all (foldHi w y all (l.take k)) t := by
  unfold foldHi
  rw [List.take_succ_eq_append_getElem hk, List.foldl_append, ht]
  rfl
/-- what Rests returns, out of a spell's things in some order -/
def RestPost (W : World) (C P R : List Five) (id y : Int) (e : Ending) (w : World) : Prop :=
  Ext W w ∧ ((agE C P R id y ≠ 0 ∧ e = .returned (.tuple #[.int .i64 0, .int .i64 0, .int .i64 (agE C P R id y)])) ∨
    (agE C P R id y = 0 ∧ ∃ c l, Good C P R ∧ findC C id = some c ∧ (c.b ≤ y ∧ y ≤ 4000) ∧ l.Perm (innZ P R c (spellZ R c y)) ∧ e = .returned (.tuple #[.int .i64 (foldLo c.e y (limLo c.e y l) l), .int .i64 (foldHi c.e y (limHi c.e y l) l), .int .i64 0])))
theorem inv_number_g {ops : Array Oper} {rest : List Oper} {o : Oper} {a : Act} {w : World} {Q : Exit → Act → World → Prop} (hgd : Region.wanted o (yielded ops a.tmps) = true) (m : Operand) (nm : String)
    (ho : o.op = .call { callee := .invoke m nm, args := #[], argTypes := #[] }) (v : Value) (t : Th) (hm : a.eval m = v) (hv : ThAt w v t) (hn : NameOk nm 168 166 170)
    (hK : ∀ w', Ext w w' → wpList Try.prog ops Q rest (a.put o.dst (.int .i64 t.i)) w') : wpList Try.prog ops Q (o :: rest) a w := by
  unfold wpList
  rw [if_pos hgd]
  exact .inl (wp_number m nm ho v t hm hv hn fun w' hX => hK w' hX)
theorem step_of {m lo g i : Int} {b : Bool} (h : ((m == lo) && (decide (g < 0) || decide (i < g))) = b) : (if m = lo ∧ (g < 0 ∨ i < g) then i else g) = if b = true then i else g := by rw [← h]; simp
/-- a spell of one thing alone -/
theorem SpOk.alone {w : World} {s : SpE} (h : SpOk w s) {x : Elt} (hx : x ∈ s.L) {n T : Nat} (hn : n = w.heap.size) : SpOk (w.alloc (.cells #[.iface x.1 x.2.1] T)) ⟨s.lo, s.hi, s.w, some ⟨n, 0, none⟩, 1, 1, [x]⟩ := by
  refine ⟨Sl.new1 hn rfl, ?_, ?_, h.we, by simp⟩
  · intro y hy
    obtain rfl := List.mem_singleton.1 hy
    exact (h.el y hx).ext ((Ext.refl _).alloc _)
  · intro y hy
    obtain rfl := List.mem_singleton.1 hy
    exact h.ok y hx
set_option maxRecDepth 100000 in
set_option maxHeartbeats 8000000 in
theorem Rests_any (W : World) (C P R : List Five) (v : Value) (id y : Int) (w : World) (hX : Ext W w) (hv : Wk w v C P R) :
    Calls Try.prog 22 #[v, .int .i64 id, .int .i64 y] w (RestPost W C P R id y) := by
  have HAT := Lib.hid (fun w' (x : Ext w w') => agreed_any w' C P R v id y w' (Ext.refl _) (hv.ext x))
  obtain ⟨vC, vP, vR, rfl, _⟩ := hv
  have hX0 : Ext w (w.alloc (.cells #[vC, vP, vR] 26)) := (Ext.refl w).alloc _
  go_enter Try.func22, Try.ntmps22
  go_wp2_with fail
  with_reducible refine (HAT.out _ hX0).mono ?_
  rintro e w1 ⟨hX1, (⟨hn, rfl⟩ | ⟨h0, c, s, g, hf, hy, rfl, hs, hi, hcl⟩)⟩
  · have HN := Lib.hid hn
    generalize hq : agE C P R id y = n at HN ⊢
    have HQ := Lib.hid hq
    have hnb : (n == 0) = false := by simpa using HN.out
    clear hn hq
    go_wp2_with fail
    go_ret3
    exact ⟨hX.trans (hX0.trans (hX1.alloc _)), .inl ⟨by rw [HQ.out]; exact HN.out, by rw [HQ.out]; rfl⟩⟩
  · have hc := okC_parts (good_okT g hf).2.1
    obtain ⟨lo, hlo⟩ : ∃ lo, limLo s.w y s.fs = lo := ⟨_, rfl⟩
    obtain ⟨hh, hhh⟩ : ∃ lo, limHi s.w y s.fs = lo := ⟨_, rfl⟩
    have HFIN : Hid (∀ w', Ext w1 w' → RestPost W C P R id y (.returned (.tuple #[.int .i64 (foldLo s.w y lo s.fs), .int .i64 (foldHi s.w y hh s.fs), .int .i64 0])) w') := fun w' hx =>
      ⟨hX.trans (hX0.trans (hX1.trans hx)), .inr ⟨h0, c, s.fs, g, hf, hy, by rw [← hi.sp]; have := hi.fs; rw [← hi.sp] at this; exact this, by rw [← hi.we, ← hlo, ← hhh]⟩⟩
    have HLN := Lib.hid (fun w' (x : Ext w1 w') => long_any w' s y w' (Ext.refl _) (hs.ext x) (by omega) (by omega))
    have HL1 := Lib.hid (fun w' (s' : SpE) (h : SpOk w' s') => long_any w' s' y w' (Ext.refl _) h (by omega) (by omega))
    rw [hlo, hhh] at HLN
    have HS := Lib.hid hs
    obtain ⟨hsn, hsl, hcc⟩ := hs.parts
    have HCC := Lib.hid hcc
    have hln := hs.ln
    have hval : s.val = .agg #[.int .i64 s.lo, .int .i64 s.hi, .int .i64 s.w, .slice s.a s.n s.c] := rfl
    rw [hval, hsn] at HLN ⊢
    have hfl : s.fs.length = s.L.length := by simp [SpE.fs]
    clear hlo hhh h0 hf hs hi g hcl hc hval hcc hX hX0 hX1 hy
    go_upto_if 32 with (go_at_call 62; with_reducible refine (HLN.out _ ((Ext.refl _).alloc _)).mono ?_; rintro e w2 ⟨rfl, hX2⟩)
    have hb9 : BoxN (w2.alloc (.cells #[.int .i64 lo, .int .i64 hh] 30)) w1.heap.size #[.int .i64 s.lo, .int .i64 s.hi, .int .i64 s.w, .slice s.a s.L.length s.c] 88 := ((BoxN.new w1 _ _).ext hX2).ext ((Ext.refl _).alloc _)
    have hb11 := BoxN.new w2 30 #[.int .i64 lo, .int .i64 hh]
    have hE0 : Ext w1 (w2.alloc (.cells #[.int .i64 lo, .int .i64 hh] 30)) := (Ext.trans ((Ext.refl _).alloc _) hX2).alloc _
    obtain ⟨wb, hwb⟩ : ∃ wb, w2.alloc (.cells #[.int .i64 lo, .int .i64 hh] 30) = wb := ⟨_, rfl⟩
    rw [hwb] at hb9 hb11 hE0 ⊢
    clear hwb hX2
    generalize w2.heap.size = B2 at hb11 ⊢
    generalize w1.heap.size = B1 at hb9 ⊢
    have q0 := hb11.cell 0
    have q1 := hb11.cell 1
    have q9 := hb9.cell 3
    simp only [List.getElem?_toArray, List.getElem?_cons_succ, List.getElem?_cons_zero] at q0 q1 q9
    obtain ⟨o1, ho1⟩ : ∃ o : Int, (if lo = 9000 then 0 else -1) = o := ⟨_, rfl⟩
    obtain ⟨o2, ho2⟩ : ∃ o : Int, (if hh = 12000 then 0 else -1) = o := ⟨_, rfl⟩
    have HO1 := Lib.hid ho1
    have HO2 := Lib.hid ho2
    clear ho1 ho2
    go_cut [12] (fun v wx => v = .int .i64 o1 ∧ wx = wb)
    case first =>
      cases e1 : (lo == 9000)
      all_goals
        go_wp2_with fail
        go_meet
        case rel => exact ⟨by have := HO1.out; simp at e1; simp [← this, e1], rfl⟩
    case rest =>
      obtain ⟨rfl, hq⟩ := hcut; have hq2 := hq.symm; clear hq; subst hq2
      go_upto_if 35 with fail
      go_cut [13] (fun v wx => v = .int .i64 o2 ∧ wx = wb)
      case first =>
        cases e1 : (hh == 12000)
        all_goals
          go_wp2_with fail
          go_meet
          case rel => exact ⟨by have := HO2.out; simp at e1; simp [← this, e1], rfl⟩
      case rest =>
        obtain ⟨rfl, hq⟩ := hcut; have hq2 := hq.symm; clear hq; subst hq2
        have p0 := hb9.cell 0
        have p1 := hb9.cell 1
        have p2 := hb9.cell 2
        simp only [List.getElem?_toArray, List.getElem?_cons_succ, List.getElem?_cons_zero] at p0 p1 p2
        have P := Lib.hid (And.intro p0 (And.intro p1 (And.intro p2 (And.intro q9 (And.intro q0 q1)))))
        go_wp2_with fail
        go_loopw [12, 13, 39] (fun u v i wr => ∃ k : Nat, k ≤ s.L.length ∧ i = .int .i64 k ∧ u = .int .i64 (foldLo s.w y lo (s.fs.take k)) ∧ v = .int .i64 (foldHi s.w y hh (s.fs.take k)) ∧ Ext wb wr) (fun _ _ i _ => s.L.length - (intOf i).toNat)
        case atStart => exact ⟨0, Nat.zero_le _, rfl, by rw [← HO1.out]; rfl, by rw [← HO2.out]; rfl, Ext.refl _⟩
        case round =>
          obtain ⟨k, hk, rfl, rfl, rfl, hE⟩ := hrel
          by_cases hlt : k < s.L.length
          · obtain ⟨b, off, ha, hcl⟩ := HCC.out.resolve_left (fun e => by rw [e] at hlt; simp at hlt)
            obtain ⟨x, hx⟩ : ∃ x, x = s.L[k] := ⟨_, rfl⟩
            have hxm : x ∈ s.L := by rw [hx]; exact List.getElem_mem hlt
            have cx : wr.cell? ⟨b, off + k, none⟩ = some (.iface x.1 x.2.1) := by rw [hx]; exact (hE0.trans hE).cell (hcl k hlt)
            have hAx : ThAt wr (.iface x.1 x.2.1) x.2.2 := (HS.out.el x hxm).ext (hE0.trans hE)
            have hok := (HS.out.ok x hxm).1.1
            have HN1 := Lib.hid (foldLo_succ (w := s.w) (y := y) (all := lo) (l := s.fs) (k := k) (by omega) (t := x.2.2.f) (by simp [SpE.fs, hx]))
            have HN2 := Lib.hid (foldHi_succ (w := s.w) (y := y) (all := hh) (l := s.fs) (k := k) (by omega) (t := x.2.2.f) (by simp [SpE.fs, hx]))
            have HC1 : Hid (∀ T, Calls Try.prog 62 #[.agg #[.int .i64 s.lo, .int .i64 s.hi, .int .i64 s.w, .slice (some ⟨wr.heap.size, 0, none⟩) 1 1], .int .i64 y] (wr.alloc (.cells #[.iface x.1 x.2.1] T)) fun e w' => e = .returned (.agg #[.int .i64 (limLo s.w y [x.2.2.f]), .int .i64 (limHi s.w y [x.2.2.f])]) ∧ Ext (wr.alloc (.cells #[.iface x.1 x.2.1] T)) w') := fun T => HL1.out _ _ ((HS.out.ext (hE0.trans hE)).alone (T := T) hxm rfl)
            obtain ⟨c0, c1, c2, c3, d0, d1⟩ := P.out
            have r0 := hE.cell c0
            have r1 := hE.cell c1
            have r2 := hE.cell c2
            have r3 := hE.cell c3
            have s0 := hE.cell d0
            have s1 := hE.cell d1
            have HAX := Lib.hid hAx
            have hEle := hE.le
            have z1 := lt_of_cell r0
            have z2 := lt_of_cell s0
            have hsa : s.a = some ⟨b, off, none⟩ := ha
            rw [hsa]
            rw [hsa] at r3
            generalize foldLo s.w y lo (s.fs.take k) = g1 at HN1 ⊢
            generalize foldHi s.w y hh (s.fs.take k) = g2 at HN2 ⊢
            generalize limLo s.w y [x.2.2.f] = m1 at HN1 HC1
            generalize limHi s.w y [x.2.2.f] = m2 at HN2 HC1
            have hfi : x.2.2.f.i = x.2.2.i := rfl
            unfold stepR at HN1 HN2
            rw [hfi] at HN1 HN2
            generalize x.2.2 = t at HN1 HN2 HAX hok
            clear hx hcl hAx hxm c0 c1 c2 c3 d0 d1 p0 p1 p2 q0 q1 q9 hfi hsa ha hok
            go_upto_region 14 with (go_at_call 62; with_reducible refine (HC1.out _).mono ?_; rintro e w3 ⟨rfl, hXc⟩; have hXc := Ext.trans ((Ext.refl _).alloc _) hXc; have t0 := hXc.cell s0; have t1 := hXc.cell s1; have z3 := lt_of_cell t0)
            have x1 := hXc.alloc (.cells #[.int .i64 m1, .int .i64 m2] 30)
            have x2 := ((Ext.refl w3).alloc (.cells #[.int .i64 m1, .int .i64 m2] 30)).cell t0
            have x3 := ((Ext.refl w3).alloc (.cells #[.int .i64 m1, .int .i64 m2] 30)).cell t1
            have x4 := cell_new w3 [.int .i64 m1, .int .i64 m2] 30 0
            have x5 := cell_new w3 [.int .i64 m1, .int .i64 m2] 30 1
            simp only [List.getElem?_cons_succ, List.getElem?_cons_zero] at x4 x5
            obtain ⟨wq, hwq⟩ : ∃ wq, w3.alloc (.cells #[.int .i64 m1, .int .i64 m2] 30) = wq := ⟨_, rfl⟩
            rw [hwq] at x1 x2 x3 x4 x5 ⊢
            clear hwq t0 t1 z3 hXc s0 s1 r0 r1 r2 r3 cx
            generalize w3.heap.size = N3 at x4 x5 ⊢
            obtain ⟨b1, hb1⟩ : ∃ b, ((m1 == lo) && (decide (g1 < 0) || decide (t.i < g1))) = b := ⟨_, rfl⟩
            obtain ⟨b2, hb2⟩ : ∃ b, ((m2 == hh) && (decide (g2 < 0) || decide (t.i < g2))) = b := ⟨_, rfl⟩
            have HB1 := Lib.hid hb1
            have HB2 := Lib.hid hb2
            clear hb1 hb2
            go_cut [66] (fun v wx => v = .bool b1 ∧ Ext wr wx ∧ wx.cell? ⟨B2, 0, none⟩ = some (.int .i64 lo) ∧ wx.cell? ⟨B2, 1, none⟩ = some (.int .i64 hh) ∧ wx.cell? ⟨N3, 0, none⟩ = some (.int .i64 m1) ∧ wx.cell? ⟨N3, 1, none⟩ = some (.int .i64 m2))
            case first =>
              cases a1 : (m1 == lo)
              · go_wp2_with fail
                go_meet
                case rel => exact ⟨by rw [← HB1.out, a1]; rfl, x1, x2, x3, x4, x5⟩
              · cases a2 : decide (g1 < 0)
                · cases a3 : decide (t.i < g1)
                  all_goals
                    go_wp2_with (refine inv_number_g (by rfl) (.tmp 61) _ rfl _ _ rfl (HAX.out.ext x1) ⟨fun _ _ _ => by kernel_rfl, fun _ _ _ => by kernel_rfl, fun _ _ _ => by kernel_rfl⟩ ?_; intro w4 hX4; have x1 := x1.trans hX4; have x2 := hX4.cell x2; have x3 := hX4.cell x3; have x4 := hX4.cell x4; have x5 := hX4.cell x5)
                    go_meet
                    case rel => exact ⟨by rw [← HB1.out, a1, a2, a3]; rfl, x1, x2, x3, x4, x5⟩
                · go_wp2_with fail
                  go_meet
                  case rel => exact ⟨by rw [← HB1.out, a1, a2]; rfl, x1, x2, x3, x4, x5⟩
            case rest =>
              obtain ⟨rfl, x1, x2, x3, x4, x5⟩ := hcut
              go_upto_if 66 with fail
              go_cut [12] (fun v wx => v = .int .i64 (if b1 = true then t.i else g1) ∧ Ext wr wx ∧ wx.cell? ⟨B2, 0, none⟩ = some (.int .i64 lo) ∧ wx.cell? ⟨B2, 1, none⟩ = some (.int .i64 hh) ∧ wx.cell? ⟨N3, 0, none⟩ = some (.int .i64 m1) ∧ wx.cell? ⟨N3, 1, none⟩ = some (.int .i64 m2))
              case first =>
                cases b1
                · go_wp2_with fail
                  go_meet
                  case rel => exact ⟨rfl, x1, x2, x3, x4, x5⟩
                · go_wp2_with (refine inv_number rfl (.tmp 67) _ rfl _ _ rfl (HAX.out.ext x1) ⟨fun _ _ _ => by kernel_rfl, fun _ _ _ => by kernel_rfl, fun _ _ _ => by kernel_rfl⟩ ?_; intro w4 hX4; have x1 := x1.trans hX4; have x2 := hX4.cell x2; have x3 := hX4.cell x3; have x4 := hX4.cell x4; have x5 := hX4.cell x5)
                  go_meet
                  case rel => exact ⟨rfl, x1, x2, x3, x4, x5⟩
              case rest =>
                obtain ⟨rfl, x1, x2, x3, x4, x5⟩ := hcut
                generalize hy1 : (if b1 = true then t.i else g1) = y1
                have HY1 := Lib.hid hy1
                clear hy1
                go_upto_region 16 with fail
                go_cut [83] (fun v wx => v = .bool b2 ∧ Ext wr wx ∧ wx.cell? ⟨B2, 0, none⟩ = some (.int .i64 lo) ∧ wx.cell? ⟨B2, 1, none⟩ = some (.int .i64 hh) ∧ wx.cell? ⟨N3, 0, none⟩ = some (.int .i64 m1) ∧ wx.cell? ⟨N3, 1, none⟩ = some (.int .i64 m2))
                case first =>
                  cases a1 : (m2 == hh)
                  · go_wp2_with fail
                    go_meet
                    case rel => exact ⟨by rw [← HB2.out, a1]; rfl, x1, x2, x3, x4, x5⟩
                  · cases a2 : decide (g2 < 0)
                    · cases a3 : decide (t.i < g2)
                      all_goals
                        go_wp2_with (refine inv_number_g (by rfl) (.tmp 78) _ rfl _ _ rfl (HAX.out.ext x1) ⟨fun _ _ _ => by kernel_rfl, fun _ _ _ => by kernel_rfl, fun _ _ _ => by kernel_rfl⟩ ?_; intro w4 hX4; have x1 := x1.trans hX4; have x2 := hX4.cell x2; have x3 := hX4.cell x3; have x4 := hX4.cell x4; have x5 := hX4.cell x5)
                        go_meet
                        case rel => exact ⟨by rw [← HB2.out, a1, a2, a3]; rfl, x1, x2, x3, x4, x5⟩
                    · go_wp2_with fail
                      go_meet
                      case rel => exact ⟨by rw [← HB2.out, a1, a2]; rfl, x1, x2, x3, x4, x5⟩
                case rest =>
                  obtain ⟨rfl, x1, x2, x3, x4, x5⟩ := hcut
                  cases b2
                  · go_wp2_with fail
                    go_roundw
                    case rel => exact ⟨k + 1, by omega, by go_num, by rw [HN1.out, ← HY1.out, ← HB1.out]; simp, by rw [HN2.out, step_of HB2.out]; simp, hE.trans x1⟩
                    case measure => simp [intOf]; omega
                  · go_wp2_with (refine inv_number rfl (.tmp 84) _ rfl _ _ rfl (HAX.out.ext x1) ⟨fun _ _ _ => by kernel_rfl, fun _ _ _ => by kernel_rfl, fun _ _ _ => by kernel_rfl⟩ ?_; intro w4 hX4; have x1 := x1.trans hX4; have x2 := hX4.cell x2; have x3 := hX4.cell x3; have x4 := hX4.cell x4; have x5 := hX4.cell x5)
                    go_roundw
                    case rel => exact ⟨k + 1, by omega, by go_num, by rw [HN1.out, ← HY1.out, ← HB1.out]; simp, by rw [HN2.out, step_of HB2.out]; simp, hE.trans x1⟩
                    case measure => simp [intOf]; omega
          · obtain rfl : k = s.L.length := by omega
            rw [List.take_of_length_le (by omega)] at *
            go_wp2_with fail
            go_ret3
            exact HFIN.out _ (hE0.trans hE)
end Go.Proofs.Ytaggjclaehigjaa
