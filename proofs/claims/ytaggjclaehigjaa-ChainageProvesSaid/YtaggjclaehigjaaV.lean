/- Contract of spells: its things, and their sorting. -/
import Derived.Test.YtaggjclaehigjaaV2
import Derived.Deep.DeepCutAuto
namespace Go.Proofs.Ytaggjclaehigjaa
open Go.RowKit
theorem At5_box {w w' : World} (T : Nat) (x : Five) (h : Ext (w.alloc (.cells #[.int .i64 x.a, .int .i64 x.b, .int .i64 x.c, .int .i64 x.d, .int .i64 x.e] T)) w') : At5 w' w.heap.size 0 x := (At5_new w T x).ext h
theorem five_at' {w wr : World} {a : Option Addr} {l : List Five} {k : Nat} (hc : l = [] ∨ ∃ b off, a = some ⟨b, off, none⟩ ∧ ∀ i, (h : i < l.length) → At5 w b (off + i * 5) l[i]) (hE : Ext w wr) (hk : k < l.length) :
    ∃ b off x, x = l[k] ∧ a = some ⟨b, off, none⟩ ∧ At5 wr b (off + k * 5) x := by
  obtain ⟨b, off, ha, h⟩ := hc.resolve_left (fun e => by simp [e] at hk)
  exact ⟨b, off, l[k], rfl, ha, (h k hk).ext hE⟩
set_option maxRecDepth 100000 in
set_option maxHeartbeats 4000000 in
theorem spells_any (W : World) (C P R : List Five) (c : Five) (v : Value) (w : World) (hX : Ext W w) (hv : Wk w v C P R) (hl : P.length + R.length ≤ 1000) (hF : ∀ ts : List Th, ts.Perm (thAll P R c) → SortedT ts → ∃ t r, ts = t :: r ∧ begB t = true) (hY : ∀ t ∈ thAll P R c, 0 ≤ t.y ∧ t.y ≤ 4000) :
    Calls Try.prog 64 #[v, v5 c] w (SpellsPost W P R c) := by
  obtain ⟨vC, vP, vR, rfl, hC, hP, hR, hn⟩ := hv
  obtain ⟨aP, capP, rfl, hlP, hmP, hcP⟩ := hP.parts
  obtain ⟨aR, capR, rfl, hlR, hmR, hcR⟩ := hR.parts
  have HcP := Lib.hid hcP
  have HcR := Lib.hid hcR
  clear hcP hcR hC hP hR hmP hmR hn
  go_enter Try.func64, Try.ntmps64
  go_wp2_with fail
  have hX0 : Ext w ((w.alloc (.cells #[vC, .slice aP P.length capP, .slice aR R.length capR] 26)).alloc (.cells #[.int .i64 c.a, .int .i64 c.b, .int .i64 c.c, .int .i64 c.d, .int .i64 c.e] 53)) := ((Ext.refl w).alloc _).alloc _
  have hb1 : ((w.alloc (.cells #[vC, .slice aP P.length capP, .slice aR R.length capR] 26)).alloc (.cells #[.int .i64 c.a, .int .i64 c.b, .int .i64 c.c, .int .i64 c.d, .int .i64 c.e] 53)).cell? ⟨w.heap.size, 1, none⟩ = some (.slice aP P.length capP) := ((Ext.refl _).alloc _).cell (cell_new w [_, _, _] _ 1)
  have hb2 : ((w.alloc (.cells #[vC, .slice aP P.length capP, .slice aR R.length capR] 26)).alloc (.cells #[.int .i64 c.a, .int .i64 c.b, .int .i64 c.c, .int .i64 c.d, .int .i64 c.e] 53)).cell? ⟨w.heap.size, 2, none⟩ = some (.slice aR R.length capR) := ((Ext.refl _).alloc _).cell (cell_new w [_, _, _] _ 2)
  have hb5 := At5_new (w.alloc (.cells #[vC, .slice aP P.length capP, .slice aR R.length capR] 26)) 53 c
  have hsz : ((w.alloc (.cells #[vC, .slice aP P.length capP, .slice aR R.length capR] 26)).alloc (.cells #[.int .i64 c.a, .int .i64 c.b, .int .i64 c.c, .int .i64 c.d, .int .i64 c.e] 53)).heap.size = w.heap.size + 2 := by simp
  obtain ⟨wa, hwa⟩ : ∃ wa, (w.alloc (.cells #[vC, .slice aP P.length capP, .slice aR R.length capR] 26)).alloc (.cells #[.int .i64 c.a, .int .i64 c.b, .int .i64 c.c, .int .i64 c.d, .int .i64 c.e] 53) = wa := ⟨_, rfl⟩
  rw [hwa] at hX0 hb1 hb2 hb5 hsz ⊢
  clear hwa
  rw [World.size_alloc] at hb5
  have hO0 : Own 114 1 encE wa.heap.size ((wa.alloc (.cells #[.int .i64 c.a, .int .i64 c.b, .int .i64 c.c, .int .i64 c.d, .int .i64 c.e] 155)).alloc (.cells #[.iface 153 (.pointer (some ⟨w.heap.size + 1 + 1, 0, none⟩))] 114)) (.slice (some ⟨w.heap.size + 1 + 1 + 1, 0, none⟩) 1 1) [(153, .pointer (some ⟨w.heap.size + 1 + 1, 0, none⟩), mkT c)] :=
    Own.new encE_len rfl (by rw [World.size_alloc, hsz]) rfl (by rw [World.size_alloc]; omega) (by simp)
  have hA0 : EltAt ((wa.alloc (.cells #[.int .i64 c.a, .int .i64 c.b, .int .i64 c.c, .int .i64 c.d, .int .i64 c.e] 155)).alloc (.cells #[.iface 153 (.pointer (some ⟨w.heap.size + 1 + 1, 0, none⟩))] 114)) (153, .pointer (some ⟨w.heap.size + 1 + 1, 0, none⟩), mkT c) :=
    .inl ⟨_, c, rfl, by rw [show w.heap.size + 1 + 1 = wa.heap.size from by omega]; exact (At5_new wa _ c).ext ((Ext.refl _).alloc _), rfl⟩
  have hE0 : Ext wa ((wa.alloc (.cells #[.int .i64 c.a, .int .i64 c.b, .int .i64 c.c, .int .i64 c.d, .int .i64 c.e] 155)).alloc (.cells #[.iface 153 (.pointer (some ⟨w.heap.size + 1 + 1, 0, none⟩))] 114)) := ((Ext.refl _).alloc _).alloc _
  generalize w.heap.size = B at hb1 hb2 hb5 hsz hO0 hA0 hE0 ⊢
  go_loopw [5, 23] (fun u i wr => ∃ (k : Nat) (L : List Elt), k ≤ P.length ∧ i = .int .i64 k ∧ L.length ≤ 1 + k ∧ Own 114 1 encE wa.heap.size wr u L ∧ (∀ x ∈ L, EltAt wr x) ∧ Hid (L.map (·.2.2) = mkT c :: thP P c k) ∧ Ext wa wr) (fun _ i _ => P.length - (intOf i).toNat)
  case atStart => exact ⟨0, _, Nat.zero_le _, rfl, by simp, hO0, by simpa using hA0, by simp [Hid, thP], hE0⟩
  case round =>
    clear hO0 hA0 hE0
    obtain ⟨k, L, hk, rfl, hLk, hO, hA, HL, hE⟩ := hrel
    have HA := Lib.hid hA
    clear hA
    by_cases hlt : k < P.length
    · obtain ⟨b, off, x, hx, rfl, c0, c1, c2, c3, c4⟩ := five_at' HcP.out (hX0.trans hE) hlt
      have HX := Lib.hid hx
      clear hx
      have d5 := (hb5.ext hE).1
      have z5 := lt_of_cell d5
      by_cases he : x.b = c.a
      · have hLne : L ≠ [] := by intro e; have := HL.out; rw [e] at this; cases this
        have heb : (x.b == c.a) = true := by simpa using he
        have HE := Lib.hid he
        clear he
        go_wp2_with (at_builtin; refine app_many 86 114 1 16 .nilIface encE encE_len encE_one Try.underlying86 infoT rfl (by decide) (by decide) rfl (.tmp 32) (.tmp 36) rfl wa.heap.size _ L rfl (hO.ext (((Ext.refl _).alloc _).alloc _)) _ [(144, v5 x, prT x)] rfl (Sl.new1 (by simp) rfl) (by simp; omega) (by simp; exact Nat.le_trans hE.le (by omega)) ?_; intro v2 w2 hO2 hg2 hE2 hb2')
        go_roundw
        case rel =>
          refine ⟨k + 1, L ++ [(144, v5 x, prT x)], by omega, by go_num, by simp; omega, hO2, ?_, by show _ = _; rw [thP_yes hlt HX.out HE.out, List.map_append, HL.out]; rfl, hE2 _ (Nat.le_refl _) ((hE.alloc _).alloc _)⟩
          intro y hy
          rcases List.mem_append.1 hy with hy | hy
          · exact elts_grown (hO.ext (((Ext.refl _).alloc _).alloc _)) hLne hg2 (fun x hx => (HA.out x hx).ext (((Ext.refl _).alloc _).alloc _)) y hy
          · obtain rfl := List.mem_singleton.1 hy
            exact .inr (.inl ⟨x, rfl, rfl⟩)
        case measure => simp [intOf]; omega
      · go_wp2_with fail
        go_roundw
        case rel => exact ⟨k + 1, L, by omega, by go_num, by omega, hO.ext ((Ext.refl _).alloc _), fun x hx => (HA.out x hx).ext ((Ext.refl _).alloc _), by show _ = _; rw [thP_no hlt HX.out he]; exact HL.out, hE.alloc _⟩
        case measure => simp [intOf]; omega
    · obtain rfl : k = P.length := by omega
      have d2 := hE.cell hb2
      go_wp2_with fail
      clear d2
      have H0 : Hid (L.map (·.2.2) = (mkT c :: thP P c P.length) ++ thR R c 0) := by show _ = _; rw [HL.out]; simp [thR]
      clear HL
      go_loopw [5, 42] (fun u i wr => ∃ (k : Nat) (L : List Elt), k ≤ R.length ∧ i = .int .i64 k ∧ L.length ≤ 1 + P.length + k ∧ Own 114 1 encE wa.heap.size wr u L ∧ (∀ x ∈ L, EltAt wr x) ∧ Hid (L.map (·.2.2) = (mkT c :: thP P c P.length) ++ thR R c k) ∧ Ext wa wr) (fun _ i _ => R.length - (intOf i).toNat)
      case atStart => exact ⟨0, L, Nat.zero_le _, rfl, by omega, hO, HA.out, H0, hE⟩
      case round =>
        clear hO HA H0 hE hLk hk
        obtain ⟨k, L, hk, rfl, hLk, hO, hA, HL, hE⟩ := hrel
        have HA := Lib.hid hA
        clear hA
        by_cases hlt : k < R.length
        · obtain ⟨b, off, x, hx, rfl, c0, c1, c2, c3, c4⟩ := five_at' HcR.out (hX0.trans hE) hlt
          have HX := Lib.hid hx
          clear hx
          have d5 := (hb5.ext hE).1
          have z5 := lt_of_cell d5
          by_cases he : x.b = c.a
          · have hLne : L ≠ [] := by intro e; have := HL.out; rw [e] at this; cases this
            have heb : (x.b == c.a) = true := by simpa using he
            have HE := Lib.hid he
            clear he
            go_wp2_with (at_builtin; refine app_many 86 114 1 16 .nilIface encE encE_len encE_one Try.underlying86 infoT rfl (by decide) (by decide) rfl (.tmp 51) (.tmp 56) rfl wa.heap.size _ L rfl (hO.ext ((((Ext.refl _).alloc _).alloc _).alloc _)) _ [(156, .pointer (some ⟨wr.heap.size + 1, 0, none⟩), reT x)] rfl (Sl.new1 (by simp) rfl) (by simp; omega) (by simp; exact Nat.le_trans hE.le (by omega)) ?_; intro v2 w2 hO2 hg2 hE2 hb2')
            go_roundw
            case rel =>
              refine ⟨k + 1, L ++ [(156, .pointer (some ⟨wr.heap.size + 1, 0, none⟩), reT x)], by omega, by go_num, by simp; omega, hO2, ?_, by show _ = _; rw [thR_yes hlt HX.out HE.out, List.map_append, HL.out]; simp, hE2 _ (Nat.le_refl _) (((hE.alloc _).alloc _).alloc _)⟩
              refine elts_grown (hO.ext ((((Ext.refl _).alloc _).alloc _).alloc _)) hLne hg2 (M := L ++ [_]) ?_
              intro y hy
              rcases List.mem_append.1 hy with hy | hy
              · exact (HA.out y hy).ext ((((Ext.refl _).alloc _).alloc _).alloc _)
              · obtain rfl := List.mem_singleton.1 hy
                refine .inr (.inr ⟨_, x, rfl, ?_, rfl⟩)
                have := At5_new (wr.alloc (.cells #[.int .i64 x.a, .int .i64 x.b, .int .i64 x.c, .int .i64 x.d, .int .i64 x.e] 85)) 158 x
                rw [World.size_alloc] at this
                exact this.ext ((Ext.refl _).alloc _)
            case measure => simp [intOf]; omega
          · go_wp2_with fail
            go_roundw
            case rel => exact ⟨k + 1, L, by omega, by go_num, by omega, hO.ext ((Ext.refl _).alloc _), fun x hx => (HA.out x hx).ext ((Ext.refl _).alloc _), by show _ = _; rw [thR_no hlt HX.out he]; exact HL.out, hE.alloc _⟩
            case measure => simp [intOf]; omega
        · obtain rfl : k = R.length := by omega
          have HLA : Hid (L.map (·.2.2) = thAll P R c) := HL
          have hLne : L ≠ [] := by intro e; have := HLA.out; rw [e] at this; cases this
          go_wp2_with fail
          with_reducible refine (sortThings_any _ _ _ L hO hLne HA.out (by omega)).mono ?_
          rintro e w2 ⟨rfl, L2, hS2, hA2, hp2, hs2, hE2⟩
          have hW2 := hE2 _ (Nat.le_refl _) hE
          have hn2 := Lib.hid hp2.length_eq
          have hL2 : L2.length ≤ 1001 := by rw [hn2.out]; omega
          have hF2 := Lib.hid (hF (L2.map (·.2.2)) (by rw [← HLA.out]; exact hp2.map _) hs2)
          have HP2 := Lib.hid hp2
          have HS2 := Lib.hid hs2
          have HA2 := Lib.hid hA2
          clear hp2 hs2 hA2 hF hO HL HA hE hE2 hLne
          obtain ⟨f0, f1, f2, f3, f4⟩ := hb5.ext hW2
          obtain ⟨aL, capL, rfl, hlL, hmL, hcL⟩ := hS2
          have HCL := Lib.hid hcL
          clear hcL hmL
          go_wp2_with fail
          clear f0 f1 f2 f3
          have zB := lt_of_cell f4
          simp only at zB
          go_loopw [10, 63] (fun v i wr => ∃ k : Nat, k ≤ L2.length ∧ i = .int .i64 k ∧ Ext w2 wr ∧ LoopS w2.heap.size c.e L2 k v wr) (fun _ i _ => L2.length - (intOf i).toNat)
          case atStart => exact ⟨0, Nat.zero_le _, rfl, Ext.refl _, .inl ⟨rfl, rfl⟩⟩
          case round =>
            obtain ⟨k, hk, rfl, hE, HL⟩ := hrel
            by_cases hlt : k < L2.length
            · obtain ⟨x, hx⟩ : ∃ x, x = L2[k] := ⟨_, rfl⟩
              obtain ⟨bL, offL, rfl, hcl⟩ := HCL.out.resolve_left (fun e => by simp [e] at hlt)
              have cx : wr.cell? ⟨bL, offL + k, none⟩ = some (.iface x.1 x.2.1) := hE.cell (by have := hcl k hlt 0 _ rfl; rw [← hx] at this; simpa using this)
              have hAx : ThAt wr (.iface x.1 x.2.1) x.2.2 := by rw [hx]; exact (HA2.out _ (List.getElem_mem hlt)).ext hE
              have HAX := Lib.hid hAx
              have HAX2 : Hid (ThAt w2 (.iface x.1 x.2.1) x.2.2) := by show ThAt _ _ _; rw [hx]; exact HA2.out _ (List.getElem_mem hlt)
              have HX := Lib.hid hx
              have d4 := hE.cell f4
              have hy := hY x.2.2 (by rw [← HLA.out]; exact List.mem_map_of_mem (HP2.out.mem_iff.1 (by rw [hx]; exact List.getElem_mem hlt)))
              obtain ⟨hy1, hy2⟩ := hy
              clear hx hcl hAx
              go_upto_if 68 with (go_at_call 98; with_reducible refine (begins_any _ _ x.2.2 HAX.out).mono ?_; rintro e w' ⟨rfl, rfl⟩)
              go_cut [10] (fun v wx => Ext w2 wx ∧ CutS w2.heap.size c.e L2 k x.2.2 v wx)
              case first =>
                cases hb : begB x.2.2
                · have h0 : 0 < k := by
                    rcases Nat.eq_zero_or_pos k with h0 | h0
                    · exfalso
                      subst h0
                      obtain ⟨t, r, he, hbt⟩ := hF2.out
                      have : (L2.map (·.2.2))[0]'(by simpa using hlt) = t := by simp [he]
                      rw [List.getElem_map, ← HX.out] at this
                      rw [this, hbt] at hb
                      cases hb
                    · exact h0
                  have HC := loopS_not HL hlt HX.out h0 hb
                  clear HL
                  go_wp2_with fail
                  go_meet
                  case rel => exact ⟨hE, HC⟩
                · rcases HL with ⟨rfl, rfl⟩ | ⟨hk0, I, cur, hO, hM, hI, hcu, hsp⟩
                  · have HNew : Hid (∀ v' w', Own 88 4 encS w2.heap.size w' v' ([] ++ [(⟨x.2.2.y, 4000, c.e, none, 0, 0, []⟩ : SpE)]) → CutS w2.heap.size c.e L2 0 x.2.2 v' w') := fun v' w' ho => cutS_first hlt HX.out (OutAt.first ⟨rfl, rfl, rfl, rfl⟩ (by simpa using ho))
                    go_wp2_with fail
                    go_region_held3 (fun w' => Ext w2 w' ∧ w'.cell? ⟨B + 1, 4, none⟩ = some (.int .i64 c.e)) (first | assumption | exact ⟨hE, d4⟩ | (refine ⟨?_, Ext.cell ?_ f4⟩ <;> (repeat (first | assumption | exact And.left (by assumption) | refine Ext.alloc ?_ _ | refine Ext.drew ?_))))
                      ((first | (go_at_call 101; with_reducible refine (year_any _ _ x.2.2 (HAX2.out.ext (by repeat (first | assumption | exact And.left (by assumption) | exact Ext.refl _ | refine Ext.alloc ?_ _ | refine Ext.drew ?_)))).mono ?_; rintro e w5 ⟨rfl, hX5⟩; have hX6 := Ext.trans (a := w2) (by repeat (first | assumption | exact And.left (by assumption) | exact Ext.refl _ | refine Ext.alloc ?_ _ | refine Ext.drew ?_)) hX5) | (refine step_app 116 88 4 48 _ encS encS_len encS_one Try.underlying116 infoS rfl (by decide) (by decide) (by rfl) (.tmp 82) (.tmp 89) (by rfl) w2.heap.size (.slice none 0 0) ([] : List SpE) (by rfl) (Own.nil _ _ _ _ _) _ [(⟨x.2.2.y, 4000, c.e, none, 0, 0, []⟩ : SpE)] (by rfl) (Sl.new1 (by simp) rfl) (by simp) (Ext.le (by repeat (first | assumption | exact And.left (by assumption) | exact Ext.refl _ | refine Ext.alloc ?_ _ | refine Ext.drew ?_))) ?_; intro v6 w6 ho6 hg6 hE6 hb6; have hX7 := hE6 w2 (Nat.le_refl _) (by repeat (first | assumption | exact And.left (by assumption) | exact Ext.refl _ | refine Ext.alloc ?_ _ | refine Ext.drew ?_)))))
                    go_wp2_with fail
                    go_meet
                    case rel => exact ⟨hX7, HNew.out _ _ ho6⟩
                  · obtain ⟨R0, cap0, rfl, hR0, hle0, hm0, hcs0, q0, q1, q2, q3⟩ := hO.form
                    have hIz : I.length + 1 ≤ 1001 := by omega
                    have fr0 := frozen_cells hcs0 (I.length * 4 + 1)
                    have zR0 := lt_of_cell q1
                    have hIm : (I.length : Int) < (I.length : Int) + 1 := by omega
                    have HO := Lib.hid hO
                    have HCS := Lib.hid hcs0
                    have HSP := Lib.hid hsp
                    have HM := Lib.hid hM
                    clear hO hsp q0 q2 q3 hcs0 hM
                    go_wp2_with (go_at_call 101; with_reducible refine (year_any _ _ x.2.2 HAX.out).mono ?_; rintro e w5 ⟨rfl, hX5⟩; have q5 := hX5.cell q1; have fr5 := hX5.frozen zR0 fr0)
                    have hX2 : Ext w2 w5 := hE.trans hX5
                    have hOz := (HO.out.ext hX5).setHi (by obtain ⟨cs, h⟩ := HCS.out; exact ⟨cs, hX5.block h⟩) (x.2.2.y - 1)
                    have hEz : Ext w2 (w5.setCell ⟨R0, I.length * 4 + 1, none⟩ (.int .i64 (x.2.2.y - 1))) := hX2.setCell hR0 _
                    obtain ⟨wz, hwz⟩ : ∃ wz, w5.setCell ⟨R0, I.length * 4 + 1, none⟩ (.int .i64 (x.2.2.y - 1)) = wz := ⟨_, rfl⟩
                    rw [hwz] at hOz hEz ⊢
                    clear hwz q5 fr5 hX2 hX5 HO HCS q1 fr0 zR0
                    have dz := hEz.cell f4
                    have HNew : Hid (∀ wq v' w', Ext wz wq → Own 88 4 encS w2.heap.size w' v' ((I ++ [{ cur with hi := x.2.2.y - 1 }]) ++ [(⟨x.2.2.y, 4000, c.e, none, 0, 0, []⟩ : SpE)]) → wq.grownBy w' (Value.slice (some ⟨R0, 0, none⟩) (I.length + 1) cap0).ownBlock → CutS w2.heap.size c.e L2 k x.2.2 v' w') :=
                      fun wq v' w' hq ho hg => cutS_push hlt HX.out hb ((hOz.ext hq).push ⟨rfl, rfl, rfl, rfl⟩ ho hg) HM.out hI HSP.out
                    have HOz := hOz.out
                    clear hOz hb
                    go_region_held3 (fun w' => Ext w2 w' ∧ w'.cell? ⟨B + 1, 4, none⟩ = some (.int .i64 c.e)) (first | assumption | exact ⟨hEz, dz⟩ | (refine ⟨?_, Ext.cell ?_ f4⟩ <;> (repeat (first | assumption | exact And.left (by assumption) | refine Ext.alloc ?_ _ | refine Ext.drew ?_))))
                      ((first | (go_at_call 101; with_reducible refine (year_any _ _ x.2.2 (HAX2.out.ext (by repeat (first | assumption | exact And.left (by assumption) | exact Ext.refl _ | refine Ext.alloc ?_ _ | refine Ext.drew ?_)))).mono ?_; rintro e w5 ⟨rfl, hX5⟩; have hX6 := Ext.trans (a := w2) (by repeat (first | assumption | exact And.left (by assumption) | exact Ext.refl _ | refine Ext.alloc ?_ _ | refine Ext.drew ?_)) hX5; have hX9 := Ext.trans (a := wz) (by repeat (first | assumption | exact Ext.refl _ | refine Ext.alloc ?_ _ | refine Ext.drew ?_)) hX5) | (refine step_app 116 88 4 48 _ encS encS_len encS_one Try.underlying116 infoS rfl (by decide) (by decide) (by rfl) (.tmp 82) (.tmp 89) (by rfl) w2.heap.size (.slice (some ⟨R0, 0, none⟩) (I.length + 1) cap0) (I ++ [{ cur with hi := x.2.2.y - 1 }]) (by rfl) (HOz.ext (by repeat (first | assumption | exact Ext.refl _ | refine Ext.alloc ?_ _ | refine Ext.drew ?_))) _ [(⟨x.2.2.y, 4000, c.e, none, 0, 0, []⟩ : SpE)] (by rfl) (Sl.new1 (by simp) rfl) (by simp; omega) (Ext.le (by repeat (first | assumption | exact And.left (by assumption) | exact Ext.refl _ | refine Ext.alloc ?_ _ | refine Ext.drew ?_))) ?_; intro v6 w6 ho6 hg6 hE6 hb6; have hX7 := hE6 w2 (Nat.le_refl _) (by repeat (first | assumption | exact And.left (by assumption) | exact Ext.refl _ | refine Ext.alloc ?_ _ | refine Ext.drew ?_)); have hC6 := HNew.out _ v6 w6 (by repeat (first | assumption | exact Ext.refl _ | refine Ext.alloc ?_ _ | refine Ext.drew ?_)) ho6 hg6)))
                    go_wp2_with fail
                    go_meet
                    case rel => exact ⟨hX7, hC6⟩
              case rest =>
                obtain ⟨hE3, I, cur, hO, hM, hI, hcu, hsp⟩ := hcut
                clear HL hE d4 cx
                obtain ⟨R0, cap0, rfl, hR0, hle0, hm0, hcs0, q0, q1, q2, q3⟩ := hO.form
                have hIz : I.length + 1 ≤ 1002 := by omega
                have zR0 := lt_of_cell q3
                have hIm : (I.length : Int) < (I.length : Int) + 1 := by omega
                have HO := Lib.hid hO
                have HCS := Lib.hid hcs0
                have HSP := Lib.hid hsp
                have HM := Lib.hid hM
                unfold SpE.v at q3
                clear hO hsp q0 q1 q2 hcs0 hM
                have hnow : Own 114 1 encE w2.heap.size wc (.slice cur.a cur.n cur.c) cur.L := HO.out.now
                have h3le := hE3.le
                go_wp2_with (at_builtin; refine app_many 86 114 1 16 .nilIface encE encE_len encE_one Try.underlying86 infoT rfl (by decide) (by decide) rfl (.tmp 100) (.tmp 102) rfl w2.heap.size (.slice cur.a cur.n cur.c) cur.L rfl (hnow.ext ((Ext.refl _).alloc _)) _ [x] rfl (Sl.new1 (by simp) rfl) (by simp; omega) (by simp; omega) ?_; intro v6 w6 ho6 hg6 hE6 hb6; obtain ⟨g6, c6, hv6, _, _, _, _, _⟩ := Own.form ho6 (by simp) encE_len; subst hv6; have hgr := (HO.out.ext ((Ext.refl _).alloc _)).grown hg6 hb6; obtain ⟨q6, fr6⟩ := last_cell hgr.1)
                have hfin := OutAt.setThings hgr.1 hgr.2 ho6
                have hE7 := (hE6 _ (Nat.le_refl _) (hE3.alloc _)).setCell (p := ⟨R0, I.length * 4 + 3, none⟩) hR0 (.slice (some ⟨g6, 0, none⟩) (cur.L ++ [x]).length c6)
                simp only [List.length_append, List.length_singleton] at hfin hE7
                exact ⟨⟨k + 1, by omega, by go_num, hE7, loopS_next hlt HX.out hfin HM.out hI hcu HSP.out⟩, by simp [intOf]; omega⟩
            · obtain rfl : k = L2.length := by omega
              have hne : 0 < L2.length := by
                obtain ⟨t, r, he, _⟩ := hF2.out
                have := congrArg List.length he
                simp at this
                omega
              rcases HL with ⟨h0, _⟩ | ⟨_, I, cur, hO, hM, _, _, hsp⟩
              · omega
              have HO := Lib.hid hO
              have HSP := Lib.hid hsp
              have HM := Lib.hid hM
              clear hO hsp hM
              go_wp2_with fail
              go_ret
              exact ⟨_, _, L2.map (·.2.2), rfl, HO.out.spells (fun s hs x hx => (HA2.out x (HM.out s hs x hx)).ext hE), by rw [← HLA.out]; exact HP2.out.map _, HS2.out, by rw [HSP.out, List.take_of_length_le (by simp)], hX.trans (hX0.trans (hW2.trans hE))⟩
end Go.Proofs.Ytaggjclaehigjaa
