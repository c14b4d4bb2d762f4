/- Contract of Check. -/
import Derived.Test.YtaggjclaehigjaaD
namespace Go.Proofs.Ytaggjclaehigjaa
open Go.RowKit
theorem chk_limit {C P R : List Five} (h : 20 < C.length ∨ 60 < P.length + R.length) : chk C P R = 2 := by unfold chk; rw [if_pos h]
def chk3 (C P R : List Five) : Int := orE (scan (errC C) C.length) (orE (scan (errP C P) P.length) (scan (errR C P R) R.length))
theorem chk_few {C P R : List Five} (h : ¬ (20 < C.length ∨ 60 < P.length + R.length)) : chk C P R = chk3 C P R := by unfold chk; rw [if_neg h]; rfl
theorem chk_one {C P R : List Five} {k : Nat} {n : Int} (hk : k < C.length) (h : scan (errC C) k = 0) (hn : errC C k = n) (h0 : n ≠ 0) : chk3 C P R = n := by
  unfold chk3 orE
  rw [scan_hit h (by rw [hn]; exact h0) hk, hn, if_neg h0]
theorem errC_arg {C : List Five} {k : Nat} (hk : k < C.length) {x : Five} (hx : x = C[k]) (h : okC x = false) : errC C k = 1 := by
  unfold errC
  have : C.getD k default = x := by simp [List.getD, hk, hx]
  rw [this, h]; simp
def ids (l : List Five) (k : Nat) : List Int := (l.take k).map (·.a)
theorem errC_ok {C : List Five} {k : Nat} (hk : k < C.length) {x : Five} (hx : x = C[k]) (h : okC x = true) : errC C k = if x.a ∈ ids C k then 6 else 0 := by
  unfold errC ids
  have : C.getD k default = x := by simp [List.getD, hk, hx]
  rw [this, h, if_pos rfl]
  congr 1
  simp only [List.any_eq_true, List.mem_map, beq_iff_eq]
theorem ids_snoc {l : List Five} {k : Nat} (hk : k < l.length) {x : Five} (hx : x = l[k]) : ids l (k + 1) = ids l k ++ [x.a] := by
  unfold ids
  rw [List.take_succ_eq_append_getElem hk, List.map_append, hx]; rfl
theorem ret_i {a b : Int} (h : a = b) : Ending.returned (.int .i64 a) = .returned (.int .i64 b) := by rw [h]
theorem okC_f1 {x : Five} (h : inB x.a 1 1099511627776 = false) : okC x = false := by simp [okC, h]
theorem okC_f2 {x : Five} (h : inB x.b 0 4000 = false) : okC x = false := by simp [okC, h]
theorem okC_f3 {x : Five} (h : spB x.c x.d 9000 12000 = false) : okC x = false := by simp [okC, h]
theorem okC_f4 {x : Five} (h : inB x.e 0 1000 = false) : okC x = false := by simp [okC, h]
theorem okC_t {x : Five} (h1 : inB x.a 1 1099511627776 = true) (h2 : inB x.b 0 4000 = true) (h3 : spB x.c x.d 9000 12000 = true) (h4 : inB x.e 0 1000 = true) : okC x = true := by simp [okC, h1, h2, h3, h4]
theorem five_at {w wr : World} {a : Option Addr} {l : List Five} {k : Nat} (hc : l = [] ∨ ∃ b off, a = some ⟨b, off, none⟩ ∧ ∀ i, (h : i < l.length) → At5 w b (off + i * 5) l[i]) (hE : Ext w wr) (hk : k < l.length) :
    ∃ b off x, x = l[k] ∧ a = some ⟨b, off, none⟩ ∧ At5 wr b (off + k * 5) x := by
  obtain ⟨b, off, ha, h⟩ := hc.resolve_left (fun e => by simp [e] at hk)
  exact ⟨b, off, l[k], rfl, ha, (h k hk).ext hE⟩
theorem getD_at {l : List Five} {k : Nat} (hk : k < l.length) {x : Five} (hx : x = l[k]) : l.getD k default = x := by simp [List.getD, hk, hx]
theorem chk_two {C P R : List Five} {k : Nat} {n : Int} (hk : k < P.length) (hc : scan (errC C) C.length = 0) (h : scan (errP C P) k = 0) (hn : errP C P k = n) (h0 : n ≠ 0) : chk3 C P R = n := by
  unfold chk3 orE
  rw [if_pos hc, scan_hit h (by rw [hn]; exact h0) hk, hn, if_neg h0]
theorem chk_three {C P R : List Five} {k : Nat} {n : Int} (hk : k < R.length) (hc : scan (errC C) C.length = 0) (hp : scan (errP C P) P.length = 0) (h : scan (errR C P R) k = 0) (hn : errR C P R k = n) (h0 : n ≠ 0) : chk3 C P R = n := by
  unfold chk3 orE
  rw [if_pos hc, if_pos hp, scan_hit h (by rw [hn]; exact h0) hk, hn]
theorem chk_ok {C P R : List Five} (hc : scan (errC C) C.length = 0) (hp : scan (errP C P) P.length = 0) (h : scan (errR C P R) R.length = 0) : chk3 C P R = 0 := by
  unfold chk3 orE
  rw [if_pos hc, if_pos hp, h]
theorem errP_arg {C P : List Five} {k : Nat} (hk : k < P.length) {x : Five} (hx : x = P[k]) (h : okT C x 0 = false) : errP C P k = 1 := by
  unfold errP
  rw [getD_at hk hx, h]; simp
theorem errP_ok {C P : List Five} {k : Nat} (hk : k < P.length) {x : Five} (hx : x = P[k]) (h : okT C x 0 = true) : errP C P k = if x.a ∈ ids P k then 6 else 0 := by
  unfold errP ids
  rw [getD_at hk hx, h, if_pos rfl]
  congr 1
  simp only [List.any_eq_true, List.mem_map, beq_iff_eq]
theorem errR_arg {C P R : List Five} {k : Nat} (hk : k < R.length) {x : Five} (hx : x = R[k]) (h : okT C x 1 = false) : errR C P R k = 1 := by
  unfold errR
  rw [getD_at hk hx, h]; simp
def ids2 (P R : List Five) (k : Nat) : List Int := ids P P.length ++ ids R k
def againOf (R : List Five) (k : Nat) (x : Five) : Bool := (R.take k).any (fun y => y.b == x.b && y.c == x.c)
theorem errR_ok {C P R : List Five} {k : Nat} (hk : k < R.length) {x : Five} (hx : x = R[k]) (h : okT C x 1 = true) : errR C P R k = if x.a ∈ ids2 P R k ∨ againOf R k x = true then 6 else 0 := by
  unfold errR ids2 ids againB
  rw [getD_at hk hx, h, if_pos rfl]
  congr 1
  simp only [Bool.or_eq_true, List.any_eq_true, List.mem_map, beq_iff_eq, List.mem_append, List.take_length, againOf, eq_iff_iff]
  constructor
  · rintro (⟨y, h | h, e⟩ | h)
    · exact .inl (.inl ⟨y, h, e⟩)
    · exact .inl (.inr ⟨y, h, e⟩)
    · exact .inr h
  · rintro ((⟨y, h, e⟩ | ⟨y, h, e⟩) | h)
    · exact .inl ⟨y, .inl h, e⟩
    · exact .inl ⟨y, .inr h, e⟩
    · exact .inr h
theorem ids2_snoc {P R : List Five} {k : Nat} (hk : k < R.length) {x : Five} (hx : x = R[k]) : ids2 P R (k + 1) = ids2 P R k ++ [x.a] := by
  unfold ids2
  rw [ids_snoc hk hx, List.append_assoc]
theorem year_ok {C : List Five} {id : Int} {c : Five} (h : scan (errC C) C.length = 0) (hf : findC C id = some c) : 0 ≤ c.b ∧ c.b ≤ 4000 := by
  have hall : ∀ c ∈ C, okC c = true := all_getD.2 fun k hk => (errC_zero.1 (scan_zero.1 h k hk)).1
  have := hall c (List.mem_of_find?_eq_some hf)
  simp only [okC, Bool.and_eq_true, inB_iff] at this
  exact this.1.1.2
theorem okT_none {C : List Five} {x : Five} {n : Int} (h : findC C x.b = none) : okT C x n = false := by simp [okT, h]
theorem okT_f1 {C : List Five} {x c : Five} {n : Int} (hf : findC C x.b = some c) (h : inB x.a 1 1099511627776 = false) : okT C x n = false := by simp [okT, hf, h]
theorem okT_f2 {C : List Five} {x c : Five} {n : Int} (hf : findC C x.b = some c) (h : inB x.c (c.b + n) 4000 = false) : okT C x n = false := by simp [okT, hf, h]
theorem okT_f3 {C : List Five} {x c : Five} {n : Int} (hf : findC C x.b = some c) (h : spB x.d x.e 9000 12000 = false) : okT C x n = false := by simp [okT, hf, h]
theorem okT_t {C : List Five} {x c : Five} {n : Int} (hf : findC C x.b = some c) (h1 : inB x.a 1 1099511627776 = true) (h2 : inB x.c (c.b + n) 4000 = true) (h3 : spB x.d x.e 9000 12000 = true) : okT C x n = true := by simp [okT, hf, h1, h2, h3]
set_option maxRecDepth 100000 in
set_option maxHeartbeats 4000000 in
theorem Check_any (W : World) (C P R : List Five) (v : Value) (w : World) (hX : Ext W w) (hv : Wk w v C P R) :
    Calls Try.prog 18 #[v] w fun e w' => e = .returned (.int .i64 (chk C P R)) ∧ Ext W w' := by
  obtain ⟨vC, vP, vR, rfl, hC, hP, hR, hn⟩ := hv
  obtain ⟨aC, capC, rfl, hlC, hmC, hcC⟩ := hC.parts
  obtain ⟨aP, capP, rfl, hlP, hmP, hcP⟩ := hP.parts
  obtain ⟨aR, capR, rfl, hlR, hmR, hcR⟩ := hR.parts
  have HcC := Lib.hid hcC
  have HcP := Lib.hid hcP
  have HcR := Lib.hid hcR
  have HC := Lib.hid hC
  have HP := Lib.hid hP
  have HR := Lib.hid hR
  clear hcC hcP hcR hC hP hR hmC hmP hmR
  by_cases hl1 : 20 < C.length
  · go_enter Try.func18, Try.ntmps18
    go_wp2_with fail
    go_ret
    exact ⟨ret_i (chk_limit (.inl hl1)).symm, hX.alloc _⟩
  by_cases hl2 : (60 : Int) < (P.length : Int) + (R.length : Int)
  · go_enter Try.func18, Try.ntmps18
    go_wp2_with fail
    go_ret
    exact ⟨ret_i (chk_limit (.inr (by omega))).symm, hX.alloc _⟩
  have HK := Lib.hid (chk_few (C := C) (P := P) (R := R) (by omega))
  have q1 : C.length ≤ 20 := by omega
  have q2 : (P.length : Int) + (R.length : Int) ≤ 60 := by omega
  clear hl1 hl2 hn
  have hmm := @run_makeMap Try.prog
  go_enter Try.func18, Try.ntmps18
  go_wp2_with fail
  have hX0 : Ext w (w.alloc (.cells #[.slice aC C.length capC, .slice aP P.length capP, .slice aR R.length capR] 26)) := (Ext.refl w).alloc _
  have hS0 : IntSet ((w.alloc (.cells #[.slice aC C.length capC, .slice aP P.length capP, .slice aR R.length capR] 26)).alloc (.map #[] 0)) (w.heap.size + 1) [] := by
    have := IntSet.new (w.alloc (.cells #[.slice aC C.length capC, .slice aP P.length capP, .slice aR R.length capR] 26))
    simpa using this
  obtain ⟨wa, hwa⟩ : ∃ wa, w.alloc (.cells #[.slice aC C.length capC, .slice aP P.length capP, .slice aR R.length capR] 26) = wa := ⟨_, rfl⟩
  have hb0 : wa.cell? ⟨w.heap.size, 0, none⟩ = some (.slice aC C.length capC) := by rw [← hwa]; exact cell_new w [_, _, _] _ _
  have hb1 : wa.cell? ⟨w.heap.size, 1, none⟩ = some (.slice aP P.length capP) := by rw [← hwa]; exact cell_new w [_, _, _] _ _
  have hb2 : wa.cell? ⟨w.heap.size, 2, none⟩ = some (.slice aR R.length capR) := by rw [← hwa]; exact cell_new w [_, _, _] _ _
  have hsz : wa.heap.size ≤ w.heap.size + 1 := by rw [← hwa]; simp
  rw [hwa] at hX0 hS0 ⊢
  clear hwa
  generalize w.heap.size = B at hS0 hb0 hb1 hb2 hsz ⊢
  go_loopw [33] (fun i wr => ∃ k : Nat, k ≤ C.length ∧ i = .int .i64 k ∧ Ext wa wr ∧ IntSet wr (B + 1) (ids C k) ∧ Hid (scan (errC C) k = 0)) (fun i _ => C.length - (intOf i).toNat)
  case atStart => exact ⟨0, Nat.zero_le _, rfl, (Ext.refl _).alloc _, hS0, rfl⟩
  case round =>
    clear hS0
    obtain ⟨k, hk, rfl, hE, hS, HZ⟩ := hrel
    by_cases hlt : k < C.length
    · obtain ⟨b, off, x, hx, rfl, c0, c1, c2, c3, c4⟩ := five_at HcC.out (hX0.trans hE) hlt
      have HE : Hid (∀ n : Int, errC C k = n → n ≠ 0 → Ending.returned (.int .i64 n) = .returned (.int .i64 (chk C P R))) := fun n h h0 => ret_i (by rw [HK.out]; exact (chk_one hlt HZ h h0).symm)
      have HX := Lib.hid hx
      clear hx
      have hcs : inB x.a 1 1099511627776 = false ∨ (inB x.a 1 1099511627776 = true ∧ inB x.b 0 4000 = false) ∨ (inB x.a 1 1099511627776 = true ∧ inB x.b 0 4000 = true ∧ spB x.c x.d 9000 12000 = false) ∨
          (inB x.a 1 1099511627776 = true ∧ inB x.b 0 4000 = true ∧ spB x.c x.d 9000 12000 = true ∧ inB x.e 0 1000 = false) ∨
          (inB x.a 1 1099511627776 = true ∧ inB x.b 0 4000 = true ∧ spB x.c x.d 9000 12000 = true ∧ inB x.e 0 1000 = true) := by
        cases inB x.a 1 1099511627776 <;> cases inB x.b 0 4000 <;> cases spB x.c x.d 9000 12000 <;> cases inB x.e 0 1000 <;> simp
      rcases hcs with h1 | ⟨h1, h2⟩ | ⟨h1, h2, h3⟩ | ⟨h1, h2, h3, h4⟩ | ⟨h1, h2, h3, h4⟩
      case inr.inr.inr.inr =>
        go_wp2_with (first
          | (go_at_call 53; with_reducible refine (within_any _ _ _ _).mono ?_; rintro e w' ⟨rfl, rfl⟩)
          | (go_at_call 54; with_reducible refine (inside_any _ _ _ _ _ _ (Ext.refl _)).mono ?_; rintro e w1 ⟨rfl, hX1⟩; have hr := hX1.rule; have hlk := (((hS.ext ((Ext.refl _).alloc _)).ext hX1).look x.a))
          | (at_mapUpdate; refine put_set rfl _ _ _ rfl _ _ ((hS.ext ((Ext.refl _).alloc _)).ext hX1) rfl _ rfl rfl (by assumption) ?_; intro w2 hS2 hg2))
        · have hm : x.a ∈ ids C k := by assumption
          go_ret
          exact ⟨HE.out 6 (by rw [errC_ok hlt HX.out (okC_t h1 h2 h3 h4), if_pos hm]) (by decide), hX.trans (hX0.trans ((hE.alloc _).trans hX1))⟩
        · have hm : ¬ x.a ∈ ids C k := by assumption
          go_roundw
          case rel => exact ⟨k + 1, by omega, by go_num, Ext.grown ((hE.alloc _).trans hX1) hg2 hsz, by rw [ids_snoc hlt HX.out]; exact hS2, by show scan _ _ = 0; rw [scan, if_pos HZ.out, errC_ok hlt HX.out (okC_t h1 h2 h3 h4), if_neg hm]⟩
          case measure => simp [intOf]; omega
      all_goals
        have HF : Hid (okC x = false) := by first | exact okC_f1 h1 | exact okC_f2 h2 | exact okC_f3 h3 | exact okC_f4 h4
        go_wp2_with (first
          | (go_at_call 53; with_reducible refine (within_any _ _ _ _).mono ?_; rintro e w' ⟨rfl, rfl⟩)
          | (go_at_call 54; with_reducible refine (inside_any _ _ _ _ _ _ (Ext.refl _)).mono ?_; rintro e w1 ⟨rfl, hX1⟩; have hr := hX1.rule))
        go_ret
        exact ⟨HE.out 1 (errC_arg hlt HX.out HF.out) (by decide), by first | exact hX.trans (hX0.trans ((hE.alloc _).trans hX1)) | exact hX.trans (hX0.trans (hE.alloc _))⟩
    · obtain rfl : k = C.length := by omega
      have HZC := Lib.hid HZ.out
      go_wp2_with (refine wipe_set rfl (.tmp 63) rfl _ _ hS rfl ?_; intro w3 hS3 hg3; have d1 := (Ext.grown hE hg3 hsz).cell hb1)
      have hE3 := Ext.grown hE hg3 hsz
      clear hS hE HZ
      go_loopw [67] (fun i wr => ∃ k : Nat, k ≤ P.length ∧ i = .int .i64 k ∧ Ext wa wr ∧ IntSet wr (B + 1) (ids P k) ∧ Hid (scan (errP C P) k = 0)) (fun i _ => P.length - (intOf i).toNat)
      case atStart => exact ⟨0, Nat.zero_le _, rfl, hE3, hS3, rfl⟩
      case round =>
        clear hE3 hS3 hg3 d1
        obtain ⟨k, hk, rfl, hE, hS, HZ⟩ := hrel
        by_cases hlt : k < P.length
        · obtain ⟨b, off, x, hx, rfl, c0, c1, c2, c3, c4⟩ := five_at HcP.out (hX0.trans hE) hlt
          have HE : Hid (∀ n : Int, errP C P k = n → n ≠ 0 → Ending.returned (.int .i64 n) = .returned (.int .i64 (chk C P R))) := fun n h h0 => ret_i (by rw [HK.out]; exact (chk_two hlt HZC.out HZ h h0).symm)
          have HX := Lib.hid hx
          clear hx
          have d0 := hE.cell hb0
          have d1 := hE.cell hb1
          have d2 := hE.cell hb2
          have zB : B < wr.heap.size := lt_of_cell d0
          obtain ⟨fv, hfv⟩ : ∃ fv, findV C x.b = fv := ⟨_, rfl⟩
          cases hf : findC C x.b with
          | none =>
            have hfv' := hfv.symm.trans (findV_none hf)
            subst hfv'
            have HF := Lib.hid hf
            have HV := Lib.hid hfv
            clear hf hfv
            cases h1 : inB x.a 1 1099511627776
            all_goals
              go_wp2_with (first
                | (go_at_call 55; with_reducible refine (find_any _ C _ _ _ _ _ (Ext.refl _) ((HC.out.ext (hX0.trans hE)).ext ((Ext.refl _).alloc _))).mono ?_; rintro e w1 ⟨rfl, hX1⟩; rw [HV.out]; have hr1 := hX1.rule; have hz1 : wr.heap.size < w1.heap.size := (by have := hX1.le; simp at this; omega))
                | (go_at_call 53; with_reducible refine (within_any _ _ _ _).mono ?_; rintro e w' ⟨rfl, rfl⟩))
              go_ret
              exact ⟨HE.out 1 (errP_arg hlt HX.out (okT_none HF.out)) (by decide), hX.trans (hX0.trans (((hE.alloc _).trans hX1).alloc _))⟩
          | some c =>
            have hfv' := hfv.symm.trans (findV_some hf)
            subst hfv'
            have HF := Lib.hid hf
            have HV := Lib.hid hfv
            clear hf hfv
            have hcs : inB x.a 1 1099511627776 = false ∨ (inB x.a 1 1099511627776 = true ∧ inB x.c c.b 4000 = false) ∨ (inB x.a 1 1099511627776 = true ∧ inB x.c c.b 4000 = true ∧ spB x.d x.e 9000 12000 = false) ∨
                (inB x.a 1 1099511627776 = true ∧ inB x.c c.b 4000 = true ∧ spB x.d x.e 9000 12000 = true) := by
              cases inB x.a 1 1099511627776 <;> cases inB x.c c.b 4000 <;> cases spB x.d x.e 9000 12000 <;> simp
            rcases hcs with h1 | ⟨h1, h2⟩ | ⟨h1, h2, h3⟩ | ⟨h1, h2, h3⟩
            case inr.inr.inr =>
              go_wp2_with (first
                | (go_at_call 55; with_reducible refine (find_any _ C _ _ _ _ _ (Ext.refl _) ((HC.out.ext (hX0.trans hE)).ext ((Ext.refl _).alloc _))).mono ?_; rintro e w1 ⟨rfl, hX1⟩; rw [HV.out]; have hr1 := hX1.rule; have hz1 : wr.heap.size < w1.heap.size := (by have := hX1.le; simp at this; omega); have hz2 : wr.heap.size < w1.heap.size + 1 := (by omega))
                | (go_at_call 53; with_reducible refine (within_any _ _ _ _).mono ?_; rintro e w' ⟨rfl, rfl⟩)
                | (go_at_call 54; with_reducible refine (inside_any _ _ _ _ _ _ (Ext.refl _)).mono ?_; rintro e w2 ⟨rfl, hX2⟩; have hr2 := hX2.rule; have hlk := ((hS.ext ((((Ext.refl _).alloc _).trans hX1).alloc _)).ext hX2).look x.a)
                | (at_mapUpdate; refine put_set rfl _ _ _ rfl _ _ ((hS.ext ((((Ext.refl _).alloc _).trans hX1).alloc _)).ext hX2) rfl _ rfl rfl (by assumption) ?_; intro w3 hS3 hg3))
              · have hm : x.a ∈ ids P k := by assumption
                go_ret
                exact ⟨HE.out 6 (by rw [errP_ok hlt HX.out (okT_t HF.out h1 (by rw [Int.add_zero]; exact h2) h3), if_pos hm]) (by decide), hX.trans (hX0.trans ((((hE.alloc _).trans hX1).alloc _).trans hX2))⟩
              · have hm : ¬ x.a ∈ ids P k := by assumption
                go_roundw
                case rel => exact ⟨k + 1, by omega, by go_num, Ext.grown ((((hE.alloc _).trans hX1).alloc _).trans hX2) hg3 hsz, by rw [ids_snoc hlt HX.out]; exact hS3, by show scan _ _ = 0; rw [scan, if_pos HZ.out, errP_ok hlt HX.out (okT_t HF.out h1 (by rw [Int.add_zero]; exact h2) h3), if_neg hm]⟩
                case measure => simp [intOf]; omega
            all_goals
              have HO : Hid (okT C x 0 = false) := by first | exact okT_f1 HF.out h1 | exact okT_f2 HF.out (by rw [Int.add_zero]; exact h2) | exact okT_f3 HF.out h3
              go_wp2_with (first
                | (go_at_call 55; with_reducible refine (find_any _ C _ _ _ _ _ (Ext.refl _) ((HC.out.ext (hX0.trans hE)).ext ((Ext.refl _).alloc _))).mono ?_; rintro e w1 ⟨rfl, hX1⟩; rw [HV.out]; have hr1 := hX1.rule; have hz1 : wr.heap.size < w1.heap.size := (by have := hX1.le; simp at this; omega); have hz2 : wr.heap.size < w1.heap.size + 1 := (by omega))
                | (go_at_call 53; with_reducible refine (within_any _ _ _ _).mono ?_; rintro e w' ⟨rfl, rfl⟩)
                | (go_at_call 54; with_reducible refine (inside_any _ _ _ _ _ _ (Ext.refl _)).mono ?_; rintro e w2 ⟨rfl, hX2⟩; have hr2 := hX2.rule))
              go_ret
              exact ⟨HE.out 1 (errP_arg hlt HX.out HO.out) (by decide), by first | exact hX.trans (hX0.trans ((((hE.alloc _).trans hX1).alloc _).trans hX2)) | exact hX.trans (hX0.trans (((hE.alloc _).trans hX1).alloc _))⟩
        · obtain rfl : k = P.length := by omega
          have HZP := Lib.hid HZ.out
          have d2 := hE.cell hb2
          go_wp2_with fail
          clear d2 HZ
          go_loopw [107] (fun i wr => ∃ k : Nat, k ≤ R.length ∧ i = .int .i64 k ∧ Ext wa wr ∧ IntSet wr (B + 1) (ids2 P R k) ∧ Hid (scan (errR C P R) k = 0)) (fun i _ => R.length - (intOf i).toNat)
          case atStart => exact ⟨0, Nat.zero_le _, rfl, hE, by simpa [ids2, ids] using hS, rfl⟩
          case round =>
            clear hE hS
            obtain ⟨k, hk, rfl, hE, hS, HZ⟩ := hrel
            by_cases hlt : k < R.length
            · obtain ⟨b, off, x, hx, rfl, c0, c1, c2, c3, c4⟩ := five_at HcR.out (hX0.trans hE) hlt
              have HE : Hid (∀ n : Int, errR C P R k = n → n ≠ 0 → Ending.returned (.int .i64 n) = .returned (.int .i64 (chk C P R))) := fun n h h0 => ret_i (by rw [HK.out]; exact (chk_three hlt HZC.out HZP.out HZ h h0).symm)
              have HX := Lib.hid hx
              clear hx
              have d0 := hE.cell hb0
              have d1 := hE.cell hb1
              have d2 := hE.cell hb2
              have zB : B < wr.heap.size := lt_of_cell d0
              have hkz : (0 : Int) ≤ (k : Int) := by omega
              have hkc : (k : Int) ≤ (capR : Int) := by omega
              obtain ⟨ag, hag⟩ : ∃ ag, (R.take k).any (fun y => y.b == x.b && y.c == x.c) = ag := ⟨_, rfl⟩
              have HAG : Hid (againOf R k x = ag) := hag
              obtain ⟨fv, hfv⟩ : ∃ fv, findV C x.b = fv := ⟨_, rfl⟩
              cases hf : findC C x.b with
              | none =>
                have hfv' := hfv.symm.trans (findV_none hf)
                subst hfv'
                have HF := Lib.hid hf
                have HV := Lib.hid hfv
                clear hf hfv
                cases h1 : inB x.a 1 1099511627776
                all_goals
                  go_wp2_with (first
                    | (go_at_call 55; with_reducible refine (find_any _ C _ _ _ _ _ (Ext.refl _) ((HC.out.ext (hX0.trans hE)).ext ((Ext.refl _).alloc _))).mono ?_; rintro e w1 ⟨rfl, hX1⟩; rw [HV.out]; have hr1 := hX1.rule; have hz1 : wr.heap.size < w1.heap.size := (by have := hX1.le; simp at this; omega); have hz2 : wr.heap.size < w1.heap.size + 1 := (by omega); have hz3 : B < w1.heap.size := (by omega); have d3 := hX1.cell ((Ext.alloc (Ext.refl _) _).cell d2))
                    | (go_at_call 53; with_reducible refine (within_any _ _ _ _).mono ?_; rintro e w' ⟨rfl, rfl⟩)
                    | (go_at_call 56; with_reducible refine (containsRepair_any _ (R.take k) _ _ _ (fun y => y.b == x.b && y.c == x.c) _ (Ext.refl _) ((Fives.take (HR.out.ext (hX0.trans hE)) hk).ext ((((Ext.refl _).alloc _).trans hX1).alloc _)) enters_again (fun i hi w' hw => (again_any _ x _ _ (((((At5_new wr 85 x).ext hX1).ext ((Ext.refl _).alloc _)).ext hw))))).mono ?_; rintro e w2 ⟨rfl, hX2⟩; rw [hag]; have hr2 := hX2.rule; have hz4 : wr.heap.size < w2.heap.size := (by have := hX2.le; simp at this; omega); have hz5 : w1.heap.size < w2.heap.size := (by have := hX2.le; simp at this; omega)))
                  go_ret
                  exact ⟨HE.out 1 (errR_arg hlt HX.out (okT_none HF.out)) (by decide), hX.trans (hX0.trans ((((hE.alloc _).trans hX1).alloc _).trans hX2))⟩
              | some c =>
                have hfv' := hfv.symm.trans (findV_some hf)
                subst hfv'
                have HF := Lib.hid hf
                have HV := Lib.hid hfv
                have ⟨cy1, cy2⟩ := year_ok HZC.out hf
                clear hf hfv
                have hcs : inB x.a 1 1099511627776 = false ∨ (inB x.a 1 1099511627776 = true ∧ inB x.c (c.b + 1) 4000 = false) ∨ (inB x.a 1 1099511627776 = true ∧ inB x.c (c.b + 1) 4000 = true ∧ spB x.d x.e 9000 12000 = false) ∨
                    (inB x.a 1 1099511627776 = true ∧ inB x.c (c.b + 1) 4000 = true ∧ spB x.d x.e 9000 12000 = true) := by
                  cases inB x.a 1 1099511627776 <;> cases inB x.c (c.b + 1) 4000 <;> cases spB x.d x.e 9000 12000 <;> simp
                rcases hcs with h1 | ⟨h1, h2⟩ | ⟨h1, h2, h3⟩ | ⟨h1, h2, h3⟩
                case inr.inr.inr =>
                  cases ag
                  all_goals
                    go_wp2_with (first
                      | (go_at_call 55; with_reducible refine (find_any _ C _ _ _ _ _ (Ext.refl _) ((HC.out.ext (hX0.trans hE)).ext ((Ext.refl _).alloc _))).mono ?_; rintro e w1 ⟨rfl, hX1⟩; rw [HV.out]; have hr1 := hX1.rule; have hz1 : wr.heap.size < w1.heap.size := (by have := hX1.le; simp at this; omega); have hz2 : wr.heap.size < w1.heap.size + 1 := (by omega); have hz3 : B < w1.heap.size := (by omega); have d3 := hX1.cell ((Ext.alloc (Ext.refl _) _).cell d2))
                      | (go_at_call 53; with_reducible refine (within_any _ _ _ _).mono ?_; rintro e w' ⟨rfl, rfl⟩)
                      | (go_at_call 56; with_reducible refine (containsRepair_any _ (R.take k) _ _ _ (fun y => y.b == x.b && y.c == x.c) _ (Ext.refl _) ((Fives.take (HR.out.ext (hX0.trans hE)) hk).ext ((((Ext.refl _).alloc _).trans hX1).alloc _)) enters_again (fun i hi w' hw => (again_any _ x _ _ (((((At5_new wr 85 x).ext hX1).ext ((Ext.refl _).alloc _)).ext hw))))).mono ?_; rintro e w2 ⟨rfl, hX2⟩; rw [hag]; have hr2 := hX2.rule; have hz4 : wr.heap.size < w2.heap.size := (by have := hX2.le; simp at this; omega); have hz5 : w1.heap.size < w2.heap.size := (by have := hX2.le; simp at this; omega))
                      | (go_at_call 54; with_reducible refine (inside_any _ _ _ _ _ _ (Ext.refl _)).mono ?_; rintro e w3 ⟨rfl, hX3⟩; have hr3 := hX3.rule; have hlk := (((hS.ext ((((Ext.refl _).alloc _).trans hX1).alloc _)).ext hX2).ext hX3).look x.a)
                      | (at_mapUpdate; refine put_set rfl _ _ _ rfl _ _ (((hS.ext ((((Ext.refl _).alloc _).trans hX1).alloc _)).ext hX2).ext hX3) rfl _ rfl rfl (by assumption) ?_; intro w4 hS4 hg4))
                  · have hm : x.a ∈ ids2 P R k := by assumption
                    go_ret
                    exact ⟨HE.out 6 (by rw [errR_ok hlt HX.out (okT_t HF.out h1 h2 h3), if_pos (.inl hm)]) (by decide), hX.trans (hX0.trans (((((hE.alloc _).trans hX1).alloc _).trans hX2).trans hX3))⟩
                  · have hm : ¬ x.a ∈ ids2 P R k := by assumption
                    go_roundw
                    case rel => exact ⟨k + 1, by omega, by go_num, Ext.grown (((((hE.alloc _).trans hX1).alloc _).trans hX2).trans hX3) hg4 hsz, by rw [ids2_snoc hlt HX.out]; exact hS4, by show scan _ _ = 0; rw [scan, if_pos HZ.out, errR_ok hlt HX.out (okT_t HF.out h1 h2 h3), if_neg (by rw [HAG.out]; simpa using hm)]⟩
                    case measure => simp [intOf]; omega
                  all_goals
                    go_ret
                    exact ⟨HE.out 6 (by rw [errR_ok hlt HX.out (okT_t HF.out h1 h2 h3), if_pos (.inr HAG.out)]) (by decide), hX.trans (hX0.trans (((((hE.alloc _).trans hX1).alloc _).trans hX2).trans hX3))⟩
                all_goals
                  have HO : Hid (okT C x 1 = false) := by first | exact okT_f1 HF.out h1 | exact okT_f2 HF.out h2 | exact okT_f3 HF.out h3
                  go_wp2_with (first
                    | (go_at_call 55; with_reducible refine (find_any _ C _ _ _ _ _ (Ext.refl _) ((HC.out.ext (hX0.trans hE)).ext ((Ext.refl _).alloc _))).mono ?_; rintro e w1 ⟨rfl, hX1⟩; rw [HV.out]; have hr1 := hX1.rule; have hz1 : wr.heap.size < w1.heap.size := (by have := hX1.le; simp at this; omega); have hz2 : wr.heap.size < w1.heap.size + 1 := (by omega); have hz3 : B < w1.heap.size := (by omega); have d3 := hX1.cell ((Ext.alloc (Ext.refl _) _).cell d2))
                    | (go_at_call 53; with_reducible refine (within_any _ _ _ _).mono ?_; rintro e w' ⟨rfl, rfl⟩)
                    | (go_at_call 56; with_reducible refine (containsRepair_any _ (R.take k) _ _ _ (fun y => y.b == x.b && y.c == x.c) _ (Ext.refl _) ((Fives.take (HR.out.ext (hX0.trans hE)) hk).ext ((((Ext.refl _).alloc _).trans hX1).alloc _)) enters_again (fun i hi w' hw => (again_any _ x _ _ (((((At5_new wr 85 x).ext hX1).ext ((Ext.refl _).alloc _)).ext hw))))).mono ?_; rintro e w2 ⟨rfl, hX2⟩; rw [hag]; have hr2 := hX2.rule; have hz4 : wr.heap.size < w2.heap.size := (by have := hX2.le; simp at this; omega); have hz5 : w1.heap.size < w2.heap.size := (by have := hX2.le; simp at this; omega))
                    | (go_at_call 54; with_reducible refine (inside_any _ _ _ _ _ _ (Ext.refl _)).mono ?_; rintro e w3 ⟨rfl, hX3⟩; have hr3 := hX3.rule))
                  go_ret
                  exact ⟨HE.out 1 (errR_arg hlt HX.out HO.out) (by decide), by first | exact hX.trans (hX0.trans (((((hE.alloc _).trans hX1).alloc _).trans hX2).trans hX3)) | exact hX.trans (hX0.trans ((((hE.alloc _).trans hX1).alloc _).trans hX2))⟩
            · obtain rfl : k = R.length := by omega
              go_wp2_with fail
              go_ret
              exact ⟨ret_i (by rw [HK.out, chk_ok HZC.out HZP.out HZ.out]), hX.trans (hX0.trans hE)⟩
end Go.Proofs.Ytaggjclaehigjaa
