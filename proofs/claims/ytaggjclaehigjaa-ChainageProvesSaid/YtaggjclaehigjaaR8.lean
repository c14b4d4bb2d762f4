/- Contracts of the specification's functions: In. -/
import Derived.Test.YtaggjclaehigjaaR7
namespace Go.Proofs.Ytaggjclaehigjaa
open Go.RowKit
def inP (c : Five) (lo hi : Int) (t : Five) : Bool := t.b == c.a && inB t.c lo hi
def inK (P R : List Five) (c : Five) (lo hi : Int) (k : Nat) : List Four := (if lo = c.b then [⟨0, c.b, c.c, c.d⟩] else []) ++ (((P ++ R).take k).filter (inP c lo hi)).map f5
theorem inK_all (P R : List Five) (c : Five) (lo hi : Int) : inK P R c lo hi (P.length + R.length) = innZ P R c (lo, hi) := by
  unfold inK innZ
  rw [List.take_of_length_le (by simp)]
  rfl
theorem inK_zero (P R : List Five) (c : Five) (lo hi : Int) : inK P R c lo hi 0 = if lo = c.b then [⟨0, c.b, c.c, c.d⟩] else [] := by
  unfold inK
  simp
theorem inK_yes {P R : List Five} {c : Five} {lo hi : Int} {k : Nat} (hk : k < P.length + R.length) {x : Five} (hx : (P ++ R).getD k default = x) (h : inP c lo hi x = true) : inK P R c lo hi (k + 1) = inK P R c lo hi k ++ [f5 x] := by
  unfold inK
  have hk' : k < (P ++ R).length := by simpa using hk
  rw [List.getD_eq_getElem?_getD, List.getElem?_eq_getElem hk'] at hx
  simp only [Option.getD_some] at hx
  rw [List.take_succ_eq_append_getElem hk', List.filter_append, List.map_append, hx, List.append_assoc]
  simp [h]
theorem inK_no {P R : List Five} {c : Five} {lo hi : Int} {k : Nat} (hk : k < P.length + R.length) {x : Five} (hx : (P ++ R).getD k default = x) (h : inP c lo hi x = false) : inK P R c lo hi (k + 1) = inK P R c lo hi k := by
  unfold inK
  have hk' : k < (P ++ R).length := by simpa using hk
  rw [List.getD_eq_getElem?_getD, List.getElem?_eq_getElem hk'] at hx
  simp only [Option.getD_some] at hx
  rw [List.take_succ_eq_append_getElem hk', List.filter_append, List.map_append, hx]
  simp [h]
theorem inK_len (P R : List Five) (c : Five) (lo hi : Int) (k : Nat) : (inK P R c lo hi k).length ≤ k + 1 := by
  unfold inK
  rw [List.length_append, List.length_map]
  have := List.length_filter_le (inP c lo hi) ((P ++ R).take k)
  have h2 : ((P ++ R).take k).length ≤ k := by simp; omega
  split <;> simp <;> omega
/-- as the list of what lies in a spell grows: what stays -/
structure RIn (B : Nat) (w3 w4 wr : World) (u : Value) (cs : List Value) (lo hi : Int) : Prop where
  band : ∀ b, w3.heap.size ≤ b → b < w4.heap.size → wr.heap[b]? = w4.heap[b]?
  le : w4.heap.size ≤ wr.heap.size
  bc : wr.heap[B + 1]? = some (.cells cs.toArray 53)
  bs : wr.heap[B + 1 + 1]? = some (.cells #[.int .i64 lo, .int .i64 hi] 30)
  row : ∀ g, u.ownBlock = some g → g < w3.heap.size ∨ w4.heap.size ≤ g
theorem RIn.cell {B : Nat} {w3 w4 wr : World} {u : Value} {cs : List Value} {lo hi : Int} (h : RIn B w3 w4 wr u cs lo hi) {b o : Nat} {v : Value} (hb : w3.heap.size ≤ b) (hc : w4.cell? ⟨b, o, none⟩ = some v) : wr.cell? ⟨b, o, none⟩ = some v :=
  (World.cell?_of_block (h.band b hb (lt_of_cell hc))).trans hc
theorem RIn.ext {B : Nat} {w3 w4 wr w' : World} {u : Value} {cs : List Value} {lo hi : Int} (h : RIn B w3 w4 wr u cs lo hi) (x : Ext wr w') : RIn B w3 w4 w' u cs lo hi :=
  ⟨fun b h1 h2 => (Below.block x b (Nat.lt_of_lt_of_le h2 h.le)).trans (h.band b h1 h2), Nat.le_trans h.le x.le, x.block h.bc, x.block h.bs, h.row⟩
theorem Own.not_at {α : Type} {T k T' : Nat} {enc : α → List Value} {base b : Nat} {w : World} {v : Value} {l : List α} {cs : Array Value} {ro : Nat × Nat} (h : Own T k enc base w v l) (hb : w.heap[b]? = some (.cells cs T' ro)) (hT : T ≠ T') : v.ownBlock ≠ some b := by
  intro e
  obtain ⟨_, h2⟩ := h
  rcases h2 with ⟨rfl, _⟩ | ⟨g, c1, cur, rfl, _, hh, _⟩
  · cases e
  · injection e with e
    simp only at e
    subst e
    rw [hb] at hh
    injection hh with hh
    injection hh with _ hh _
    exact hT hh.symm
theorem RIn.grow {B : Nat} {w3 w4 wr w' : World} {u u' : Value} {cs : List Value} {lo hi : Int} {base : Nat} {l : List Four} (h : RIn B w3 w4 wr u cs lo hi) (hO : Own 106 4 encF base wr u l) (hg : wr.grownBy w' u.ownBlock)
    (hu : u'.ownBlock = u.ownBlock ∨ ∃ n, u'.ownBlock = some n ∧ w4.heap.size ≤ n) : RIn B w3 w4 w' u' cs lo hi := by
  have hs : wr.heap.size ≤ w'.heap.size := hg.size
  refine ⟨fun b h1 h2 => ?_, Nat.le_trans h.le hs, ?_, ?_, ?_⟩
  · refine (hg.block b (Nat.lt_of_lt_of_le h2 h.le) (fun e => ?_)).trans (h.band b h1 h2)
    have := h.row b e.symm
    omega
  · exact (hg.block _ (Array.getElem?_eq_some_iff.1 h.bc).1 (fun e => hO.not_at h.bc (by decide) e.symm)).trans h.bc
  · exact (hg.block _ (Array.getElem?_eq_some_iff.1 h.bs).1 (fun e => hO.not_at h.bs (by decide) e.symm)).trans h.bs
  · intro g e
    rcases hu with hu | ⟨n, hn, hl⟩
    · exact h.row g (hu ▸ e)
    · rw [hn] at e
      injection e with e
      omega
theorem grown_keep0 {w w' : World} {b : Nat} {ob : Obj} (hg : w.grownBy w' (Value.slice none 0 0).ownBlock) (h : w.heap[b]? = some ob) : w'.heap[b]? = some ob :=
  (hg.block b (Array.getElem?_eq_some_iff.1 h).1 (fun e => by cases e)).trans h
set_option maxRecDepth 100000 in
set_option maxHeartbeats 4000000 in
theorem rIn (W : World) (C P R : List Five) (c : Five) (lo hi : Int) (v : Value) (w : World) (hX : Ext W w) (hv : Wk w v C P R) (hl : P.length + R.length ≤ 1000) :
    Calls Try.prog 71 #[v, v5 c, .agg #[.int .i64 lo, .int .i64 hi]] w fun e w' => (∃ u, e = .returned u ∧ Own 106 4 encF w.heap.size w' u (innZ P R c (lo, hi))) ∧ Ext W w' := by
  have HTH := Lib.hid (fun w' (q : Ext w w') => rthings2 w' C P R v w' (Ext.refl _) (hv.ext q) (by omega))
  obtain ⟨vC, vP, vR, rfl, -⟩ := hv
  have hb0 := (((Ext.refl _).alloc (.cells #[.int .i64 c.a, .int .i64 c.b, .int .i64 c.c, .int .i64 c.d, .int .i64 c.e] 53)).alloc (.cells #[.int .i64 lo, .int .i64 hi] 30)).block (heap_alloc_new w (.cells #[vC, vP, vR] 26))
  have hb1 := ((Ext.refl _).alloc (.cells #[.int .i64 lo, .int .i64 hi] 30)).block (heap_alloc_new (w.alloc (.cells #[vC, vP, vR] 26)) (.cells #[.int .i64 c.a, .int .i64 c.b, .int .i64 c.c, .int .i64 c.d, .int .i64 c.e] 53))
  have hb2 := heap_alloc_new ((w.alloc (.cells #[vC, vP, vR] 26)).alloc (.cells #[.int .i64 c.a, .int .i64 c.b, .int .i64 c.c, .int .i64 c.d, .int .i64 c.e] 53)) (.cells #[.int .i64 lo, .int .i64 hi] 30)
  have hE0 : Ext w (((w.alloc (.cells #[vC, vP, vR] 26)).alloc (.cells #[.int .i64 c.a, .int .i64 c.b, .int .i64 c.c, .int .i64 c.d, .int .i64 c.e] 53)).alloc (.cells #[.int .i64 lo, .int .i64 hi] 30)) := (((Ext.refl w).alloc _).alloc _).alloc _
  simp only [World.size_alloc] at hb1 hb2
  by_cases hlo : lo = c.b
  · subst hlo
    have hlb : (c.b == c.b) = true := by simp
    have HZ : Hid (inK P R c c.b hi 0 = [⟨0, c.b, c.c, c.d⟩]) := by show _ = _; rw [inK_zero, if_pos rfl]
    go_enter Try.func71, Try.ntmps71
    go_wp2_with (at_builtin; with_reducible refine app_many 101 106 4 32 (.agg #[.int .i64 0, .int .i64 0, .int .i64 0, .int .i64 0]) encF encF_len encF_one Try.underlying101 infoF rfl (by decide) (by decide) rfl (.tmp 16) (.tmp 22) rfl w.heap.size (.slice none 0 0) [] rfl (Own.nil _ _ _ _ _) _ [(⟨0, c.b, c.c, c.d⟩ : Four)] rfl (Sl.mk1 (by simp) rfl) (by simp) (by simp only [World.size_alloc]; omega) ?_; intro v3 w3 hO3 hg3 hE3 hb3; have hE3' := hE3 w (Nat.le_refl _) (hE0.alloc _); have hb1' := grown_keep0 hg3 (((Ext.refl _).alloc _).block hb1); have hb2' := grown_keep0 hg3 (((Ext.refl _).alloc _).block hb2); obtain ⟨k0, k1, k2⟩ := box3' (grown_keep0 hg3 (((Ext.refl _).alloc _).block hb0)); clear hE3 hg3 hb3 hE0)
    clear hb1 hb2 hlb
    with_reducible refine (HTH.out _ hE3').mono ?_
    rintro e w4 ⟨v1, v2, rfl, s1, s2, hX4⟩
    obtain ⟨a1, c1, a2, c2, rfl, rfl, l1, l2, hT⟩ := things_parts (s1.sl encF_len) (s2.sl enc1_len)
    have HT := Lib.hid hT
    have HS1 := Lib.hid s1
    have HS2 := Lib.hid s2
    have hw34 := hX4.le
    have hg3' : ∀ g, v3.ownBlock = some g → g < w3.heap.size := fun g hg => (World.ownsRow.lt hO3 g hg).2
    have hE4 := Ext.trans hE3' hX4
    have hO4 := hO3.ext hX4
    have hb1 := hX4.block hb1'
    have hb2 := hX4.block hb2'
    clear s1 s2 hT hX4 hb1' hb2' hO3 HTH hb0
    go_wp2_with fail
    obtain ⟨B, hBB⟩ : ∃ B, w.heap.size = B := ⟨_, rfl⟩
    rw [hBB] at hb1 hb2 ⊢
    go_loopw [7, 10] (fun u i wr => ∃ k : Nat, k ≤ P.length + R.length ∧ i = .int .i64 k ∧ Ext w wr ∧ RIn B w3 w4 wr u [.int .i64 c.a, .int .i64 c.b, .int .i64 c.c, .int .i64 c.d, .int .i64 c.e] c.b hi ∧ Own 106 4 encF B wr u (inK P R c c.b hi k)) (fun _ i _ => P.length + R.length - (intOf i).toNat)
    case atStart => exact ⟨0, Nat.zero_le _, rfl, hE4, ⟨fun _ _ _ => rfl, Nat.le_refl _, hb1, hb2, fun g hg => .inl (hg3' g hg)⟩, by rw [HZ.out, ← hBB]; exact hO4⟩
    case round =>
      obtain ⟨k, hk, rfl, hE, hE', hO⟩ := hrel
      by_cases hlt : k < P.length + R.length
      · obtain ⟨bT, oT, bI, oI, rfl, rfl, hc⟩ := (HT.out k hlt).at_
        obtain ⟨x, hx⟩ : ∃ x, (P ++ R).getD k default = x := ⟨_, rfl⟩
        have hx5 := hc k hlt
        rw [hx] at hx5
        obtain ⟨⟨x0, x1, x2, x3⟩, x4⟩ := hx5
        simp only [f5] at x0 x1 x2 x3
        have hbT := Own.young_at HS1.out
        have hbI := Own.young_at HS2.out
        have x0' := hE'.cell hbT x0
        have x1' := hE'.cell hbT x1
        have x2' := hE'.cell hbT x2
        have x3' := hE'.cell hbT x3
        have x4' := hE'.cell hbI x4
        clear hc x0 x1 x2 x3 x4
        have hcb := hE'.bc
        have y0 := cell_at hcb 0
        obtain ⟨z0, z1⟩ := box2 hE'.bs
        simp only [List.getElem?_toArray, List.getElem?_cons_zero] at y0
        have x1 := cell_regrown x1'
        have x4 := cell_regrown x4'
        have y0 := cell_regrown y0
        have z0 := cell_regrown z0
        have z1 := cell_regrown z1
        have cI := regrow (w := wr) (fun w' _ => rin' x.c c.b hi w')
        have hk0 : (0 : Int) ≤ (k : Int) := by omega
        have hk1 : (k : Int) < ((P.length + R.length : Nat) : Int) := by omega
        have hlen := inK_len P R c c.b hi k
        clear hcb
        cases e1 : (x.b == c.a)
        · have HN : Hid (inK P R c c.b hi (k + 1) = inK P R c c.b hi k) := inK_no hlt hx (by unfold inP; rw [e1]; rfl)
          clear x0' x2' x3' hx
          go_wp2_with fail
          refine wp_region_quiet_below (by kernel_rfl) (by kernel_rfl) ?_
          repeat (with_reducible refine wpQuiet_step (fun K hK => ?_); go_simp; first | (with_reducible refine hK _ ?_; clear hK K) | (rw [if_neg (by simp [undef])]; with_reducible refine hK _ ?_; clear hK K) | (apply Exists.intro; with_reducible refine ⟨fun _ => ?_, hK _ ?_⟩; (first | with_reducible exact cI _ _); clear hK K))
          refine wpQuiet_nil ?_
          intro _ hw'
          obtain ⟨⟨dq, osq⟩, hw''⟩ := hw'
          subst hw''
          have hXq : Ext wr (Go.Sort.grow (redrawn wr dq) osq) := below_regrown wr dq osq
          go_wp2_with fail
          exact ⟨⟨k + 1, by omega, by go_num, hE.trans hXq, hE'.ext hXq, by rw [HN.out]; exact hO.ext hXq⟩, by simp [intOf]; omega⟩
        · cases e2 : inB x.c c.b hi
          · have HN : Hid (inK P R c c.b hi (k + 1) = inK P R c c.b hi k) := inK_no hlt hx (by unfold inP; rw [e1, e2]; rfl)
            rw [e2] at cI
            clear x0' x2' x3' hx
            go_wp2_with fail
            refine wp_region_quiet_below (by kernel_rfl) (by kernel_rfl) ?_
            repeat (with_reducible refine wpQuiet_step (fun K hK => ?_); go_simp; first | (with_reducible refine hK _ ?_; clear hK K) | (rw [if_neg (by simp [undef])]; with_reducible refine hK _ ?_; clear hK K) | (apply Exists.intro; with_reducible refine ⟨fun _ => ?_, hK _ ?_⟩; (first | with_reducible exact cI _ _); clear hK K))
            refine wpQuiet_nil ?_
            intro _ hw'
            obtain ⟨⟨dq, osq⟩, hw''⟩ := hw'
            subst hw''
            have hXq : Ext wr (Go.Sort.grow (redrawn wr dq) osq) := below_regrown wr dq osq
            go_wp2_with fail
            exact ⟨⟨k + 1, by omega, by go_num, hE.trans hXq, hE'.ext hXq, by rw [HN.out]; exact hO.ext hXq⟩, by simp [intOf]; omega⟩
          · have HN : Hid (inK P R c c.b hi (k + 1) = inK P R c c.b hi k ++ [f5 x]) := inK_yes hlt hx (by unfold inP; rw [e1, e2]; rfl)
            rw [e2] at cI
            clear hx
            go_wp2_with fail
            refine wp_region_quiet_below (by kernel_rfl) (by kernel_rfl) ?_
            repeat (with_reducible refine wpQuiet_step (fun K hK => ?_); go_simp; first | (with_reducible refine hK _ ?_; clear hK K) | (rw [if_neg (by simp [undef])]; with_reducible refine hK _ ?_; clear hK K) | (apply Exists.intro; with_reducible refine ⟨fun _ => ?_, hK _ ?_⟩; (first | with_reducible exact cI _ _); clear hK K))
            refine wpQuiet_nil ?_
            intro _ hw'
            obtain ⟨⟨dq, osq⟩, hw''⟩ := hw'
            subst hw''
            have hXq : Ext wr (Go.Sort.grow (redrawn wr dq) osq) := below_regrown wr dq osq
            have u0 := cell_regrown x0' dq osq
            have u1 := cell_regrown x1' dq osq
            have u2 := cell_regrown x2' dq osq
            have u3 := cell_regrown x3' dq osq
            have hO5 := hO.ext hXq
            have hE5 := hE.trans hXq
            have hE5' := hE'.ext hXq
            clear x1 x4 y0 z0 z1 cI hXq x0' x1' x2' x3' x4' hO hE hE'
            change Exit.then _ _ Exit.normal _ (Go.Sort.grow (redrawn wr dq) osq)
            generalize Go.Sort.grow (redrawn wr dq) osq = w5 at u0 u1 u2 u3 hO5 hE5 hE5' ⊢
            go_wp2_with (at_builtin; with_reducible refine app_many 101 106 4 32 (.agg #[.int .i64 0, .int .i64 0, .int .i64 0, .int .i64 0]) encF encF_len encF_one Try.underlying101 infoF rfl (by decide) (by decide) rfl (.tmp 54) (.tmp 59) rfl B u7 (inK P R c c.b hi k) rfl (hO5.ext ((Ext.refl _).alloc _)) _ [f5 x] rfl (Sl.mk1 rfl rfl) (by simp; omega) (by have := hE5.le; rw [World.size_alloc]; omega) ?_; intro v6 w6 hO6 hg6 hE6 hb6; have hE7 := hE6 w (by omega) (hE5.alloc _))
            refine ⟨⟨k + 1, by omega, by go_num, hE7, (hE5'.ext ((Ext.refl _).alloc _)).grow (hO5.ext ((Ext.refl _).alloc _)) hg6 ?_, by rw [HN.out]; exact hO6⟩, by simp [intOf]; omega⟩
            have := hE5'.le
            rw [World.size_alloc] at hb6
            exact hb6.imp id (fun h => ⟨_, h, by omega⟩)
      · obtain rfl : k = P.length + R.length := by omega
        rw [inK_all] at hO
        go_wp2_with fail
        refine bodyPost_ret (v := u7) (by simp [results, Try.results71, go_sem]) rfl ⟨⟨u7, rfl, by rw [hBB]; exact hO⟩, hX.trans hE⟩
  · have HZ : Hid (inK P R c lo hi 0 = []) := by show _ = _; rw [inK_zero, if_neg hlo]
    have hlb : (lo == c.b) = false := by simpa using hlo
    clear hlo
    go_enter Try.func71, Try.ntmps71
    go_wp2_with fail
    have hb1' := hb1
    have hb2' := hb2
    have hO3 := Own.nil 106 4 encF w.heap.size (((w.alloc (.cells #[vC, vP, vR] 26)).alloc (.cells #[.int .i64 c.a, .int .i64 c.b, .int .i64 c.c, .int .i64 c.d, .int .i64 c.e] 53)).alloc (.cells #[.int .i64 lo, .int .i64 hi] 30))
    obtain ⟨w3, hw3⟩ : ∃ w3, (((w.alloc (.cells #[vC, vP, vR] 26)).alloc (.cells #[.int .i64 c.a, .int .i64 c.b, .int .i64 c.c, .int .i64 c.d, .int .i64 c.e] 53)).alloc (.cells #[.int .i64 lo, .int .i64 hi] 30)) = w3 := ⟨_, rfl⟩
    rw [hw3] at hb1' hb2' hO3 hE0 ⊢
    clear hw3 hb1 hb2
    with_reducible refine (HTH.out _ hE0).mono ?_
    rintro e w4 ⟨v1, v2, rfl, s1, s2, hX4⟩
    obtain ⟨a1, c1, a2, c2, rfl, rfl, l1, l2, hT⟩ := things_parts (s1.sl encF_len) (s2.sl enc1_len)
    have HT := Lib.hid hT
    have HS1 := Lib.hid s1
    have HS2 := Lib.hid s2
    have hw34 := hX4.le
    have hg3' : ∀ g, (Value.slice none 0 0).ownBlock = some g → g < w3.heap.size := fun g hg => (World.ownsRow.lt hO3 g hg).2
    have hE4 := Ext.trans hE0 hX4
    have hO4 := hO3.ext hX4
    have hb1 := hX4.block hb1'
    have hb2 := hX4.block hb2'
    clear s1 s2 hT hX4 hb1' hb2' hO3 HTH hb0
    go_wp2_with fail
    obtain ⟨B, hBB⟩ : ∃ B, w.heap.size = B := ⟨_, rfl⟩
    rw [hBB] at hb1 hb2 ⊢
    go_loopw [7, 10] (fun u i wr => ∃ k : Nat, k ≤ P.length + R.length ∧ i = .int .i64 k ∧ Ext w wr ∧ RIn B w3 w4 wr u [.int .i64 c.a, .int .i64 c.b, .int .i64 c.c, .int .i64 c.d, .int .i64 c.e] lo hi ∧ Own 106 4 encF B wr u (inK P R c lo hi k)) (fun _ i _ => P.length + R.length - (intOf i).toNat)
    case atStart => exact ⟨0, Nat.zero_le _, rfl, hE4, ⟨fun _ _ _ => rfl, Nat.le_refl _, hb1, hb2, fun g hg => .inl (hg3' g hg)⟩, by rw [HZ.out, ← hBB]; exact hO4⟩
    case round =>
      obtain ⟨k, hk, rfl, hE, hE', hO⟩ := hrel
      by_cases hlt : k < P.length + R.length
      · obtain ⟨bT, oT, bI, oI, rfl, rfl, hc⟩ := (HT.out k hlt).at_
        obtain ⟨x, hx⟩ : ∃ x, (P ++ R).getD k default = x := ⟨_, rfl⟩
        have hx5 := hc k hlt
        rw [hx] at hx5
        obtain ⟨⟨x0, x1, x2, x3⟩, x4⟩ := hx5
        simp only [f5] at x0 x1 x2 x3
        have hbT := Own.young_at HS1.out
        have hbI := Own.young_at HS2.out
        have x0' := hE'.cell hbT x0
        have x1' := hE'.cell hbT x1
        have x2' := hE'.cell hbT x2
        have x3' := hE'.cell hbT x3
        have x4' := hE'.cell hbI x4
        clear hc x0 x1 x2 x3 x4
        have hcb := hE'.bc
        have y0 := cell_at hcb 0
        obtain ⟨z0, z1⟩ := box2 hE'.bs
        simp only [List.getElem?_toArray, List.getElem?_cons_zero] at y0
        have x1 := cell_regrown x1'
        have x4 := cell_regrown x4'
        have y0 := cell_regrown y0
        have z0 := cell_regrown z0
        have z1 := cell_regrown z1
        have cI := regrow (w := wr) (fun w' _ => rin' x.c lo hi w')
        have hk0 : (0 : Int) ≤ (k : Int) := by omega
        have hk1 : (k : Int) < ((P.length + R.length : Nat) : Int) := by omega
        have hlen := inK_len P R c lo hi k
        clear hcb
        cases e1 : (x.b == c.a)
        · have HN : Hid (inK P R c lo hi (k + 1) = inK P R c lo hi k) := inK_no hlt hx (by unfold inP; rw [e1]; rfl)
          clear x0' x2' x3' hx
          go_wp2_with fail
          refine wp_region_quiet_below (by kernel_rfl) (by kernel_rfl) ?_
          repeat (with_reducible refine wpQuiet_step (fun K hK => ?_); go_simp; first | (with_reducible refine hK _ ?_; clear hK K) | (rw [if_neg (by simp [undef])]; with_reducible refine hK _ ?_; clear hK K) | (apply Exists.intro; with_reducible refine ⟨fun _ => ?_, hK _ ?_⟩; (first | with_reducible exact cI _ _); clear hK K))
          refine wpQuiet_nil ?_
          intro _ hw'
          obtain ⟨⟨dq, osq⟩, hw''⟩ := hw'
          subst hw''
          have hXq : Ext wr (Go.Sort.grow (redrawn wr dq) osq) := below_regrown wr dq osq
          go_wp2_with fail
          exact ⟨⟨k + 1, by omega, by go_num, hE.trans hXq, hE'.ext hXq, by rw [HN.out]; exact hO.ext hXq⟩, by simp [intOf]; omega⟩
        · cases e2 : inB x.c lo hi
          · have HN : Hid (inK P R c lo hi (k + 1) = inK P R c lo hi k) := inK_no hlt hx (by unfold inP; rw [e1, e2]; rfl)
            rw [e2] at cI
            clear x0' x2' x3' hx
            go_wp2_with fail
            refine wp_region_quiet_below (by kernel_rfl) (by kernel_rfl) ?_
            repeat (with_reducible refine wpQuiet_step (fun K hK => ?_); go_simp; first | (with_reducible refine hK _ ?_; clear hK K) | (rw [if_neg (by simp [undef])]; with_reducible refine hK _ ?_; clear hK K) | (apply Exists.intro; with_reducible refine ⟨fun _ => ?_, hK _ ?_⟩; (first | with_reducible exact cI _ _); clear hK K))
            refine wpQuiet_nil ?_
            intro _ hw'
            obtain ⟨⟨dq, osq⟩, hw''⟩ := hw'
            subst hw''
            have hXq : Ext wr (Go.Sort.grow (redrawn wr dq) osq) := below_regrown wr dq osq
            go_wp2_with fail
            exact ⟨⟨k + 1, by omega, by go_num, hE.trans hXq, hE'.ext hXq, by rw [HN.out]; exact hO.ext hXq⟩, by simp [intOf]; omega⟩
          · have HN : Hid (inK P R c lo hi (k + 1) = inK P R c lo hi k ++ [f5 x]) := inK_yes hlt hx (by unfold inP; rw [e1, e2]; rfl)
            rw [e2] at cI
            clear hx
            go_wp2_with fail
            refine wp_region_quiet_below (by kernel_rfl) (by kernel_rfl) ?_
            repeat (with_reducible refine wpQuiet_step (fun K hK => ?_); go_simp; first | (with_reducible refine hK _ ?_; clear hK K) | (rw [if_neg (by simp [undef])]; with_reducible refine hK _ ?_; clear hK K) | (apply Exists.intro; with_reducible refine ⟨fun _ => ?_, hK _ ?_⟩; (first | with_reducible exact cI _ _); clear hK K))
            refine wpQuiet_nil ?_
            intro _ hw'
            obtain ⟨⟨dq, osq⟩, hw''⟩ := hw'
            subst hw''
            have hXq : Ext wr (Go.Sort.grow (redrawn wr dq) osq) := below_regrown wr dq osq
            have u0 := cell_regrown x0' dq osq
            have u1 := cell_regrown x1' dq osq
            have u2 := cell_regrown x2' dq osq
            have u3 := cell_regrown x3' dq osq
            have hO5 := hO.ext hXq
            have hE5 := hE.trans hXq
            have hE5' := hE'.ext hXq
            clear x1 x4 y0 z0 z1 cI hXq x0' x1' x2' x3' x4' hO hE hE'
            change Exit.then _ _ Exit.normal _ (Go.Sort.grow (redrawn wr dq) osq)
            generalize Go.Sort.grow (redrawn wr dq) osq = w5 at u0 u1 u2 u3 hO5 hE5 hE5' ⊢
            go_wp2_with (at_builtin; with_reducible refine app_many 101 106 4 32 (.agg #[.int .i64 0, .int .i64 0, .int .i64 0, .int .i64 0]) encF encF_len encF_one Try.underlying101 infoF rfl (by decide) (by decide) rfl (.tmp 54) (.tmp 59) rfl B u7 (inK P R c lo hi k) rfl (hO5.ext ((Ext.refl _).alloc _)) _ [f5 x] rfl (Sl.mk1 rfl rfl) (by simp; omega) (by have := hE5.le; rw [World.size_alloc]; omega) ?_; intro v6 w6 hO6 hg6 hE6 hb6; have hE7 := hE6 w (by omega) (hE5.alloc _))
            refine ⟨⟨k + 1, by omega, by go_num, hE7, (hE5'.ext ((Ext.refl _).alloc _)).grow (hO5.ext ((Ext.refl _).alloc _)) hg6 ?_, by rw [HN.out]; exact hO6⟩, by simp [intOf]; omega⟩
            have := hE5'.le
            rw [World.size_alloc] at hb6
            exact hb6.imp id (fun h => ⟨_, h, by omega⟩)
      · obtain rfl : k = P.length + R.length := by omega
        rw [inK_all] at hO
        go_wp2_with fail
        refine bodyPost_ret (v := u7) (by simp [results, Try.results71, go_sem]) rfl ⟨⟨u7, rfl, by rw [hBB]; exact hO⟩, hX.trans hE⟩
end Go.Proofs.Ytaggjclaehigjaa
