/- Contract of the specification's Meeting. -/
import Derived.Test.YtdbhbfmbpldmnaaR2
import Derived.Test.YtdbhbfmbpldmnaaP1
import Derived.Deep.DeepCutAuto
namespace Go.Proofs.Ytdbhbfmbpldmnaa
open Go.RowKit
def ifOne (o : Bool) (p : Int × Int) : List (Int × Int) := if o = true then [p] else []
theorem ifOne_t {o : Bool} (h : o = true) (p : Int × Int) : ifOne o p = [p] := by rw [ifOne, if_pos h]
theorem ifOne_f {o : Bool} (h : o = false) (p : Int × Int) : ifOne o p = [] := by rw [h]; rfl
theorem ifOne_len (o : Bool) (p : Int × Int) : (ifOne o p).length ≤ 1 := by unfold ifOne; split <;> simp
theorem Own.empty (w : World) {base : Nat} (hb : base ≤ w.heap.size) : Own base (w.alloc (.cells #[] 23)) (.slice (some ⟨w.heap.size, 0, none⟩) 0 0) [] :=
  World.ownsRow_made w #[] 0 hb (by simp [maxLen]) rfl
theorem endsL_ifs (ax ay bx b_y cx cy dx dy : Int) : endsL ax ay bx b_y cx cy dx dy = ((ifOne (onB cx cy dx dy ax ay) (ax, ay) ++ ifOne (onB cx cy dx dy bx b_y) (bx, b_y)) ++ ifOne (onB ax ay bx b_y cx cy) (cx, cy)) ++ ifOne (onB ax ay bx b_y dx dy) (dx, dy) := by
  unfold endsL alKeep ifOne
  simp only [List.filter_cons, onB_left, onB_right, Bool.true_and, Bool.and_true, List.filter_nil]
  (repeat' split) <;> simp_all
def sameTo (E : List (Int × Int)) (k : Nat) : Prop := ∀ p, E[0]? = some p → ∀ j, j < k → ∀ q, E[j]? = some q → q = p
theorem kind_bad {E : List (Int × Int)} {k : Nat} (hk : k < E.length) (h : ¬ E[k] = E[0]'(by omega)) : endsKind E = 3 := by
  cases E with
  | nil => simp at hk
  | cons p t =>
    change (if (t.all fun q => decide (q = p)) = true then (1 : Int) else 3) = 3
    rw [if_neg]
    intro ha
    rw [List.all_eq_true] at ha
    cases k with
    | zero => exact h rfl
    | succ k =>
      have hk' : k < t.length := by simpa using hk
      exact h (by simpa using ha t[k] (List.getElem_mem _))
theorem kind_one {E : List (Int × Int)} (h0 : 0 < E.length) (h : sameTo E E.length) : endsKind E = 1 := by
  cases E with
  | nil => simp at h0
  | cons p t =>
    change (if (t.all fun q => decide (q = p)) = true then (1 : Int) else 3) = 1
    rw [if_pos]
    rw [List.all_eq_true]
    intro q hq
    obtain ⟨j, hj, rfl⟩ := List.getElem_of_mem hq
    have := h p rfl (j + 1) (by simpa using hj) t[j] (by simp)
    simp [this]
theorem sameTo_one (E : List (Int × Int)) : sameTo E 1 := fun p hp j hj q hq => by
  obtain rfl : j = 0 := by omega
  rw [hp] at hq
  exact (Option.some.inj hq).symm
theorem sameTo_succ {E : List (Int × Int)} {k : Nat} (hk : k < E.length) (h : sameTo E k) (he : E[k] = E[0]'(by omega)) : sameTo E (k + 1) := by
  intro p hp j hj q hq
  by_cases hjk : j = k
  · subst hjk
    rw [List.getElem?_eq_getElem hk] at hq
    rw [List.getElem?_eq_getElem (by omega)] at hp
    cases hq
    cases hp
    exact he
  · exact h p hp j (by omega) q hq
def Two34 (w : World) (ax ay bx b_y cx cy dx dy : Int) : World := (w.alloc (.cells #[.int .i64 ax, .int .i64 ay, .int .i64 bx, .int .i64 b_y] 34)).alloc (.cells #[.int .i64 cx, .int .i64 cy, .int .i64 dx, .int .i64 dy] 34)
/-- two segments in boxes of their own -/
def Segs (w : World) (A B : Nat) (ax ay bx b_y cx cy dx dy : Int) : Prop :=
  (w.cell? ⟨A, 0, none⟩ = some (.int .i64 ax) ∧ w.cell? ⟨A, 1, none⟩ = some (.int .i64 ay) ∧ w.cell? ⟨A, 2, none⟩ = some (.int .i64 bx) ∧ w.cell? ⟨A, 3, none⟩ = some (.int .i64 b_y)) ∧
  w.cell? ⟨B, 0, none⟩ = some (.int .i64 cx) ∧ w.cell? ⟨B, 1, none⟩ = some (.int .i64 cy) ∧ w.cell? ⟨B, 2, none⟩ = some (.int .i64 dx) ∧ w.cell? ⟨B, 3, none⟩ = some (.int .i64 dy)
theorem Segs.ext {w w' : World} {A B : Nat} {ax ay bx b_y cx cy dx dy : Int} (h : Segs w A B ax ay bx b_y cx cy dx dy) (x : Ext w w') : Segs w' A B ax ay bx b_y cx cy dx dy :=
  ⟨⟨x.cell h.1.1, x.cell h.1.2.1, x.cell h.1.2.2.1, x.cell h.1.2.2.2⟩, x.cell h.2.1, x.cell h.2.2.1, x.cell h.2.2.2.1, x.cell h.2.2.2.2⟩
theorem segs_new (w : World) (ax ay bx b_y cx cy dx dy : Int) : Segs (Two34 w ax ay bx b_y cx cy dx dy) w.heap.size (w.heap.size + 1) ax ay bx b_y cx cy dx dy := by
  have e1 := fun i => cell_new w [.int .i64 ax, .int .i64 ay, .int .i64 bx, .int .i64 b_y] 34 i
  have e2 := fun i => cell_new (w.alloc (.cells #[.int .i64 ax, .int .i64 ay, .int .i64 bx, .int .i64 b_y] 34)) [.int .i64 cx, .int .i64 cy, .int .i64 dx, .int .i64 dy] 34 i
  simp only [World.size_alloc] at e2
  have x1 := (Ext.refl (w.alloc (.cells #[.int .i64 ax, .int .i64 ay, .int .i64 bx, .int .i64 b_y] 34))).alloc (.cells #[.int .i64 cx, .int .i64 cy, .int .i64 dx, .int .i64 dy] 34)
  exact ⟨⟨x1.cell (e1 0), x1.cell (e1 1), x1.cell (e1 2), x1.cell (e1 3)⟩, e2 0, e2 1, e2 2, e2 3⟩
theorem Segs.ltA {w w' : World} {A B : Nat} {ax ay bx b_y cx cy dx dy : Int} (h : Segs w A B ax ay bx b_y cx cy dx dy) (x : Ext w w') : A < w'.heap.size := lt_of_cell (h.ext x).1.1
theorem Segs.ltB {w w' : World} {A B : Nat} {ax ay bx b_y cx cy dx dy : Int} (h : Segs w A B ax ay bx b_y cx cy dx dy) (x : Ext w w') : B < w'.heap.size := lt_of_cell (h.ext x).2.1
theorem Segs.keep {w w' : World} {A B : Nat} {ax ay bx b_y cx cy dx dy : Int} (h : Segs w A B ax ay bx b_y cx cy dx dy) (x : Ext w w') : Ext w w' ∧ (w'.cell? ⟨A, 0, none⟩ = some (.int .i64 ax) ∧ w'.cell? ⟨A, 1, none⟩ = some (.int .i64 ay) ∧ w'.cell? ⟨A, 2, none⟩ = some (.int .i64 bx) ∧ w'.cell? ⟨A, 3, none⟩ = some (.int .i64 b_y)) ∧
  w'.cell? ⟨B, 0, none⟩ = some (.int .i64 cx) ∧ w'.cell? ⟨B, 1, none⟩ = some (.int .i64 cy) ∧ w'.cell? ⟨B, 2, none⟩ = some (.int .i64 dx) ∧ w'.cell? ⟨B, 3, none⟩ = some (.int .i64 dy) := ⟨x, h.ext x⟩
theorem sgz_wrap2 (a b : Int) : IntKind.i64.wrap (sgz a * sgz b) = sgz a * sgz b := by
  apply IntWalk.i64_in
  unfold sgz
  (repeat' split) <;> omega
/-- what a cut keeps: the slice of ends so far -/
def Ends (B0 : Nat) (wb : World) (l : List (Int × Int)) (v : Value) (w : World) : Prop := Own B0 w v l ∧ Ext wb w
set_option maxRecDepth 100000 in
set_option maxHeartbeats 3200000 in
theorem rMeeting_ok (W : World) (ax ay bx b_y cx cy dx dy : Int) (w : World) (hX : Ext W w) (p1 : propB ax ay bx b_y = true) (p2 : propB cx cy dx dy = true) :
    Calls Try.prog 29 #[.agg #[.int .i64 ax, .int .i64 ay, .int .i64 bx, .int .i64 b_y], .agg #[.int .i64 cx, .int .i64 cy, .int .i64 dx, .int .i64 dy]] w fun e w' => e = .returned (.int .i64 (mtR ax ay bx b_y cx cy dx dy)) ∧ Ext W w' := by
  obtain ⟨h1, h2, h3, h4⟩ := propB_ok p1
  obtain ⟨h5, h6, h7, h8⟩ := propB_ok p2
  go_enter Try.func29, Try.ntmps29
  go_wp2_with fail
  have hS := segs_new w ax ay bx b_y cx cy dx dy
  have hXb : Ext W (Two34 w ax ay bx b_y cx cy dx dy) := (hX.alloc _).alloc _
  change Calls _ _ _ (Two34 w ax ay bx b_y cx cy dx dy) _
  obtain ⟨wb, hwb⟩ : ∃ wb, Two34 w ax ay bx b_y cx cy dx dy = wb := ⟨_, rfl⟩
  rw [hwb] at hS hXb ⊢
  clear hwb hX
  generalize w.heap.size = A at hS ⊢
  generalize A + 1 = B at hS ⊢
  refine (rProper wb _ _ _ _ _ (Ext.refl _)).mono ?_
  rintro e w1 ⟨rfl, hX1⟩
  obtain ⟨⟨s0, s1, s2, s3⟩, t0, t1, t2, t3⟩ := hS.ext hX1
  go_wp2_with (go_at_call 89; refine (rProper wb _ _ _ _ _ (by assumption)).mono ?_; rintro e w2 ⟨rfl, hX2⟩; clear hX1 s0 s1 s2 s3 t0 t1 t2 t3; obtain ⟨⟨s0, s1, s2, s3⟩, t0, t1, t2, t3⟩ := hS.ext hX2; have zA := hS.ltA hX2; have zB := hS.ltB hX2)
  have hO := Own.empty w2 hX2.size
  have hXa := hX2.alloc (.cells #[] 23)
  generalize w2.heap.size = N at hO ⊢
  obtain ⟨w1, hw1⟩ : ∃ w1, w2.alloc (.cells #[] 23) = w1 := ⟨_, rfl⟩
  rw [hw1] at hO hXa ⊢
  clear hw1 hX2 s0 s1 s2 s3 t0 t1 t2 t3 zA zB
  have hE : Ends wb.heap.size wb [] (.slice (some ⟨N, 0, none⟩) 0 0) w1 := ⟨hO, hXa⟩
  clear hO hXa
  have hu39 := Try.underlying39
  refine (rOn0 w1 _ _ _ _ _ _ _ (Ext.refl _) (by assumption) (by assumption) (by assumption) (by assumption) (by assumption) (by assumption)).mono ?_
  rintro e w3 ⟨rfl, hX3⟩
  have hE3 : Ends wb.heap.size wb ([]) _ w3 := ⟨hE.1.ext hX3, hE.2.trans hX3⟩
  clear hX3 hE
  go_upto_if 28 with fail
  go_cut [7] (fun v wx => Ends wb.heap.size wb (ifOne (onB cx cy dx dy ax ay) (ax, ay)) v wx)
  case first =>
    obtain ⟨⟨s0, s1, s2, s3⟩, t0, t1, t2, t3⟩ := hS.ext hE3.2
    go_wp2_with (at_builtin; refine app_pt rfl (.tmp 29) (.tmp 32) rfl wb.heap.size _ _ rfl (Own.ext hE3.1 ((Ext.refl _).alloc _)) _ ax ay rfl ?c1 ?c2 ?c3 ((hE3.2).alloc _) (Nat.le_refl _) ?_)
    case c1 => go_simp
    case c2 => go_simp
    case c3 => exact Nat.le_trans (show _ ≤ 4 from by simp) (by omega)
    · intro v' w4 ho hg hext
      have ho1 : onB cx cy dx dy ax ay = true := by assumption
      go_wp2_with fail
      go_meet
      exact ⟨by rw [ifOne_t ho1]; simpa only [List.append_assoc] using ho, hext wb (Nat.le_refl _) ((hE3.2).alloc _)⟩
    · have ho1 : onB cx cy dx dy ax ay = false := by assumption
      go_meet
      exact ⟨by rw [ifOne_f ho1]; exact hE3.1, hE3.2⟩
  case rest =>
    obtain ⟨w1, rfl⟩ : ∃ w1, w1 = wc := ⟨_, rfl⟩
    have hE := hcut
    clear hcut
    obtain ⟨⟨s0, s1, s2, s3⟩, t0, t1, t2, t3⟩ := hS.ext hE.2
    go_wp2_with fail
    clear s0 s1 s2 s3 t0 t1 t2 t3
    refine (rOn0 w1 _ _ _ _ _ _ _ (Ext.refl _) (by assumption) (by assumption) (by assumption) (by assumption) (by assumption) (by assumption)).mono ?_
    rintro e w3 ⟨rfl, hX3⟩
    have hE3 : Ends wb.heap.size wb (ifOne (onB cx cy dx dy ax ay) (ax, ay)) _ w3 := ⟨hE.1.ext hX3, hE.2.trans hX3⟩
    clear hX3 hE
    go_upto_if 40 with fail
    go_cut [7] (fun v wx => Ends wb.heap.size wb (ifOne (onB cx cy dx dy ax ay) (ax, ay) ++ ifOne (onB cx cy dx dy bx b_y) (bx, b_y)) v wx)
    case first =>
      obtain ⟨⟨s0, s1, s2, s3⟩, t0, t1, t2, t3⟩ := hS.ext hE3.2
      go_wp2_with (at_builtin; refine app_pt rfl (.tmp 41) (.tmp 44) rfl wb.heap.size _ _ rfl (Own.ext hE3.1 ((Ext.refl _).alloc _)) _ bx b_y rfl ?c1 ?c2 ?c3 ((hE3.2).alloc _) (Nat.le_refl _) ?_)
      case c1 => go_simp
      case c2 => go_simp
      case c3 => exact Nat.le_trans (show _ ≤ 4 from by have := ifOne_len (onB cx cy dx dy ax ay) (ax, ay); omega) (by omega)
      · intro v' w4 ho hg hext
        have ho1 : onB cx cy dx dy bx b_y = true := by assumption
        go_wp2_with fail
        go_meet
        exact ⟨by rw [ifOne_t ho1]; simpa only [List.append_assoc] using ho, hext wb (Nat.le_refl _) ((hE3.2).alloc _)⟩
      · have ho1 : onB cx cy dx dy bx b_y = false := by assumption
        go_meet
        exact ⟨by rw [ifOne_f ho1, List.append_nil]; exact hE3.1, hE3.2⟩
    case rest =>
      obtain ⟨w1, rfl⟩ : ∃ w1, w1 = wc := ⟨_, rfl⟩
      have hE := hcut
      clear hcut
      obtain ⟨⟨s0, s1, s2, s3⟩, t0, t1, t2, t3⟩ := hS.ext hE.2
      go_wp2_with fail
      clear s0 s1 s2 s3 t0 t1 t2 t3
      refine (rOn0 w1 _ _ _ _ _ _ _ (Ext.refl _) (by assumption) (by assumption) (by assumption) (by assumption) (by assumption) (by assumption)).mono ?_
      rintro e w3 ⟨rfl, hX3⟩
      have hE3 : Ends wb.heap.size wb (ifOne (onB cx cy dx dy ax ay) (ax, ay) ++ ifOne (onB cx cy dx dy bx b_y) (bx, b_y)) _ w3 := ⟨hE.1.ext hX3, hE.2.trans hX3⟩
      clear hX3 hE
      go_upto_if 52 with fail
      go_cut [7] (fun v wx => Ends wb.heap.size wb ((ifOne (onB cx cy dx dy ax ay) (ax, ay) ++ ifOne (onB cx cy dx dy bx b_y) (bx, b_y)) ++ ifOne (onB ax ay bx b_y cx cy) (cx, cy)) v wx)
      case first =>
        obtain ⟨⟨s0, s1, s2, s3⟩, t0, t1, t2, t3⟩ := hS.ext hE3.2
        go_wp2_with (at_builtin; refine app_pt rfl (.tmp 53) (.tmp 56) rfl wb.heap.size _ _ rfl (Own.ext hE3.1 ((Ext.refl _).alloc _)) _ cx cy rfl ?c1 ?c2 ?c3 ((hE3.2).alloc _) (Nat.le_refl _) ?_)
        case c1 => go_simp
        case c2 => go_simp
        case c3 => exact Nat.le_trans (show _ ≤ 4 from by have := ifOne_len (onB cx cy dx dy ax ay) (ax, ay); have := ifOne_len (onB cx cy dx dy bx b_y) (bx, b_y); simp only [List.length_append]; omega) (by omega)
        · intro v' w4 ho hg hext
          have ho1 : onB ax ay bx b_y cx cy = true := by assumption
          go_wp2_with fail
          go_meet
          exact ⟨by rw [ifOne_t ho1]; simpa only [List.append_assoc] using ho, hext wb (Nat.le_refl _) ((hE3.2).alloc _)⟩
        · have ho1 : onB ax ay bx b_y cx cy = false := by assumption
          go_meet
          exact ⟨by rw [ifOne_f ho1, List.append_nil]; exact hE3.1, hE3.2⟩
      case rest =>
        obtain ⟨w1, rfl⟩ : ∃ w1, w1 = wc := ⟨_, rfl⟩
        have hE := hcut
        clear hcut
        obtain ⟨⟨s0, s1, s2, s3⟩, t0, t1, t2, t3⟩ := hS.ext hE.2
        go_wp2_with fail
        clear s0 s1 s2 s3 t0 t1 t2 t3
        refine (rOn0 w1 _ _ _ _ _ _ _ (Ext.refl _) (by assumption) (by assumption) (by assumption) (by assumption) (by assumption) (by assumption)).mono ?_
        rintro e w3 ⟨rfl, hX3⟩
        have hE3 : Ends wb.heap.size wb ((ifOne (onB cx cy dx dy ax ay) (ax, ay) ++ ifOne (onB cx cy dx dy bx b_y) (bx, b_y)) ++ ifOne (onB ax ay bx b_y cx cy) (cx, cy)) _ w3 := ⟨hE.1.ext hX3, hE.2.trans hX3⟩
        clear hX3 hE
        go_upto_if 64 with fail
        go_cut [7] (fun v wx => Ends wb.heap.size wb (((ifOne (onB cx cy dx dy ax ay) (ax, ay) ++ ifOne (onB cx cy dx dy bx b_y) (bx, b_y)) ++ ifOne (onB ax ay bx b_y cx cy) (cx, cy)) ++ ifOne (onB ax ay bx b_y dx dy) (dx, dy)) v wx)
        case first =>
          obtain ⟨⟨s0, s1, s2, s3⟩, t0, t1, t2, t3⟩ := hS.ext hE3.2
          go_wp2_with (at_builtin; refine app_pt rfl (.tmp 65) (.tmp 68) rfl wb.heap.size _ _ rfl (Own.ext hE3.1 ((Ext.refl _).alloc _)) _ dx dy rfl ?c1 ?c2 ?c3 ((hE3.2).alloc _) (Nat.le_refl _) ?_)
          case c1 => go_simp
          case c2 => go_simp
          case c3 => exact Nat.le_trans (show _ ≤ 4 from by have := ifOne_len (onB cx cy dx dy ax ay) (ax, ay); have := ifOne_len (onB cx cy dx dy bx b_y) (bx, b_y); have := ifOne_len (onB ax ay bx b_y cx cy) (cx, cy); simp only [List.length_append]; omega) (by omega)
          · intro v' w4 ho hg hext
            have ho1 : onB ax ay bx b_y dx dy = true := by assumption
            go_wp2_with fail
            go_meet
            exact ⟨by rw [ifOne_t ho1]; simpa only [List.append_assoc] using ho, hext wb (Nat.le_refl _) ((hE3.2).alloc _)⟩
          · have ho1 : onB ax ay bx b_y dx dy = false := by assumption
            go_meet
            exact ⟨by rw [ifOne_f ho1, List.append_nil]; exact hE3.1, hE3.2⟩
        case rest =>
          obtain ⟨w1, rfl⟩ : ∃ w1, w1 = wc := ⟨_, rfl⟩
          have hE := hcut
          clear hcut
          obtain ⟨E, hE0⟩ : ∃ E, ((ifOne (onB cx cy dx dy ax ay) (ax, ay) ++ ifOne (onB cx cy dx dy bx b_y) (bx, b_y)) ++ ifOne (onB ax ay bx b_y cx cy) (cx, cy)) ++ ifOne (onB ax ay bx b_y dx dy) (dx, dy) = E := ⟨_, rfl⟩
          rw [hE0] at hE
          have hE2 := (endsL_ifs ax ay bx b_y cx cy dx dy).trans hE0
          have HE := Lib.hid hE2
          clear hE0 hE2
          obtain ⟨a, cap, rfl, hl, hm, hc⟩ := hE.1.pts
          have hlen : E.length ≤ 4 := by
            rw [← HE.out]
            exact List.length_filter_le _ _
          have hm2 : E.length ≤ 9223372036854775807 := by omega
          have hX1 := hE.2
          have HR : Hid (mtR ax ay bx b_y cx cy dx dy = if endsKind E ≠ 0 then endsKind E else if sgz (twz ax ay bx b_y cx cy) * sgz (twz ax ay bx b_y dx dy) < 0 ∧ sgz (twz cx cy dx dy ax ay) * sgz (twz cx cy dx dy bx b_y) < 0 then 2 else 0) := by
            unfold Hid mtR
            rw [if_pos ⟨p1, p2⟩, HE.out]
          have HC := Lib.hid hc
          clear hc hE hl hm HE p1 p2
          have hneq := run_neq_pt
          go_wp2_with fail
          go_loopw [8] (fun i wr => ∃ k : Nat, i = .int .i64 k ∧ 1 ≤ k ∧ k ≤ E.length + 1 ∧ Hid (sameTo E k) ∧ Ext w1 wr) (fun i _ => (E.length + 1) - (intOf i).toNat)
          case atStart => exact ⟨1, rfl, by omega, by omega, sameTo_one _, Ext.refl _⟩
          case round =>
            obtain ⟨k, rfl, hk1, hk, hsame, hx⟩ := hrel
            by_cases hlt : k < E.length
            · obtain ⟨b, off, rfl, hcc⟩ : ∃ b off, a = some ⟨b, off, none⟩ ∧ _ := HC.out.resolve_left (fun h => by simp [h] at hlt)
              have c1 := hx.cell (hcc k hlt).1
              have c2 := hx.cell (hcc k hlt).2
              have c3 := hx.cell (hcc 0 (by omega)).1
              have c4 := hx.cell (hcc 0 (by omega)).2
              simp only [Nat.zero_mul, Nat.add_zero] at c3 c4
              have h0 : 0 < E.length := by omega
              clear hcc HC
              obtain ⟨px, py, hp⟩ : ∃ px py, E[k] = (px, py) := ⟨_, _, rfl⟩
              obtain ⟨qx, qy, hq⟩ : ∃ px py, E[0] = (px, py) := ⟨_, _, rfl⟩
              rw [hp] at c1 c2
              rw [hq] at c3 c4
              have HP := Lib.hid hp
              have HQ := Lib.hid hq
              clear hp hq
              go_wp2_with fail
              go_quiet (fail)
              go_wp2_with fail
              · have h : ¬(px = qx ∧ py = qy) := by
                  intro e
                  simp_all
                go_ret
                refine ⟨ret_int ?_, hXb.trans (hX1.trans (hx.drewN _))⟩
                rw [HR.out, kind_bad hlt (by rw [HP.out, HQ.out]; intro e; cases e; exact h ⟨rfl, rfl⟩)]
                rfl
              · have h : px = qx ∧ py = qy := by simp_all
                exact ⟨⟨k + 1, by go_num, by omega, by omega, sameTo_succ hlt hsame.out (by rw [HP.out, HQ.out, h.1, h.2]), hx.drewN _⟩, by simp [intOf]; omega⟩
            · by_cases h0 : 0 < E.length
              · obtain hs : sameTo E E.length := fun p hp j hj q hq => hsame.out p hp j (by omega) q hq
                have HS := Lib.hid hs
                clear hs
                go_wp2_with fail
                go_ret
                refine ⟨ret_int ?_, hXb.trans (hX1.trans hx)⟩
                rw [HR.out, kind_one h0 HS.out]
                rfl
              · have hn : E = [] := List.length_eq_zero_iff.1 (by omega)
                subst hn
                have HR2 := Lib.hid (HR.out.trans (if_neg (by simp [endsKind])))
                clear HR
                go_wp2_with fail
                have hX5 : Ext wb wr := hX1.trans hx
                have hw1 := sgz_wrap2 (twz ax ay bx b_y cx cy) (twz ax ay bx b_y dx dy)
                have hw2 := sgz_wrap2 (twz cx cy dx dy ax ay) (twz cx cy dx dy bx b_y)
                clear hX1 hx
                go_region_held3 (fun w'' => Ext wb w'' ∧ (w''.cell? ⟨A, 0, none⟩ = some (.int .i64 ax) ∧ w''.cell? ⟨A, 1, none⟩ = some (.int .i64 ay) ∧ w''.cell? ⟨A, 2, none⟩ = some (.int .i64 bx) ∧ w''.cell? ⟨A, 3, none⟩ = some (.int .i64 b_y)) ∧ w''.cell? ⟨B, 0, none⟩ = some (.int .i64 cx) ∧ w''.cell? ⟨B, 1, none⟩ = some (.int .i64 cy) ∧ w''.cell? ⟨B, 2, none⟩ = some (.int .i64 dx) ∧ w''.cell? ⟨B, 3, none⟩ = some (.int .i64 dy)) (first | exact hS.keep (by assumption) | exact hS.keep (Ext.drew (by assumption)))
                  (first | (go_at_call 83; refine (rTwice _ _ _ _ _ _ _ _ (by first | assumption | exact And.left (by assumption)) (by assumption) (by assumption) (by assumption) (by assumption) (by assumption) (by assumption)).mono ?_; rintro e w' ⟨rfl, hX1⟩) | (go_at_call 82; refine (rSign _ _ _ (by first | assumption | exact And.left (by assumption))).mono ?_; rintro e w' ⟨rfl, hX1⟩))
                go_wp2_with fail
                go_region_held3 (fun w'' => Ext wb w'' ∧ (w''.cell? ⟨A, 0, none⟩ = some (.int .i64 ax) ∧ w''.cell? ⟨A, 1, none⟩ = some (.int .i64 ay) ∧ w''.cell? ⟨A, 2, none⟩ = some (.int .i64 bx) ∧ w''.cell? ⟨A, 3, none⟩ = some (.int .i64 b_y)) ∧ w''.cell? ⟨B, 0, none⟩ = some (.int .i64 cx) ∧ w''.cell? ⟨B, 1, none⟩ = some (.int .i64 cy) ∧ w''.cell? ⟨B, 2, none⟩ = some (.int .i64 dx) ∧ w''.cell? ⟨B, 3, none⟩ = some (.int .i64 dy)) (first | exact hS.keep (by assumption) | exact hS.keep (Ext.drew (by assumption)))
                  (first | (go_at_call 83; refine (rTwice _ _ _ _ _ _ _ _ (by first | assumption | exact And.left (by assumption)) (by assumption) (by assumption) (by assumption) (by assumption) (by assumption) (by assumption)).mono ?_; rintro e w' ⟨rfl, hX1⟩) | (go_at_call 82; refine (rSign _ _ _ (by first | assumption | exact And.left (by assumption))).mono ?_; rintro e w' ⟨rfl, hX1⟩))
                go_wp2_with fail
                all_goals
                  go_ret
                  refine ⟨ret_int ?_, hXb.trans (by assumption)⟩
                  rw [HR2.out]
                  first | rw [if_pos ⟨by assumption, by assumption⟩] | rw [if_neg (fun h => absurd h.1 (Int.not_lt.2 (by assumption)))] | rw [if_neg (fun h => absurd h.2 (Int.not_lt.2 (by assumption)))]
set_option maxRecDepth 100000 in
set_option maxHeartbeats 800000 in
theorem rMeeting (W : World) (ax ay bx b_y cx cy dx dy : Int) (w : World) (hX : Ext W w) :
    Calls Try.prog 29 #[.agg #[.int .i64 ax, .int .i64 ay, .int .i64 bx, .int .i64 b_y], .agg #[.int .i64 cx, .int .i64 cy, .int .i64 dx, .int .i64 dy]] w fun e w' => e = .returned (.int .i64 (mtZ ax ay bx b_y cx cy dx dy)) ∧ Ext W w' := by
  rw [mt_eq]
  cases p1 : propB ax ay bx b_y
  · have HZ : Hid (mtR ax ay bx b_y cx cy dx dy = 0) := by unfold Hid mtR; rw [if_neg (by simp [p1])]
    cases p2 : propB cx cy dx dy
    all_goals
      go_enter Try.func29, Try.ntmps29
      go_wp2_with (first | (go_at_call 89; refine (rProper _ _ _ _ _ _ (by first | assumption | exact Ext.refl _)).mono ?_; rintro e w1 ⟨rfl, hX1⟩; have hr := hX1.rule))
      go_ret
      exact ⟨ret_int HZ.out.symm, hX.b2 (by assumption)⟩
  · cases p2 : propB cx cy dx dy
    · have HZ : Hid (mtR ax ay bx b_y cx cy dx dy = 0) := by unfold Hid mtR; rw [if_neg (by simp [p2])]
      go_enter Try.func29, Try.ntmps29
      go_wp2_with (first | (go_at_call 89; refine (rProper _ _ _ _ _ _ (by first | assumption | exact Ext.refl _)).mono ?_; rintro e w1 ⟨rfl, hX1⟩; have hr := hX1.rule))
      go_ret
      exact ⟨ret_int HZ.out.symm, hX.b2 (by assumption)⟩
    · exact rMeeting_ok W ax ay bx b_y cx cy dx dy w hX p1 p2
end Go.Proofs.Ytdbhbfmbpldmnaa
