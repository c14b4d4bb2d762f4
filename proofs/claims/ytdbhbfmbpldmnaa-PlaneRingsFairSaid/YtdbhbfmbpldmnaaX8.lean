/- Contract of Spread. -/
import Derived.Test.YtdbhbfmbpldmnaaX6
import Derived.Lib.QuietBelow
namespace Go.Proofs.Ytdbhbfmbpldmnaa
open Go.RowKit Go.Sort
def sprF (f : Nat → Int) : Nat → Int × Int
  | 0 => (f 0, f 0)
  | k + 1 => (min (sprF f k).1 (f k), max (sprF f k).2 (f k))
def spr3 (p q r : Nat → Int × Int) (k : Nat) : Int := twz (p (k / 16)).1 (p (k / 16)).2 (q (k / 4 % 4)).1 (q (k / 4 % 4)).2 (r (k % 4)).1 (r (k % 4)).2
def spreadR (a b c d e f g h i j k l : Int) : (Int × Int) × Bool :=
  if (boxB a b c d && boxB e f g h && boxB i j k l) = true then (sprF (spr3 (cnr a b c d) (cnr e f g h) (cnr i j k l)) 64, true) else ((0, 0), false)
abbrev spC (r : Int × Int) : Array Value := #[.int .i64 r.1, .int .i64 r.2]
theorem Corners_ok (W : World) (a b c d : Int) (w : World) (hX : Ext W w) (h : boxB a b c d = true) :
    Calls Try.prog 68 #[bxV a b c d] w fun en w' => en = .returned (cnV (cnr a b c d)) ∧ Ext W w' := by
  have := Corners_any W a b c d w hX
  have e : cnR a b c d = cnr a b c d := by funext i; unfold cnR; rw [if_pos h]
  rwa [e] at this
theorem Corners_lit (W : World) (a b c d : Int) (w : World) (hX : Ext W w) (h : boxB a b c d = true) :
    Calls Try.prog 68 #[bxV a b c d] w fun en w' => en = .returned (.agg #[.int .i64 (cnr a b c d 0).1, .int .i64 (cnr a b c d 0).2, .int .i64 (cnr a b c d 1).1, .int .i64 (cnr a b c d 1).2, .int .i64 (cnr a b c d 2).1, .int .i64 (cnr a b c d 2).2, .int .i64 (cnr a b c d 3).1, .int .i64 (cnr a b c d 3).2]) ∧ Ext W w' := Corners_ok W a b c d w hX h
theorem cnr_ok {a b c d : Int} (h : boxB a b c d = true) (i : Nat) : okc (cnr a b c d i).1 = true ∧ okc (cnr a b c d i).2 = true := by
  obtain ⟨⟨⟨k1, k2⟩, k3⟩, ⟨k4, k5⟩, k6⟩ := boxB_ok h
  simp only [okc_iff]
  unfold cnr
  split <;> simp only <;> omega
theorem KX.trans {R : Nat} {a b c : World} (h : KX R a b) (k : KX R b c) : KX R a c := ⟨Nat.le_trans h.1 k.1, fun n hn hR => (k.2 n (Nat.lt_of_lt_of_le hn h.1) hR).trans (h.2 n hn hR)⟩
theorem index0 (f : Nat → Int × Int) (w : World) : (Instr.index 82 (.agg #[.int .i64 (f 0).1, .int .i64 (f 0).2, .int .i64 (f 1).1, .int .i64 (f 1).2, .int .i64 (f 2).1, .int .i64 (f 2).2, .int .i64 (f 3).1, .int .i64 (f 3).2]) (.int .i64 0)).run Try.prog w = .ok (.agg #[.int .i64 (f 0).1, .int .i64 (f 0).2]) w := by kernel_rfl
theorem index1 (f : Nat → Int × Int) (w : World) : (Instr.index 82 (.agg #[.int .i64 (f 0).1, .int .i64 (f 0).2, .int .i64 (f 1).1, .int .i64 (f 1).2, .int .i64 (f 2).1, .int .i64 (f 2).2, .int .i64 (f 3).1, .int .i64 (f 3).2]) (.int .i64 1)).run Try.prog w = .ok (.agg #[.int .i64 (f 1).1, .int .i64 (f 1).2]) w := by kernel_rfl
theorem index2 (f : Nat → Int × Int) (w : World) : (Instr.index 82 (.agg #[.int .i64 (f 0).1, .int .i64 (f 0).2, .int .i64 (f 1).1, .int .i64 (f 1).2, .int .i64 (f 2).1, .int .i64 (f 2).2, .int .i64 (f 3).1, .int .i64 (f 3).2]) (.int .i64 2)).run Try.prog w = .ok (.agg #[.int .i64 (f 2).1, .int .i64 (f 2).2]) w := by kernel_rfl
theorem index3 (f : Nat → Int × Int) (w : World) : (Instr.index 82 (.agg #[.int .i64 (f 0).1, .int .i64 (f 0).2, .int .i64 (f 1).1, .int .i64 (f 1).2, .int .i64 (f 2).1, .int .i64 (f 2).2, .int .i64 (f 3).1, .int .i64 (f 3).2]) (.int .i64 3)).run Try.prog w = .ok (.agg #[.int .i64 (f 3).1, .int .i64 (f 3).2]) w := by kernel_rfl
theorem index82 (f : Nat → Int × Int) (i : Nat) (hi : i < 4) (w : World) : (Instr.index 82 (.agg #[.int .i64 (f 0).1, .int .i64 (f 0).2, .int .i64 (f 1).1, .int .i64 (f 1).2, .int .i64 (f 2).1, .int .i64 (f 2).2, .int .i64 (f 3).1, .int .i64 (f 3).2]) (.int .i64 i)).run Try.prog w = .ok (.agg #[.int .i64 (f i).1, .int .i64 (f i).2]) w := by
  have : i = 0 ∨ i = 1 ∨ i = 2 ∨ i = 3 := by omega
  rcases this with rfl | rfl | rfl | rfl
  · exact index0 f w
  · exact index1 f w
  · exact index2 f w
  · exact index3 f w
theorem regrow {P : Program} {f : FuncId} {args : Array Value} {w : World} {v : Value} (h : ∀ w', Calls P f args w' (fun e w'' => e = .returned v ∧ Ext w' w'')) (x : Nat) (os : Array Obj) :
    Calls P f args (grow (redrawn w x) os) fun e w'' => e = .returned v ∧ ∃ p : Regrown, w'' = grow (redrawn w p.d) p.os := Calls.regrown_of (h _)
set_option maxRecDepth 100000 in
set_option maxHeartbeats 16000000 in
theorem Spread_any (W : World) (a b c d e f g h i j k l : Int) (w : World) (hX : Ext W w) :
    Calls Try.prog 50 #[bxV a b c d, bxV e f g h, bxV i j k l] w fun en w' => en = .returned (spT (spreadR a b c d e f g h i j k l)) ∧ Ext W w' := by
  obtain ⟨p1, hp1⟩ : ∃ p, boxB a b c d = p := ⟨_, rfl⟩
  obtain ⟨p2, hp2⟩ : ∃ p, boxB e f g h = p := ⟨_, rfl⟩
  obtain ⟨p3, hp3⟩ : ∃ p, boxB i j k l = p := ⟨_, rfl⟩
  obtain ⟨F, hF⟩ : ∃ F, spr3 (cnr a b c d) (cnr e f g h) (cnr i j k l) = F := ⟨_, rfl⟩
  have HZ : Hid (spreadR a b c d e f g h i j k l = if (p1 && p2 && p3) = true then (sprF F 64, true) else ((0, 0), false)) := by unfold Hid spreadR; rw [hp1, hp2, hp3, hF]
  have HF := Lib.hid hF
  have P1 := Lib.hid hp1
  have P2 := Lib.hid hp2
  have P3 := Lib.hid hp3
  clear hp1 hp2 hp3 hF
  go_enter Try.func50, Try.ntmps50
  go_wp2_with fail
  have hA := (((BoxN.new w 52 (bxC a b c d)).ext ((Ext.refl _).alloc (bxO e f g h))).ext ((Ext.refl _).alloc (bxO i j k l))).ext ((Ext.refl _).alloc (.cells (spC (0, 0)) 50))
  have hB := ((BoxN.new (w.alloc (bxO a b c d)) 52 (bxC e f g h)).ext ((Ext.refl _).alloc (bxO i j k l))).ext ((Ext.refl _).alloc (.cells (spC (0, 0)) 50))
  have hC := (BoxN.new ((w.alloc (bxO a b c d)).alloc (bxO e f g h)) 52 (bxC i j k l)).ext ((Ext.refl _).alloc (.cells (spC (0, 0)) 50))
  have hR := BoxN.new (((w.alloc (bxO a b c d)).alloc (bxO e f g h)).alloc (bxO i j k l)) 50 (spC (0, 0))
  have hX2 := ((((Ext.refl w).alloc (bxO a b c d)).alloc (bxO e f g h)).alloc (bxO i j k l)).alloc (.cells (spC (0, 0)) 50)
  rw [World.size_alloc] at hB
  rw [World.size_alloc, World.size_alloc] at hC
  rw [World.size_alloc, World.size_alloc, World.size_alloc] at hR
  have zR : w.heap.size ≤ w.heap.size + 1 + 1 + 1 := by omega
  obtain ⟨w3, hw3⟩ : ∃ w3, (((w.alloc (bxO a b c d)).alloc (bxO e f g h)).alloc (bxO i j k l)).alloc (.cells (spC (0, 0)) 50) = w3 := ⟨_, rfl⟩
  change BoxN ((((w.alloc (bxO a b c d)).alloc (bxO e f g h)).alloc (bxO i j k l)).alloc (.cells (spC (0, 0)) 50)) _ _ _ at hR
  rw [hw3] at hA hB hC hR hX2 ⊢
  clear hw3
  have hW := hX
  generalize hRR : w.heap.size + 1 + 1 + 1 = R at hR zR ⊢
  generalize hCC : w.heap.size + 1 + 1 = C at hC ⊢
  generalize hBB : w.heap.size + 1 = B at hB ⊢
  generalize hAA : w.heap.size = A at hA ⊢
  clear hRR hBB hCC hAA
  have hK : ∀ w', Ext w3 w' → Ext w3 w' ∧ Bx w' A a b c d ∧ Bx w' B e f g h ∧ Bx w' C i j k l := fun w' x => ⟨x, BoxN.bx (hA.ext x), BoxN.bx (hB.ext x), BoxN.bx (hC.ext x)⟩
  have HK := Lib.hid hK
  clear hK
  obtain ⟨_, ⟨q0, q1, q2, q3⟩, ⟨q4, q5, q6, q7⟩, q8, q9, qa, qb⟩ := HK.out _ (Ext.refl _)
  obtain ⟨n0, n1, n2⟩ := BoxN.box2 hR
  have hX7 := Ext.refl w3
  cases p1 <;> cases p2 <;> cases p3
  all_goals
    go_wp2_with (first | (go_at_call 64; refine (Proper_any _ _ _ _ _ _ (Ext.refl _)).mono ?_; rintro en w' ⟨rfl, hY⟩; have hX7 := hX7.trans hY; obtain ⟨_, ⟨q0, q1, q2, q3⟩, ⟨q4, q5, q6, q7⟩, q8, q9, qa, qb⟩ := HK.out _ hX7; obtain ⟨n0, n1, n2⟩ := BoxN.box2 (hR.ext hX7); (first | rw [P1.out] | rw [P2.out] | rw [P3.out])))
  all_goals (try exact bodyPost_ret (v := spT (spreadR a b c d e f g h i j k l)) (by rw [HZ.out]; simp [results, Try.f50, go_sem, n0, n1]) rfl ⟨rfl, hW.trans (ext_two (hX2.trans hX7) zR _ _)⟩)
  have hX5 := hX2.trans hX7
  have hA5 := hA.ext hX7
  have hB5 := hB.ext hX7
  have hC5 := hC.ext hX7
  have hR5 := hR.ext hX7
  clear n0 n1 n2 q0 q1 q2 q3 q4 q5 q6 q7 q8 q9 qa qb hX7
  clear hA hB hC hR hX2 HK
  generalize hw5 : w' = w5 at hX5 hA5 hB5 hC5 hR5 ⊢
  clear hw5
  have G1 := (cnr_ok P1.out 0)
  have G2 := (cnr_ok P2.out 0)
  have G3 := (cnr_ok P3.out 0)
  have hF0 : F 0 = twz (cnr a b c d 0).1 (cnr a b c d 0).2 (cnr e f g h 0).1 (cnr e f g h 0).2 (cnr i j k l 0).1 (cnr i j k l 0).2 := by rw [← HF.out]; rfl
  obtain ⟨q0, q1, q2, q3, _⟩ := BoxN.box4 hA5
  obtain ⟨q4, q5, q6, q7, _⟩ := BoxN.box4 hB5
  obtain ⟨q8, q9, qa, qb, _⟩ := BoxN.box4 hC5
  have q0 := cell_regrown q0
  have q1 := cell_regrown q1
  have q2 := cell_regrown q2
  have q3 := cell_regrown q3
  have q4 := cell_regrown q4
  have q5 := cell_regrown q5
  have q6 := cell_regrown q6
  have q7 := cell_regrown q7
  have q8 := cell_regrown q8
  have q9 := cell_regrown q9
  have qa := cell_regrown qa
  have qb := cell_regrown qb
  have cA := regrow (w := w5) (fun w' => Corners_ok w' a b c d w' (Ext.refl _) P1.out)
  have cB := regrow (w := w5) (fun w' => Corners_ok w' e f g h w' (Ext.refl _) P2.out)
  have cC := regrow (w := w5) (fun w' => Corners_ok w' i j k l w' (Ext.refl _) P3.out)
  have cT := regrow (w := w5) (fun w' => twice_any w' _ _ _ _ _ _ w' (Ext.refl _) G1.1 G1.2 G2.1 G2.2 G3.1 G3.2)
  rw [← hF0] at cT
  simp only [cnV] at cA cB cC
  have i0 := index0 (cnr a b c d)
  have i1 := index0 (cnr e f g h)
  have i2 := index0 (cnr i j k l)
  clear hF0
  refine wp_region_quiet_below (by kernel_rfl) (by kernel_rfl) ?_
  repeat (quiet_step (first | with_reducible exact cA _ _ | with_reducible exact cB _ _ | with_reducible exact cC _ _ | with_reducible exact cT _ _))
  refine wpQuiet_nil ?_
  intro _ hw'
  obtain ⟨⟨dq, osq⟩, hw''⟩ := hw'
  subst hw''
  have hXq : Ext w5 (grow (redrawn w5 dq) osq) := below_regrown w5 dq osq
  have hX6 := hX5.trans hXq
  have hA6 := hA5.ext hXq
  have hB6 := hB5.ext hXq
  have hC6 := hC5.ext hXq
  have hR6 := hR5.ext hXq
  change Exit.then _ _ Exit.normal _ (grow (redrawn w5 dq) osq)
  generalize hw6 : grow (redrawn w5 dq) osq = w6 at hX6 hA6 hB6 hC6 hR6 ⊢
  clear hXq hw6 q0 q1 q2 q3 q4 q5 q6 q7 q8 q9 qa qb cA cB cC cT i0 i1 i2 hA5 hB5 hC5 hR5 hX5 G1 G2 G3
  have hO := BoxN.new w6 50 (spC (sprF F 0))
  have hA7 := hA6.ext ((Ext.refl _).alloc (.cells (spC (sprF F 0)) 50))
  have hB7 := hB6.ext ((Ext.refl _).alloc (.cells (spC (sprF F 0)) 50))
  have hC7 := hC6.ext ((Ext.refl _).alloc (.cells (spC (sprF F 0)) 50))
  have hR7 := hR6.ext ((Ext.refl _).alloc (.cells (spC (sprF F 0)) 50))
  have hX7 := hX6.alloc (.cells (spC (sprF F 0)) 50)
  have nOA : A ≠ w6.heap.size := Nat.ne_of_lt hA6.lt
  have nOB : B ≠ w6.heap.size := Nat.ne_of_lt hB6.lt
  have nOC : C ≠ w6.heap.size := Nat.ne_of_lt hC6.lt
  have nOR : R ≠ w6.heap.size := Nat.ne_of_lt hR6.lt
  have zO := hX6.le
  have i0 := fun (n : Nat) (hn : n < 4) => index82 (cnr a b c d) n hn
  have i1 := fun (n : Nat) (hn : n < 4) => index82 (cnr e f g h) n hn
  have i2 := fun (n : Nat) (hn : n < 4) => index82 (cnr i j k l) n hn
  have lA := hA6.lt
  obtain ⟨q0, q1, q2, q3, _⟩ := BoxN.box4 hA6
  go_wp2_with fail
  refine (Corners_lit _ _ _ _ _ _ (Ext.refl _) P1.out).mono ?_
  rintro en wb ⟨rfl, hY⟩
  change Ext (w6.alloc (.cells (spC (sprF F 0)) 50)) wb at hY
  have hOb := hO.ext hY
  have hAb := hA7.ext hY
  have hBb := hB7.ext hY
  have hCb := hC7.ext hY
  have hRb := hR7.ext hY
  have hXb := hX7.trans hY
  clear q0 q1 q2 q3 lA hO hA7 hB7 hC7 hR7 hX7 hY hA6 hB6 hC6 hR6 hX6
  generalize w6.heap.size = O at hOb nOA nOB nOC nOR zO ⊢
  have hT : ∀ x y z : Nat, x < 4 → y < 4 → z < 4 → twz (cnr a b c d x).1 (cnr a b c d x).2 (cnr e f g h y).1 (cnr e f g h y).2 (cnr i j k l z).1 (cnr i j k l z).2 = F (16 * x + 4 * y + z) := by
    intro x y z hx hy hz
    rw [← HF.out]
    unfold spr3
    rw [show (16 * x + 4 * y + z) / 16 = x from by omega, show (16 * x + 4 * y + z) / 4 % 4 = y from by omega, show (16 * x + 4 * y + z) % 4 = z from by omega]
  have HT := Lib.hid hT
  clear hT
  have I0 := Lib.hid i0
  have I1 := Lib.hid i1
  have I2 := Lib.hid i2
  clear i0 i1 i2
  go_wp2_with fail
  go_loopw [46] (fun x wr => ∃ n : Nat, x = .int .i64 n ∧ n ≤ 4 ∧ BoxN wr O (spC (sprF F (16 * n))) 50 ∧ KX O wb wr ∧ Ext w wr) (fun x _ => 4 - (intOf x).toNat)
  case atStart => exact ⟨0, rfl, by omega, hOb, KX.refl _ _, hXb⟩
  case round =>
    obtain ⟨n, rfl, hn, hO1, hk1, hx1⟩ := hrel
    have hB1 := hBb.kx hk1 nOB
    have hC1 := hCb.kx hk1 nOC
    have hR1 := hRb.kx hk1 nOR
    by_cases hn4 : n < 4
    · have j0 := I0.out n hn4
      obtain ⟨q4, q5, q6, q7, _⟩ := BoxN.box4 hB1
      have lB := hB1.lt
      have hn4' : (n : Int) < 4 := by omega
      go_wp2_with fail
      refine (Corners_lit _ _ _ _ _ _ (Ext.refl _) P2.out).mono ?_
      rintro en w7 ⟨rfl, hY⟩
      have hP := BoxN.newE hY
      have hk7 := (KX.alloc hk1 _).ext hY
      have hx7 := (hx1.alloc _).trans hY
      have hO7 := hO1.ext (((Ext.refl _).alloc _).trans hY)
      have nPO : wr.heap.size ≠ O := Nat.ne_of_gt hO1.lt
      generalize wr.heap.size = P at hP nPO ⊢
      clear j0 q4 q5 q6 q7 lB hY hB1 hC1 hR1 hO1 hk1 hx1
      go_wp2_with fail
      go_loopw [51] (fun x wt => ∃ m : Nat, x = .int .i64 m ∧ m ≤ 4 ∧ BoxN wt O (spC (sprF F (16 * n + 4 * m))) 50 ∧ KX O w7 wt ∧ Ext w wt) (fun x _ => 4 - (intOf x).toNat)
      case atStart => exact ⟨0, rfl, by omega, hO7, KX.refl _ _, hx7⟩
      case round =>
        obtain ⟨m, rfl, hm, hO2, hk2, hx2⟩ := hrel
        by_cases hm4 : m < 4
        · have j1 := I1.out m hm4
          have hC2 := (hCb.kx hk7 nOC).kx hk2 nOC
          obtain ⟨q8, q9, qa, qb, _⟩ := BoxN.box4 hC2
          have lC := hC2.lt
          have hm4' : (m : Int) < 4 := by omega
          go_wp2_with fail
          refine (Corners_lit _ _ _ _ _ _ (Ext.refl _) P3.out).mono ?_
          rintro en w8 ⟨rfl, hY⟩
          have hQ := BoxN.newE hY
          have hk8 := (KX.alloc hk2 _).ext hY
          have hx8 := (hx2.alloc _).trans hY
          have hO8 := hO2.ext (((Ext.refl _).alloc _).trans hY)
          have hP8 := hP.kx hk8 nPO
          have nQO : wr.heap.size ≠ O := Nat.ne_of_gt hO2.lt
          generalize wr.heap.size = Q at hQ nQO ⊢
          clear j1 q8 q9 qa qb lC hY hC2 hO2 hk2 hx2
          go_wp2_with fail
          go_loopw [56] (fun x wu => ∃ k' : Nat, x = .int .i64 k' ∧ k' ≤ 4 ∧ BoxN wu O (spC (sprF F (16 * n + 4 * m + k'))) 50 ∧ KX O w8 wu ∧ Ext w wu) (fun x _ => 4 - (intOf x).toNat)
          case atStart => exact ⟨0, rfl, by omega, hO8, KX.refl _ _, hx8⟩
          case round =>
            obtain ⟨r, rfl, hr, hO3, hk3, hx3⟩ := hrel
            by_cases hr4 : r < 4
            · have j2 := I2.out r hr4
              have hr4' : (r : Int) < 4 := by omega
              obtain ⟨p0, p1, _⟩ := BoxN.box2 (hP8.kx hk3 nPO)
              obtain ⟨s0, s1, _⟩ := BoxN.box2 (hQ.kx hk3 nQO)
              have lP := (hP8.kx hk3 nPO).lt
              have lQ := (hQ.kx hk3 nQO).lt
              have lO := hO3.lt
              go_wp2_with fail
              refine (twice_any _ _ _ _ _ _ _ _ (Ext.refl _) (cnr_ok P1.out n).1 (cnr_ok P1.out n).2 (cnr_ok P2.out m).1 (cnr_ok P2.out m).2 (cnr_ok P3.out r).1 (cnr_ok P3.out r).2).mono ?_
              rintro en w9 ⟨rfl, hY⟩
              rw [HT.out n m r hn4 hm4 hr4]
              have hO9 := hO3.ext (((Ext.refl _).alloc _).trans hY)
              have hk9 := (KX.alloc hk3 _).ext hY
              have hx9 := (hx3.alloc _).trans hY
              obtain ⟨o0, o1, _⟩ := BoxN.box2 hO9
              clear hY j2 p0 p1 s0 s1 lP lQ lO hO3 hk3 hx3
              go_wp2_with fail
              refine (cover_any _ _ _ _ _ _ (Ext.refl _)).mono ?_
              rintro en wx ⟨rfl, hY⟩
              have hOx := hO9.ext hY
              have hkx := hk9.ext hY
              have hxx := hx9.trans hY
              obtain ⟨o0, o1, o2⟩ := BoxN.box2 hOx
              clear hY
              go_wp2_with fail
              exact ⟨⟨r + 1, by simp, by omega, (hOx.set 0 _).set 1 _, hkx.two _ _, ext_two hxx zO _ _⟩, by simp [intOf]; omega⟩
            · obtain rfl : r = 4 := by omega
              go_wp2_with fail
              exact ⟨⟨m + 1, by simp, by omega, hO3, hk8.trans hk3, hx3⟩, by simp [intOf]; omega⟩
        · obtain rfl : m = 4 := by omega
          go_wp2_with fail
          exact ⟨⟨n + 1, by simp, by omega, hO2, hk7.trans hk2, hx2⟩, by simp [intOf]; omega⟩
    · obtain rfl : n = 4 := by omega
      obtain ⟨n0, n1, n2⟩ := BoxN.box2 hR1
      obtain ⟨o0, o1, _⟩ := BoxN.box2 hO1
      go_wp2_with fail
      exact bodyPost_ret (v := spT (spreadR a b c d e f g h i j k l)) (by rw [HZ.out]; simp [results, Try.f50, go_sem, n0, n1]) rfl ⟨rfl, hW.trans (ext_two hx1 zR _ _)⟩
end Go.Proofs.Ytdbhbfmbpldmnaa
