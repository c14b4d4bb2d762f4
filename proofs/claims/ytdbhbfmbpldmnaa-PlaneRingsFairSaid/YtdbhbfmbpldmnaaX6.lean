/- Contract of Dists. -/
import Derived.Test.YtdbhbfmbpldmnaaX5
import Derived.Deep.DeepCutAuto
namespace Go.Proofs.Ytdbhbfmbpldmnaa
open Go.RowKit
def apLo (a b c d : Int) : Int := max 0 (max (a - d) (c - b))
def apHi (a b c d : Int) : Int := max (b - c) (d - a)
def distsR (a b c d e f g h : Int) : (Int × Int) × Bool :=
  if (boxB a b c d && boxB e f g h) = true then ((apLo a b e f * apLo a b e f + apLo c d g h * apLo c d g h, apHi a b e f * apHi a b e f + apHi c d g h * apHi c d g h), true) else ((0, 0), false)
abbrev spT (r : (Int × Int) × Bool) : Value := .tuple #[spV r.1.1 r.1.2, .bool r.2]
theorem ap_bd {a b c d : Int} (ha : okc a = true) (hb : okc b = true) (hc : okc c = true) (hd : okc d = true) (h1 : a ≤ b) (h2 : c ≤ d) : (0 ≤ apLo a b c d ∧ apLo a b c d ≤ 2097152) ∧ 0 ≤ apHi a b c d ∧ apHi a b c d ≤ 2097152 := by
  rw [okc_iff] at ha hb hc hd
  unfold apLo apHi
  omega
theorem sq_bd2 {x : Int} (h0 : 0 ≤ x) (h1 : x ≤ 2097152) : 0 ≤ x * x ∧ x * x ≤ 4398046511104 := by
  constructor
  · exact Int.mul_nonneg h0 h0
  · exact Int.le_trans (Int.mul_le_mul h1 h1 h0 (by omega)) (by omega)
def Sp2 (w : World) (M : Nat) (a b : Int) : Prop := w.cell? ⟨M, 0, none⟩ = some (.int .i64 a) ∧ w.cell? ⟨M, 1, none⟩ = some (.int .i64 b)
theorem Sp2.alloc {w : World} {M : Nat} {a b : Int} (h : Sp2 w M a b) (o : Obj) : Sp2 (w.alloc o) M a b := ⟨((Ext.refl w).alloc o).cell h.1, ((Ext.refl w).alloc o).cell h.2⟩
theorem Sp2.other {w : World} {M : Nat} {a b : Int} (h : Sp2 w M a b) {O : Nat} (i : Nat) (u : Value) (hne : O ≠ M) : Sp2 (w.setCell ⟨O, i, none⟩ u) M a b :=
  ⟨(World.cell?_setCell_other _ _ _ _ (by intro e; simp only [Addr.mk.injEq] at e; exact hne e.1)).trans h.1, (World.cell?_setCell_other _ _ _ _ (by intro e; simp only [Addr.mk.injEq] at e; exact hne e.1)).trans h.2⟩
theorem sp_new (w : World) (a b : Int) (T : Nat) : Sp2 (w.alloc (.cells #[.int .i64 a, .int .i64 b] T)) w.heap.size a b := ⟨(BoxN.new w T _).cell 0, (BoxN.new w T _).cell 1⟩
theorem sp_new1 (w : World) (a b : Int) (T : Nat) (o : Obj) : Sp2 ((w.alloc o).alloc (.cells #[.int .i64 a, .int .i64 b] T)) (w.heap.size + 1) a b := by
  have := sp_new (w.alloc o) a b T
  rwa [World.size_alloc] at this
theorem sp_newS (w : World) (a b : Int) (T : Nat) (p q : Addr) (u v : Value) : Sp2 (((w.setCell p u).setCell q v).alloc (.cells #[.int .i64 a, .int .i64 b] T)) w.heap.size a b := by
  have := sp_new ((w.setCell p u).setCell q v) a b T
  rwa [World.size_setCell, World.size_setCell] at this
theorem sp_set {w : World} {M : Nat} {a b : Int} {u v : Value} {T : TypeId} (h : BoxN w M #[u, v] T) : Sp2 ((w.setCell ⟨M, 0, none⟩ (.int .i64 a)).setCell ⟨M, 1, none⟩ (.int .i64 b)) M a b :=
  have k := (h.set 0 (.int .i64 a)).set 1 (.int .i64 b)
  ⟨k.cell 0, k.cell 1⟩
theorem sp_set2 {w : World} {M O : Nat} {a b : Int} {u v c d : Value} {T : TypeId} (h : BoxN w M #[u, v] T) (hne : M ≠ O) : Sp2 ((((w.setCell ⟨O, 0, none⟩ c).setCell ⟨O, 1, none⟩ d).setCell ⟨M, 0, none⟩ (.int .i64 a)).setCell ⟨M, 1, none⟩ (.int .i64 b)) M a b :=
  sp_set ((h.other ⟨O, 0, none⟩ c hne).other ⟨O, 1, none⟩ d hne)
theorem size_lt_alloc {X w' : World} {o o' : Obj} (_ : Ext ((X.alloc o).alloc o') w') : X.heap.size < (X.alloc o).heap.size := by simp
set_option maxRecDepth 100000 in
set_option maxHeartbeats 64000000 in
theorem Dists_any (W : World) (a b c d e f g h : Int) (w : World) (hX : Ext W w) :
    Calls Try.prog 52 #[bxV a b c d, bxV e f g h] w fun en w' => en = .returned (spT (distsR a b c d e f g h)) ∧ Ext W w' := by
  obtain ⟨p1, hp1⟩ : ∃ p, boxB a b c d = p := ⟨_, rfl⟩
  obtain ⟨p2, hp2⟩ : ∃ p, boxB e f g h = p := ⟨_, rfl⟩
  have HZ : Hid (distsR a b c d e f g h = if (p1 && p2) = true then ((apLo a b e f * apLo a b e f + apLo c d g h * apLo c d g h, apHi a b e f * apHi a b e f + apHi c d g h * apHi c d g h), true) else ((0, 0), false)) := by unfold Hid distsR; rw [hp1, hp2]
  have P1 := Lib.hid hp1
  have P2 := Lib.hid hp2
  clear hp1 hp2
  go_enter Try.func52, Try.ntmps52
  go_wp2_with fail
  have hA := (((BoxN.new w 52 (bxC a b c d)).ext ((Ext.refl _).alloc (bxO e f g h)))).ext ((Ext.refl _).alloc (.cells #[.int .i64 0, .int .i64 0] 50))
  have hB := (BoxN.new (w.alloc (bxO a b c d)) 52 (bxC e f g h)).ext ((Ext.refl _).alloc (.cells #[.int .i64 0, .int .i64 0] 50))
  have hR := BoxN.new ((w.alloc (bxO a b c d)).alloc (bxO e f g h)) 50 #[.int .i64 0, .int .i64 0]
  have hX2 := (((Ext.refl w).alloc (bxO a b c d)).alloc (bxO e f g h)).alloc (.cells #[.int .i64 0, .int .i64 0] 50)
  rw [World.size_alloc] at hB
  rw [World.size_alloc, World.size_alloc] at hR
  have zR : w.heap.size ≤ w.heap.size + 1 + 1 := by omega
  have nAR : w.heap.size ≠ w.heap.size + 1 + 1 := by omega
  have nBR : w.heap.size + 1 ≠ w.heap.size + 1 + 1 := by omega
  obtain ⟨w3, hw3⟩ : ∃ w3, ((w.alloc (bxO a b c d)).alloc (bxO e f g h)).alloc (.cells #[.int .i64 0, .int .i64 0] 50) = w3 := ⟨_, rfl⟩
  change BoxN (((w.alloc (bxO a b c d)).alloc (bxO e f g h)).alloc (.cells #[.int .i64 0, .int .i64 0] 50)) _ _ _ at hR
  rw [hw3] at hA hB hR hX2 ⊢
  clear hw3
  have hW := hX
  generalize hRR : w.heap.size + 1 + 1 = R at hR zR nAR nBR ⊢
  generalize hBB : w.heap.size + 1 = B at hB nBR ⊢
  generalize hAA : w.heap.size = A at hA nAR ⊢
  clear hRR hBB
  have hK : ∀ w', Ext w3 w' → Ext w3 w' ∧ Bx w' A a b c d ∧ Bx w' B e f g h := fun w' x => ⟨x, BoxN.bx (hA.ext x), BoxN.bx (hB.ext x)⟩
  have HK := Lib.hid hK
  clear hK
  obtain ⟨_, ⟨q0, q1, q2, q3⟩, q4, q5, q6, q7⟩ := HK.out _ (Ext.refl _)
  obtain ⟨n0, n1, n2⟩ := BoxN.box2 hR
  have hX7 := Ext.refl w3
  cases p1 <;> cases p2
  all_goals
    go_wp2_with (first | (go_at_call 64; refine (Proper_any _ _ _ _ _ _ (Ext.refl _)).mono ?_; rintro en w' ⟨rfl, hY⟩; have hX7 := hX7.trans hY; obtain ⟨_, ⟨q0, q1, q2, q3⟩, q4, q5, q6, q7⟩ := HK.out _ hX7; obtain ⟨n0, n1, n2⟩ := BoxN.box2 (hR.ext hX7); (first | rw [P1.out] | rw [P2.out])))
  all_goals (try exact bodyPost_ret (v := spT (distsR a b c d e f g h)) (by rw [HZ.out]; simp [results, Try.f52, go_sem, n0, n1]) rfl ⟨rfl, hW.trans (ext_two (hX2.trans hX7) zR _ _)⟩)
  obtain ⟨⟨⟨k1, k2⟩, k3⟩, ⟨k4, k5⟩, k6⟩ := boxB_ok P1.out
  obtain ⟨⟨⟨l1, l2⟩, l3⟩, ⟨l4, l5⟩, l6⟩ := boxB_ok P2.out
  have oa := (okc_iff a).2 (by omega)
  have ob := (okc_iff b).2 (by omega)
  have oc := (okc_iff c).2 (by omega)
  have od := (okc_iff d).2 (by omega)
  have oe := (okc_iff e).2 (by omega)
  have of := (okc_iff f).2 (by omega)
  have og := (okc_iff g).2 (by omega)
  have oh := (okc_iff h).2 (by omega)
  obtain ⟨⟨x1, x2⟩, x3, x4⟩ := ap_bd oa ob oe of (by omega) (by omega)
  obtain ⟨⟨y1, y2⟩, y3, y4⟩ := ap_bd oc od og oh (by omega) (by omega)
  obtain ⟨xl, hxl⟩ : ∃ v, apLo a b e f = v := ⟨_, rfl⟩
  obtain ⟨xh, hxh⟩ : ∃ v, apHi a b e f = v := ⟨_, rfl⟩
  obtain ⟨yl, hyl⟩ : ∃ v, apLo c d g h = v := ⟨_, rfl⟩
  obtain ⟨yh, hyh⟩ : ∃ v, apHi c d g h = v := ⟨_, rfl⟩
  rw [hxl] at x1 x2
  rw [hxh] at x3 x4
  rw [hyl] at y1 y2
  rw [hyh] at y3 y4
  have hV : Hid (spV (max 0 (max (a - f) (e - b))) (max (b - e) (f - a)) = spV xl xh) := by unfold Hid; rw [← hxl, ← hxh]; rfl
  have hV2 : Hid (spV (max 0 (max (c - h) (g - d))) (max (d - g) (h - c)) = spV yl yh) := by unfold Hid; rw [← hyl, ← hyh]; rfl
  rw [hxl, hxh, hyl, hyh] at HZ
  clear hxl hxh hyl hyh
  go_cut [6, 7] (fun v u wx => ∃ M N, v = .pointer (some ⟨M, 0, none⟩) ∧ u = .pointer (some ⟨N, 0, none⟩) ∧ Sp2 wx M xl xh ∧ Sp2 wx N yl yh ∧ Ext w3 wx)
  case first =>
    have hK2 : ∀ w', Ext w3 w' → Ext w3 w' ∧ A < w'.heap.size ∧ B < w'.heap.size ∧ (w'.cell? ⟨A, 0, none⟩ = some (.int .i64 a) ∧ w'.cell? ⟨A, 1, none⟩ = some (.int .i64 b) ∧ w'.cell? ⟨A, 2, none⟩ = some (.int .i64 c) ∧ w'.cell? ⟨A, 3, none⟩ = some (.int .i64 d)) ∧ w'.cell? ⟨B, 0, none⟩ = some (.int .i64 e) ∧ w'.cell? ⟨B, 1, none⟩ = some (.int .i64 f) ∧ w'.cell? ⟨B, 2, none⟩ = some (.int .i64 g) ∧ w'.cell? ⟨B, 3, none⟩ = some (.int .i64 h) := fun w' x => ⟨x, (hA.ext x).lt, (hB.ext x).lt, BoxN.bx (hA.ext x), BoxN.bx (hB.ext x)⟩
    have HK2 := Lib.hid hK2
    clear hK2
    have hM := hR.ext hX7
    have hN := hR.ext hX7
    go_region_held3 (fun w' => Ext w3 w' ∧ A < w'.heap.size ∧ B < w'.heap.size ∧ (w'.cell? ⟨A, 0, none⟩ = some (.int .i64 a) ∧ w'.cell? ⟨A, 1, none⟩ = some (.int .i64 b) ∧ w'.cell? ⟨A, 2, none⟩ = some (.int .i64 c) ∧ w'.cell? ⟨A, 3, none⟩ = some (.int .i64 d)) ∧ w'.cell? ⟨B, 0, none⟩ = some (.int .i64 e) ∧ w'.cell? ⟨B, 1, none⟩ = some (.int .i64 f) ∧ w'.cell? ⟨B, 2, none⟩ = some (.int .i64 g) ∧ w'.cell? ⟨B, 3, none⟩ = some (.int .i64 h)) (first | exact HK2.out _ (by assumption) | (refine HK2.out _ ?_; repeat (first | assumption | refine Ext.drew ?_ | refine Ext.alloc ?_ _ | refine Ext.setCell ?_ ?_ _ | exact Ext.le (by assumption) | exact Nat.le_trans (Ext.le (by assumption)) (Nat.le_succ _))))
      ((go_at_call 116; refine (apart_any _ _ _ _ _ _ (Ext.refl _) (by assumption) (by assumption) (by assumption) (by assumption)).mono ?_; rintro en w' ⟨rfl, hY⟩; (first | have hY := Ext.undrew hY | skip); (first | rw [hV.out] | rw [hV2.out]); have hX7 : Ext w3 w' := (by first | exact Ext.trans hX7 hY | exact Ext.trans (Ext.alloc hX7 _) hY | exact Ext.trans (Ext.alloc (Ext.alloc hX7 _) _) hY); (first | (have hM := BoxN.newE (Ext.trans ((Ext.refl _).alloc _) hY); have hN := BoxN.newE hY; have hMN := size_lt_alloc hY; rw [World.size_alloc] at hN hMN; have nMN := Nat.ne_of_lt hMN; have nNM := Nat.ne_of_gt hMN) | (have hQ := BoxN.newE hY; have hMN := BoxN.lt hN; have nMN := Nat.ne_of_lt hMN; have nNM := Nat.ne_of_gt hMN; have hM := BoxN.ext hN (Ext.trans ((Ext.refl _).alloc _) hY); have hN := hQ) | (have hM := BoxN.ext hM hY; have hN := BoxN.ext hN hY)); have lM := BoxN.lt hM; have lN := BoxN.lt hN; obtain ⟨m0, m1, m2⟩ := BoxN.box2 hM; obtain ⟨r0, r1, r2⟩ := BoxN.box2 hN))
    all_goals (try go_wp2_with fail)
    all_goals go_meet
    all_goals refine ⟨_, _, rfl, rfl, ?_, ?_, ?_⟩
    all_goals first
    | with_reducible exact sp_new _ _ _ _
    | with_reducible exact sp_new1 _ _ _ _ _
    | with_reducible exact (sp_new _ _ _ _).alloc _
    | with_reducible exact sp_newS _ _ _ _ _ _ _ _
    | with_reducible exact (sp_set (by assumption)).alloc _
    | with_reducible exact sp_set2 (by assumption) (by assumption)
    | with_reducible exact ((sp_set (by assumption)).other _ _ (by assumption)).other _ _ (by assumption)
    | with_reducible exact Ext.alloc (Ext.alloc (by assumption) _) _
    | with_reducible exact Ext.alloc (ext_two (by assumption) (Ext.le (by assumption)) _ _) _
    | with_reducible exact ext_two (ext_two (by assumption) (Ext.le (by assumption)) _ _) (Ext.le (by assumption)) _ _
    | with_reducible exact ext_two (ext_two (by assumption) (Ext.le (by assumption)) _ _) (Nat.le_trans (Ext.le (by assumption)) (Nat.le_succ _)) _ _
    | with_reducible exact ext_two (ext_two (by assumption) (Nat.le_trans (Ext.le (by assumption)) (Nat.le_succ _)) _ _) (Ext.le (by assumption)) _ _
    | exact ext_two (ext_two (by assumption) (Ext.le (by assumption)) _ _) (Nat.le_trans (Ext.le (by assumption)) (Nat.le_succ _)) _ _
    | exact ext_two (ext_two (by assumption) (Nat.le_trans (Ext.le (by assumption)) (Nat.le_succ _)) _ _) (Ext.le (by assumption)) _ _
  case rest =>
  obtain ⟨M, N, rfl, rfl, ⟨m0, m1⟩, ⟨r0, r1⟩, hX8⟩ := hcut
  obtain ⟨n0, n1, n2⟩ := BoxN.box2 (hR.ext hX8)
  have lM := lt_of_cell m0
  have lN := lt_of_cell r0
  simp only at lM lN
  obtain ⟨s1, s2⟩ := sq_bd2 x1 x2
  obtain ⟨s3, s4⟩ := sq_bd2 x3 x4
  obtain ⟨s5, s6⟩ := sq_bd2 y1 y2
  obtain ⟨s7, s8⟩ := sq_bd2 y3 y4
  go_wp2_with fail
  exact bodyPost_ret (v := spT (distsR a b c d e f g h)) (by rw [HZ.out]; simp [results, Try.f52, go_sem, n0, n1]) rfl ⟨rfl, hW.trans (ext_two (hX2.trans hX8) zR _ _)⟩
end Go.Proofs.Ytdbhbfmbpldmnaa
