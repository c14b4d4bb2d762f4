import Derived.Test.YtdbhbfmbpldmnaaD3
namespace Go.Proofs.Ytdbhbfmbpldmnaa
open Go.RowKit Go.Shelf
attribute [local go_sem] Oper.semAt_some
def twE (e : (Int × Int) × (Int × Int)) (px py : Int) : Int := twz e.1.1 e.1.2 e.2.1 e.2.2 px py
def windStep (px py : Int) (n : Int) (e : (Int × Int) × (Int × Int)) : Int :=
  if e.1.2 ≤ py ∧ py < e.2.2 ∧ 0 < twE e px py then n + 1 else if py < e.1.2 ∧ e.2.2 ≤ py ∧ twE e px py < 0 then n - 1 else n
def windF (l : List (Int × Int)) (px py : Int) (pre : List (Fin l.length)) : Int := pre.foldl (fun n i => windStep px py n (edge l i.1)) 0
theorem windF_snoc (l : List (Int × Int)) (px py : Int) (pre : List (Fin l.length)) (x : Fin l.length) : windF l px py (pre ++ [x]) = windStep px py (windF l px py pre) (edge l x.1) := by simp [windF]
theorem windF_bd (l : List (Int × Int)) (px py : Int) (pre : List (Fin l.length)) : -(pre.length : Int) ≤ windF l px py pre ∧ windF l px py pre ≤ pre.length := by
  have key : ∀ (pre : List (Fin l.length)) (a : Int), -(pre.length : Int) ≤ pre.foldl (fun n i => windStep px py n (edge l i.1)) a - a ∧ pre.foldl (fun n i => windStep px py n (edge l i.1)) a - a ≤ pre.length := by
    intro pre
    induction pre with
    | nil => intro a; simp
    | cons x pre ih =>
      intro a
      have := ih (windStep px py a (edge l x.1))
      have h2 : -1 ≤ windStep px py a (edge l x.1) - a ∧ windStep px py a (edge l x.1) - a ≤ 1 := by
        unfold windStep
        (repeat' split) <;> omega
      simp only [List.foldl_cons, List.length_cons]
      omega
  have := key pre 0
  unfold windF
  omega
def windZ (l : List (Int × Int)) (px py : Int) : Int := windF l px py (List.finRange l.length)
set_option maxRecDepth 100000 in
set_option maxHeartbeats 2000000 in
theorem winding_in (b off cap : Nat) (l : List (Int × Int)) (px py : Int) (w : World) (hl : l.length ≤ cap) (hm : cap ≤ maxLen) (h200 : l.length ≤ 200) (hok : l.all okp = true) (hp1 : okc px = true) (hp2 : okc py = true) (hb : b < w.heap.size)
    (hc : ∀ i, (h : i < l.length) → w.cell? ⟨b, off + i * 2, none⟩ = some (.int .i64 (l[i]).1) ∧ w.cell? ⟨b, off + i * 2 + 1, none⟩ = some (.int .i64 (l[i]).2)) :
    CallsIn Fence.wide 6 Try.prog 98 #[(.slice (some ⟨b, off, none⟩) l.length cap), .agg #[.int .i64 px, .int .i64 py]] w fun e w' => e = .returned (.int .i64 (windZ l px py)) ∧ Ext w w' := by
  refine callsIn_of_wp_marks Try.func98 rfl trivial ?_ rfl
  simp only [Try.ntmps98, List.size_toArray, List.length_cons, List.length_nil, Nat.reduceAdd, Nat.reduceSub, Array.replicate_succ, Array.replicate_zero, List.push_toArray, List.append_toArray, List.nil_append, List.cons_append]
  gi_wp2_with (refine ⟨trivial, ?_⟩; gi_at_call 131; refine (callsIn_wide.2 (edges_any _ _ _ _ _ rfl)).mono ?_; rintro e w' ⟨rfl, rfl⟩)
  have bP := ((BoxN.new w 23 #[.int .i64 px, .int .i64 py]).ext ((Ext.refl _).alloc (.cells #[.int .i64 0] 3))).ext ((Ext.refl _).alloc (.cells #[(.slice (some ⟨b, off, none⟩) l.length cap)] 39))
  have bN := (Boxed.new (w.alloc (.cells #[.int .i64 px, .int .i64 py] 23)) 3 (.int .i64 0)).alloc (.cells #[(.slice (some ⟨b, off, none⟩) l.length cap)] 39)
  have bL := Boxed.new ((w.alloc (.cells #[.int .i64 px, .int .i64 py] 23)).alloc (.cells #[.int .i64 0] 3)) 39 (.slice (some ⟨b, off, none⟩) l.length cap)
  simp only [World.size_alloc] at bL bN
  have hB0 : Ext w (((w.alloc (.cells #[.int .i64 px, .int .i64 py] 23)).alloc (.cells #[.int .i64 0] 3)).alloc (.cells #[(.slice (some ⟨b, off, none⟩) l.length cap)] 39)) := (((Ext.refl w).alloc _).alloc _).alloc _
  have hsz : (((w.alloc (.cells #[.int .i64 px, .int .i64 py] 23)).alloc (.cells #[.int .i64 0] 3)).alloc (.cells #[(.slice (some ⟨b, off, none⟩) l.length cap)] 39)).heap.size = w.heap.size + 3 := by simp
  obtain ⟨W0, hW0⟩ : ∃ W0, ((w.alloc (.cells #[.int .i64 px, .int .i64 py] 23)).alloc (.cells #[.int .i64 0] 3)).alloc (.cells #[(.slice (some ⟨b, off, none⟩) l.length cap)] 39) = W0 := ⟨_, rfl⟩
  rw [hW0] at bP bN bL hB0 hsz ⊢
  clear hW0
  refine wpIn_rangeFunc_ownH rfl (by omega) (gf := 138) (lb := #[.pointer (some ⟨w.heap.size + 1 + 1, 0, none⟩)]) rfl trivial (enters_of Try.func138 (by kernel_rfl) rfl)
    (edges_stops Fence.wide 5 trivial rfl (by omega) (w.heap.size + 1 + 1) w.heap.size b off cap l hl hm hb W0 (by omega) (by omega) bL.cell (fun i hi => ⟨hB0.cell (hc i hi).1, hB0.cell (hc i hi).2⟩))
    (fun h k => h.trans k) (fun W li o o' hli ho _ _ => KpE.putObj W li o o' (by omega) (by omega) ho) (Below.refl _ _) (fun _ => rfl)
    (fun pre W => (BoxN W w.heap.size #[.int .i64 px, .int .i64 py] 23 ∧ Boxed W (w.heap.size + 1) 3 (.int .i64 (windF l px py pre)) ∧ Boxed W (w.heap.size + 1 + 1) 39 (.slice (some ⟨b, off, none⟩) l.length cap)) ∧ Below w.heap.size w W)
    (fun _ _ _ => False)
    (fun pre A B row hs hg hr => ⟨⟨hs.1.1.own hg hr, Boxed.own hs.1.2.1 hg hr, Boxed.own hs.1.2.2 hg hr⟩, below_own (by omega) hs.2 hg hr⟩)
    (fun _ _ _ _ _ hs _ _ => hs)
    ⟨⟨bP, bN, bL⟩, hB0⟩
    (fun x a' W => ∃ Bx, w.heap.size + 1 + 1 < Bx ∧ BoxN W Bx (segV (edge l x.1)) 34 ∧ a' = { tmps := #[(.slice (some ⟨b, off, none⟩) l.length cap), .agg #[.int .i64 px, .int .i64 py], undef, .pointer (some ⟨w.heap.size, 0, none⟩), .int .i64 0, .pointer (some ⟨w.heap.size + 1, 0, none⟩), undef, .pointer (some ⟨Bx, 0, none⟩), undef, (.slice (some ⟨b, off, none⟩) l.length cap), .func (.func 138) #[] #[.pointer (some ⟨w.heap.size + 1 + 1, 0, none⟩)], .int .i64 x.1, .agg (segV (edge l x.1)), undef, undef, undef, undef, undef, undef, undef, undef, undef, undef, undef, undef, undef, undef, undef, undef, undef, undef, undef, undef, undef, undef, undef, undef, undef, undef, undef, undef, undef, undef, undef, undef, undef, undef, undef, undef, undef, undef, undef, undef, undef, undef, undef, undef, undef, undef, undef], defers := [] })
    (fun x a' _ X Y row hs hg hr => by obtain ⟨Bx, h1, h2, h3⟩ := hs; exact ⟨Bx, h1, h2.own hg hr, h3⟩)
    ?assign ?body ?done ?stop
  case assign =>
    rintro li pre x W K ⟨⟨bP1, bN1, bL1⟩, hB1⟩ hK
    dsimp only [encE]
    gi_wp2
    exact hK _ _ (keepsFrom_ext ((Ext.refl W).alloc _)) (KpE.ofExt ((Ext.refl W).alloc _) hB1.size) ⟨⟨bP1.ext ((Ext.refl W).alloc _), bN1.alloc _, bL1.alloc _⟩, Ext.alloc hB1 _⟩ ⟨W.heap.size, bL1.lt, BoxN.new W 34 _, rfl⟩
  case body =>
    rintro li pre x a' W hli ⟨r, hr⟩ ⟨⟨bP1, bN1, bL1⟩, hB1⟩ ⟨Bx, hBx, bX, rfl⟩ hlt
    have p0 := bP1.cell 0
    have p1 := bP1.cell 1
    have x0 := bX.cell 0
    have x1 := bX.cell 1
    have x2 := bX.cell 2
    have x3 := bX.cell 3
    simp only [segV, List.getElem?_toArray, List.getElem?_cons_zero, List.getElem?_cons_succ] at x0 x1 x2 x3 p0 p1
    obtain ⟨⟨a1, a2⟩, a3, a4⟩ := edge_ok hok x.2
    have hbd := windF_bd l px py pre
    have hbd1 : -200 ≤ windF l px py pre := by omega
    have hbd2 : windF l px py pre ≤ 200 := by omega
    clear hbd
    have HS := Lib.hid (windF_snoc l px py pre x)
    gi_wp2_with (refine ⟨trivial, ?_⟩; gi_at_call 80; refine (CallsIn.inRound li (callsIn_wide.2 (twice_any W _ _ _ _ _ _ _ (Ext.refl _) a1 a2 a3 a4 hp1 hp2))).mono ?_; rintro e w' ⟨rfl, hX1⟩; have cN := (Boxed.ext bN1 hX1).cell; have fN := (Boxed.ext bN1 hX1).frozen; have q1 := hX1.cell p1; have y1 := hX1.cell x1; have y3 := hX1.cell x3)
    all_goals
      first
      | (refine ⟨keepsFrom_ext hX1, KpE.ofExt hX1 hB1.size, ⟨bP1.ext hX1, ?_, Boxed.ext bL1 hX1⟩, Ext.trans hB1 hX1⟩
         have e1 : windF l px py (pre ++ [x]) = windF l px py pre := by rw [HS.out, windStep, twE]; (repeat' split) <;> omega
         rw [e1]
         exact Boxed.ext bN1 hX1)
      | (refine ⟨(keepsFrom_ext hX1).trans ((KeepsOthers.setCell _ _ _).from _), (KpE.ofExt (Bs := w.heap.size + 1 + 1) hX1 hB1.size).setCell (p := ⟨w.heap.size + 1, 0, none⟩) (by simp) (by simp) _, ⟨(bP1.ext hX1).kept (grownBy_setCell' _ _ _) (by simp), ?_, (Boxed.ext bL1 hX1).other (by simp) _⟩, (Ext.trans hB1 hX1).setCell (p := ⟨w.heap.size + 1, 0, none⟩) (by simp) _⟩
         first
         | (have e1 : windF l px py (pre ++ [x]) = windF l px py pre + 1 := by rw [HS.out, windStep, twE]; (repeat' split) <;> omega
            rw [e1]
            exact (Boxed.ext bN1 hX1).set _)
         | (have e1 : windF l px py (pre ++ [x]) = windF l px py pre - 1 := by rw [HS.out, windStep, twE]; (repeat' split) <;> omega
            rw [e1]
            exact (Boxed.ext bN1 hX1).set _))
  case done =>
    rintro D zs W hD rfl ⟨⟨bP1, bN1, bL1⟩, hB1⟩ hK
    have cN := bN1.cell
    gi_wp2
    refine ⟨by simp, .inl ⟨_, _, rfl, run_takeDeferred hK, ?_⟩⟩
    exact ⟨_, results_tmp rfl _ _ _, by rw [edgesOf_all]; rfl, hB1.trans (belowK_b (w := w) (Nat.le_refl _) W D _ _ (by omega) hK rfl rfl)⟩
  case stop =>
    rintro D c pre W _ _ h _
    exact h.elim
theorem winding_any (W : World) (v : Value) (l : List (Int × Int)) (px py : Int) (w : World) (hX : Ext W w) (hv : Pts w v l) (h3 : 3 ≤ l.length) (h200 : l.length ≤ 200) (hok : l.all okp = true) (hp1 : okc px = true) (hp2 : okc py = true) :
    Calls Try.prog 98 #[v, .agg #[.int .i64 px, .int .i64 py]] w fun e w' => e = .returned (.int .i64 (windZ l px py)) ∧ Ext W w' := by
  obtain ⟨a, cap, rfl, hl, hm, hc⟩ := hv
  obtain ⟨b, off, e, hcc⟩ := hc.resolve_left (fun h => by simp [h] at h3)
  cases e
  have hb : b < w.heap.size := lt_of_cell (hcc 0 (by omega)).1
  exact (callsIn_wide.1 (winding_in b off cap l px py w hl hm h200 hok hp1 hp2 hb hcc)).mono fun e w' ⟨he, hx⟩ => ⟨he, hX.trans hx⟩
end Go.Proofs.Ytdbhbfmbpldmnaa
