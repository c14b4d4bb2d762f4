import Derived.Test.YtdbhbfmbpldmnaaD2
namespace Go.Proofs.Ytdbhbfmbpldmnaa
open Go.RowKit Go.Shelf
attribute [local go_sem] Oper.semAt_some
def onE (e : (Int × Int) × (Int × Int)) (px py : Int) : Bool := onB e.1.1 e.1.2 e.2.1 e.2.2 px py
def borderB (l : List (Int × Int)) (px py : Int) : Bool := (List.finRange l.length).any fun i => onE (edge l i.1) px py
def noneOn (l : List (Int × Int)) (px py : Int) (pre : List (Fin l.length)) : Prop := ∀ i ∈ pre, onE (edge l i.1) px py = false
set_option maxRecDepth 100000 in
set_option maxHeartbeats 2000000 in
theorem border_in (b off cap : Nat) (l : List (Int × Int)) (px py : Int) (w : World) (hl : l.length ≤ cap) (hm : cap ≤ maxLen) (hok : l.all okp = true) (hp1 : okc px = true) (hp2 : okc py = true) (hb : b < w.heap.size)
    (hc : ∀ i, (h : i < l.length) → w.cell? ⟨b, off + i * 2, none⟩ = some (.int .i64 (l[i]).1) ∧ w.cell? ⟨b, off + i * 2 + 1, none⟩ = some (.int .i64 (l[i]).2)) :
    CallsIn Fence.wide 6 Try.prog 97 #[.slice (some ⟨b, off, none⟩) l.length cap, .agg #[.int .i64 px, .int .i64 py]] w fun e w' => e = .returned (.bool (borderB l px py)) ∧ Ext w w' := by
  refine callsIn_of_wp_marks Try.func97 rfl trivial ?_ rfl
  simp only [Try.ntmps97, List.size_toArray, List.length_cons, List.length_nil, Nat.reduceAdd, Nat.reduceSub, Array.replicate_succ, Array.replicate_zero, List.push_toArray, List.append_toArray, List.nil_append, List.cons_append]
  gi_wp2_with (refine ⟨trivial, ?_⟩; gi_at_call 131; refine (callsIn_wide.2 (edges_any _ _ _ _ _ rfl)).mono ?_; rintro e w' ⟨rfl, rfl⟩)
  have bP := ((BoxN.new w 23 #[.int .i64 px, .int .i64 py]).ext ((Ext.refl _).alloc (.cells #[.bool false] 4))).ext ((Ext.refl _).alloc (.cells #[(.slice (some ⟨b, off, none⟩) l.length cap)] 39))
  have bR := (Boxed.new (w.alloc (.cells #[.int .i64 px, .int .i64 py] 23)) 4 (.bool false)).alloc (.cells #[(.slice (some ⟨b, off, none⟩) l.length cap)] 39)
  have bL := Boxed.new ((w.alloc (.cells #[.int .i64 px, .int .i64 py] 23)).alloc (.cells #[.bool false] 4)) 39 (.slice (some ⟨b, off, none⟩) l.length cap)
  simp only [World.size_alloc] at bL bR
  have hB0 : Ext w (((w.alloc (.cells #[.int .i64 px, .int .i64 py] 23)).alloc (.cells #[.bool false] 4)).alloc (.cells #[(.slice (some ⟨b, off, none⟩) l.length cap)] 39)) := (((Ext.refl w).alloc _).alloc _).alloc _
  have hsz : (((w.alloc (.cells #[.int .i64 px, .int .i64 py] 23)).alloc (.cells #[.bool false] 4)).alloc (.cells #[(.slice (some ⟨b, off, none⟩) l.length cap)] 39)).heap.size = w.heap.size + 3 := by simp
  obtain ⟨W0, hW0⟩ : ∃ W0, ((w.alloc (.cells #[.int .i64 px, .int .i64 py] 23)).alloc (.cells #[.bool false] 4)).alloc (.cells #[(.slice (some ⟨b, off, none⟩) l.length cap)] 39) = W0 := ⟨_, rfl⟩
  rw [hW0] at bP bR bL hB0 hsz ⊢
  clear hW0
  refine wpIn_rangeFunc_ownH rfl (by omega) (gf := 138) (lb := #[.pointer (some ⟨w.heap.size + 1 + 1, 0, none⟩)]) rfl trivial (enters_of Try.func138 (by kernel_rfl) rfl)
    (edges_stops Fence.wide 5 trivial rfl (by omega) (w.heap.size + 1 + 1) w.heap.size b off cap l hl hm hb W0 (by omega) (by omega) bL.cell (fun i hi => ⟨hB0.cell (hc i hi).1, hB0.cell (hc i hi).2⟩))
    (fun h k => h.trans k) (fun W li o o' hli ho _ _ => KpE.putObj W li o o' (by omega) (by omega) ho) (Below.refl _ _) (fun _ => rfl)
    (fun pre W => (noneOn l px py pre ∧ BoxN W w.heap.size #[.int .i64 px, .int .i64 py] 23 ∧ Boxed W (w.heap.size + 1) 4 (.bool false) ∧ Boxed W (w.heap.size + 1 + 1) 39 (.slice (some ⟨b, off, none⟩) l.length cap)) ∧ Below w.heap.size w W)
    (fun c pre W => (c = .ret ∧ (∃ i ∈ pre, onE (edge l i.1) px py = true) ∧ Boxed W (w.heap.size + 1) 4 (.bool true)) ∧ Below w.heap.size w W)
    (fun pre A B row hs hg hr => ⟨⟨hs.1.1, hs.1.2.1.own hg hr, Boxed.own hs.1.2.2.1 hg hr, Boxed.own hs.1.2.2.2 hg hr⟩, below_own (by omega) hs.2 hg hr⟩)
    (fun c pre A B row hs hg hr => ⟨⟨hs.1.1, hs.1.2.1, Boxed.own hs.1.2.2 hg hr⟩, below_own (by omega) hs.2 hg hr⟩)
    ⟨⟨fun i hi => by simp at hi, bP, bR, bL⟩, hB0⟩
    (fun x a' W => ∃ Bx, w.heap.size + 1 + 1 < Bx ∧ BoxN W Bx (segV (edge l x.1)) 34 ∧ a' = { tmps := #[(.slice (some ⟨b, off, none⟩) l.length cap), .agg #[.int .i64 px, .int .i64 py], undef, .pointer (some ⟨w.heap.size, 0, none⟩), .pointer (some ⟨w.heap.size + 1, 0, none⟩), undef, .pointer (some ⟨Bx, 0, none⟩), (.slice (some ⟨b, off, none⟩) l.length cap), .func (.func 138) #[] #[.pointer (some ⟨w.heap.size + 1 + 1, 0, none⟩)], .int .i64 x.1, .agg (segV (edge l x.1)), undef, undef, undef, undef, undef, undef], defers := [] })
    (fun x a' _ X Y row hs hg hr => by obtain ⟨Bx, h1, h2, h3⟩ := hs; exact ⟨Bx, h1, boxN_own Bx 34 (fun (_ : Unit) => segV (edge l x.1)) () X Y row h2 hg (fun r e => (hr r e).2), h3⟩)
    ?assign ?body ?done ?stop
  case assign =>
    rintro li pre x W K ⟨⟨hN, bP1, bR1, bL1⟩, hB1⟩ hK
    dsimp only [encE]
    gi_wp2
    exact hK _ _ (keepsFrom_ext ((Ext.refl W).alloc _)) (KpE.ofExt ((Ext.refl W).alloc _) hB1.size) ⟨⟨hN, bP1.ext ((Ext.refl W).alloc _), bR1.alloc _, bL1.alloc _⟩, Ext.alloc hB1 _⟩ ⟨W.heap.size, bL1.lt, BoxN.new W 34 _, rfl⟩
  case body =>
    rintro li pre x a' W hli ⟨r, hr⟩ ⟨⟨hN, bP1, bR1, bL1⟩, hB1⟩ ⟨Bx, hBx, bX, rfl⟩ hlt
    have p0 := bP1.cell 0
    have p1 := bP1.cell 1
    have x0 := bX.cell 0
    have x1 := bX.cell 1
    have x2 := bX.cell 2
    have x3 := bX.cell 3
    simp only [segV, List.getElem?_toArray, List.getElem?_cons_zero, List.getElem?_cons_succ] at x0 x1 x2 x3 p0 p1
    obtain ⟨⟨a1, a2⟩, a3, a4⟩ := edge_ok hok x.2
    gi_wp2_with (refine ⟨trivial, ?_⟩; gi_at_call 88; refine (CallsIn.inRound li (callsIn_wide.2 (on_any W _ _ _ _ _ _ _ (Ext.refl _) a1 a2 a3 a4 hp1 hp2))).mono ?_; rintro e w' ⟨rfl, hX1⟩; have cR := (Boxed.ext bR1 hX1).cell; have fR := (Boxed.ext bR1 hX1).frozen)
    · have hon : onB (edge l x.1).1.1 (edge l x.1).1.2 (edge l x.1).2.1 (edge l x.1).2.2 px py = true := by assumption
      refine ⟨(keepsFrom_ext hX1).trans ((KeepsOthers.setCell _ _ _).from _), ⟨rfl, ⟨x, by simp, hon⟩, (Boxed.ext bR1 hX1).set _⟩, ?_⟩
      exact (Ext.trans hB1 hX1).setCell (p := ⟨w.heap.size + 1, 0, none⟩) (by simp) _
    · have hon : onB (edge l x.1).1.1 (edge l x.1).1.2 (edge l x.1).2.1 (edge l x.1).2.2 px py = false := by assumption
      refine ⟨keepsFrom_ext hX1, KpE.ofExt hX1 hB1.size, ⟨?_, bP1.ext hX1, Boxed.ext bR1 hX1, Boxed.ext bL1 hX1⟩, Ext.trans hB1 hX1⟩
      intro i hi
      rcases List.mem_append.1 hi with hi | hi
      · exact hN i hi
      · simp at hi
        subst hi
        simpa [onE] using hon
  case done =>
    rintro D zs W hD rfl ⟨⟨hN, bP1, bR1, bL1⟩, hB1⟩ hK
    have cR := bR1.cell
    have fR := bR1.frozen
    gi_wp2
    have hK' := (KeepsOthers.setCell W ⟨w.heap.size + 1, 0, none⟩ (.bool false)).same D _ hK rfl
    refine ⟨by simp, .inl ⟨_, _, rfl, run_takeDeferred hK', ?_⟩⟩
    have hc5 := cell_kept (World.cell?_setCell_same' W ⟨w.heap.size + 1, 0, none⟩ (.bool false) (by rw [cR]; rfl)) (grownBy_putObj' _ D (.deferred none)) (fun r e => by cases e; exact ⟨_, hK', rfl⟩)
    refine ⟨.bool false, ?_, ?_, (hB1.setCell (p := ⟨w.heap.size + 1, 0, none⟩) (by simp) _).trans (belowK_b (w := w) (Nat.le_refl _) _ D _ _ (by omega) hK' rfl rfl)⟩
    · simp [results, Try.f97, go_sem, hc5]
    · refine ret_bool ?_
      unfold borderB
      symm
      rw [List.any_eq_false]
      intro i hi
      rw [hN i (by rw [edgesOf_all]; exact hi)]
      simp
  case stop =>
    rintro D c pre W hD ⟨k, hk, rfl⟩ ⟨⟨rfl, ⟨i, _, hi⟩, bR1⟩, hB1⟩ hK
    gi_wp2
    refine ⟨by simp, .inl ⟨_, _, rfl, run_takeDeferred hK, ?_⟩⟩
    have hc5 := cell_kept bR1.cell (grownBy_putObj' _ D (.deferred none)) (fun r e => by cases e; exact ⟨_, hK, rfl⟩)
    refine ⟨.bool true, ?_, ?_, hB1.trans (belowK_b (w := w) (Nat.le_refl _) W D _ _ (by omega) hK rfl rfl)⟩
    · simp [results, Try.f97, go_sem, hc5]
    · refine ret_bool ?_
      unfold borderB
      symm
      rw [List.any_eq_true]
      exact ⟨i, List.mem_finRange i, hi⟩
theorem border_any (W : World) (v : Value) (l : List (Int × Int)) (px py : Int) (w : World) (hX : Ext W w) (hv : Pts w v l) (h3 : 3 ≤ l.length) (hok : l.all okp = true) (hp1 : okc px = true) (hp2 : okc py = true) :
    Calls Try.prog 97 #[v, .agg #[.int .i64 px, .int .i64 py]] w fun e w' => e = .returned (.bool (borderB l px py)) ∧ Ext W w' := by
  obtain ⟨a, cap, rfl, hl, hm, hc⟩ := hv
  obtain ⟨b, off, e, hcc⟩ := hc.resolve_left (fun h => by simp [h] at h3)
  cases e
  have hb : b < w.heap.size := lt_of_cell (hcc 0 (by omega)).1
  exact (callsIn_wide.1 (border_in b off cap l px py w hl hm hok hp1 hp2 hb hcc)).mono fun e w' ⟨he, hx⟩ => ⟨he, hX.trans hx⟩
end Go.Proofs.Ytdbhbfmbpldmnaa
