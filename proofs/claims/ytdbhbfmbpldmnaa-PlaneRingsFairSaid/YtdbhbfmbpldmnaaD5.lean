import Derived.Test.YtdbhbfmbpldmnaaD4
namespace Go.Proofs.Ytdbhbfmbpldmnaa
open Go.RowKit Go.Shelf
attribute [local go_sem] Oper.semAt_some
def mtE (e f : (Int × Int) × (Int × Int)) : Int := mtZ e.1.1 e.1.2 e.2.1 e.2.2 f.1.1 f.1.2 f.2.1 f.2.2
def dgn (e : (Int × Int) × (Int × Int)) : Bool := decide (e.1.1 = e.2.1 ∧ e.1.2 = e.2.2)
def pairBad (l : List (Int × Int)) (i k : Nat) : Bool :=
  if k = i + 1 ∨ (i = 0 ∧ k + 1 = l.length) then decide (mtE (edge l i) (edge l k) ≠ 1 ∨ (k = i + 1 ∧ i = 0 ∧ k + 1 = l.length)) else decide (mtE (edge l i) (edge l k) ≠ 0)
def innerBad (l : List (Int × Int)) (i k : Nat) : Bool := decide (i < k) && !dgn (edge l k) && pairBad l i k
def noInner (l : List (Int × Int)) (i : Nat) (pre : List (Fin l.length)) : Prop := ∀ k ∈ pre, innerBad l i k.1 = false
def pairBadZ (n q z : Bool) (m : Int) : Bool := if n || (z && q) then (m != 1) || (n && (z && q)) else m != 0
theorem pairBad_eq (l : List (Int × Int)) (i k : Nat) : pairBad l i k = pairBadZ ((k : Int) == (i : Int) + 1) ((k : Int) == (l.length : Int) - 1) ((i : Int) == 0) (mtE (edge l i) (edge l k)) := by
  unfold pairBad pairBadZ
  have e1 : ((k : Int) == (i : Int) + 1) = decide (k = i + 1) := by rw [Bool.eq_iff_iff]; simp; omega
  have e2 : (((i : Int) == 0) && ((k : Int) == (l.length : Int) - 1)) = decide (i = 0 ∧ k + 1 = l.length) := by rw [Bool.eq_iff_iff]; simp; omega
  rw [e1, e2]
  generalize mtE (edge l i) (edge l k) = m
  by_cases h1 : k = i + 1 <;> by_cases h2 : i = 0 ∧ k + 1 = l.length <;> by_cases h3 : m = 1 <;> by_cases h4 : m = 0 <;> simp [h1, h2, h3, h4]
theorem KF.drew {B : Nat} {W W' : World} (h : KeepsFrom B W W') : KeepsFrom B W W'.drew := ⟨h.size, h.same⟩
theorem noInner_snoc {l : List (Int × Int)} {i : Nat} {pre : List (Fin l.length)} {y : Fin l.length} (h : noInner l i pre) (hy : innerBad l i y.1 = false) : noInner l i (pre ++ [y]) := by
  intro k hk
  rcases List.mem_append.1 hk with hk | hk
  · exact h k hk
  · simp at hk
    subst hk
    exact hy
def rowBad (l : List (Int × Int)) (i : Nat) : Bool := dgn (edge l i) || (List.finRange l.length).any fun k => innerBad l i k.1
def simpleB (l : List (Int × Int)) : Bool := !(List.finRange l.length).any fun i => rowBad l i.1
def noRow (l : List (Int × Int)) (pre : List (Fin l.length)) : Prop := ∀ i ∈ pre, rowBad l i.1 = false
theorem noRow_snoc {l : List (Int × Int)} {pre : List (Fin l.length)} {y : Fin l.length} (h : noRow l pre) (hy : rowBad l y.1 = false) : noRow l (pre ++ [y]) := by
  intro k hk
  rcases List.mem_append.1 hk with hk | hk
  · exact h k hk
  · simp at hk
    subst hk
    exact hy
theorem rowBad_ok {l : List (Int × Int)} {i : Nat} (h : dgn (edge l i) = false) (hn : noInner l i (edgesOf l l.length)) : rowBad l i = false := by
  unfold rowBad
  rw [h, Bool.false_or, List.any_eq_false]
  intro k hk
  rw [hn k (by rw [edgesOf_all]; exact hk)]
  simp
theorem rowBad_bad {l : List (Int × Int)} {i : Nat} {pre : List (Fin l.length)} (h : ∃ k ∈ pre, innerBad l i k.1 = true) : rowBad l i = true := by
  obtain ⟨k, _, hk⟩ := h
  unfold rowBad
  rw [Bool.or_eq_true, List.any_eq_true]
  exact .inr ⟨k, List.mem_finRange k, hk⟩
theorem simpleB_ok {l : List (Int × Int)} (h : noRow l (edgesOf l l.length)) : simpleB l = true := by
  unfold simpleB
  rw [Bool.not_eq_true', List.any_eq_false]
  intro i hi
  rw [h i (by rw [edgesOf_all]; exact hi)]
  simp
theorem simpleB_bad {l : List (Int × Int)} {pre : List (Fin l.length)} (h : ∃ k ∈ pre, rowBad l k.1 = true) : simpleB l = false := by
  obtain ⟨k, _, hk⟩ := h
  unfold simpleB
  rw [Bool.not_eq_false', List.any_eq_true]
  exact ⟨k, List.mem_finRange k, hk⟩
set_option maxRecDepth 100000 in
set_option maxHeartbeats 8000000 in
theorem simple_in (b off cap : Nat) (l : List (Int × Int)) (w : World) (hl : l.length ≤ cap) (hm : cap ≤ maxLen) (h200 : l.length ≤ 200) (hb : b < w.heap.size)
    (hc : ∀ i, (h : i < l.length) → w.cell? ⟨b, off + i * 2, none⟩ = some (.int .i64 (l[i]).1) ∧ w.cell? ⟨b, off + i * 2 + 1, none⟩ = some (.int .i64 (l[i]).2)) :
    CallsIn Fence.wide 9 Try.prog 95 #[(.slice (some ⟨b, off, none⟩) l.length cap)] w fun e w' => e = .returned (.bool (simpleB l)) ∧ Ext w w' := by
  have heq := run_eql_pt
  refine callsIn_of_wp_marks Try.func95 rfl trivial ?_ rfl
  simp only [Try.ntmps95, List.size_toArray, List.length_cons, List.length_nil, Nat.reduceAdd, Nat.reduceSub, Array.replicate_succ, Array.replicate_zero, List.push_toArray, List.append_toArray, List.nil_append, List.cons_append]
  gi_wp2_with (refine ⟨trivial, ?_⟩; gi_at_call 131; refine (callsIn_wide.2 (edges_any _ _ _ _ _ rfl)).mono ?_; rintro e w' ⟨rfl, rfl⟩)
  have bA := ((Boxed.new w 39 (.slice (some ⟨b, off, none⟩) l.length cap)).alloc (.cells #[.bool false] 4)).alloc (.cells #[(.slice (some ⟨b, off, none⟩) l.length cap)] 39)
  have bR := (Boxed.new (w.alloc (.cells #[(.slice (some ⟨b, off, none⟩) l.length cap)] 39)) 4 (.bool false)).alloc (.cells #[(.slice (some ⟨b, off, none⟩) l.length cap)] 39)
  have bL := Boxed.new ((w.alloc (.cells #[(.slice (some ⟨b, off, none⟩) l.length cap)] 39)).alloc (.cells #[.bool false] 4)) 39 (.slice (some ⟨b, off, none⟩) l.length cap)
  simp only [World.size_alloc] at bL bR
  have hB0 : Ext w (((w.alloc (.cells #[(.slice (some ⟨b, off, none⟩) l.length cap)] 39)).alloc (.cells #[.bool false] 4)).alloc (.cells #[(.slice (some ⟨b, off, none⟩) l.length cap)] 39)) := (((Ext.refl w).alloc _).alloc _).alloc _
  have hsz : (((w.alloc (.cells #[(.slice (some ⟨b, off, none⟩) l.length cap)] 39)).alloc (.cells #[.bool false] 4)).alloc (.cells #[(.slice (some ⟨b, off, none⟩) l.length cap)] 39)).heap.size = w.heap.size + 3 := by simp
  obtain ⟨W0, hW0⟩ : ∃ W0, ((w.alloc (.cells #[(.slice (some ⟨b, off, none⟩) l.length cap)] 39)).alloc (.cells #[.bool false] 4)).alloc (.cells #[(.slice (some ⟨b, off, none⟩) l.length cap)] 39) = W0 := ⟨_, rfl⟩
  rw [hW0] at bA bR bL hB0 hsz ⊢
  clear hW0
  refine wpIn_rangeFunc_ownH rfl (by omega) (gf := 138) (lb := #[.pointer (some ⟨w.heap.size + 1 + 1, 0, none⟩)]) rfl trivial (enters_of Try.func138 (by kernel_rfl) rfl)
    (edges_stops Fence.wide 8 trivial rfl (by omega) (w.heap.size + 1 + 1) w.heap.size b off cap l hl hm hb W0 (by omega) (by omega) bL.cell (fun i hi => ⟨hB0.cell (hc i hi).1, hB0.cell (hc i hi).2⟩))
    (fun h k => h.trans k) (fun W li o o' hli ho _ _ => KpE.putObj W li o o' (by omega) (by omega) ho) (Below.refl _ _) (fun _ => rfl)
    (fun pre W => (noRow l pre ∧ Boxed W w.heap.size 39 (.slice (some ⟨b, off, none⟩) l.length cap) ∧ Boxed W (w.heap.size + 1) 4 (.bool false) ∧ Boxed W (w.heap.size + 1 + 1) 39 (.slice (some ⟨b, off, none⟩) l.length cap)) ∧ Below w.heap.size w W)
    (fun c pre W => (c = .ret ∧ (∃ i ∈ pre, rowBad l i.1 = true) ∧ Boxed W (w.heap.size + 1) 4 (.bool false)) ∧ Below w.heap.size w W)
    (fun pre A B row hs hg hr => ⟨⟨hs.1.1, Boxed.own hs.1.2.1 hg hr, Boxed.own hs.1.2.2.1 hg hr, Boxed.own hs.1.2.2.2 hg hr⟩, below_own (by omega) hs.2 hg hr⟩)
    (fun c pre A B row hs hg hr => ⟨⟨hs.1.1, hs.1.2.1, Boxed.own hs.1.2.2 hg hr⟩, below_own (by omega) hs.2 hg hr⟩)
    ⟨⟨fun i hi => by simp at hi, bA, bR, bL⟩, hB0⟩
    (fun x a' W => ∃ Bi Bx, w.heap.size + 1 + 1 < Bi ∧ w.heap.size + 1 + 1 < Bx ∧ Boxed W Bi 3 (.int .i64 x.1) ∧ BoxN W Bx (segV (edge l x.1)) 34 ∧ a' = { tmps := #[(.slice (some ⟨b, off, none⟩) l.length cap), .pointer (some ⟨w.heap.size, 0, none⟩), .pointer (some ⟨w.heap.size + 1, 0, none⟩), .pointer (some ⟨Bi, 0, none⟩), .pointer (some ⟨Bx, 0, none⟩), undef, undef, undef, undef, undef, (.slice (some ⟨b, off, none⟩) l.length cap), .func (.func 138) #[] #[.pointer (some ⟨w.heap.size + 1 + 1, 0, none⟩)], .int .i64 x.1, .agg (segV (edge l x.1)), undef, undef, undef, undef, undef, undef, undef, undef, undef, undef, undef, undef, undef, undef, undef, undef, undef, undef, undef, undef, undef, undef, undef, undef, undef, undef, undef, undef, undef, undef, undef, undef, undef, undef, undef, undef, undef, undef, undef, undef, undef, undef, undef, undef, undef, undef, undef, undef, undef, undef, undef, undef], defers := [] })
    (fun x a' _ X Y row hs hg hr => by obtain ⟨Bi, Bx, h1, h2, h3, h4, h5⟩ := hs; exact ⟨Bi, Bx, h1, h2, Boxed.own h3 hg hr, h4.own hg hr, h5⟩)
    ?assign ?body ?done ?stop
  case assign =>
    rintro li pre x W K ⟨⟨hN, bA1, bR1, bL1⟩, hB1⟩ hK
    dsimp only [encE]
    gi_wp2
    have hE2 := ((Ext.refl W).alloc (.cells #[.int .i64 x.1] 3)).alloc (.cells (segV (edge l x.1)) 34)
    exact hK _ _ (keepsFrom_ext hE2) (KpE.ofExt hE2 hB1.size) ⟨⟨hN, Boxed.ext bA1 hE2, Boxed.ext bR1 hE2, Boxed.ext bL1 hE2⟩, Ext.trans hB1 hE2⟩ ⟨W.heap.size, W.heap.size + 1, bL1.lt, by have := bL1.lt; omega, Boxed.alloc (Boxed.new W 3 _) _, by have := BoxN.new (W.alloc (.cells #[.int .i64 x.1] 3)) 34 (segV (edge l x.1)); rwa [World.size_alloc] at this, by simp⟩
  case body =>
    rintro li pre x a' W hli ⟨r, hr⟩ ⟨⟨hN, bA1, bR1, bL1⟩, hB1⟩ ⟨Bi, Bx, hBi, hBx, bI, bX, rfl⟩ hlt
    have x0 := bX.cell 0
    have x1 := bX.cell 1
    have x2 := bX.cell 2
    have x3 := bX.cell 3
    have cA := bA1.cell
    have cR := bR1.cell
    have fR := bR1.frozen
    simp only [segV, List.getElem?_toArray, List.getElem?_cons_zero, List.getElem?_cons_succ] at x0 x1 x2 x3
    gi_wp2_with (refine ⟨trivial, ?_⟩; gi_at_call 131; refine (CallsIn.inRound li (callsIn_wide.2 (edges_any _ _ _ _ _ rfl))).mono ?_; rintro e w' ⟨rfl, rfl⟩)
    · have hdg : (edge l x.1).1.1 = (edge l x.1).2.1 ∧ (edge l x.1).1.2 = (edge l x.1).2.2 := by assumption
      refine ⟨(KeepsOthers.setCell _ _ _).from _, ⟨⟨rfl, ⟨x, by simp, ?_⟩, bR1.set _⟩, hB1.setCell (p := ⟨w.heap.size + 1, 0, none⟩) (by simp) _⟩⟩
      unfold rowBad dgn
      rw [decide_eq_true hdg, Bool.true_or]
    · have hdg : ¬(edge l x.1).1.1 = (edge l x.1).2.1 ∨ ¬(edge l x.1).1.2 = (edge l x.1).2.2 := by assumption
      have hdx : dgn (edge l x.1) = false := by
        unfold dgn
        rw [decide_eq_false_iff_not]
        rintro ⟨h1, h2⟩
        exact hdg.elim (fun h => h h1) (fun h => h h2)
      have HDX := Lib.hid hdx
      clear hdx hdg
      have hsW := hB1.size
      have hr' : (W.alloc (.cells #[.slice (some ⟨b, off, none⟩) l.length cap] 39)).heap[li]? = some (.loop r) := (Below.heap_alloc W _ li (Array.getElem?_eq_some_iff.1 hr).1).trans hr
      have bN := Boxed.new W 39 (.slice (some ⟨b, off, none⟩) l.length cap)
      have hE1 : Ext W (W.alloc (.cells #[.slice (some ⟨b, off, none⟩) l.length cap] 39)) := (Ext.refl W).alloc _
      have hsA : (W.alloc (.cells #[.slice (some ⟨b, off, none⟩) l.length cap] 39)).heap.size = W.heap.size + 1 := by simp
      have hlW : w.heap.size + 1 + 1 < W.heap.size := bL1.lt
      have hBiW : Bi < W.heap.size := bI.lt
      have hBxW : Bx < W.heap.size := bX.lt
      obtain ⟨W2, hW2⟩ : ∃ W2, W.alloc (.cells #[.slice (some ⟨b, off, none⟩) l.length cap] 39) = W2 := ⟨_, rfl⟩
      rw [hW2] at hr' bN hE1 hsA ⊢
      clear hW2
      have hEw : Ext w W2 := Ext.trans hB1 hE1
      refine wpIn_rangeFunc_ownN (l₀ := li) (r₀ := r) rfl hr' (by omega) (gf := 138) (lb := #[.pointer (some ⟨W.heap.size, 0, none⟩)]) rfl trivial (enters_of Try.func138 (by kernel_rfl) rfl)
        ((edges_stops Fence.wide (9 - 1 - 1 - 1) trivial rfl (by omega) W.heap.size w.heap.size b off cap l hl hm hb W2 (by omega) (by omega) bN.cell (fun i hi => ⟨hEw.cell (hc i hi).1, hEw.cell (hc i hi).2⟩)).inRound li)
        (fun h k => h.trans k) (fun W3 lj o o' hlj ho _ _ => KpE.putObj W3 lj o o' (by omega) (by omega) ho) (Below.refl _ _) (fun _ => rfl)
        (fun pre' W' => (noInner l x.1 pre' ∧ Boxed W' w.heap.size 39 (.slice (some ⟨b, off, none⟩) l.length cap) ∧ Boxed W' (w.heap.size + 1) 4 (.bool false) ∧ Boxed W' (w.heap.size + 1 + 1) 39 (.slice (some ⟨b, off, none⟩) l.length cap) ∧ Boxed W' Bi 3 (.int .i64 x.1) ∧ BoxN W' Bx (segV (edge l x.1)) 34 ∧ Boxed W' W.heap.size 39 (.slice (some ⟨b, off, none⟩) l.length cap)) ∧ Below w.heap.size W W' ∧ KeepsFrom W0.heap.size W W')
        (fun c pre' W' => (c = .ret ∧ (∃ k ∈ pre', innerBad l x.1 k.1 = true) ∧ Boxed W' (w.heap.size + 1) 4 (.bool false)) ∧ Below w.heap.size W W' ∧ KeepsFrom W0.heap.size W W')
        (fun pre A B row hs hg hr => ⟨⟨hs.1.1, Boxed.own hs.1.2.1 hg hr, Boxed.own hs.1.2.2.1 hg hr, Boxed.own hs.1.2.2.2.1 hg hr, Boxed.own hs.1.2.2.2.2.1 hg hr, hs.1.2.2.2.2.2.1.own hg hr, Boxed.own hs.1.2.2.2.2.2.2 hg hr⟩, (OwnFrom.and (ownFrom_below hsW (by omega)) (ownFrom_keepsFrom (by omega))) pre A B row hs.2 hg hr⟩)
        (fun c pre A B row hs hg hr => ⟨⟨hs.1.1, hs.1.2.1, Boxed.own hs.1.2.2 hg hr⟩, (OwnFrom.and (ownFrom_below hsW (by omega)) (ownFrom_keepsFrom (by omega))) pre A B row hs.2 hg hr⟩)
        ⟨⟨fun i hi => by simp at hi, Boxed.ext bA1 hE1, Boxed.ext bR1 hE1, Boxed.ext bL1 hE1, Boxed.ext bI hE1, bX.ext hE1, bN⟩, Below.mono hE1 hsW, keepsFrom_ext hE1⟩
        (fun y a'' W' => ∃ By, W.heap.size < By ∧ BoxN W' By (segV (edge l y.1)) 34 ∧ a'' = { tmps := #[(.slice (some ⟨b, off, none⟩) l.length cap), .pointer (some ⟨w.heap.size, 0, none⟩), .pointer (some ⟨w.heap.size + 1, 0, none⟩), .pointer (some ⟨Bi, 0, none⟩), .pointer (some ⟨Bx, 0, none⟩), .int .i64 y.1, .pointer (some ⟨By, 0, none⟩), undef, undef, undef, (.slice (some ⟨b, off, none⟩) l.length cap), .func (.func 138) #[] #[.pointer (some ⟨w.heap.size + 1 + 1, 0, none⟩)], .int .i64 x.1, .agg (segV (edge l x.1)), .pointer (some ⟨Bx, 0, none⟩), .agg #[.int .i64 (edge l x.1).1.1, .int .i64 (edge l x.1).1.2], .pointer (some ⟨Bx, 2, none⟩), .agg #[.int .i64 (edge l x.1).2.1, .int .i64 (edge l x.1).2.2], .bool (decide ((edge l x.1).1.1 = (edge l x.1).2.1) && decide ((edge l x.1).1.2 = (edge l x.1).2.2)), (.slice (some ⟨b, off, none⟩) l.length cap), (.slice (some ⟨b, off, none⟩) l.length cap), .func (.func 138) #[] #[.pointer (some ⟨W.heap.size, 0, none⟩)], .int .i64 y.1, .agg (segV (edge l y.1)), undef, undef, undef, undef, undef, undef, undef, undef, undef, undef, undef, undef, undef, undef, undef, undef, undef, undef, undef, undef, undef, undef, undef, undef, undef, undef, undef, undef, undef, undef, undef, undef, undef, undef, undef, undef, undef, undef, undef, undef, undef, undef], defers := [] })
        (fun x a' _ X Y row hs hg hr => by obtain ⟨By, h1, h2, h3⟩ := hs; exact ⟨By, h1, h2.own hg hr, h3⟩)
        ?assign2 ?body2 ?done2 ?stop2
      case assign2 =>
        rintro l2 pre' y W' K ⟨⟨hN2, bA2, bR2, bL2, bI2, bX2, bN2⟩, hB2, hK2⟩ hK
        dsimp only [encE]
        gi_wp2
        have hE2 := (Ext.refl W').alloc (.cells (segV (edge l y.1)) 34)
        exact hK _ _ (keepsFrom_ext hE2) (KpE.ofExt hE2 (by have := hB2.size; omega)) ⟨⟨hN2, Boxed.ext bA2 hE2, Boxed.ext bR2 hE2, Boxed.ext bL2 hE2, Boxed.ext bI2 hE2, bX2.ext hE2, Boxed.ext bN2 hE2⟩, hB2.trans (Below.mono hE2 (by have := hB2.size; omega)), hK2.trans (keepsFrom_ext hE2)⟩ ⟨W'.heap.size, bN2.lt, BoxN.new W' 34 _, rfl⟩
      case body2 =>
        rintro l2 pre' y a'' W' hl2 hr2 ⟨⟨hN2, bA2, bR2, bL2, bI2, bX2, bN2⟩, hB2, hK2⟩ ⟨By, hBy, bY, rfl⟩ hlt2
        have cI := bI2.cell
        have cA2 := bA2.cell
        have cR2 := bR2.cell
        have fR2 := bR2.frozen
        have y0 := bY.cell 0
        have y1 := bY.cell 1
        have y2 := bY.cell 2
        have y3 := bY.cell 3
        have u0 := bX2.cell 0
        have u1 := bX2.cell 1
        have u2 := bX2.cell 2
        have u3 := bX2.cell 3
        simp only [segV, List.getElem?_toArray, List.getElem?_cons_zero, List.getElem?_cons_succ] at y0 y1 y2 y3 u0 u1 u2 u3
        clear x0 x1 x2 x3 cA cR fR
        by_cases hki : y.1 ≤ x.1
        · have hcont : innerBad l x.1 y.1 = false := by unfold innerBad; rw [decide_eq_false (by omega)]; rfl
          have hd : decide ((y.1 : Int) ≤ x.1) = true := by simp; omega
          gi_wp2
          exact ⟨KeepsFrom.refl _ _, KpE.refl _ _ _, ⟨noInner_snoc hN2 hcont, bA2, bR2, bL2, bI2, bX2, bN2⟩, hB2, hK2⟩
        · have hd : decide ((y.1 : Int) ≤ x.1) = false := by simp; omega
          gi_wp2
          · have hdy : (edge l y.1).1.1 = (edge l y.1).2.1 ∧ (edge l y.1).1.2 = (edge l y.1).2.2 := by assumption
            have hcont : innerBad l x.1 y.1 = false := by unfold innerBad dgn; rw [decide_eq_true hdy]; simp
            exact ⟨KeepsFrom.refl _ _, KpE.refl _ _ _, ⟨noInner_snoc hN2 hcont, bA2, bR2, bL2, bI2, bX2, bN2⟩, hB2, hK2⟩
          · have hdy : ¬(edge l y.1).1.1 = (edge l y.1).2.1 ∨ ¬(edge l y.1).1.2 = (edge l y.1).2.2 := by assumption
            have hbad : innerBad l x.1 y.1 = pairBad l x.1 y.1 := by
              unfold innerBad dgn
              rw [decide_eq_true (show x.1 < y.1 by omega), decide_eq_false (fun h => hdy.elim (fun k => k h.1) (fun k => k h.2))]
              rfl
            rw [pairBad_eq] at hbad
            obtain ⟨m, hm0⟩ : ∃ m, mtZ (edge l x.1).1.1 (edge l x.1).1.2 (edge l x.1).2.1 (edge l x.1).2.2 (edge l y.1).1.1 (edge l y.1).1.2 (edge l y.1).2.1 (edge l y.1).2.2 = m := ⟨_, rfl⟩
            rw [show mtE (edge l x.1) (edge l y.1) = m from hm0] at hbad
            have HM := Lib.hid hm0
            have HB := Lib.hid hbad
            clear hm0 hbad hdy hki
            have hx2 := x.2
            have hy2 := y.2
            have hxw : IntKind.i64.wrap ((x.1 : Int) + 1) = (x.1 : Int) + 1 := IntWalk.i64_in _ (by omega)
            have hlw : IntKind.i64.wrap ((l.length : Int) - 1) = (l.length : Int) - 1 := IntWalk.i64_in _ (by omega)
            refine ⟨trivial, ?_⟩
            gi_at_call 28
            refine (CallsIn.inRound l2 (callsIn_wide.2 (Meeting_any W' _ _ _ _ _ _ _ _ _ (Ext.refl _)))).mono ?_
            rintro e w1 ⟨rfl, hX1⟩
            rw [HM.out]
            have cI1 := (Boxed.ext bI2 hX1).cell
            have cA1 := (Boxed.ext bA2 hX1).cell
            have cR1 := (Boxed.ext bR2 hX1).cell
            have fR1 := (Boxed.ext bR2 hX1).frozen
            clear cI cA2 cR2 fR2 y0 y1 y2 y3 u0 u1 u2 u3 hd
            gi_wp2
            have hEd : Ext W' w1.drew := hX1.drew
            have hsz2 := hB2.size
            have hB3 : Below w.heap.size W w1.drew := hB2.trans (Below.mono hEd (by omega))
            have hK3 : KeepsFrom W0.heap.size W w1.drew := hK2.trans (keepsFrom_ext hEd)
            have hR3 := Boxed.ext bR2 hEd
            have hI3 : Boxed w1.drew w.heap.size 39 (.slice (some ⟨b, off, none⟩) l.length cap) ∧ Boxed w1.drew (w.heap.size + 1) 4 (.bool false) ∧ Boxed w1.drew (w.heap.size + 1 + 1) 39 (.slice (some ⟨b, off, none⟩) l.length cap) ∧ Boxed w1.drew Bi 3 (.int .i64 x.1) ∧ BoxN w1.drew Bx (segV (edge l x.1)) 34 ∧ Boxed w1.drew W.heap.size 39 (.slice (some ⟨b, off, none⟩) l.length cap) :=
              ⟨Boxed.ext bA2 hEd, hR3, Boxed.ext bL2 hEd, Boxed.ext bI2 hEd, bX2.ext hEd, Boxed.ext bN2 hEd⟩
            have cR4 := hR3.cell
            have fR4 := hR3.frozen
            refine wpIn_region_tail 14 (by kernel_rfl) (by kernel_rfl) (by kernel_rfl) ?_
            simp only [List.take_succ_cons, List.take_zero, List.drop_succ_cons, List.drop_zero]
            change wpStill _ _ w1.drew _ _ _
            cases hz : ((x.1 : Int) == 0)
            all_goals
              repeat still_step
              refine wpStill_nil ?_
              change wpListIn _ _ _ _ _ _ _ w1.drew
              clear cI1 cA1 cR1 fR1
              cases hn : ((y.1 : Int) == (x.1 : Int) + 1) <;> cases hq : ((y.1 : Int) == (l.length : Int) - 1) <;> cases hm1 : (m != 1) <;> cases hm0 : (m != 0) <;> gi_wp2
              all_goals
                first
                | exact ⟨keepsFrom_ext hEd, KpE.ofExt hEd (by omega), ⟨noInner_snoc hN2 (by rw [HB.out, pairBadZ, hn, hq, hz, hm1, hm0]; rfl), hI3⟩, hB3, hK3⟩
                | exact ⟨(keepsFrom_ext hEd).trans ((KeepsOthers.setCell _ _ _).from _), ⟨rfl, ⟨y, by simp, by rw [HB.out, pairBadZ, hn, hq, hz, hm1, hm0]; rfl⟩, hR3.set _⟩, hB3.setCell (p := ⟨w.heap.size + 1, 0, none⟩) (by simp) _, hK3.trans ((KeepsOthers.setCell _ _ _).from _)⟩
      case done2 =>
        rintro ys' W' rfl ⟨⟨hN2, bA2, bR2, bL2, bI2, bX2, bN2⟩, hB2, hK2⟩
        gi_wp2
        exact ⟨hK2, ⟨hB2, fun v e => by rw [bL1.cell] at e; cases e; exact bL2.cell⟩, ⟨⟨noRow_snoc hN (rowBad_ok HDX.out hN2), bA2, bR2, bL2⟩, hB1.trans hB2⟩⟩
      case stop2 =>
        rintro c pre' W' hpre ⟨⟨rfl, hin, bR2⟩, hB2, hK2⟩
        gi_wp2
        exact ⟨hK2, ⟨⟨rfl, ⟨x, by simp, rowBad_bad hin⟩, bR2⟩, hB1.trans hB2⟩⟩
  case done =>
    rintro D zs W hD rfl ⟨⟨hN, bA1, bR1, bL1⟩, hB1⟩ hK
    have cR := bR1.cell
    have fR := bR1.frozen
    gi_wp2
    have hK' := (KeepsOthers.setCell W ⟨w.heap.size + 1, 0, none⟩ (.bool true)).same D _ hK rfl
    refine ⟨by simp, .inl ⟨_, _, rfl, run_takeDeferred hK', ?_⟩⟩
    have hc5 := cell_kept (World.cell?_setCell_same' W ⟨w.heap.size + 1, 0, none⟩ (.bool true) (by rw [cR]; rfl)) (grownBy_putObj' _ D (.deferred none)) (fun r e => by cases e; exact ⟨_, hK', rfl⟩)
    refine ⟨.bool true, ?_, ret_bool (simpleB_ok hN).symm, (hB1.setCell (p := ⟨w.heap.size + 1, 0, none⟩) (by simp) _).trans (belowK_b (w := w) (Nat.le_refl _) _ D _ _ (by omega) hK' rfl rfl)⟩
    simp [results, Try.f95, go_sem, hc5]
  case stop =>
    rintro D c pre W hD ⟨k, hk, rfl⟩ ⟨⟨rfl, hi, bR1⟩, hB1⟩ hK
    gi_wp2
    refine ⟨by simp, .inl ⟨_, _, rfl, run_takeDeferred hK, ?_⟩⟩
    have hc5 := cell_kept bR1.cell (grownBy_putObj' _ D (.deferred none)) (fun r e => by cases e; exact ⟨_, hK, rfl⟩)
    refine ⟨.bool false, ?_, ret_bool (simpleB_bad hi).symm, hB1.trans (belowK_b (w := w) (Nat.le_refl _) W D _ _ (by omega) hK rfl rfl)⟩
    simp [results, Try.f95, go_sem, hc5]
theorem simple_any (W : World) (v : Value) (l : List (Int × Int)) (w : World) (hX : Ext W w) (hv : Pts w v l) (h3 : 3 ≤ l.length) (h200 : l.length ≤ 200) :
    Calls Try.prog 95 #[v] w fun e w' => e = .returned (.bool (simpleB l)) ∧ Ext W w' := by
  obtain ⟨a, cap, rfl, hl, hm, hc⟩ := hv
  obtain ⟨b, off, e, hcc⟩ := hc.resolve_left (fun h => by simp [h] at h3)
  cases e
  have hb : b < w.heap.size := lt_of_cell (hcc 0 (by omega)).1
  exact (callsIn_wide.1 (simple_in b off cap l w hl hm h200 hb hcc)).mono fun e w' ⟨he, hx⟩ => ⟨he, hX.trans hx⟩
end Go.Proofs.Ytdbhbfmbpldmnaa
