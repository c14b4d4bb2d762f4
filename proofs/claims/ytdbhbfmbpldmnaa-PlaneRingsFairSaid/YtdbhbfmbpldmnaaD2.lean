import Derived.Test.YtdbhbfmbpldmnaaD1
namespace Go.Proofs.Ytdbhbfmbpldmnaa
open Go.RowKit Go.Shelf
attribute [local go_sem] Oper.semAt_some
/-- a block of cells -/
def BoxN (W : World) (B : Nat) (cs : Array Value) (t : TypeId) : Prop := W.heap[B]? = some (.cells cs t (0, 0))
theorem BoxN.lt {W : World} {B : Nat} {t : TypeId} {cs : Array Value} (h : BoxN W B cs t) : B < W.heap.size := (Array.getElem?_eq_some_iff.1 h).1
theorem BoxN.cell {W : World} {B : Nat} {t : TypeId} {cs : Array Value} (h : BoxN W B cs t) (o : Nat) : W.cell? ⟨B, o, none⟩ = cs[o]? := by simp [World.cell?, show W.heap[B]? = _ from h]
theorem BoxN.new (W : World) (t : TypeId) (cs : Array Value) : BoxN (W.alloc (.cells cs t)) W.heap.size cs t := World.alloc_heap_new W _
theorem BoxN.kept {W W' : World} {row : Option Nat} {B : Nat} {t : TypeId} {cs : Array Value} (h : BoxN W B cs t) (hg : W.grownBy W' row) (hne : some B ≠ row) : BoxN W' B cs t := (hg.block B h.lt hne).trans h
theorem BoxN.ext {W W' : World} {B : Nat} {t : TypeId} {cs : Array Value} (h : BoxN W B cs t) (x : Ext W W') : BoxN W' B cs t := (x.block B h.lt).trans h
theorem Boxed.ext {W W' : World} {B : Nat} {t : TypeId} {v : Value} (h : Boxed W B t v) (x : Ext W W') : Boxed W' B t v := (x.block B h.lt).trans h
theorem boxN_own {β : Type} (B : Nat) (t : TypeId) (f : β → Array Value) : _root_.Go.Own (fun s W => BoxN W B (f s) t) := fun s X Y row hs hg hrow =>
  BoxN.kept hs hg fun e => by
    obtain ⟨o, ho, hc⟩ := hrow B e.symm
    rw [show X.heap[B]? = _ from hs] at ho
    cases ho
    cases hc
theorem BoxN.own {A A' : World} {row : Option Nat} {B : Nat} {t : TypeId} {cs : Array Value} {n : Nat} (h : BoxN A B cs t) (hg : A.grownBy A' row) (hr : ∀ r, row = some r → n ≤ r ∧ ∃ o : Obj, A.heap[r]? = some o ∧ o.isCells = false) : BoxN A' B cs t :=
  h.kept hg fun e => by
    obtain ⟨_, o, ho, hc⟩ := hr B e.symm
    rw [show A.heap[B]? = _ from h] at ho
    cases ho
    cases hc
theorem Boxed.own {A A' : World} {row : Option Nat} {B : Nat} {t : TypeId} {v : Value} {n : Nat} (h : Boxed A B t v) (hg : A.grownBy A' row) (hr : ∀ r, row = some r → n ≤ r ∧ ∃ o : Obj, A.heap[r]? = some o ∧ o.isCells = false) : Boxed A' B t v :=
  BoxN.own (cs := #[v]) h hg hr
theorem below_own {A A' w : World} {row : Option Nat} {n : Nat} (hn : w.heap.size ≤ n) (h : Ext w A) (hg : A.grownBy A' row) (hr : ∀ r, row = some r → n ≤ r ∧ ∃ o : Obj, A.heap[r]? = some o ∧ o.isCells = false) : Ext w A' :=
  Below.grown h hg h.size (fun k e => by have := (hr k e).1; omega)
theorem keepsFrom_ext {B : Nat} {W W' : World} (h : Ext W W') : KeepsFrom B W W' :=
  ⟨h.size, fun k _o _ hk _ => (h.block k (Array.getElem?_eq_some_iff.1 hk).1).trans hk⟩
abbrev segV (e : (Int × Int) × (Int × Int)) : Array Value := #[.int .i64 e.1.1, .int .i64 e.1.2, .int .i64 e.2.1, .int .i64 e.2.2]
def crossE (e : (Int × Int) × (Int × Int)) : Int := e.1.1 * e.2.2 - e.2.1 * e.1.2
def areaF (l : List (Int × Int)) (pre : List (Fin l.length)) : Int := pre.foldl (fun n i => n + crossE (edge l i.1)) 0
theorem areaF_snoc (l : List (Int × Int)) (pre : List (Fin l.length)) (x : Fin l.length) : areaF l (pre ++ [x]) = areaF l pre + crossE (edge l x.1) := by simp [areaF]
theorem edge_ok {l : List (Int × Int)} (h : l.all okp = true) {i : Nat} (hi : i < l.length) : (okc (edge l i).1.1 = true ∧ okc (edge l i).1.2 = true) ∧ okc (edge l i).2.1 = true ∧ okc (edge l i).2.2 = true := by
  have key : ∀ j, j < l.length → okc (l.getD j (0, 0)).1 = true ∧ okc (l.getD j (0, 0)).2 = true := by
    intro j hj
    have := List.all_eq_true.1 h _ (List.getElem_mem hj)
    simpa [List.getD, hj, okp] using this
  exact ⟨key i hi, key _ (Nat.mod_lt _ (by omega))⟩
theorem cross_bd {a b c d : Int} (h1 : okc a) (h2 : okc b) (h3 : okc c) (h4 : okc d) : (-1099511627776 ≤ a * b ∧ a * b ≤ 1099511627776) ∧ (-1099511627776 ≤ c * d ∧ c * d ≤ 1099511627776) := by
  rw [okc_iff] at *
  have a := mul_bd (a := a) (b := b) (A := 1048576) (B := 1048576) (by omega) (by omega) (by omega) (by omega)
  have b := mul_bd (a := c) (b := d) (A := 1048576) (B := 1048576) (by omega) (by omega) (by omega) (by omega)
  omega
theorem areaF_bd {l : List (Int × Int)} (h : l.all okp = true) (pre : List (Fin l.length)) : -(2199023255552 * (pre.length : Int)) ≤ areaF l pre ∧ areaF l pre ≤ 2199023255552 * (pre.length : Int) := by
  have key : ∀ (pre : List (Fin l.length)) (a : Int), -(2199023255552 * (pre.length : Int)) ≤ pre.foldl (fun n i => n + crossE (edge l i.1)) a - a ∧ pre.foldl (fun n i => n + crossE (edge l i.1)) a - a ≤ 2199023255552 * (pre.length : Int) := by
    intro pre
    induction pre with
    | nil => intro a; simp
    | cons x pre ih =>
      intro a
      obtain ⟨⟨a1, a2⟩, a3, a4⟩ := edge_ok h x.2
      have hb := cross_bd a1 a4 a3 a2
      have := ih (a + crossE (edge l x.1))
      simp only [List.foldl_cons, List.length_cons]
      have hcr : crossE (edge l x.1) = (edge l x.1).1.1 * (edge l x.1).2.2 - (edge l x.1).2.1 * (edge l x.1).1.2 := rfl
      omega
  have := key pre 0
  unfold areaF
  omega
theorem area_step {l : List (Int × Int)} (h : l.all okp = true) (hl : l.length ≤ 200) (pre : List (Fin l.length)) (hp : pre.length < l.length) (x : Fin l.length) :
    wrap64 (areaF l pre + wrap64 (wrap64 ((edge l x.1).1.1 * (edge l x.1).2.2) - wrap64 ((edge l x.1).2.1 * (edge l x.1).1.2))) = areaF l (pre ++ [x]) := by
  obtain ⟨⟨a1, a2⟩, a3, a4⟩ := edge_ok h x.2
  have hb := cross_bd a1 a4 a3 a2
  have ha := areaF_bd h pre
  rw [IntWalk.wrap64_in ((edge l x.1).1.1 * (edge l x.1).2.2) (by omega), IntWalk.wrap64_in ((edge l x.1).2.1 * (edge l x.1).1.2) (by omega), IntWalk.wrap64_in (_ - _) (by omega), IntWalk.wrap64_in _ (by omega), areaF_snoc]
  rfl
def areaZ (l : List (Int × Int)) : Int := areaF l (List.finRange l.length)
set_option maxRecDepth 100000 in
set_option maxHeartbeats 2000000 in
theorem area_in (b off cap : Nat) (l : List (Int × Int)) (w : World) (hl : l.length ≤ cap) (hm : cap ≤ maxLen) (h200 : l.length ≤ 200) (hok : l.all okp = true) (hb : b < w.heap.size)
    (hc : ∀ i, (h : i < l.length) → w.cell? ⟨b, off + i * 2, none⟩ = some (.int .i64 (l[i]).1) ∧ w.cell? ⟨b, off + i * 2 + 1, none⟩ = some (.int .i64 (l[i]).2)) :
    CallsIn Fence.wide 6 Try.prog 93 #[.slice (some ⟨b, off, none⟩) l.length cap] w fun e w' => e = .returned (.int .i64 (areaZ l)) ∧ Ext w w' := by
  refine callsIn_of_wp_marks Try.func93 rfl trivial ?_ rfl
  simp only [Try.ntmps93, List.size_toArray, List.length_cons, List.length_nil, Nat.reduceAdd, Nat.reduceSub, Array.replicate_succ, Array.replicate_zero, List.push_toArray, List.append_toArray, List.nil_append, List.cons_append]
  gi_wp2_with (refine ⟨trivial, ?_⟩; gi_at_call 131; refine (callsIn_wide.2 (edges_any _ _ _ _ _ rfl)).mono ?_; rintro e w' ⟨rfl, rfl⟩)
  have bN := (Boxed.new w 3 (.int .i64 0)).alloc (.cells #[.slice (some ⟨b, off, none⟩) l.length cap] 39)
  have bL := Boxed.new (w.alloc (.cells #[.int .i64 0] 3)) 39 (.slice (some ⟨b, off, none⟩) l.length cap)
  rw [World.size_alloc] at bL
  have hB0 : Ext w ((w.alloc (.cells #[.int .i64 0] 3)).alloc (.cells #[.slice (some ⟨b, off, none⟩) l.length cap] 39)) := ((Ext.refl w).alloc _).alloc _
  have hsz : ((w.alloc (.cells #[.int .i64 0] 3)).alloc (.cells #[.slice (some ⟨b, off, none⟩) l.length cap] 39)).heap.size = w.heap.size + 2 := by simp
  obtain ⟨W0, hW0⟩ : ∃ W0, (w.alloc (.cells #[.int .i64 0] 3)).alloc (.cells #[.slice (some ⟨b, off, none⟩) l.length cap] 39) = W0 := ⟨_, rfl⟩
  rw [hW0] at bN bL hB0 hsz ⊢
  clear hW0
  refine wpIn_rangeFunc_ownH rfl (by omega) (gf := 138) (lb := #[.pointer (some ⟨w.heap.size + 1, 0, none⟩)]) rfl trivial (enters_of Try.func138 (by kernel_rfl) rfl)
    (edges_stops Fence.wide 5 trivial rfl (by omega) (w.heap.size + 1) w.heap.size b off cap l hl hm hb W0 (by omega) (by omega) bL.cell (fun i hi => ⟨hB0.cell (hc i hi).1, hB0.cell (hc i hi).2⟩))
    (fun h k => h.trans k) (fun W li o o' hli ho _ _ => KpE.putObj W li o o' (by omega) (by omega) ho) (Below.refl _ _) (fun _ => rfl)
    (fun pre W => (Boxed W w.heap.size 3 (.int .i64 (areaF l pre)) ∧ Boxed W (w.heap.size + 1) 39 (.slice (some ⟨b, off, none⟩) l.length cap)) ∧ Below w.heap.size w W)
    (fun _ _ _ => False)
    (OwnFrom.and (OwnFrom.and (_root_.Go.Own.from (boxed_own _ _ _) _) (_root_.Go.Own.from (boxed_own _ _ (fun _ => (.slice (some ⟨b, off, none⟩) l.length cap))) _)) (ownFrom_below (Nat.le_refl _) (by omega)))
    (fun _ _ _ _ _ hs _ _ => hs)
    ⟨⟨bN, bL⟩, hB0⟩
    (fun x a' W => ∃ Bx, w.heap.size + 1 < Bx ∧ BoxN W Bx (segV (edge l x.1)) 34 ∧ a' = { tmps := #[.slice (some ⟨b, off, none⟩) l.length cap, undef, .int .i64 0, .pointer (some ⟨w.heap.size, 0, none⟩), undef, .pointer (some ⟨Bx, 0, none⟩), .slice (some ⟨b, off, none⟩) l.length cap, .func (.func 138) #[] #[.pointer (some ⟨w.heap.size + 1, 0, none⟩)], .int .i64 x.1, .agg (segV (edge l x.1)), undef, undef, undef, undef, undef, undef, undef, undef, undef, undef, undef, undef, undef, undef, undef, undef, undef, undef], defers := [] })
    (fun x a' _ X Y row hs hg hr => by obtain ⟨Bx, h1, h2, h3⟩ := hs; exact ⟨Bx, h1, boxN_own Bx 34 (fun (_ : Unit) => segV (edge l x.1)) () X Y row h2 hg (fun r e => (hr r e).2), h3⟩)
    ?assign ?body ?done ?stop
  case assign =>
    rintro li pre x W K ⟨⟨bN1, bL1⟩, hB1⟩ hK
    dsimp only [encE]
    gi_wp2
    exact hK _ _ (keepsFrom_ext ((Ext.refl W).alloc _)) (KpE.ofExt ((Ext.refl W).alloc _) hB1.size) ⟨⟨bN1.alloc _, bL1.alloc _⟩, Ext.alloc hB1 _⟩ ⟨W.heap.size, bL1.lt, BoxN.new W 34 _, rfl⟩
  case body =>
    rintro li pre x a' W hli ⟨r, hr⟩ ⟨⟨bN1, bL1⟩, hB1⟩ ⟨Bx, hBx, bX, rfl⟩ hlt
    have cN := bN1.cell
    have fN := bN1.frozen
    have x0 := bX.cell 0
    have x1 := bX.cell 1
    have x2 := bX.cell 2
    have x3 := bX.cell 3
    simp only [segV, List.getElem?_toArray, List.getElem?_cons_zero, List.getElem?_cons_succ] at x0 x1 x2 x3
    have HA := Lib.hid (area_step hok h200 pre hlt x)
    gi_wp2
    refine ⟨(KeepsOthers.setCell _ _ _).from _, (KpE.refl w.heap.size (w.heap.size + 1) W).setCell (p := ⟨w.heap.size, 0, none⟩) (Nat.le_refl _) (by simp) _, ⟨⟨?_, bL1.other (by omega) _⟩, ?_⟩⟩
    · rw [← HA.out]
      exact bN1.set _
    · exact hB1.setCell (p := ⟨w.heap.size, 0, none⟩) (Nat.le_refl _) _
  case done =>
    rintro D zs W hD rfl ⟨⟨bN1, bL1⟩, hB1⟩ hK
    have cN := bN1.cell
    gi_wp2
    refine ⟨by simp, .inl ⟨_, _, rfl, run_takeDeferred hK, ?_⟩⟩
    exact ⟨_, results_tmp rfl _ _ _, by rw [edgesOf_all]; rfl, hB1.trans (belowK_b (w := w) (Nat.le_refl _) W D _ _ (by omega) hK rfl rfl)⟩
  case stop =>
    rintro D c pre W _ _ h _
    exact h.elim
theorem area_any (W : World) (v : Value) (l : List (Int × Int)) (w : World) (hX : Ext W w) (hv : Pts w v l) (h3 : 3 ≤ l.length) (h200 : l.length ≤ 200) (hok : l.all okp = true) :
    Calls Try.prog 93 #[v] w fun e w' => e = .returned (.int .i64 (areaZ l)) ∧ Ext W w' := by
  obtain ⟨a, cap, rfl, hl, hm, hc⟩ := hv
  obtain ⟨b, off, e, hcc⟩ := hc.resolve_left (fun h => by simp [h] at h3)
  cases e
  have hb : b < w.heap.size := lt_of_cell (hcc 0 (by omega)).1
  exact (callsIn_wide.1 (area_in b off cap l w hl hm h200 hok hb hcc)).mono fun e w' ⟨he, hx⟩ => ⟨he, hX.trans hx⟩
end Go.Proofs.Ytdbhbfmbpldmnaa
