/- Contract of clashes. -/
import Derived.Test.YtaggjclaehigjaaH
namespace Go.Proofs.Ytaggjclaehigjaa
open Go.RowKit Go.Shelf
attribute [local go_sem] Oper.semAt_some
theorem ret_bool {a b : Bool} (h : a = b) : Ending.returned (.bool a) = .returned (.bool b) := by rw [h]
/-- a block of cells -/
def BoxN (W : World) (B : Nat) (cs : Array Value) (t : TypeId) : Prop := W.heap[B]? = some (.cells cs t (0, 0))
theorem BoxN.lt {W : World} {B : Nat} {t : TypeId} {cs : Array Value} (h : BoxN W B cs t) : B < W.heap.size := (Array.getElem?_eq_some_iff.1 h).1
theorem BoxN.cell {W : World} {B : Nat} {t : TypeId} {cs : Array Value} (h : BoxN W B cs t) (o : Nat) : W.cell? ⟨B, o, none⟩ = cs[o]? := by simp [World.cell?, show W.heap[B]? = _ from h]
theorem BoxN.new (W : World) (t : TypeId) (cs : Array Value) : BoxN (W.alloc (.cells cs t)) W.heap.size cs t := World.alloc_heap_new W _
theorem BoxN.kept {W W' : World} {row : Option Nat} {B : Nat} {t : TypeId} {cs : Array Value} (h : BoxN W B cs t) (hg : W.grownBy W' row) (hne : some B ≠ row) : BoxN W' B cs t := (hg.block B h.lt hne).trans h
theorem BoxN.ext {W W' : World} {B : Nat} {t : TypeId} {cs : Array Value} (h : BoxN W B cs t) (x : Ext W W') : BoxN W' B cs t := x.block h
theorem Boxed.ext {W W' : World} {B : Nat} {t : TypeId} {v : Value} (h : Boxed W B t v) (x : Ext W W') : Boxed W' B t v := x.block h
theorem BoxN.own {A A' : World} {row : Option Nat} {B : Nat} {t : TypeId} {cs : Array Value} {n : Nat} (h : BoxN A B cs t) (hg : A.grownBy A' row) (hr : ∀ r, row = some r → n ≤ r ∧ ∃ o : Obj, A.heap[r]? = some o ∧ o.isCells = false) : BoxN A' B cs t :=
  h.kept hg fun e => by
    obtain ⟨_, o, ho, hc⟩ := hr B e.symm
    rw [show A.heap[B]? = _ from h] at ho
    cases ho
    cases hc
theorem Boxed.own {A A' : World} {row : Option Nat} {B : Nat} {t : TypeId} {v : Value} {n : Nat} (h : Boxed A B t v) (hg : A.grownBy A' row) (hr : ∀ r, row = some r → n ≤ r ∧ ∃ o : Obj, A.heap[r]? = some o ∧ o.isCells = false) : Boxed A' B t v :=
  BoxN.own (cs := #[v]) h hg hr
theorem below_own {A A' w : World} {row : Option Nat} {n : Nat} (hn : w.heap.size ≤ n) (h : Ext w A) (hg : A.grownBy A' row) (hr : ∀ r, row = some r → n ≤ r ∧ ∃ o : Obj, A.heap[r]? = some o ∧ o.isCells = false) : Ext w A' :=
  Below.grown h hg h.size (fun k e => by have := (hr k e).1; omega)
theorem keepsFrom_ext {B : Nat} {W W' : World} (h : Ext W W') : KeepsFrom B W W' :=
  ⟨h.size, fun _ _ _ hk _ => h.block hk⟩
/-- do two things of a spell contradict each other? -/
def clS (s : SpE) : Bool := !(pairsOf s.w s.fs).isEmpty
set_option maxRecDepth 100000 in
set_option maxHeartbeats 2000000 in
theorem clashes_in (s : SpE) (w : World) (hs : SpOk w s) :
    CallsIn Fence.wide 6 Try.prog 66 #[s.val] w fun e w' => e = .returned (.bool (clS s)) ∧ Ext w w' := by
  have HPA := Lib.hid (pairs_any s)
  have HS := Lib.hid hs
  clear hs
  obtain ⟨slo, hi, sw, sa, sn, sc, L⟩ := s
  unfold SpE.val at HPA ⊢
  simp only at HPA ⊢
  refine callsIn_of_wp_marks Try.func66 rfl trivial ?_ rfl
  simp only [Try.ntmps66, List.size_toArray, List.length_cons, List.length_nil, Nat.reduceAdd, Nat.reduceSub, Array.replicate_succ, Array.replicate_zero, List.push_toArray, List.append_toArray, List.nil_append, List.cons_append]
  gi_wp2_with (refine ⟨trivial, ?_⟩; gi_at_call 102; with_reducible refine (callsIn_wide.2 (HPA.out _)).mono ?_; rintro e w' ⟨rfl, rfl⟩)
  have bS := (BoxN.new w 88 #[.int .i64 slo, .int .i64 hi, .int .i64 sw, .slice sa sn sc])
  have bR := Boxed.ext (Boxed.new (w.alloc (.cells #[.int .i64 slo, .int .i64 hi, .int .i64 sw, .slice sa sn sc] 88)) 4 (.bool false)) ((Ext.refl _).alloc (.cells #[.int .i64 slo, .int .i64 hi, .int .i64 sw, .slice sa sn sc] 88))
  have bB := BoxN.new ((w.alloc (.cells #[.int .i64 slo, .int .i64 hi, .int .i64 sw, .slice sa sn sc] 88)).alloc (.cells #[.bool false] 4)) 88 #[.int .i64 slo, .int .i64 hi, .int .i64 sw, .slice sa sn sc]
  simp only [World.size_alloc] at bR bB
  have hB0 : Ext w (((w.alloc (.cells #[.int .i64 slo, .int .i64 hi, .int .i64 sw, .slice sa sn sc] 88)).alloc (.cells #[.bool false] 4)).alloc (.cells #[.int .i64 slo, .int .i64 hi, .int .i64 sw, .slice sa sn sc] 88)) := (((Ext.refl w).alloc _).alloc _).alloc _
  have hsz : (((w.alloc (.cells #[.int .i64 slo, .int .i64 hi, .int .i64 sw, .slice sa sn sc] 88)).alloc (.cells #[.bool false] 4)).alloc (.cells #[.int .i64 slo, .int .i64 hi, .int .i64 sw, .slice sa sn sc] 88)).heap.size = w.heap.size + 3 := by simp
  clear bS
  obtain ⟨W0, hW0⟩ : ∃ W0, ((w.alloc (.cells #[.int .i64 slo, .int .i64 hi, .int .i64 sw, .slice sa sn sc] 88)).alloc (.cells #[.bool false] 4)).alloc (.cells #[.int .i64 slo, .int .i64 hi, .int .i64 sw, .slice sa sn sc] 88) = W0 := ⟨_, rfl⟩
  rw [hW0] at bR bB hB0 hsz ⊢
  clear hW0
  have hcl : Hid (∀ b, clS ⟨slo, hi, sw, sa, sn, sc, L⟩ = b → Ending.returned (.bool b) = .returned (.bool (clS ⟨slo, hi, sw, sa, sn, sc, L⟩))) := fun b h => by rw [h]
  refine wpIn_rangeFunc_ownH rfl (by omega) (gf := 123) (lb := #[.pointer (some ⟨w.heap.size + 1 + 1, 0, none⟩)]) rfl trivial (enters_of Try.func123 (by kernel_rfl) rfl)
    (pairs_stops 5 (by omega) (w.heap.size + 1 + 1) ⟨slo, hi, sw, sa, sn, sc, L⟩ w W0 HS.out hB0 bB)
    (fun h k => h.trans k) (fun W li o o' hli ho _ _ => KpE.putObj W li o o' (by omega) (by omega) ho) (Below.refl _ _) (fun _ => rfl)
    (fun pre W => (pre = [] ∧ Boxed W (w.heap.size + 1) 4 (.bool false)) ∧ Ext w W)
    (fun c pre W => (c = .ret ∧ pre ≠ [] ∧ Boxed W (w.heap.size + 1) 4 (.bool true)) ∧ Ext w W)
    (fun pre A B row hs hg hr => ⟨⟨hs.1.1, Boxed.own hs.1.2 hg hr⟩, below_own (by omega) hs.2 hg hr⟩)
    (fun c pre A B row hs hg hr => ⟨⟨hs.1.1, hs.1.2.1, Boxed.own hs.1.2.2 hg hr⟩, below_own (by omega) hs.2 hg hr⟩)
    ⟨⟨rfl, bR⟩, hB0⟩
    (fun x a' W => a' = { tmps := #[.agg #[.int .i64 slo, .int .i64 hi, .int .i64 sw, .slice sa sn sc], .pointer (some ⟨w.heap.size, 0, none⟩), .pointer (some ⟨w.heap.size + 1, 0, none⟩), .agg #[.int .i64 slo, .int .i64 hi, .int .i64 sw, .slice sa sn sc], .func (.func 123) #[] #[.pointer (some ⟨w.heap.size + 1 + 1, 0, none⟩)], .agg #[.int .i64 x.1, .int .i64 x.2]], defers := [] })
    (fun x a' _ X Y row hs hg hr => hs)
    ?assign ?body ?done ?stop
  case assign =>
    rintro li pre x W K ⟨⟨rfl, bR1⟩, hB1⟩ hK
    dsimp only [encP]
    gi_wp2
    exact hK _ _ (keepsFrom_ext (Ext.refl W)) (KpE.refl _ _ _) ⟨⟨by first | trivial | rfl, bR1⟩, hB1⟩ rfl
  case body =>
    rintro li pre x a' W hli ⟨r, hr⟩ ⟨⟨rfl, bR1⟩, hB1⟩ rfl hlt
    have cR := bR1.cell
    have fR := bR1.frozen
    gi_wp2
    refine ⟨(KeepsOthers.setCell _ _ _).from _, ⟨rfl, by simp, bR1.set _⟩, ?_⟩
    exact hB1.setCell (p := ⟨w.heap.size + 1, 0, none⟩) (by simp) _
  case done =>
    rintro D zs W hD rfl ⟨⟨hN, bR1⟩, hB1⟩ hK
    have cR := bR1.cell
    have fR := bR1.frozen
    gi_wp2
    have hK' := (KeepsOthers.setCell W ⟨w.heap.size + 1, 0, none⟩ (.bool false)).same D _ hK rfl
    refine ⟨by simp, .inl ⟨_, _, rfl, run_takeDeferred hK', ?_⟩⟩
    have hc5 := cell_kept (World.cell?_setCell_same' W ⟨w.heap.size + 1, 0, none⟩ (.bool false) (by rw [cR]; rfl)) (grownBy_putObj' _ D (.deferred none)) (fun r e => by cases e; exact ⟨_, hK', rfl⟩)
    refine ⟨.bool false, ?_, hcl.out _ (by unfold clS; rw [hN]; rfl), Below.trans (hB1.setCell (p := ⟨w.heap.size + 1, 0, none⟩) (by simp) _) (belowK_b (w := w) (Nat.le_refl _) _ D _ _ (by omega) hK' rfl rfl)⟩
    simp [results, Try.f66, go_sem, hc5]
  case stop =>
    rintro D c pre W hD hpre ⟨⟨rfl, hne, bR1⟩, hB1⟩ hK
    gi_wp2
    refine ⟨by simp, .inl ⟨_, _, rfl, run_takeDeferred hK, ?_⟩⟩
    have hc5 := cell_kept bR1.cell (grownBy_putObj' _ D (.deferred none)) (fun r e => by cases e; exact ⟨_, hK, rfl⟩)
    refine ⟨.bool true, ?_, hcl.out _ ?_, Below.trans hB1 (belowK_b (w := w) (Nat.le_refl _) W D _ _ (by omega) hK rfl rfl)⟩
    · simp [results, Try.f66, go_sem, hc5]
    · unfold clS
      obtain ⟨r, hr⟩ := hpre
      rw [← hr]
      cases pre with
      | nil => exact absurd rfl hne
      | cons a l => rfl
theorem clashes_any (W : World) (s : SpE) (w : World) (hX : Ext W w) (hs : SpOk w s) : Calls Try.prog 66 #[s.val] w fun e w' => e = .returned (.bool (clS s)) ∧ Ext W w' :=
  (callsIn_wide.1 (clashes_in s w hs)).mono fun _ _ ⟨he, hx⟩ => ⟨he, hX.trans hx⟩
end Go.Proofs.Ytaggjclaehigjaa
